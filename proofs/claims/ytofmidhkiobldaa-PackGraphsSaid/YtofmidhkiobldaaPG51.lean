/-
  gnomonlaw23.PackGraphs answers true, whatever it is handed.
  gnomonlaw23.PackGraphs: the row.
-/
import Derived.Test.YtofmidhkiobldaaPG43
import Derived.Test.YtofmidhkiobldaaPackOf2
import Derived.Test.YtofmidhkiobldaaROf
import Derived.Test.YtofmidhkiobldaaOpenCfg
import Derived.Test.YtofmidhkiobldaaRows
namespace Go.Proofs.Ytofmidhkiobldaa
section
open Go.RowKit
attribute [local go_sem ↓] Go.wp_at_zero Go.wp_at_succ

theorem graph_varsIn {g : Gr} (hk : chk g = 0) {N : Nat} (hN : g.all = (N : Int)) : ∀ e ∈ g.es, VarsIn N e := by
  obtain ⟨_, _, _, _, h⟩ := chk_zero hk
  intro e he
  obtain ⟨k, hk, rfl⟩ := List.getElem_of_mem he
  obtain ⟨h1, h2, h3⟩ := h k hk
  rw [hN] at h1 h2 h3
  exact ⟨by omega, by omega, by omega⟩
theorem graph_packs {g : Gr} (hk : chk g = 0) {N : Nat} (hN : g.all = (N : Int)) : packsR (rootsOf g.es g.es.length) N = refPacks (g.es.foldl refE (fun x => x)) N ∧ packErr g.all (refPacks (g.es.foldl refE (fun x => x)) N) = 0 := by
  obtain ⟨h1, h2⟩ := graph_same (graph_varsIn hk hN)
  obtain ⟨_, _, h64, _, _⟩ := chk_zero hk
  have e : rootsOf g.es g.es.length = g.es.foldl rootsE (fun x => x) := by unfold rootsOf; rw [List.take_length]
  rw [e]
  exact ⟨refPacks_eq h1 h2, by rw [hN]; exact packs_ok h2 (by omega)⟩
theorem packs_len64 (L : Nat → Nat) (N : Nat) : (refPacks L N).length ≤ N := labTo_len L N N

set_option maxRecDepth 8000 in
set_option maxHeartbeats 8000000 in
theorem packGraphs_walk (g : Gr) (V D E : Option Addr) (cv cd ce : Nat) (w : World) (h : GrOk w g D E) :
    Calls Try.prog 3 #[grV g V D E cv cd ce] w (SomeT w) := by
  have n0 := new1 w (.cells #[.slice V g.nv cv, .int .i64 g.tm, .slice D g.sz.length cd, .int .i64 g.pts, .int .i64 g.ex, .slice E g.es.length ce] 26)
  have k0 := Blk.new w 26 #[.slice V g.nv cv, .int .i64 g.tm, .slice D g.sz.length cd, .int .i64 g.pts, .int .i64 g.ex, .slice E g.es.length ce]
  have hD := h.rd.up n0
  have hE := h.re.up n0
  have hlv := h.lv
  have hls := h.ls
  have hle := h.le
  clear h
  unfold grV
  go_enter Try.func3, Try.ntmps3
  go_wp2_with fail
  refine (known23_any _).mono ?_
  generalize w.alloc (.cells #[.slice V g.nv cv, .int .i64 g.tm, .slice D g.sz.length cd, .int .i64 g.pts, .int .i64 g.ex, .slice E g.es.length ce] 26) = w0 at *
  rintro e1 w1 ⟨rfl, hb1⟩
  replace k0 := k0.later hb1
  replace hD := hD.up hb1
  replace hE := hE.up hb1
  replace n0 := bup n0 hb1
  clear hb1
  by_cases hk : chk g = 0
  · obtain ⟨_, _, h64, h81, _⟩ := chk_zero hk
    have HK := hid hk
    have hal : 0 ≤ g.all := by unfold Gr.all; omega
    obtain ⟨N, hN⟩ : ∃ N : Nat, g.all = (N : Int) := ⟨g.all.toNat, by omega⟩
    have HPO := hid (packof_any g V D E cv cd ce w1 hD hE hlv hls hle hk N hN)
    obtain ⟨q1, q2⟩ := graph_packs hk hN
    rw [q1] at HPO
    have HQ2 := hid q2
    have HPL := hid (packs_len64 (g.es.foldl refE (fun x => x)) N)
    have HAL : Hid (∀ W, Calls Try.prog 12 #[grV g V D E cv cd ce] W fun e w' => e = .returned (.int .i64 g.all) ∧ Below W.heap.size W w') := hid fun W => all_any g V D E cv cd ce W (by omega) (by omega) hlv
    have HOF : Hid (∀ W, RdE W W.heap.size E g.es → Calls Try.prog 10 #[grV g V D E cv cd ce] W (RowsRes W (refPacks (g.es.foldl refE (fun x => x)) N))) := hid fun W hW => rof_any g V D E cv cd ce W hW hlv (by omega) (by omega) h81 N hN (by omega) (graph_varsIn hk hN)
    clear q1 q2 hk
    generalize refPacks (g.es.foldl refE (fun x => x)) N = ps at *
    unfold grV at *
    obtain ⟨x0, x1, x2, x3, x4, x5, fx⟩ := blk6 k0
    go_wp2_with fail
    refine HPO.out.mono ?_
    clear HPO x0 x1 x2 x3 x4 x5 fx
    rintro e2 w2 ⟨G2, c2, rfl, hr2, hb2⟩
    replace k0 := k0.later hb2
    replace hD := hD.up hb2
    replace hE := hE.up hb2
    replace n0 := bup n0 hb2
    clear hb2
    have HRC := hid (rgcheck_any g V D E cv cd ce w2 hD hE hlv hls hle)
    rw [HK.out] at HRC
    unfold grV at *
    obtain ⟨x0, x1, x2, x3, x4, x5, fx⟩ := blk6 k0
    go_wp2_with fail
    refine HRC.out.mono ?_
    clear HRC x0 x1 x2 x3 x4 x5 fx
    rintro e3 w3 ⟨rfl, hb3⟩
    replace k0 := k0.later hb3
    replace hE := hE.up hb3
    replace n0 := bup n0 hb3
    replace hr2 := hr2.up hb3
    clear hb3 hD
    have HO := hid (HOF.out w3 hE)
    clear HOF
    obtain ⟨x0, x1, x2, x3, x4, x5, fx⟩ := blk6 k0
    go_wp2_with fail
    refine HO.out.mono ?_
    clear HO x0 x1 x2 x3 x4 x5 fx
    rintro e4 w4 ⟨A4, c4, rfl, hr4, hb4⟩
    replace k0 := k0.later hb4
    replace n0 := bup n0 hb4
    replace hr2 := hr2.up hb4
    clear hb4
    have HL := hid (lists_same ps _ _ c2 c4 w4 hr2 hr4 (by have := HPL.out; omega))
    obtain ⟨x0, x1, x2, x3, x4, x5, fx⟩ := blk6 k0
    go_wp2_with fail
    refine HL.out.mono ?_
    clear HL x0 x1 x2 x3 x4 x5 fx
    rintro e5 w5 ⟨rfl, hb5⟩
    replace k0 := k0.later hb5
    replace n0 := bup n0 hb5
    replace hr2 := hr2.up hb5
    clear hb5 hr4
    obtain ⟨x0, x1, x2, x3, x4, x5, fx⟩ := blk6 k0
    go_wp2_with fail
    refine (HAL.out _).mono ?_
    clear HAL x0 x1 x2 x3 x4 x5 fx
    rintro e6 w6 ⟨rfl, hb6⟩
    replace n0 := bup n0 hb6
    replace hr2 := hr2.up hb6
    have HP := hid (pcheck_any g.all ps _ c2 w6 hr2 (by have := HPL.out; omega))
    rw [HQ2.out, hN] at HP
    go_wp2_with fail
    refine HP.out.mono ?_
    rintro e7 w7 ⟨rfl, hb7⟩
    go_wp2
    go_ret
    exact ⟨rfl, bup n0 hb7⟩
  · have HPO := hid (packof_bad g V D E cv cd ce w1 hD hE hlv hls hle hk)
    have t2 : (chk g != 0) = true := by rw [bne_iff_ne]; exact hk
    have t3 : (chk g == chk g) = true := by simp
    have HRC : Hid (∀ W, RdD W W.heap.size D g.sz → RdE W W.heap.size E g.es → Calls Try.prog 8 #[grV g V D E cv cd ce] W fun e w' => e = .returned (.int .i64 (chk g)) ∧ Below W.heap.size W w') := hid fun W h1 h2 => rgcheck_any g V D E cv cd ce W h1 h2 hlv hls hle
    clear hk
    generalize chk g = er at *
    unfold grV at *
    obtain ⟨x0, x1, x2, x3, x4, x5, fx⟩ := blk6 k0
    go_wp2_with fail
    refine HPO.out.mono ?_
    clear HPO x0 x1 x2 x3 x4 x5 fx
    rintro e2 w2 ⟨rfl, hb2⟩
    replace k0 := k0.later hb2
    replace hD := hD.up hb2
    replace hE := hE.up hb2
    replace n0 := bup n0 hb2
    clear hb2
    have HRC2 := hid (HRC.out w2 hD hE)
    obtain ⟨x0, x1, x2, x3, x4, x5, fx⟩ := blk6 k0
    go_wp2_with fail
    refine HRC2.out.mono ?_
    clear HRC HRC2 x0 x1 x2 x3 x4 x5 fx
    rintro e3 w3 ⟨rfl, hb3⟩
    go_wp2
    go_ret
    exact ⟨rfl, bup n0 hb3⟩
end
section
open Go.ChangeShapes Go.WideShapes Go.ChangeAt Go.RowKit

set_option maxRecDepth 100000 in
theorem packGraphs_lifted (os : Os) (started : os.Started) (H : Type) (enc : TypeId × Value → H) :
    ReturnsInHanded {} Try.checked os 3 .any (Rows.packGraphsSpec.pre6 enc Try.prog Try.f3 Rows.packGraphsRow.domain false) (Rows.packGraphsSpec.post enc Try.prog Try.f3 false true false false) := by
  refine returnsInHanded_of_change_sized (C := Try.checked) Try.own started (by kernel_rfl) Try.func3
    (ChangeSpec.witness6 (enc := enc) (C := Try.checked) false ⟨#[], #[.agg #[.slice none 0 0, .int .i64 0, .slice none 0 0, .int .i64 0, .int .i64 0, .slice none 0 0]], []⟩ 8 (by kernel_rfl) (by kernel_rfl) (by kernel_rfl) (by kernel_rfl)) ?_
  intro W base args ds gs before hval0 hW hcnd hsz0 _
  have hval : ∀ (j : Nat) t v, Try.f3.params[j]? = some t → args[j]? = some v → Value.okWide Try.prog W .any base t v := hval0
  have hW' := hW
  obtain ⟨p, q, hA0, hV, rfl, hfz, hnd⟩ := hW
  have hA : DataW.TrodAll enc Try.prog W 0 (fun _ => true) true Try.f3.params.toList args.toList ds p := hA0
  have hsz : (DataW.weightsEach Try.prog (Try.f3.params.toList ++ []) (ds ++ gs)).all (· ≤ reachBytes) = true := hsz0
  rw [Try.params3] at hA hval hsz
  obtain ⟨v0, d0, rfl, rfl, h0⟩ := trodAll_one hA
  obtain ⟨rfl, rfl⟩ := trodVars_none hV
  have e : p ++ [] = p := by simp
  rw [e] at hW'
  have hlt : ∀ x ∈ p, x.block < W.heap.size := fun x hx => hW'.lt x hx
  have wt : ∀ {j : Nat} {t : TypeId} {d : DataW H}, [26][j]? = some t → [d0][j]? = some d → ∀ n ∈ d.weights Try.prog t, n ≤ reachBytes := fun ht hd n hn => by
    have := List.all_eq_true.1 hsz n (DataW.weights_mem_each (by simpa using ht) (by simpa using hd) n hn)
    simpa using this
  obtain ⟨g0, V0, D0, E0, cv0, cd0, ce0, rfl, wa0⟩ := open_cfg (hval 0 26 v0 rfl rfl) h0
  refine (packGraphs_walk g0 V0 D0 E0 cv0 cd0 ce0 W (wa0 (wt (j := 0) rfl rfl))).mono fun ee W' ⟨he, hb⟩ => ?_
  subst he
  refine ⟨_, rfl, post_true hW' rfl rfl rfl (trodAll_mk1 (Below.trod Try.laidOut (by kernel_rfl) (of_decide_eq_true (by kernel_rfl)) h0 hb fun x hx => hlt x (by simp [hx]))) hb⟩

theorem packGraphs_holds : Rows.PackGraphsSaid :=
  OpenClaim.holds_of_wide 3 Try.f3 rfl rfl rfl rfl rfl rfl rfl ⟨rfl, rfl, rfl, rfl, rfl⟩ rfl rfl rfl rfl rfl (by kernel_rfl) Try.func3 (by kernel_rfl)
    (of_decide_eq_true (by kernel_rfl)) (by unfold Func.isWrapper; first | (rw [if_pos (by decide +kernel)]; kernel_rfl) | (rw [if_neg (by decide +kernel)]; exact ⟨rfl, rfl⟩))
    (fun os started H enc _ => packGraphs_lifted os started H enc)
#print axioms packGraphs_holds
end
end Go.Proofs.Ytofmidhkiobldaa
