/-
  gnomonlaw23.PackExact answers true, whatever it is handed.
  From the row to the walk: an octagon, a slice of int64 as they come in; the row's end 'true, and the input reads as it did'.
  Packs as they come in: a slice of slices of numbers.
  gnomonlaw23.PackExact: the row.
-/
import Derived.Test.YtofmidhkiobldaaPackM
import Derived.Test.YtofmidhkiobldaaRCut
import Derived.Test.YtofmidhkiobldaaEq
import Derived.Test.YtofmidhkiobldaaRefCheck
import Derived.Test.YtofmidhkiobldaaMem
import Derived.ProofKit
import Derived.SizedLaws
import Derived.Lib.SmallJoins
import Derived.Test.YtofmidhkiobldaaPacks
import Derived.Test.YtofmidhkiobldaaRows
namespace Go.Proofs.Ytofmidhkiobldaa
section
open Go.RowKit
attribute [local go_sem ↓] Go.wp_at_zero Go.wp_at_succ

theorem eqO_self (o : O) : eqO o o = true := by unfold eqO; simp
theorem laterX {w : World} {p : Addr} {v : Value} (h : w.cell? p = some v) : ∀ W, Ext w.drew W → W.cell? p = some v := fun W hW => cell_later (show Below w.heap.size w W from Ext.trans (Below.refl _ _).drew hW) h
def IsOctX (o : O) (v : Value) (wa wb : World) : Prop := ∃ A1 c1, v = .agg #[.int .i64 o.n, .bool o.e, .slice A1 o.m.length c1] ∧ Own wb wa.heap.size A1 c1 o.m
theorem fact_octX {w0 W : World} {o : O} {v : Value} {lo hi : Nat} (h : Sp.fact w0 (Sp.any (IsOctX o)) v lo hi W) :
    ∃ A1 c1, v = .agg #[.int .i64 o.n, .bool o.e, .slice A1 o.m.length c1] ∧ Own W lo A1 c1 o.m := by
  obtain ⟨wa, wb, e1, e2, e3, rfl, rfl, A1, c1, rfl, own⟩ := h
  exact ⟨A1, c1, rfl, own.below e3⟩
theorem cutO_len (o : O) (ps : List (List Int)) : (cutO o ps).m.length ≤ o.m.length := by
  unfold cutO
  split
  · exact closeO_m_le
  · show (cutK _ _ _ _).length ≤ _; rw [cutK_len]; exact closeO_m_le
theorem cutAns_len (o : O) (ps : List (List Int)) : (cutAns o ps).m.length ≤ o.m.length := by
  unfold cutAns
  split
  · exact cutO_len o ps
  · simp

set_option maxRecDepth 8000 in
set_option maxHeartbeats 8000000 in
theorem packExact_walk (o : O) (n : Int) (ps : List (List Int)) (A P : Option Addr) (c pc : Nat) (w : World) (hx : Rd w w.heap.size A o.m) (hm : o.m.length ≤ 17592186044416) (hr : RdL w w.heap.size P ps) (hl : ps.length ≤ 17592186044416) :
    Calls Try.prog 4 #[.agg #[.int .i64 o.n, .bool o.e, .slice A o.m.length c], .int .i64 n, .slice P ps.length pc] w (SomeT w) := by
  have n0 := new1 w (.cells #[.int .i64 o.n, .bool o.e, .slice A o.m.length c] 39)
  have k0 := Blk.new w 39 #[.int .i64 o.n, .bool o.e, .slice A o.m.length c]
  go_enter Try.func4, Try.ntmps4
  go_wp2_with fail
  refine (known23_any _).mono ?_
  generalize w.alloc (.cells #[.int .i64 o.n, .bool o.e, .slice A o.m.length c] 39) = w0 at *
  rintro e1 w1 ⟨rfl, hb1⟩
  replace k0 := k0.later hb1
  replace n0 := bup n0 hb1
  clear hb1
  by_cases h100 : 100 < (ps.length : Int)
  · go_wp2
    go_ret
    exact ⟨rfl, n0⟩
  have hl2 : ps.length ≤ 1000 := by omega
  have HP1 := hid (pcheck_any n ps P pc w1 (hr.up n0) hl2)
  go_wp2_with fail
  refine HP1.out.mono ?_
  clear HP1
  rintro e2 w2 ⟨rfl, hb2⟩
  replace k0 := k0.later hb2
  replace n0 := bup n0 hb2
  clear hb2
  have HP2 := hid (rpcheck_any n ps P pc w2 (hr.up n0) hl2)
  generalize packErr n ps = pe at *
  go_wp2_with fail
  refine HP2.out.mono ?_
  clear HP2
  rintro e3 w3 ⟨rfl, hb3⟩
  replace k0 := k0.later hb3
  replace n0 := bup n0 hb3
  clear hb3
  have HC := hid (pcut_any o ps A P c pc w3 (hx.up n0) hm (hr.up n0) hl2)
  obtain ⟨x0, x1, x2, fx⟩ := octbox k0
  have tpe : (pe != pe) = false := by simp
  go_wp2_with fail
  refine HC.out.mono ?_
  clear HC x0 x1 x2 fx tpe
  rintro e4 w4 ⟨A4, c4, rfl, own4, hb4⟩
  replace k0 := k0.later hb4
  replace n0 := bup n0 hb4
  have HAL := hid (cutAns_len o ps)
  have HAN : Hid (cutAns o ps = if cutErr o ps = 0 then cutO o ps else ⟨0, false, []⟩) := hid rfl
  have HER : Hid (cutErr o ps = if check o ≠ 0 then check o else packErr o.n ps) := hid rfl
  generalize hca : cutAns o ps = ca at *
  have HCA := hid hca
  clear hca
  obtain ⟨can, cae, cam⟩ := ca
  dsimp only at own4 HAL ⊢
  have n7 := new1 w4 (.cells #[.int .i64 can, .bool cae, .slice A4 cam.length c4] 39)
  have k7 := Blk.new w4 39 #[.int .i64 can, .bool cae, .slice A4 cam.length c4]
  replace own4 := own4.below n7
  replace k0 := k0.later n7
  replace n0 := bup n0 n7
  clear n7 hb4
  have HRC := hid (rcheck_any o A c (w4.alloc (.cells #[.int .i64 can, .bool cae, .slice A4 cam.length c4] 39)) (hx.up n0) (by omega))
  obtain ⟨x0, x1, x2, fx⟩ := octbox k0
  go_wp2_with fail
  clear x0 x1 x2 fx
  generalize w4.alloc (.cells #[.int .i64 can, .bool cae, .slice A4 cam.length c4] 39) = w5 at *
  refine HRC.out.mono ?_
  clear HRC
  rintro e6 w6 ⟨rfl, hb6⟩
  replace own4 := own4.below hb6
  replace k0 := k0.later hb6
  replace k7 := k7.later hb6
  replace n0 := bup n0 hb6
  clear hb6
  by_cases hk : check o = 0
  rotate_left
  · have HEQ : Hid (cutErr o ps = check o) := hid (by rw [HER.out, if_pos hk])
    have HNE : Hid (¬ cutErr o ps = 0) := hid (by rw [HEQ.out]; exact hk)
    have t1 : (check o == 0) = false := by rw [beq_eq_false_iff_ne]; exact hk
    have t2 : (check o != 0) = true := by rw [bne_iff_ne]; exact hk
    clear hk
    obtain ⟨e1, e2, e3⟩ : can = 0 ∧ cae = false ∧ cam = [] := by
      have := HAN.out
      rw [if_neg HNE.out] at this
      injection this with h1 h2 h3
      exact ⟨h1, h2, h3⟩
    subst e1; subst e2; subst e3
    rw [HEQ.out]
    obtain ⟨y0, y1, y2, fy⟩ := octbox k7
    have HO := hid (oct_any ⟨0, false, []⟩ ⟨0, false, []⟩ A4 none c4 0 w6 own4.rd (fun k hk => by simp at hk) (by simp))
    rw [eqO_self] at HO
    have tee : (check o == check o) = true := by simp
    generalize check o = er at *
    go_wp2_with fail
    refine HO.out.mono ?_
    rintro e9 w9 ⟨rfl, hb9⟩
    go_wp2
    go_ret
    exact ⟨rfl, bup n0 hb9⟩
  have HCK := hid hk
  rw [hk]
  have HP3 := hid (rpcheck_any o.n ps P pc w6 (hr.up n0) hl2)
  obtain ⟨x0, x1, x2, fx⟩ := octbox k0
  clear hk
  go_wp2_with fail
  refine HP3.out.mono ?_
  clear HP3 x0 x1 x2 fx
  rintro e7 w7 ⟨rfl, hb7⟩
  replace own4 := own4.below hb7
  replace k0 := k0.later hb7
  replace k7 := k7.later hb7
  replace n0 := bup n0 hb7
  clear hb7
  by_cases hp : packErr o.n ps = 0
  rotate_left
  · have HEQ : Hid (cutErr o ps = packErr o.n ps) := hid (by rw [HER.out, if_neg (by rw [HCK.out]; simp)])
    have HNE : Hid (¬ cutErr o ps = 0) := hid (by rw [HEQ.out]; exact hp)
    have t2 : (packErr o.n ps != 0) = true := by rw [bne_iff_ne]; exact hp
    clear hp
    obtain ⟨e1, e2, e3⟩ : can = 0 ∧ cae = false ∧ cam = [] := by
      have := HAN.out
      rw [if_neg HNE.out] at this
      injection this with h1 h2 h3
      exact ⟨h1, h2, h3⟩
    subst e1; subst e2; subst e3
    rw [HEQ.out]
    obtain ⟨y0, y1, y2, fy⟩ := octbox k7
    have HO := hid (oct_any ⟨0, false, []⟩ ⟨0, false, []⟩ A4 none c4 0 w7 own4.rd (fun k hk => by simp at hk) (by simp))
    rw [eqO_self] at HO
    have tee : (packErr o.n ps == packErr o.n ps) = true := by simp
    generalize packErr o.n ps = er at *
    go_wp2_with fail
    refine HO.out.mono ?_
    rintro e9 w9 ⟨rfl, hb9⟩
    go_wp2
    go_ret
    exact ⟨rfl, bup n0 hb9⟩
  have HEQ : Hid (cutErr o ps = 0) := hid (by rw [HER.out, if_neg (by rw [HCK.out]; simp), hp])
  have HCO : Hid (cutO o ps = ⟨can, cae, cam⟩) := hid (by have := HAN.out; rw [if_pos HEQ.out] at this; exact this.symm)
  have HRC : Hid (∀ W, Below w7.heap.size w7 W → Calls Try.prog 17 #[.agg #[.int .i64 o.n, .bool o.e, .slice A o.m.length c], .slice P ps.length pc] W (OctOwn W ⟨can, cae, cam⟩)) := hid fun W hW => by
    have := rcut_any o ps A P c pc W ((hx.up n0).up hW) hm ((hr.up n0).up hW) hl2 HCK.out hp
    rw [HCO.out] at this
    exact this
  rw [hp, HEQ.out]
  clear hp
  obtain ⟨x0, x1, x2, fx⟩ := octbox k0
  obtain ⟨y0, y1, y2, fy⟩ := octbox k7
  go_upto_region 11 with fail
  have f0 := laterX x0
  have f1 := laterX x1
  have f2 := laterX x2
  have g0 := laterX y0
  have g1 := laterX y1
  have g2 := laterX y2
  clear x0 x1 x2 fx y0 y1 y2 fy
  refine wp_region_flowE 7 [Sp.val (.int .i64 0), Sp.val (.bool true), Sp.val (.bool true), Sp.val (.agg #[.int .i64 can, .bool cae, .slice A4 cam.length c4]), Sp.val (.agg #[.int .i64 o.n, .bool o.e, .slice A o.m.length c]), Sp.val (.slice P ps.length pc), Sp.any (IsOctX ⟨can, cae, cam⟩)] (by kernel_rfl) (by kernel_rfl) ?_
  (refine FlowE.take (by rfl) (fun W hW R hR => ?_) (fun _ _ => ?_); (go_simp; (try go_bits); with_reducible exact hR); simp only [Act.put, List.setIfInBounds_toArray, List.set_cons_zero, List.set_cons_succ])
  (refine FlowE.take (by rfl) (fun W hW R hR => ?_) (fun _ _ => ?_); (go_simp; (try go_bits); with_reducible exact hR); simp only [Act.put, List.setIfInBounds_toArray, List.set_cons_zero, List.set_cons_succ])
  (refine FlowE.take (by rfl) (fun W hW R hR => ?_) (fun _ _ => ?_); (go_simp; (try go_bits); with_reducible exact hR); simp only [Act.put, List.setIfInBounds_toArray, List.set_cons_zero, List.set_cons_succ])
  (refine FlowE.take (by rfl) (fun W hW R hR => ?_) (fun _ _ => ?_); (go_simp; (try go_bits); with_reducible exact hR); simp only [Act.put, List.setIfInBounds_toArray, List.set_cons_zero, List.set_cons_succ])
  (refine FlowE.take (by rfl) (fun W hW R hR => ?_) (fun _ _ => ?_); (go_simp; (try go_bits); with_reducible exact hR); simp only [Act.put, List.setIfInBounds_toArray, List.set_cons_zero, List.set_cons_succ])
  (refine FlowE.take (by rfl) (fun W hW R hR => ?_) (fun _ _ => ?_); (go_simp; (try go_bits); with_reducible exact hR); simp only [Act.put, List.setIfInBounds_toArray, List.set_cons_zero, List.set_cons_succ])
  refine FlowE.call 17 #[.agg #[.int .i64 o.n, .bool o.e, .slice A o.m.length c], .slice P ps.length pc] (by rfl) (fun W hW => by go_simp) (fun W hW => (HRC.out W (Ext.trans (Below.refl _ _).drew hW)).mono fun _ _ ⟨A1, c1, he, ho, hb⟩ => ⟨_, he, hb, A1, c1, rfl, ho⟩) (fun v5 l5 h5 => ?_)
  simp only [Act.put, List.setIfInBounds_toArray, List.set_cons_zero, List.set_cons_succ]
  refine FlowE.tail (fun W hW hf hd => ?_)
  replace hW : Below w7.heap.size w7 W := Ext.trans (Below.refl _ _).drew hW
  obtain ⟨A8, c8, rfl, own8⟩ := fact_octX (show Sp.fact w7.drew (Sp.any (IsOctX ⟨can, cae, cam⟩)) v5 l5 h5 W from hf 6)
  clear hf hd f0 f1 f2 g0 g1 g2
  dsimp only at own8 ⊢
  replace own4 := own4.below hW
  have HO := hid (oct_any ⟨can, cae, cam⟩ ⟨can, cae, cam⟩ A4 A8 c4 c8 W own4.rd own8.rd (Nat.le_trans HAL.out hm))
  rw [eqO_self] at HO
  go_wp2_with fail
  refine HO.out.mono ?_
  rintro e9 w9 ⟨rfl, hb9⟩
  go_wp2
  go_ret
  exact ⟨rfl, bup (bup n0 hW) hb9⟩
end

section
open Go.ChangeShapes Go.WideShapes Go.ChangeAt Go.RowKit Go.Joins

theorem Try.own : ownKnob Try.prog.godebug = none := by kernel_rfl
theorem Try.laidOut : laidOutB Try.prog = true := by kernel_rfl
theorem cells_i64 : Try.prog.cellsOf 2 = 1 := by kernel_rfl
theorem cells_oct : Try.prog.cellsOf 39 = 3 := by kernel_rfl
theorem bytes_i64 : Try.prog.bytesOf 2 = 8 := by kernel_rfl

section
variable {H : Type} {enc : TypeId × Value → H} {W : World} {base : Nat} {held : Bool}

theorem cell_lt {w : World} {p : Addr} {v : Value} (h : w.cell? p = some v) : p.block < w.heap.size ∧ p.spot = none := by
  unfold World.cell? at h
  split at h
  · rename_i hb
    refine ⟨(Array.getElem?_eq_some_iff.1 hb).1, ?_⟩
    split at h
    · cases h
    · rename_i hs
      simpa using hs
  · cases h

/-- The heart: a slice of int64 that is met in reading. -/
theorem row_ints {spare : Nat → Bool} {fuel : Nat} {cs : List Value} {x : DataW H × List MemPlace} (h : DataW.trod enc Try.prog W base spare held fuel 37 cs = some x) :
    ∃ (A : Option Addr) (c : Nat) (m : List Int), cs = [.slice A m.length c] ∧ Rd W W.heap.size A m ∧ ((∀ n ∈ x.1.weights Try.prog 37, n ≤ reachBytes) → m.length ≤ 17592186044416) ∧ ∀ i : Nat, gI m i ≤ 9223372036854775807 := by
  rcases open_ints Try.underlying37 Try.underlying2 cells_i64 h with ⟨rfl, rfl⟩ | ⟨a, len, cap, zs, rfl, _, hl, _, hzl, rfl, hc, hwf⟩
  · exact ⟨none, 0, [], rfl, fun k hk => absurd hk (by simp), fun _ => by simp, fun i => by simp [gI]⟩
  · have hle : len ≤ zs.length := by rw [hzl]; split <;> omega
    have hml : (zs.take len).length = len := by simp; omega
    refine ⟨some a, cap, zs.take len, by rw [hml], fun k hk => ?_, fun hw => ?_, fun i => (range_i64 (zs := zs.take len) (fun n hn => hwf n (List.mem_of_mem_take hn)) i).2⟩
    · rw [hml] at hk
      have h0 := cell_lt (hc 0 (by omega))
      have hk' := hc k (by omega)
      obtain ⟨b, off, sp⟩ := a
      have hsp : sp = none := by simpa [Addr.add] using h0.2
      subst hsp
      have hb : b < W.heap.size := by simpa [Addr.add] using h0.1
      refine ⟨b, off, rfl, hb, ?_⟩
      have e : (⟨b, off, none⟩ : Addr).add k = ⟨b, off + k, none⟩ := by unfold Addr.add; split <;> simp_all
      rw [← e, hk']
      unfold gI
      rw [getD_take_lt zs len _ 0 (by simpa using hk)]
      rfl
    · have := hw (((lits (H := H) IntKind.i64 (zs.take len)).length + (lits (H := H) IntKind.i64 (zs.drop len)).length) * Try.prog.bytesOf 2) (by simp [DataW.weights, Try.underlying37])
      rw [bytes_i64] at this
      have hr := reachBytes_lt
      simp [lits] at this
      omega

set_option maxRecDepth 100000 in
theorem open_longs {r : Reach} {b0 : Nat} {spare : Nat → Bool} {v : Value} {d : DataW H} {p : List MemPlace} (hv : Value.okWide Try.prog W r b0 37 v) (h : DataW.Trod enc Try.prog W base spare held 37 v d p) :
    ∃ (A : Option Addr) (c : Nat) (m : List Int), v = .slice A m.length c ∧ Rd W W.heap.size A m ∧ ((∀ n ∈ d.weights Try.prog 37, n ≤ reachBytes) → m.length ≤ 17592186044416) := by
  obtain ⟨a, len, cap, rfl⟩ := okWide_slice Try.underlying37 hv
  obtain ⟨fuel, hf⟩ := h
  obtain ⟨A, c, m, he, hr, hw, _⟩ := row_ints hf
  simp [Value.cells] at he
  obtain ⟨rfl, rfl, rfl⟩ := he
  exact ⟨_, _, m, rfl, hr, hw⟩

set_option maxRecDepth 100000 in
theorem open_oct {r : Reach} {b0 : Nat} {spare : Nat → Bool} {v : Value} {d : DataW H} {p : List MemPlace} (hv : Value.okWide Try.prog W r b0 39 v) (h : DataW.Trod enc Try.prog W base spare held 39 v d p) :
    ∃ (A : Option Addr) (c : Nat) (o : O), v = .agg #[.int .i64 o.n, .bool o.e, .slice A o.m.length c] ∧ Rd W W.heap.size A o.m ∧ ((∀ n ∈ d.weights Try.prog 39, n ≤ reachBytes) → o.m.length ≤ 17592186044416) := by
  obtain ⟨v0, v1, v2, y0, y1, y2, n, rfl, rfl, rfl, h0, h1, h2⟩ := open_agg3 Try.underlying39 (by kernel_rfl) cells_oct hv h
  obtain ⟨k, hk, rfl, _⟩ := DataW.trod_int Try.underlying3 h0
  obtain ⟨b, hb, rfl⟩ := DataW.trod_bool Try.underlying4 h1
  obtain ⟨A, c, m, he, hr, hw, _⟩ := row_ints h2
  injection hk with hk; subst hk
  injection hb with hb; subst hb
  injection he with he; subst he
  refine ⟨A, c, ⟨k, b, m⟩, rfl, hr, fun hn => hw fun q hq => hn q ?_⟩
  have e := Try.underlying39
  simp only [DataW.weights, e, DataW.weightsEach, List.map_cons, List.map_nil, List.mem_append]
  exact .inr (.inr (.inl hq))

/-- The row's end: it answers true, and what came in reads as it did. -/
theorem post_true {f : Func} {s : ChangeSpec} {W' : World} {args : Array Value} {ds : List (DataW H)} {before : List MemPlace} (hW : DataW.Whole enc Try.prog f.params.toList s.vars false W args.toList ds [] before)
    (hrt : f.resultTypes = #[4]) (hv : s.vars = []) (hfn : s.fn H (ds ++ []) = { results := [.lit (.bool true)], args := ds })
    (hargs : DataW.TrodAll enc Try.prog W' 0 (fun b => decide (b < W.heap.size)) true f.params.toList args.toList ds before) (hb : Below W.heap.size W W') :
    s.post enc Try.prog f false true false false W args (.bool true) W' := by
  refine ⟨ds, [], before, [], before, [], hW, ?_, ?_, ?_, World.keptBut_mono (fun p hp => ⟨hp, .inr (.inl hp)⟩) (hb.frame (· ∈ before)), fun h => by cases h⟩
  · rw [hfn, hrt]
    exact trodAll_mk1 (shut_bool Try.underlying4 _)
  · rw [hfn]; exact hargs
  · rw [hfn, hv]; rfl
end
end

section
open Go.ChangeShapes Go.WideShapes Go.ChangeAt Go.RowKit Go.Joins

theorem cells_intP : Try.prog.cellsOf 3 = 1 := by kernel_rfl
theorem cells_slP : Try.prog.cellsOf 48 = 1 := by kernel_rfl
theorem bytes_intP : Try.prog.bytesOf 3 = 8 := by kernel_rfl
theorem bytes_slP : Try.prog.bytesOf 48 = 24 := by kernel_rfl
theorem weightsAll_inP {H : Type} {P : Program} {e : TypeId} : ∀ {l : List (DataW H)} {d : DataW H}, d ∈ l → ∀ n ∈ d.weights P e, n ∈ DataW.weightsAll P e l
  | x :: l, d, hd, n, hn => by
    rw [DataW.weightsAll, List.mem_append]
    rcases List.mem_cons.1 hd with rfl | hd
    · exact .inl hn
    · exact .inr (weightsAll_inP hd n hn)
section
variable {H : Type} {enc : TypeId × Value → H} {W : World} {base : Nat} {held : Bool}
theorem row_intsP {spare : Nat → Bool} {fuel : Nat} {cs : List Value} {x : DataW H × List MemPlace} (h : DataW.trod enc Try.prog W base spare held fuel 48 cs = some x) :
    ∃ (A : Option Addr) (c : Nat) (m : List Int), cs = [.slice A m.length c] ∧ Rd W W.heap.size A m ∧ ((∀ n ∈ x.1.weights Try.prog 48, n ≤ reachBytes) → m.length ≤ 17592186044416) := by
  rcases open_ints Try.underlying48 Try.underlying3 cells_intP h with ⟨rfl, rfl⟩ | ⟨a, len, cap, zs, rfl, _, hl, _, hzl, rfl, hc, hwf⟩
  · exact ⟨none, 0, [], rfl, fun k hk => absurd hk (by simp), fun _ => by simp⟩
  · have hle : len ≤ zs.length := by rw [hzl]; split <;> omega
    have hml : (zs.take len).length = len := by simp; omega
    refine ⟨some a, cap, zs.take len, by rw [hml], fun k hk => ?_, fun hw => ?_⟩
    · rw [hml] at hk
      have h0 := cell_lt (hc 0 (by omega))
      have hk' := hc k (by omega)
      obtain ⟨b, off, sp⟩ := a
      have hsp : sp = none := by simpa [Addr.add] using h0.2
      subst hsp
      have hb : b < W.heap.size := by simpa [Addr.add] using h0.1
      refine ⟨b, off, rfl, hb, ?_⟩
      have e : (⟨b, off, none⟩ : Addr).add k = ⟨b, off + k, none⟩ := by unfold Addr.add; split <;> simp_all
      rw [← e, hk']
      unfold gI
      rw [getD_take_lt zs len _ 0 (by simpa using hk)]
      rfl
    · have := hw (((lits (H := H) IntKind.i64 (zs.take len)).length + (lits (H := H) IntKind.i64 (zs.drop len)).length) * Try.prog.bytesOf 3) (by simp [DataW.weights, Try.underlying48])
      rw [bytes_intP] at this
      have hr := reachBytes_lt
      simp [lits] at this
      omega
/-- The rows, before they are a list. -/
def RowsP (w : World) (A : Option Addr) (len : Nat) : Prop :=
  ∀ k, k < len → ∃ b off A' c' m, A = some ⟨b, off, none⟩ ∧ b < w.heap.size ∧ w.cell? ⟨b, off + k, none⟩ = some (.slice A' (List.length (α := Int) m) c') ∧ Rd w w.heap.size A' m ∧ m.length ≤ 17592186044416
theorem RdL.of_rows {w : World} {A : Option Addr} {len : Nat} (h : RowsP w A len) : ∃ ps : List (List Int), ps.length = len ∧ RdL w w.heap.size A ps := by
  have h' : ∀ k : Fin len, ∃ m : List Int, ∃ b off A' c', A = some ⟨b, off, none⟩ ∧ b < w.heap.size ∧ w.cell? ⟨b, off + k.1, none⟩ = some (.slice A' m.length c') ∧ Rd w w.heap.size A' m ∧ m.length ≤ 17592186044416 := fun k => by
    obtain ⟨b, off, A', c', m, h⟩ := h k.1 k.2
    exact ⟨m, b, off, A', c', h⟩
  obtain ⟨f, hf⟩ := Classical.axiomOfChoice h'
  refine ⟨List.ofFn f, by simp, fun k hk => ?_⟩
  have hk' : k < len := by simpa using hk
  have e : rowL (List.ofFn f) k = f ⟨k, hk'⟩ := by unfold rowL; simp [hk']
  rw [e]
  exact hf ⟨k, hk'⟩
set_option maxRecDepth 100000 in
theorem open_packs {r : Reach} {b0 : Nat} {spare : Nat → Bool} {v : Value} {d : DataW H} {p : List MemPlace} (hv : Value.okWide Try.prog W r b0 28 v) (h : DataW.Trod enc Try.prog W base spare held 28 v d p) :
    ∃ (A : Option Addr) (c len : Nat), v = .slice A len c ∧ ((∀ n ∈ d.weights Try.prog 28, n ≤ reachBytes) → RowsP W A len ∧ len ≤ 17592186044416) := by
  obtain ⟨a, len, cap, rfl⟩ := okWide_slice Try.underlying28 hv
  obtain ⟨fuel, hf⟩ := h
  refine ⟨a, cap, len, rfl, fun hw => ?_⟩
  rcases DataW.trod_slice Try.underlying28 hf with ⟨h0, _⟩ | ⟨a', len', cap', elems, rest, n, _, hcs, hx, _, hl, _, hlen, hel, _⟩
  · simp [Value.cells] at h0
    obtain ⟨rfl, rfl, rfl⟩ := h0
    exact ⟨fun k hk => absurd hk (by simp), by simp⟩
  · simp [Value.cells] at hcs
    obtain ⟨rfl, rfl, rfl⟩ := hcs
    simp only [Prod.mk.injEq] at hx
    obtain ⟨rfl, rfl⟩ := hx
    have hwt : ∀ y ∈ elems, ∀ q ∈ y.1.weights Try.prog 48, q ≤ reachBytes := fun y hy q hq => hw q (by
      simp only [DataW.weights, Try.underlying28, List.mem_cons, List.mem_append]
      exact .inr (.inl (weightsAll_inP (List.mem_map_of_mem hy) q hq)))
    have one : ∀ k, k < len → ∃ A c m, W.cell? (a'.add (k * 1)) = some (.slice A (List.length (α := Int) m) c) ∧ Rd W W.heap.size A m ∧ m.length ≤ 17592186044416 := fun k hk => by
      have hk' := hel k hk
      have hke : k < elems.length := by omega
      rw [cells_slP, List.getElem?_eq_getElem hke, Option.bind_eq_some_iff] at hk'
      obtain ⟨cs, hcs, hy⟩ := hk'
      obtain ⟨A, c, m, rfl, hr, hm⟩ := row_intsP hy
      obtain ⟨_, _, hcell⟩ := World.cells?_some hcs
      have t0 := hcell 0 (by omega)
      simp only [List.getElem?_cons_zero] at t0
      have e0 : (a'.add (k * 1)).add 0 = a'.add (k * 1) := by
        obtain ⟨b, off, sp⟩ := a'
        cases sp <;> simp [Addr.add]
      rw [e0] at t0
      exact ⟨A, c, m, t0, hr, hm (hwt _ (List.getElem_mem hke))⟩
    refine ⟨fun k hk => ?_, ?_⟩
    · obtain ⟨A, c, m, t0, hr, hm⟩ := one k hk
      obtain ⟨A1, c1, m1, u0, _⟩ := one 0 (by omega)
      have s0 := cell_lt t0
      have s1 := cell_lt u0
      obtain ⟨b, off, sp⟩ := a'
      have hsp : sp = none := by simpa [Addr.add] using s1.2
      subst hsp
      have hb : b < W.heap.size := by simpa [block_add] using s0.1
      rw [Nat.mul_one, add_mk] at t0
      exact ⟨b, off, A, c, m, rfl, hb, t0, hr, hm⟩
    · have := hw (((elems.map (·.1)).length + (rest.map (·.1)).length) * Try.prog.bytesOf 48) (by simp [DataW.weights, Try.underlying28])
      rw [bytes_slP] at this
      have hr := reachBytes_lt
      simp at this
      omega
end
end

section
open Go.ChangeShapes Go.WideShapes Go.ChangeAt Go.RowKit

set_option maxRecDepth 100000 in
theorem packExact_lifted (os : Os) (started : os.Started) (H : Type) (enc : TypeId × Value → H) :
    ReturnsInHanded {} Try.checked os 4 .any (Rows.packExactSpec.pre6 enc Try.prog Try.f4 Rows.packExactRow.domain false) (Rows.packExactSpec.post enc Try.prog Try.f4 false true false false) := by
  refine returnsInHanded_of_change_sized (C := Try.checked) Try.own started (by kernel_rfl) Try.func4
    (ChangeSpec.witness6 (enc := enc) (C := Try.checked) false ⟨#[], #[.agg #[.int .i64 0, .bool false, .slice none 0 0], .int .i64 0, .slice none 0 0], []⟩ 8 (by kernel_rfl) (by kernel_rfl) (by kernel_rfl) (by kernel_rfl)) ?_
  intro W base args ds gs before hval0 hW hcnd hsz0 _
  have hval : ∀ (j : Nat) t v, Try.f4.params[j]? = some t → args[j]? = some v → Value.okWide Try.prog W .any base t v := hval0
  have hW' := hW
  obtain ⟨p, q, hA0, hV, rfl, hfz, hnd⟩ := hW
  have hA : DataW.TrodAll enc Try.prog W 0 (fun _ => true) true Try.f4.params.toList args.toList ds p := hA0
  have hsz : (DataW.weightsEach Try.prog (Try.f4.params.toList ++ []) (ds ++ gs)).all (· ≤ reachBytes) = true := hsz0
  rw [Try.params4] at hA hval hsz
  obtain ⟨v0, v1, v2, d0, d1, d2, p0, p1, p2, rfl, rfl, rfl, h0, h1, h2⟩ := trodAll_three hA
  obtain ⟨rfl, rfl⟩ := trodVars_none hV
  have e : p0 ++ p1 ++ p2 ++ [] = p0 ++ (p1 ++ p2) := by simp
  rw [e] at hW'
  have hlt : ∀ x ∈ p0 ++ (p1 ++ p2), x.block < W.heap.size := fun x hx => hW'.lt x hx
  have wt : ∀ {j : Nat} {t : TypeId} {d : DataW H}, [39, 3, 28][j]? = some t → [d0, d1, d2][j]? = some d → ∀ n ∈ d.weights Try.prog t, n ≤ reachBytes := fun ht hd n hn => by
    have := List.all_eq_true.1 hsz n (DataW.weights_mem_each (by simpa using ht) (by simpa using hd) n hn)
    simpa using this
  obtain ⟨A, c, a, rfl, ra, wa⟩ := open_oct (hval 0 39 v0 rfl rfl) h0
  obtain ⟨n, rfl, rfl, rfl, wn⟩ := open_int Try.underlying3 (hval 1 3 v1 rfl rfl) h1
  obtain ⟨P, pc, len, rfl, wp⟩ := open_packs (hval 2 28 v2 rfl rfl) h2
  obtain ⟨hR, hl⟩ := wp (wt (j := 2) rfl rfl)
  obtain ⟨ps, rfl, rp⟩ := RdL.of_rows hR
  refine (packExact_walk a n ps A P c pc W ra (wa (wt (j := 0) rfl rfl)) rp hl).mono fun ee W' ⟨he, hb⟩ => ?_
  subst he
  refine ⟨_, rfl, post_true hW' rfl rfl rfl (trodAll_mk3 (Below.trod Try.laidOut (by kernel_rfl) (of_decide_eq_true (by kernel_rfl)) h0 hb fun x hx => hlt x (by simp [hx])) (Below.trod Try.laidOut (by kernel_rfl) (of_decide_eq_true (by kernel_rfl)) h1 hb fun x hx => hlt x (by simp at hx)) (Below.trod Try.laidOut (by kernel_rfl) (of_decide_eq_true (by kernel_rfl)) h2 hb fun x hx => hlt x (by simp [hx]))) hb⟩

theorem packExact_holds : Rows.PackExactSaid :=
  OpenClaim.holds_of_wide 4 Try.f4 rfl rfl rfl rfl rfl rfl rfl ⟨rfl, rfl, rfl, rfl, rfl⟩ rfl rfl rfl rfl rfl (by kernel_rfl) Try.func4 (by kernel_rfl)
    (of_decide_eq_true (by kernel_rfl)) (by unfold Func.isWrapper; first | (rw [if_pos (by decide +kernel)]; kernel_rfl) | (rw [if_neg (by decide +kernel)]; exact ⟨rfl, rfl⟩))
    (fun os started H enc _ => packExact_lifted os started H enc)
#print axioms packExact_holds
end
end Go.Proofs.Ytofmidhkiobldaa
