/-
  watch.Run tells what seenW says. (Printed by gen_wrun.py.)
-/
import Derived.Test.YtkncebcekhfnfaaGreatBWT36
namespace Go.Proofs.YtkncebcekhfnfaaGreat
open Go.RowKit
attribute [local go_sem ↓] Go.wp_at_zero Go.wp_at_succ

theorem wint_info : (Tryz.prog.info? 3).map (fun i => (i.zero, i.size, i.bytes)) = some (some (.int .i64 0), 1, 8) := by kernel_rfl
theorem wrun_make (n : Nat) (hn : n ≤ 17592186044416) : ∀ W : World, (Instr.makeSlice 34 (.int .i64 (n : Int)) (.int .i64 (n : Int))).run Tryz.prog W = .ok (.slice (some ⟨W.heap.size, 0, none⟩) n n) (W.alloc (.cells (zcells n) 3)) := fun W => by
  obtain ⟨i0, hi, hz0, hz1, hz2⟩ := info_parts wint_info
  have := run_make (P := Tryz.prog) W 34 3 i0 _ Tryz.underlying34 hi hz0 .i64 .i64 (n : Int) (n : Int) (by omega) (Int.le_refl _) (by rw [hz2]; omega) (by omega)
  rw [this, hz1]
  simp only [Int.toNat_natCast, Nat.mul_one]
  rfl
/-- What watch.Run answers. -/
def WRes (g : Gr) (os : List O) (inp : List Int) (k : Int) (w : World) (e : Ending) (w' : World) : Prop :=
  ∃ gv, e = .returned (.tuple #[.agg (if runE g os inp.length k = 0 then seenV (seenW g os inp k) gv else #[.bool false, .int .i64 0, .int .i64 0, .slice none 0 0]), .int .i64 (runE g os inp.length k)]) ∧ (runE g os inp.length k = 0 → Blk w' gv 3 (intA (seenW g os inp k).vis)) ∧ Below w.heap.size w w'
theorem runf_enters (args : Array Value) (X : World) : (callFunc 28 args).run Tryz.prog X = .ok (.enter 28 args) X := by
  go_simp
theorem set4 {w : World} {g : Nat} {t : TypeId} {a0 a1 a2 a3 v0 v1 v2 v3 : Value} (h : Blk w g t #[a0, a1, a2, a3]) : Blk ((((w.setCell ⟨g, 0, none⟩ v0).setCell ⟨g, 1, none⟩ v1).setCell ⟨g, 2, none⟩ v2).setCell ⟨g, 3, none⟩ v3) g t #[v0, v1, v2, v3] :=
  (((h.set_ 0 v0).set_ 1 v1).set_ 2 v2).set_ 3 v3
theorem blk4 {w : World} {g : Nat} {t : TypeId} {a b c d : Value} (h : Blk w g t #[a, b, c, d]) :
    w.cell? ⟨g, 0, none⟩ = some a ∧ w.cell? ⟨g, 1, none⟩ = some b ∧ w.cell? ⟨g, 2, none⟩ = some c ∧ w.cell? ⟨g, 3, none⟩ = some d ∧ ∀ j, w.frozen? ⟨g, j, none⟩ = false :=
  ⟨h.cell 0, h.cell 1, h.cell 2, h.cell 3, h.fr⟩
set_option maxRecDepth 8000 in
set_option maxHeartbeats 16000000 in
theorem wrun_ok (g : Gr) (V D E : Option Addr) (cv cd ce : Nat) (A : Option Addr) (c : Nat) (zs : List Z) (inp : List Int) (S : Option Addr) (sc : Nat) (k : Int) (w : World) (hD : RdD w w.heap.size D g.sz) (hE : RdE w w.heap.size E g.es) (hz : RowZ w A zs) (hS : Rd w w.heap.size S inp) (hcap : inp.length ≤ sc)
    (lv : g.nv ≤ 17592186044416) (ls : g.sz.length ≤ 17592186044416) (le : g.es.length ≤ 17592186044416) (lz : zs.length ≤ 17592186044416) (hi : ∀ e ∈ g.es, I64 e.an ∧ I64 e.bn) (hI : I64s inp) (hlm : inp.length ≤ 17592186044416) :
    Calls Tryz.prog 11 #[grV g V D E cv cd ce, .slice A zs.length c, .slice S inp.length sc, .int .i64 k] w (WRes g (zs.map (fun (z : Z) => z.1)) inp k w) := by
  have HCH := hid (fun W (h1 : RdD W W.heap.size D g.sz) (h2 : RdE W W.heap.size E g.es) => gcheck_any g V D E cv cd ce W h1 h2 lv ls le)
  have HFI := hid (fun W (h1 : RowZ W A zs) (hc : chk g = 0) => fits_ok g V D E cv cd ce A c zs W h1 hc lz)
  have n0 := new1 w (.cells #[.slice V g.nv cv, .int .i64 g.tm, .slice D g.sz.length cd, .int .i64 g.pts, .int .i64 g.ex, .slice E g.es.length ce] 26)
  have n1 := new1 (w.alloc (.cells #[.slice V g.nv cv, .int .i64 g.tm, .slice D g.sz.length cd, .int .i64 g.pts, .int .i64 g.ex, .slice E g.es.length ce] 26)) (.cells #[.slice A zs.length c] 27)
  have n2 := new1 ((w.alloc (.cells #[.slice V g.nv cv, .int .i64 g.tm, .slice D g.sz.length cd, .int .i64 g.pts, .int .i64 g.ex, .slice E g.es.length ce] 26)).alloc (.cells #[.slice A zs.length c] 27)) (.cells #[.bool false, .int .i64 0, .int .i64 0, .slice none 0 0] 36)
  have k0 := ((Blk.new w 26 #[.slice V g.nv cv, .int .i64 g.tm, .slice D g.sz.length cd, .int .i64 g.pts, .int .i64 g.ex, .slice E g.es.length ce]).later n1).later n2
  have k1 := (Blk.new (w.alloc (.cells #[.slice V g.nv cv, .int .i64 g.tm, .slice D g.sz.length cd, .int .i64 g.pts, .int .i64 g.ex, .slice E g.es.length ce] 26)) 27 #[.slice A zs.length c]).later n2
  have k2 := Blk.new ((w.alloc (.cells #[.slice V g.nv cv, .int .i64 g.tm, .slice D g.sz.length cd, .int .i64 g.pts, .int .i64 g.ex, .slice E g.es.length ce] 26)).alloc (.cells #[.slice A zs.length c] 27)) 36 #[.bool false, .int .i64 0, .int .i64 0, .slice none 0 0]
  rw [show (w.alloc (.cells #[.slice V g.nv cv, .int .i64 g.tm, .slice D g.sz.length cd, .int .i64 g.pts, .int .i64 g.ex, .slice E g.es.length ce] 26)).heap.size = w.heap.size + 1 by simp] at k1
  rw [show ((w.alloc (.cells #[.slice V g.nv cv, .int .i64 g.tm, .slice D g.sz.length cd, .int .i64 g.pts, .int .i64 g.ex, .slice E g.es.length ce] 26)).alloc (.cells #[.slice A zs.length c] 27)).heap.size = w.heap.size + 2 by simp] at k2
  have hb0 := bup (bup n0 n1) n2
  have HE0 := hid hE
  have HD0 := hid hD
  have HS0 := hid hS
  have HZ0 := hid hz
  have HI := hid hi
  have HII := hid hI
  clear n0 n1 n2 hE hD hS hz hi hI
  unfold grV
  go_enter Tryz.func11, Tryz.ntmps11
  go_upto_region 1 with fail
  generalize ((w.alloc (.cells #[.slice V g.nv cv, .int .i64 g.tm, .slice D g.sz.length cd, .int .i64 g.pts, .int .i64 g.ex, .slice E g.es.length ce] 26)).alloc (.cells #[.slice A zs.length c] 27)).alloc (.cells #[.bool false, .int .i64 0, .int .i64 0, .slice none 0 0] 36) = w1 at *
  obtain ⟨f0, f1, f2, f3, f4, f5, ff⟩ := blk6 k0
  go_wp2_with fail
  clear f0 f1 f2 f3 f4 f5 ff
  have hR : Calls Tryz.prog 25 #[.agg #[.slice V g.nv cv, .int .i64 g.tm, .slice D g.sz.length cd, .int .i64 g.pts, .int .i64 g.ex, .slice E g.es.length ce]] w1 fun e w' => e = .returned (.int .i64 (chk g)) ∧ Below w1.heap.size w1 w' := HCH.out w1 (HD0.out.up hb0) (HE0.out.up hb0)
  (with_reducible refine hR.mono ?_)
  clear hR HCH
  rintro e2 w2 ⟨rfl, hb2⟩
  replace k0 := k0.later hb2
  replace k1 := k1.later hb2
  replace k2 := k2.later hb2
  replace hb0 := bup hb0 hb2
  clear hb2
  obtain ⟨ck, HCK⟩ : ∃ ck, Hid (chk g = ck) := ⟨_, hid rfl⟩
  rw [HCK.out]
  by_cases hck : ck = 0
  case neg =>
    have HR : Hid (runE g (zs.map (fun (z : Z) => z.1)) inp.length k = ck) := hid (by unfold runE; rw [if_pos (by rw [HCK.out]; exact hck), HCK.out])
    have hne : (ck != 0) = true := by rw [bne_iff_ne]; exact hck
    have HN := hid hck
    have HB := hid (below4 (W := w2) (B := w.heap.size) (g := w.heap.size + 2) (v0 := .bool false) (v1 := .int .i64 0) (v2 := .int .i64 0) (v3 := .slice none 0 0) (by omega) hb0.size)
    have K4 := hid (set4 (h := k2) (v0 := .bool false) (v1 := .int .i64 0) (v2 := .int .i64 0) (v3 := .slice none 0 0))
    obtain ⟨f0, f1, f2, f3, ff⟩ := blk4 k2
    clear hck
    go_wp2
    clear f0 f1 f2 f3 ff
    obtain ⟨f0, f1, f2, f3, ff⟩ := blk4 K4.out
    refine bodyPost_ret (v := .tuple #[.agg #[.bool false, .int .i64 0, .int .i64 0, .slice none 0 0], .int .i64 ck]) (by simp [results, Tryz.results11, go_sem, f0, f1, f2, f3]) rfl ?_
    exact ⟨0, by rw [HR.out, if_neg HN.out], fun h => absurd (HR.out.symm.trans h) HN.out, hb0.trans HB.out⟩
  subst hck
  obtain ⟨f0, f1, f2, f3, f4, f5, ff⟩ := blk6 k0
  have l0 := k1.cell 0
  go_wp2_with fail
  clear f0 f1 f2 f3 f4 f5 ff l0
  have hR : Calls Tryz.prog 26 #[.agg #[.slice V g.nv cv, .int .i64 g.tm, .slice D g.sz.length cd, .int .i64 g.pts, .int .i64 g.ex, .slice E g.es.length ce], .slice A zs.length c] w2 fun e w' => e = .returned (.bool (fitsB g (zs.map (fun (z : Z) => z.1)))) ∧ Below w2.heap.size w2 w' := HFI.out w2 (HZ0.out.up hb0) HCK.out
  (with_reducible refine hR.mono ?_)
  clear hR HFI
  rintro e3 w3 ⟨rfl, hb3⟩
  replace k0 := k0.later hb3
  replace k1 := k1.later hb3
  replace k2 := k2.later hb3
  replace hb0 := bup hb0 hb3
  clear hb3
  obtain ⟨fb, HFB⟩ : ∃ fb, Hid (fitsB g (zs.map (fun (z : Z) => z.1)) = fb) := ⟨_, hid rfl⟩
  rw [HFB.out]
  cases fb
  case false =>
    have HR : Hid (runE g (zs.map (fun (z : Z) => z.1)) inp.length k = 211) := hid (by unfold runE; rw [if_neg (by rw [HCK.out]; decide), if_pos HFB.out])
    have HB := hid (below4 (W := w3) (B := w.heap.size) (g := w.heap.size + 2) (v0 := .bool false) (v1 := .int .i64 0) (v2 := .int .i64 0) (v3 := .slice none 0 0) (by omega) hb0.size)
    have K4 := hid (set4 (h := k2) (v0 := .bool false) (v1 := .int .i64 0) (v2 := .int .i64 0) (v3 := .slice none 0 0))
    obtain ⟨f0, f1, f2, f3, ff⟩ := blk4 k2
    go_wp2
    clear f0 f1 f2 f3 ff
    obtain ⟨f0, f1, f2, f3, ff⟩ := blk4 K4.out
    refine bodyPost_ret (v := .tuple #[.agg #[.bool false, .int .i64 0, .int .i64 0, .slice none 0 0], .int .i64 211]) (by simp [results, Tryz.results11, go_sem, f0, f1, f2, f3]) rfl ?_
    exact ⟨0, by rw [HR.out, if_neg (by decide)], fun h => absurd (HR.out.symm.trans h) (by decide), hb0.trans HB.out⟩
  obtain ⟨p1, p2, -, -⟩ := chk_in HCK.out
  obtain ⟨N, hN⟩ := Int.eq_ofNat_of_zero_le (show 0 ≤ g.pts by omega)
  have hNN : N ≤ 4096 := by omega
  have HN := hid hN
  have hlz : zs.length = N := by
    have h1 := HFB.out
    unfold fitsB at h1
    rw [Bool.and_eq_true, decide_eq_true_eq, List.length_map] at h1
    omega
  have HCKS := hid (fun (j : Nat) (hj : j < zs.length) => (show check zs[j].1 = 0 from by
    have h1 := HFB.out
    unfold fitsB at h1
    rw [Bool.and_eq_true, List.all_eq_true] at h1
    have h2 := h1.2 zs[j].1 (List.mem_map_of_mem (List.getElem_mem hj))
    rw [Bool.and_eq_true, decide_eq_true_eq, decide_eq_true_eq] at h2
    exact h2.2))
  have HLZ := hid hlz
  have hmk := wrun_make N (by omega)
  have n4 := new1 w3 (.cells (zcells N) 3)
  have kv := Blk.new w3 3 (zcells N)
  have n5 := new1 (w3.alloc (.cells (zcells N) 3)) (.cells #[.bool true, .int .i64 0, .int .i64 0, .slice (some ⟨w3.heap.size, 0, none⟩) N N] 36)
  have ks := Blk.new (w3.alloc (.cells (zcells N) 3)) 36 #[.bool true, .int .i64 0, .int .i64 0, .slice (some ⟨w3.heap.size, 0, none⟩) N N]
  rw [show (w3.alloc (.cells (zcells N) 3)).heap.size = w3.heap.size + 1 by simp] at ks
  replace kv := kv.later n5
  have hb5 := hid (bup n4 n5)
  have hk0 := hid ((k0.later n4).later n5)
  have HB3 := hid hb0
  have hsz5 : ((w3.alloc (.cells (zcells N) 3)).alloc (.cells #[.bool true, .int .i64 0, .int .i64 0, .slice (some ⟨w3.heap.size, 0, none⟩) N N] 36)).heap.size = w3.heap.size + 2 := by simp
  have HSZ5 := hid hsz5
  have HK1 := hid k1
  have HK2 := hid k2
  clear n4 n5 p1 p2 hlz hb0 hsz5
  obtain ⟨f0, f1, f2, f3, f4, f5, ff⟩ := blk6 k0
  rw [hN] at f3
  clear hN k1 k2
  go_upto_region 7 with fail
  generalize (w3.alloc (.cells (zcells N) 3)).alloc (.cells #[.bool true, .int .i64 0, .int .i64 0, .slice (some ⟨w3.heap.size, 0, none⟩) N N] 36) = w5 at *
  clear f0 f1 f2 f3 f4 f5 ff k0 hmk
  have hos : ∀ p (hp : p < zs.length), octAt (zs.map (fun (z : Z) => z.1)) p = zs[p].1 := fun p hp => by
    unfold octAt
    rw [List.getD_eq_getElem?_getD, List.getElem?_map, List.getElem?_eq_getElem hp]
    rfl
  have h3s : w.heap.size + 2 < w3.heap.size := HK2.out.lt
  have hS5 := HSZ5.out
  have HV := visits_ok g V D E cv cd ce inp S sc k 28 (w3.heap.size + 1) (w.heap.size + 1) w3.heap.size
    (fun _ n W => SeenM W (w3.heap.size + 1) (w.heap.size + 1) w3.heap.size A c zs.length (snAt g (zs.map (fun (z : Z) => z.1)) (mZero g inp) n) ∧ Below w3.heap.size w3 W) w5
    ((HD0.out.up HB3.out).below hb5.out) ((HE0.out.up HB3.out).below hb5.out) ((HS0.out.up HB3.out).below hb5.out) (by omega) hcap HCK.out HI.out HII.out hlm (fun args X _ => runf_enters args X)
    (fun kn hk hfu n A' c' b1 W hn hM hb hb' hI hrd hxb => by
      have hp : (mAt g (mZero g inp) n).p < zs.length := by have := hM.p; have h1 := HN.out; have h2 := HLZ.out; omega
      have hvl : (snAt g (zs.map (fun (z : Z) => z.1)) (mZero g inp) n).vis.length = zs.length := by rw [snAt_len]; have h1 := HN.out; have h2 := HLZ.out; omega
      have hkn : kn ≤ 65536 := by
        unfold fuelE at hfu
        split at hfu
        · cases hfu
        · omega
      have hv := snAt_vis g (zs.map (fun (z : Z) => z.1)) (mZero g inp) n (mAt g (mZero g inp) n).p
      have hnn := lenW_le g (mZero g inp) kn
      have h9 := runf_ok (w3.heap.size + 1) (w.heap.size + 1) w3.heap.size w5.heap.size A A' c c' zs _ n (mAt g (mZero g inp) n).p _ w3 W hI.1 (HZ0.out.up HB3.out) hI.2 (by omega) (by omega) (by omega) hp hvl (HCKS.out _ hp) hrd hxb hM.xi (by omega)
      refine h9.mono fun e w' hh => ?_
      obtain ⟨h1, h2, h3⟩ := hh
      refine ⟨h1, ⟨?_, hI.2.trans h3.low⟩, h3.win hb'⟩
      show SeenM w' _ _ _ _ _ _ (snStep (hasB (octAt (zs.map (fun (z : Z) => z.1)) (mAt g (mZero g inp) n).p) (mAt g (mZero g inp) n).xs) n (mAt g (mZero g inp) n).p _)
      rw [hos _ hp]
      exact h2)
    (fun b1 _ => ⟨⟨by
      have h1 := HN.out
      show Blk w5 _ _ (seenV (snZero g) _)
      unfold seenV snZero
      dsimp only
      rw [List.length_replicate, show g.pts.toNat = N by omega]
      exact ks, by
      have h1 := HN.out
      show Blk w5 _ _ (intA (List.replicate g.pts.toNat 0))
      rw [show g.pts.toNat = N by omega, ← zcells_intA]
      exact kv, HK1.out.later hb5.out⟩, hb5.out⟩)
    (fun b1 n W W' hI ho => ⟨hI.1.off ho (by omega) (by omega) (by omega), hI.2.trans (ho.low.mono (by omega))⟩)
  unfold grV at HV
  have HVV := hid HV
  clear HV kv ks hos
  obtain ⟨f0, f1, f2, f3, f4, f5, ff⟩ := blk6 hk0.out
  go_wp2_with fail
  clear f0 f1 f2 f3 f4 f5 ff hk0
  (with_reducible refine HVV.out.mono ?_)
  rintro e6 w6 ⟨rfl, hok, hbad, hb6⟩
  have HOK := hid hok
  have hb36 : Below w3.heap.size w3 w6 := hb5.out.trans hb6
  have k2 := HK2.out.below hb36 HK2.out.lt
  have hbw6 := hid (bup HB3.out hb36)
  clear hok hbad hb6 HVV
  have HRF : Hid (runE g (zs.map (fun (z : Z) => z.1)) inp.length k = fuelE inp.length k) := hid (by unfold runE; rw [if_neg (by rw [HCK.out]; decide), if_neg (by rw [HFB.out]; decide)])
  have hee : fuelE inp.length k = 0 ∨ fuelE inp.length k = 80 := by
    unfold fuelE
    split
    · exact .inr rfl
    · exact .inl rfl
  obtain ⟨er, HER⟩ : ∃ er, Hid (fuelE inp.length k = er) := ⟨_, hid rfl⟩
  rw [HER.out] at hee ⊢
  rcases hee with rfl | rfl
  case inr =>
    have HB := hid (below4 (W := w6) (B := w.heap.size) (g := w.heap.size + 2) (v0 := .bool false) (v1 := .int .i64 0) (v2 := .int .i64 0) (v3 := .slice none 0 0) (by omega) hbw6.out.size)
    have K4 := hid (set4 (h := k2) (v0 := .bool false) (v1 := .int .i64 0) (v2 := .int .i64 0) (v3 := .slice none 0 0))
    obtain ⟨f0, f1, f2, f3, ff⟩ := blk4 k2
    clear k2 hb36
    go_wp2
    clear f0 f1 f2 f3 ff
    obtain ⟨f0, f1, f2, f3, ff⟩ := blk4 K4.out
    refine bodyPost_ret (v := .tuple #[.agg #[.bool false, .int .i64 0, .int .i64 0, .slice none 0 0], .int .i64 80]) (by simp [results, Tryz.results11, go_sem, f0, f1, f2, f3]) rfl ?_
    exact ⟨0, by rw [HRF.out, HER.out, if_neg (by decide)], fun h => absurd (HER.out.symm.trans (HRF.out.symm.trans h)) (by decide), hbw6.out.trans HB.out⟩
  obtain ⟨b1, hSM, -⟩ := HOK.out HER.out
  have hsn : snAt g (zs.map (fun (z : Z) => z.1)) (mZero g inp) (lenW g (mZero g inp) k.toNat + 1) = seenW g (zs.map (fun (z : Z) => z.1)) inp k := rfl
  rw [hsn] at hSM
  obtain ⟨sn, HSN⟩ : ∃ sn, Hid (seenW g (zs.map (fun (z : Z) => z.1)) inp k = sn) := ⟨_, hid rfl⟩
  rw [HSN.out] at hSM
  clear hsn HOK
  obtain ⟨hd, st, pt, vis⟩ := sn
  have hsb : Blk w6 (w3.heap.size + 1) 36 #[.bool hd, .int .i64 st, .int .i64 pt, .slice (some ⟨w3.heap.size, 0, none⟩) vis.length vis.length] := hSM.blk
  have hvb := hSM.vis
  dsimp only at hvb
  have HB := hid (below4 (W := w6) (B := w.heap.size) (g := w.heap.size + 2) (v0 := .bool hd) (v1 := .int .i64 st) (v2 := .int .i64 pt) (v3 := .slice (some ⟨w3.heap.size, 0, none⟩) vis.length vis.length) (by omega) hbw6.out.size)
  have K4 := hid (set4 (h := k2) (v0 := .bool hd) (v1 := .int .i64 st) (v2 := .int .i64 pt) (v3 := .slice (some ⟨w3.heap.size, 0, none⟩) vis.length vis.length))
  have KV := hid ((((hvb.far (p := ⟨w.heap.size + 2, 0, none⟩) (by show w.heap.size + 2 ≠ _; omega) (.bool hd)).far (p := ⟨w.heap.size + 2, 1, none⟩) (by show w.heap.size + 2 ≠ _; omega) (.int .i64 st)).far (p := ⟨w.heap.size + 2, 2, none⟩) (by show w.heap.size + 2 ≠ _; omega) (.int .i64 pt)).far (p := ⟨w.heap.size + 2, 3, none⟩) (by show w.heap.size + 2 ≠ _; omega) (.slice (some ⟨w3.heap.size, 0, none⟩) vis.length vis.length))
  obtain ⟨f0, f1, f2, f3, ff⟩ := blk4 k2
  obtain ⟨g0, g1, g2, g3, gg⟩ := blk4 hsb
  clear k2 hb36 hsb hvb hSM
  go_wp2
  clear f0 f1 f2 f3 ff g0 g1 g2 g3 gg
  obtain ⟨f0, f1, f2, f3, ff⟩ := blk4 K4.out
  refine bodyPost_ret (v := .tuple #[.agg #[.bool hd, .int .i64 st, .int .i64 pt, .slice (some ⟨w3.heap.size, 0, none⟩) vis.length vis.length], .int .i64 0]) (by simp [results, Tryz.results11, go_sem, f0, f1, f2, f3]) rfl ?_
  exact ⟨w3.heap.size, by rw [HRF.out, HER.out, if_pos rfl, HSN.out]; rfl, fun _ => by rw [HSN.out]; exact KV.out, hbw6.out.trans HB.out⟩
end Go.Proofs.YtkncebcekhfnfaaGreat
