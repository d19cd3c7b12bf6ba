/-
  safe.Fits: what it answers.
  gnomonref7: what Neg, Add, Sub, Mul and Do answer.
-/
import Derived.Test.YtnmpgijiimglcaaGreatBUA30
import Derived.Test.YtnmpgijiimglcaaGreatBUA24
import Derived.Test.YtnmpgijiimglcaaGreatBUA33
import Derived.Test.YtnmpgijiimglcaaGreatBUA12
import Derived.Test.YtnmpgijiimglcaaGreatBUA01
import Derived.IntWalk
namespace Go.Proofs.YtnmpgijiimglcaaGreat
section
open Go.RowKit
attribute [local go_sem ↓] Go.wp_at_zero Go.wp_at_succ

set_option maxRecDepth 8000 in
set_option maxHeartbeats 4000000 in
theorem safefits_7 (r s : Rg) (ir : I64 (loR r) ∧ I64 (hiR r)) (is_ : I64 (loR s) ∧ I64 (hiR s)) (w : World) :
    Calls Tryz.prog 46 #[.int .i64 7, r.val, s.val] w fun e w' => e = .returned (.bool (!(decide (hiR r < loR r) || decide (hiR s < loR s)) && (!(decide (loR s ≤ 0) && decide (0 ≤ hiR s)) && !((loR r == -9223372036854775808) && (decide (loR s ≤ -1) && decide (-1 ≤ hiR s)))))) ∧ Below w.heap.size w w' := by
  have H1 := hid (fun W => sends_ok r W)
  have H2 := hid (fun W => sends_ok s W)
  rw [Rg.val_eq] at H1 H2
  rw [Rg.val_eq, Rg.val_eq]
  generalize loR r = a at *
  generalize hiR r = b at *
  generalize loR s = c at *
  generalize hiR s = d at *
  have T1 := hid (fun W => shas_ok c d 0 W)
  have T2 := hid (fun W => shas_ok c d (-1) W)
  generalize (decide (c ≤ 0) && decide (0 ≤ d)) = z1 at *
  generalize (decide (c ≤ -1) && decide (-1 ≤ d)) = z3 at *
  obtain ⟨R, hR⟩ : ∃ R, R = (!(decide (b < a) || decide (d < c)) && (!z1 && !((a == -9223372036854775808) && z3))) := ⟨_, rfl⟩
  rw [← hR]
  have HR := hid hR
  clear hR
  obtain ⟨p0, p1, hb0, hsz⟩ := new_two w #[.int .i64 r.lo, .int .i64 r.hi, .bool r.hl, .bool r.hh] #[.int .i64 s.lo, .int .i64 s.hi, .bool s.hl, .bool s.hh] 49 49
  clear hsz
  go_enter Tryz.func46, Tryz.ntmps46
  go_upto_region 1 with fail
  generalize (w.alloc (Obj.cells #[.int .i64 r.lo, .int .i64 r.hi, .bool r.hl, .bool r.hh] 49)).alloc (Obj.cells #[.int .i64 s.lo, .int .i64 s.hi, .bool s.hl, .bool s.hh] 49) = w1 at *
  have f0 := laterE (show w1.cell? ⟨w.heap.size, 0, none⟩ = some (.int .i64 r.lo) from p0.cell 0)
  have f1 := laterE (show w1.cell? ⟨w.heap.size, 1, none⟩ = some (.int .i64 r.hi) from p0.cell 1)
  have f2 := laterE (show w1.cell? ⟨w.heap.size, 2, none⟩ = some (.bool r.hl) from p0.cell 2)
  have f3 := laterE (show w1.cell? ⟨w.heap.size, 3, none⟩ = some (.bool r.hh) from p0.cell 3)
  have j0 := laterE (show w1.cell? ⟨w.heap.size + 1, 0, none⟩ = some (.int .i64 s.lo) from p1.cell 0)
  have j1 := laterE (show w1.cell? ⟨w.heap.size + 1, 1, none⟩ = some (.int .i64 s.hi) from p1.cell 1)
  have j2 := laterE (show w1.cell? ⟨w.heap.size + 1, 2, none⟩ = some (.bool s.hl) from p1.cell 2)
  have j3 := laterE (show w1.cell? ⟨w.heap.size + 1, 3, none⟩ = some (.bool s.hh) from p1.cell 3)
  refine wp_region_flowE 6 [Sp.val (.agg #[.int .i64 r.lo, .int .i64 r.hi, .bool r.hl, .bool r.hh]), Sp.val (.agg #[.int .i64 a, .int .i64 b]), Sp.val (.agg #[.int .i64 s.lo, .int .i64 s.hi, .bool s.hl, .bool s.hh]), Sp.val (.agg #[.int .i64 c, .int .i64 d]), Sp.any (IsBox 135 #[.int .i64 0, .int .i64 0]), Sp.any (IsBox 135 #[.int .i64 0, .int .i64 0])] (by kernel_rfl) (by kernel_rfl) ?_
  (refine FlowE.take (by rfl) (fun W hW R hR => ?_) (fun _ _ => ?_); (go_simp; (try go_bits); with_reducible exact hR); simp only [Act.put, List.setIfInBounds_toArray, List.set_cons_zero, List.set_cons_succ])
  refine FlowE.callFV (by rfl) (fun W hW hf => ⟨99, #[.agg #[.int .i64 r.lo, .int .i64 r.hi, .bool r.hl, .bool r.hh]], by go_simp, H1.out W⟩) (fun _ _ => ?_)
  simp only [Act.put, List.setIfInBounds_toArray, List.set_cons_zero, List.set_cons_succ]
  (refine FlowE.take (by rfl) (fun W hW R hR => ?_) (fun _ _ => ?_); (go_simp; (try go_bits); with_reducible exact hR); simp only [Act.put, List.setIfInBounds_toArray, List.set_cons_zero, List.set_cons_succ])
  refine FlowE.callFV (by rfl) (fun W hW hf => ⟨99, #[.agg #[.int .i64 s.lo, .int .i64 s.hi, .bool s.hl, .bool s.hh]], by go_simp, H2.out W⟩) (fun _ _ => ?_)
  simp only [Act.put, List.setIfInBounds_toArray, List.set_cons_zero, List.set_cons_succ]
  refine FlowE.step (by rfl) (fun W hW K hK => ?_) (fun v4 l4 h4 => ?_)
  · go_simp
    exact hK _ _ (new1 _ _) ⟨rfl, Blk.new _ _ _, by simp⟩
  simp only [Act.put, List.setIfInBounds_toArray, List.set_cons_zero, List.set_cons_succ]
  refine FlowE.step (by rfl) (fun W hW K hK => ?_) (fun v5 l5 h5 => ?_)
  · go_simp
    exact hK _ _ (new1 _ _) ⟨rfl, Blk.new _ _ _, by simp⟩
  simp only [Act.put, List.setIfInBounds_toArray, List.set_cons_zero, List.set_cons_succ]
  refine FlowE.tail (fun W hW hf hd => ?_)
  replace hW : Below w1.heap.size w1 W := Ext.trans (Below.refl _ _).drew hW
  obtain ⟨g4, rfl, k4, lo4, e4, e4'⟩ := fact_box (show Sp.fact w1.drew (Sp.any (IsBox 135 #[.int .i64 0, .int .i64 0])) v4 l4 h4 W from hf 4)
  obtain ⟨g5, rfl, k5, lo5, e5, e5'⟩ := fact_box (show Sp.fact w1.drew (Sp.any (IsBox 135 #[.int .i64 0, .int .i64 0])) v5 l5 h5 W from hf 5)
  have dd : h4 ≤ l5 ∨ h5 ≤ l4 := hd 4 5 (by decide)
  have hne : g4 ≠ g5 := by omega
  clear hf hd f0 f1 f2 f3 j0 j1 j2 j3 H1 H2 e4 e4' e5 e5' dd p0 p1
  have hww := hb0.size
  replace hb0 := bup hb0 hW
  have q4 := (k4.set2 (v0 := .int .i64 a) (v1 := .int .i64 b)).far2 (g := g5) (v0 := .int .i64 c) (v1 := .int .i64 d) (Ne.symm hne)
  have q5 := (k5.far2 (g := g4) (v0 := .int .i64 a) (v1 := .int .i64 b) hne).set2 (v0 := .int .i64 c) (v1 := .int .i64 d)
  have hs4 : w1.heap.size ≤ g4 := lo4
  have hs5 : w1.heap.size ≤ g5 := lo5
  have hba := hb0.trans (below2 (W := W) (g := g4) (v0 := .int .i64 a) (v1 := .int .i64 b) (by omega) hb0.size)
  have hb9 := hba.trans (below2 (g := g5) (v0 := .int .i64 c) (v1 := .int .i64 d) (by omega) hba.size)
  clear hba hs4 hs5 lo4 lo5 hW
  obtain ⟨x0, x1, fx⟩ := opbox k4
  obtain ⟨y0, y1, fy⟩ := opbox k5
  cases t1 : decide (b < a) with
  | true =>
    have HE : Hid (R = false) := hid (by rw [HR.out, t1]; rfl)
    go_wp2; go_ret; exact ⟨by rw [HE.out]; rfl, hb9⟩
  | false =>
    cases t2 : decide (d < c) with
    | true =>
      have HE : Hid (R = false) := hid (by rw [HR.out, t1, t2]; rfl)
      go_wp2; go_ret; exact ⟨by rw [HE.out]; rfl, hb9⟩
    | false =>
      have HE : Hid (R = (!z1 && !((a == -9223372036854775808) && z3))) := hid (by rw [HR.out, t1, t2]; rfl)
      go_wp2_with fail
      clear x0 x1 fx y0 y1 fy k4 k5 hb0
      have hsz5 : ((((W.setCell ⟨g4, 0, none⟩ (.int .i64 a)).setCell ⟨g4, 1, none⟩ (.int .i64 b)).setCell ⟨g5, 0, none⟩ (.int .i64 c)).setCell ⟨g5, 1, none⟩ (.int .i64 d)).heap.size = W.heap.size := by simp
      generalize (((W.setCell ⟨g4, 0, none⟩ (.int .i64 a)).setCell ⟨g4, 1, none⟩ (.int .i64 b)).setCell ⟨g5, 0, none⟩ (.int .i64 c)).setCell ⟨g5, 1, none⟩ (.int .i64 d) = w5 at *
      (with_reducible refine (T1.out _).mono ?_)
      rintro e6 w6 ⟨rfl, hb6⟩
      replace q4 := q4.later hb6
      replace q5 := q5.later hb6
      replace hb9 := bup hb9 hb6
      clear hb6 T1
      cases z1 with
      | true => go_wp2; go_ret; exact ⟨by rw [HE.out]; rfl, hb9⟩
      | false =>
        obtain ⟨x0, x1, fx⟩ := opbox q4
        obtain ⟨y0, y1, fy⟩ := opbox q5
        cases t9 : (a == -9223372036854775808) with
        | false => go_wp2; go_ret; exact ⟨by rw [HE.out, t9]; rfl, hb9⟩
        | true =>
          go_wp2_with fail
          (with_reducible refine (T2.out _).mono ?_)
          rintro e7 w7 ⟨rfl, hb7⟩
          go_wp2; go_ret; exact ⟨by rw [HE.out, t9]; first | rfl | simp, bup hb9 hb7⟩

set_option maxRecDepth 8000 in
set_option maxHeartbeats 4000000 in
theorem safefits_8 (r s : Rg) (ir : I64 (loR r) ∧ I64 (hiR r)) (is_ : I64 (loR s) ∧ I64 (hiR s)) (w : World) :
    Calls Tryz.prog 46 #[.int .i64 8, r.val, s.val] w fun e w' => e = .returned (.bool (!(decide (hiR r < loR r) || decide (hiR s < loR s)) && (!(decide (loR s ≤ 0) && decide (0 ≤ hiR s)) && !((loR r == -9223372036854775808) && (decide (loR s ≤ -1) && decide (-1 ≤ hiR s)))))) ∧ Below w.heap.size w w' := by
  have H1 := hid (fun W => sends_ok r W)
  have H2 := hid (fun W => sends_ok s W)
  rw [Rg.val_eq] at H1 H2
  rw [Rg.val_eq, Rg.val_eq]
  generalize loR r = a at *
  generalize hiR r = b at *
  generalize loR s = c at *
  generalize hiR s = d at *
  have T1 := hid (fun W => shas_ok c d 0 W)
  have T2 := hid (fun W => shas_ok c d (-1) W)
  generalize (decide (c ≤ 0) && decide (0 ≤ d)) = z1 at *
  generalize (decide (c ≤ -1) && decide (-1 ≤ d)) = z3 at *
  obtain ⟨R, hR⟩ : ∃ R, R = (!(decide (b < a) || decide (d < c)) && (!z1 && !((a == -9223372036854775808) && z3))) := ⟨_, rfl⟩
  rw [← hR]
  have HR := hid hR
  clear hR
  obtain ⟨p0, p1, hb0, hsz⟩ := new_two w #[.int .i64 r.lo, .int .i64 r.hi, .bool r.hl, .bool r.hh] #[.int .i64 s.lo, .int .i64 s.hi, .bool s.hl, .bool s.hh] 49 49
  clear hsz
  go_enter Tryz.func46, Tryz.ntmps46
  go_upto_region 1 with fail
  generalize (w.alloc (Obj.cells #[.int .i64 r.lo, .int .i64 r.hi, .bool r.hl, .bool r.hh] 49)).alloc (Obj.cells #[.int .i64 s.lo, .int .i64 s.hi, .bool s.hl, .bool s.hh] 49) = w1 at *
  have f0 := laterE (show w1.cell? ⟨w.heap.size, 0, none⟩ = some (.int .i64 r.lo) from p0.cell 0)
  have f1 := laterE (show w1.cell? ⟨w.heap.size, 1, none⟩ = some (.int .i64 r.hi) from p0.cell 1)
  have f2 := laterE (show w1.cell? ⟨w.heap.size, 2, none⟩ = some (.bool r.hl) from p0.cell 2)
  have f3 := laterE (show w1.cell? ⟨w.heap.size, 3, none⟩ = some (.bool r.hh) from p0.cell 3)
  have j0 := laterE (show w1.cell? ⟨w.heap.size + 1, 0, none⟩ = some (.int .i64 s.lo) from p1.cell 0)
  have j1 := laterE (show w1.cell? ⟨w.heap.size + 1, 1, none⟩ = some (.int .i64 s.hi) from p1.cell 1)
  have j2 := laterE (show w1.cell? ⟨w.heap.size + 1, 2, none⟩ = some (.bool s.hl) from p1.cell 2)
  have j3 := laterE (show w1.cell? ⟨w.heap.size + 1, 3, none⟩ = some (.bool s.hh) from p1.cell 3)
  refine wp_region_flowE 6 [Sp.val (.agg #[.int .i64 r.lo, .int .i64 r.hi, .bool r.hl, .bool r.hh]), Sp.val (.agg #[.int .i64 a, .int .i64 b]), Sp.val (.agg #[.int .i64 s.lo, .int .i64 s.hi, .bool s.hl, .bool s.hh]), Sp.val (.agg #[.int .i64 c, .int .i64 d]), Sp.any (IsBox 135 #[.int .i64 0, .int .i64 0]), Sp.any (IsBox 135 #[.int .i64 0, .int .i64 0])] (by kernel_rfl) (by kernel_rfl) ?_
  (refine FlowE.take (by rfl) (fun W hW R hR => ?_) (fun _ _ => ?_); (go_simp; (try go_bits); with_reducible exact hR); simp only [Act.put, List.setIfInBounds_toArray, List.set_cons_zero, List.set_cons_succ])
  refine FlowE.callFV (by rfl) (fun W hW hf => ⟨99, #[.agg #[.int .i64 r.lo, .int .i64 r.hi, .bool r.hl, .bool r.hh]], by go_simp, H1.out W⟩) (fun _ _ => ?_)
  simp only [Act.put, List.setIfInBounds_toArray, List.set_cons_zero, List.set_cons_succ]
  (refine FlowE.take (by rfl) (fun W hW R hR => ?_) (fun _ _ => ?_); (go_simp; (try go_bits); with_reducible exact hR); simp only [Act.put, List.setIfInBounds_toArray, List.set_cons_zero, List.set_cons_succ])
  refine FlowE.callFV (by rfl) (fun W hW hf => ⟨99, #[.agg #[.int .i64 s.lo, .int .i64 s.hi, .bool s.hl, .bool s.hh]], by go_simp, H2.out W⟩) (fun _ _ => ?_)
  simp only [Act.put, List.setIfInBounds_toArray, List.set_cons_zero, List.set_cons_succ]
  refine FlowE.step (by rfl) (fun W hW K hK => ?_) (fun v4 l4 h4 => ?_)
  · go_simp
    exact hK _ _ (new1 _ _) ⟨rfl, Blk.new _ _ _, by simp⟩
  simp only [Act.put, List.setIfInBounds_toArray, List.set_cons_zero, List.set_cons_succ]
  refine FlowE.step (by rfl) (fun W hW K hK => ?_) (fun v5 l5 h5 => ?_)
  · go_simp
    exact hK _ _ (new1 _ _) ⟨rfl, Blk.new _ _ _, by simp⟩
  simp only [Act.put, List.setIfInBounds_toArray, List.set_cons_zero, List.set_cons_succ]
  refine FlowE.tail (fun W hW hf hd => ?_)
  replace hW : Below w1.heap.size w1 W := Ext.trans (Below.refl _ _).drew hW
  obtain ⟨g4, rfl, k4, lo4, e4, e4'⟩ := fact_box (show Sp.fact w1.drew (Sp.any (IsBox 135 #[.int .i64 0, .int .i64 0])) v4 l4 h4 W from hf 4)
  obtain ⟨g5, rfl, k5, lo5, e5, e5'⟩ := fact_box (show Sp.fact w1.drew (Sp.any (IsBox 135 #[.int .i64 0, .int .i64 0])) v5 l5 h5 W from hf 5)
  have dd : h4 ≤ l5 ∨ h5 ≤ l4 := hd 4 5 (by decide)
  have hne : g4 ≠ g5 := by omega
  clear hf hd f0 f1 f2 f3 j0 j1 j2 j3 H1 H2 e4 e4' e5 e5' dd p0 p1
  have hww := hb0.size
  replace hb0 := bup hb0 hW
  have q4 := (k4.set2 (v0 := .int .i64 a) (v1 := .int .i64 b)).far2 (g := g5) (v0 := .int .i64 c) (v1 := .int .i64 d) (Ne.symm hne)
  have q5 := (k5.far2 (g := g4) (v0 := .int .i64 a) (v1 := .int .i64 b) hne).set2 (v0 := .int .i64 c) (v1 := .int .i64 d)
  have hs4 : w1.heap.size ≤ g4 := lo4
  have hs5 : w1.heap.size ≤ g5 := lo5
  have hba := hb0.trans (below2 (W := W) (g := g4) (v0 := .int .i64 a) (v1 := .int .i64 b) (by omega) hb0.size)
  have hb9 := hba.trans (below2 (g := g5) (v0 := .int .i64 c) (v1 := .int .i64 d) (by omega) hba.size)
  clear hba hs4 hs5 lo4 lo5 hW
  obtain ⟨x0, x1, fx⟩ := opbox k4
  obtain ⟨y0, y1, fy⟩ := opbox k5
  cases t1 : decide (b < a) with
  | true =>
    have HE : Hid (R = false) := hid (by rw [HR.out, t1]; rfl)
    go_wp2; go_ret; exact ⟨by rw [HE.out]; rfl, hb9⟩
  | false =>
    cases t2 : decide (d < c) with
    | true =>
      have HE : Hid (R = false) := hid (by rw [HR.out, t1, t2]; rfl)
      go_wp2; go_ret; exact ⟨by rw [HE.out]; rfl, hb9⟩
    | false =>
      have HE : Hid (R = (!z1 && !((a == -9223372036854775808) && z3))) := hid (by rw [HR.out, t1, t2]; rfl)
      go_wp2_with fail
      clear x0 x1 fx y0 y1 fy k4 k5 hb0
      have hsz5 : ((((W.setCell ⟨g4, 0, none⟩ (.int .i64 a)).setCell ⟨g4, 1, none⟩ (.int .i64 b)).setCell ⟨g5, 0, none⟩ (.int .i64 c)).setCell ⟨g5, 1, none⟩ (.int .i64 d)).heap.size = W.heap.size := by simp
      generalize (((W.setCell ⟨g4, 0, none⟩ (.int .i64 a)).setCell ⟨g4, 1, none⟩ (.int .i64 b)).setCell ⟨g5, 0, none⟩ (.int .i64 c)).setCell ⟨g5, 1, none⟩ (.int .i64 d) = w5 at *
      (with_reducible refine (T1.out _).mono ?_)
      rintro e6 w6 ⟨rfl, hb6⟩
      replace q4 := q4.later hb6
      replace q5 := q5.later hb6
      replace hb9 := bup hb9 hb6
      clear hb6 T1
      cases z1 with
      | true => go_wp2; go_ret; exact ⟨by rw [HE.out]; rfl, hb9⟩
      | false =>
        obtain ⟨x0, x1, fx⟩ := opbox q4
        obtain ⟨y0, y1, fy⟩ := opbox q5
        cases t9 : (a == -9223372036854775808) with
        | false => go_wp2; go_ret; exact ⟨by rw [HE.out, t9]; rfl, hb9⟩
        | true =>
          go_wp2_with fail
          (with_reducible refine (T2.out _).mono ?_)
          rintro e7 w7 ⟨rfl, hb7⟩
          go_wp2; go_ret; exact ⟨by rw [HE.out, t9]; first | rfl | simp, bup hb9 hb7⟩
end
section
open Go.RowKit
attribute [local go_sem ↓] Go.wp_at_zero Go.wp_at_succ

set_option maxHeartbeats 800000 in
theorem r7neg_any (a : Int) (w : World) (ha : I64 a) : Calls Tryz.prog 107 #[.int .i64 a] w (PairRes (negW a) w) := by
  have HA := hid ha
  clear ha
  cases t1 : (a == -9223372036854775808)
  all_goals
    go_enter Tryz.func107, Tryz.ntmps107
    go_wp2
    go_ret2
    have ha := HA.out
    unfold I64 at ha
    simp only [beq_iff_eq, beq_eq_false_iff_ne] at t1
    refine prok ?_
    unfold negW
    first | exact fit_wrap (by omega) | exact fit_out (by omega)

set_option maxHeartbeats 1600000 in
theorem r7add_any (a b : Int) (w : World) (ha : I64 a) (hb : I64 b) : Calls Tryz.prog 108 #[.int .i64 a, .int .i64 b] w (PairRes (addW a b) w) := by
  have HA := hid ha
  have HB := hid hb
  clear ha hb
  cases t1 : decide (0 < b) <;> cases t2 : decide (wrap64 (9223372036854775807 - b) < a) <;> cases t3 : decide (b < 0) <;> cases t4 : decide (a < wrap64 (-9223372036854775808 - b))
  all_goals
    go_enter Tryz.func108, Tryz.ntmps108
    go_wp2
    go_ret2
    have ha := HA.out
    have hb := HB.out
    unfold I64 at ha hb
    simp only [decide_eq_true_eq, decide_eq_false_iff_not] at t1 t2 t3 t4
    unfold wrap64 at t2 t4
    refine prok ?_
    unfold addW
    first | exact fit_wrap (by omega) | exact fit_out (by omega)

set_option maxHeartbeats 1600000 in
theorem r7sub_any (a b : Int) (w : World) (ha : I64 a) (hb : I64 b) : Calls Tryz.prog 109 #[.int .i64 a, .int .i64 b] w (PairRes (subW a b) w) := by
  have HA := hid ha
  have HB := hid hb
  clear ha hb
  cases t1 : decide (b < 0) <;> cases t2 : decide (wrap64 (9223372036854775807 + b) < a) <;> cases t3 : decide (0 < b) <;> cases t4 : decide (a < wrap64 (-9223372036854775808 + b))
  all_goals
    go_enter Tryz.func109, Tryz.ntmps109
    go_wp2
    go_ret2
    have ha := HA.out
    have hb := HB.out
    unfold I64 at ha hb
    simp only [decide_eq_true_eq, decide_eq_false_iff_not] at t1 t2 t3 t4
    unfold wrap64 at t2 t4
    refine prok ?_
    unfold subW
    first | exact fit_wrap (by omega) | exact fit_out (by omega)

theorem mul_back {a b : Int} (ha : I64 a) (hb : I64 b) (a0 : a ≠ 0) (b0 : b ≠ 0) (b1 : b ≠ -1) : (wrap64 ((wrap64 (a * b)).tdiv b) = a) ↔ I64 (a * b) := by
  have hw : I64 (wrap64 (a * b)) := by unfold I64 wrap64; omega
  have hin : wrap64 ((wrap64 (a * b)).tdiv b) = (wrap64 (a * b)).tdiv b := IntWalk.wrap64_in _ (tdiv_in hw b0 (by simp [b1]))
  rw [hin]
  constructor
  · intro h
    have h1 := Int.mul_tdiv_add_tmod (wrap64 (a * b)) b
    rw [h, Int.mul_comm] at h1
    have h2 : ((wrap64 (a * b)).tmod b).natAbs = (wrap64 (a * b)).natAbs % b.natAbs := Int.natAbs_tmod _ _
    have h3 : (wrap64 (a * b)).natAbs % b.natAbs < b.natAbs := Nat.mod_lt _ (by omega)
    unfold I64 at *
    generalize (wrap64 (a * b)).tmod b = r at *
    generalize a * b = p at *
    unfold wrap64 at h1 hw
    omega
  · intro h
    have e : wrap64 (a * b) = a * b := IntWalk.wrap64_in _ h
    rw [e, Int.mul_tdiv_cancel _ b0]

theorem mulW_zero_l (b : Int) : mulW 0 b = (0, 0) := by unfold mulW; rw [Int.zero_mul]; rfl
theorem mulW_zero_r (a : Int) : mulW a 0 = (0, 0) := by unfold mulW; rw [Int.mul_zero]; rfl
theorem mulW_neg_l (b : Int) : mulW (-1) b = negW b := by unfold mulW negW; rw [Int.neg_one_mul]
theorem mulW_neg_r (a : Int) : mulW a (-1) = negW a := by unfold mulW negW; rw [Int.mul_neg_one]
set_option maxHeartbeats 1600000 in
theorem r7mul_any (a b : Int) (w : World) (ha : I64 a) (hb : I64 b) : Calls Tryz.prog 110 #[.int .i64 a, .int .i64 b] w (PairRes (mulW a b) w) := by
  have HNA := hid (r7neg_any a w ha)
  have HNB := hid (r7neg_any b w hb)
  have HA := hid ha
  have HB := hid hb
  clear ha hb
  by_cases a0 : a = 0
  · subst a0
    rw [mulW_zero_l]
    go_enter Tryz.func110, Tryz.ntmps110
    go_wp2
    go_ret2
    exact prok rfl
  by_cases b0 : b = 0
  · subst b0
    have t1 : (a == 0) = false := by simp [a0]
    rw [mulW_zero_r]
    go_enter Tryz.func110, Tryz.ntmps110
    go_wp2
    go_ret2
    exact prok rfl
  have t1 : (a == 0) = false := by simp [a0]
  have t2 : (b == 0) = false := by simp [b0]
  by_cases a1 : a = -1
  · subst a1
    rw [mulW_neg_l]
    generalize negW b = p at *
    go_enter Tryz.func110, Tryz.ntmps110
    go_wp2_with fail
    refine HNB.out.mono ?_
    rintro e w' ⟨rfl, rfl⟩
    obtain ⟨p, q⟩ := p
    unfold pairV
    go_wp2
    go_ret2
    exact prok rfl
  have t3 : (a == -1) = false := by simp [a1]
  by_cases b1 : b = -1
  · subst b1
    rw [mulW_neg_r]
    generalize negW a = p at *
    go_enter Tryz.func110, Tryz.ntmps110
    go_wp2_with fail
    refine HNA.out.mono ?_
    rintro e w' ⟨rfl, rfl⟩
    obtain ⟨p, q⟩ := p
    unfold pairV
    go_wp2
    go_ret2
    exact prok rfl
  have t4 : (b == -1) = false := by simp [b1]
  have HM := hid (mul_back HA.out HB.out a0 b0 b1)
  have hne : ¬ b = 0 := b0
  have hov : (wrap64 (a * b) == -9223372036854775808 && b == -1) = false := by simp [b1]
  clear a0 b0 a1 b1 HNA HNB HA HB
  cases t5 : (wrap64 ((wrap64 (a * b)).tdiv b) != a)
  all_goals
    go_enter Tryz.func110, Tryz.ntmps110
    go_wp2
    go_ret2
    have hm := HM.out
    simp only [bne_iff_ne, bne_eq_false_iff_eq] at t5
    refine prok ?_
    unfold mulW
    first | (exact fit_wrap (hm.1 t5)) | (refine fit_out ?_; have hn : ¬ I64 (a * b) := fun h => t5 (hm.2 h); unfold I64 at hn; omega)

/-- What the document's Do answers. -/
def doW (kd a b : Int) : Int × Int := if kd = 5 then negW a else if kd = 6 then addW a b else if kd = 7 then subW a b else if kd = 8 then mulW a b else if kd = 9 then divW a b else remW a b
theorem r7do_5 (a b : Int) (w : World) (ha : I64 a) (hb : I64 b) : Calls Tryz.prog 49 #[.int .i64 5, .int .i64 a, .int .i64 b] w (PairRes (negW a) w) := by
    have HC := hid (r7neg_any a w ha)
    generalize negW a = p at *
    clear ha hb
    go_enter Tryz.func49, Tryz.ntmps49
    go_wp2_with fail
    refine HC.out.mono ?_
    rintro e w' ⟨rfl, rfl⟩
    obtain ⟨p, q⟩ := p
    unfold pairV
    go_wp2
    go_ret2
    exact prok rfl
theorem r7do_6 (a b : Int) (w : World) (ha : I64 a) (hb : I64 b) : Calls Tryz.prog 49 #[.int .i64 6, .int .i64 a, .int .i64 b] w (PairRes (addW a b) w) := by
    have HC := hid (r7add_any a b w ha hb)
    generalize addW a b = p at *
    clear ha hb
    go_enter Tryz.func49, Tryz.ntmps49
    go_wp2_with fail
    refine HC.out.mono ?_
    rintro e w' ⟨rfl, rfl⟩
    obtain ⟨p, q⟩ := p
    unfold pairV
    go_wp2
    go_ret2
    exact prok rfl
theorem r7do_7 (a b : Int) (w : World) (ha : I64 a) (hb : I64 b) : Calls Tryz.prog 49 #[.int .i64 7, .int .i64 a, .int .i64 b] w (PairRes (subW a b) w) := by
    have HC := hid (r7sub_any a b w ha hb)
    generalize subW a b = p at *
    clear ha hb
    go_enter Tryz.func49, Tryz.ntmps49
    go_wp2_with fail
    refine HC.out.mono ?_
    rintro e w' ⟨rfl, rfl⟩
    obtain ⟨p, q⟩ := p
    unfold pairV
    go_wp2
    go_ret2
    exact prok rfl
theorem r7do_8 (a b : Int) (w : World) (ha : I64 a) (hb : I64 b) : Calls Tryz.prog 49 #[.int .i64 8, .int .i64 a, .int .i64 b] w (PairRes (mulW a b) w) := by
    have HC := hid (r7mul_any a b w ha hb)
    generalize mulW a b = p at *
    clear ha hb
    go_enter Tryz.func49, Tryz.ntmps49
    go_wp2_with fail
    refine HC.out.mono ?_
    rintro e w' ⟨rfl, rfl⟩
    obtain ⟨p, q⟩ := p
    unfold pairV
    go_wp2
    go_ret2
    exact prok rfl
theorem r7do_9 (a b : Int) (w : World) (ha : I64 a) (hb : I64 b) : Calls Tryz.prog 49 #[.int .i64 9, .int .i64 a, .int .i64 b] w (PairRes (divW a b) w) := by
    have HC := hid (rdiv_any a b w ha hb)
    generalize divW a b = p at *
    clear ha hb
    go_enter Tryz.func49, Tryz.ntmps49
    go_wp2_with fail
    refine HC.out.mono ?_
    rintro e w' ⟨rfl, rfl⟩
    obtain ⟨p, q⟩ := p
    unfold pairV
    go_wp2
    go_ret2
    exact prok rfl
theorem r7do_o (kd a b : Int) (w : World) (ha : I64 a) (hb : I64 b) (h5 : kd ≠ 5) (h6 : kd ≠ 6) (h7 : kd ≠ 7) (h8 : kd ≠ 8) (h9 : kd ≠ 9) : Calls Tryz.prog 49 #[.int .i64 kd, .int .i64 a, .int .i64 b] w (PairRes (remW a b) w) := by
    have HC := hid (rrem_any a b w ha hb)
    generalize remW a b = p at *
    clear ha hb
    have t5 : (kd == 5) = false := by simp [h5]
    have t6 : (kd == 6) = false := by simp [h6]
    have t7 : (kd == 7) = false := by simp [h7]
    have t8 : (kd == 8) = false := by simp [h8]
    have t9 : (kd == 9) = false := by simp [h9]
    clear h5 h6 h7 h8 h9
    go_enter Tryz.func49, Tryz.ntmps49
    go_wp2_with fail
    refine HC.out.mono ?_
    rintro e w' ⟨rfl, rfl⟩
    obtain ⟨p, q⟩ := p
    unfold pairV
    go_wp2
    go_ret2
    exact prok rfl
theorem r7do_any (kd a b : Int) (w : World) (ha : I64 a) (hb : I64 b) : Calls Tryz.prog 49 #[.int .i64 kd, .int .i64 a, .int .i64 b] w (PairRes (doW kd a b) w) := by
  unfold doW
  split
  · rename_i h; subst h; exact r7do_5 a b w ha hb
  · split
    · rename_i h; subst h; exact r7do_6 a b w ha hb
    · split
      · rename_i h; subst h; exact r7do_7 a b w ha hb
      · split
        · rename_i h; subst h; exact r7do_8 a b w ha hb
        · split
          · rename_i h; subst h; exact r7do_9 a b w ha hb
          · rename_i h5 h6 h7 h8 h9; exact r7do_o kd a b w ha hb h5 h6 h7 h8 h9
/-- gnomonref17.well -/
theorem r17well_any (kd a b : Int) (w : World) (ha : I64 a) (hb : I64 b) : Calls Tryz.prog 106 #[.int .i64 kd, .int .i64 a, .int .i64 b] w (BoolRes (decide ((doW kd a b).2 = 0)) w) := by
  have HC := hid (r7do_any kd a b w ha hb)
  generalize doW kd a b = p at *
  clear ha hb
  obtain ⟨p, q⟩ := p
  dsimp only
  cases t : decide (q = 0)
  all_goals
    go_enter Tryz.func106, Tryz.ntmps106
    go_wp2_with fail
    refine HC.out.mono ?_
    rintro e w' ⟨rfl, rfl⟩
    unfold pairV
    go_wp2
    go_ret
    exact ⟨by rw [← t]; rfl, rfl⟩
end
end Go.Proofs.YtnmpgijiimglcaaGreat
