import Derived.Test.YtnmpgijiimglcaaGreatBSo33
import Derived.Test.YtnmpgijiimglcaaGreatBSo31
import Derived.Test.YtnmpgijiimglcaaGreatBSo20
import Derived.Test.YtnmpgijiimglcaaGreatBSo18
import Derived.Test.YtnmpgijiimglcaaGreatBSo19
import Derived.Test.YtnmpgijiimglcaaGreatBSo30
namespace Go.Proofs.YtnmpgijiimglcaaGreat
section
open Go.RowKit
set_option maxRecDepth 100000
set_option maxHeartbeats 8000000
attribute [local go_sem ↓] Go.wp_at_zero Go.wp_at_succ
def placeB (r : Rg) (sz : Int) : Bool := ((r.hl && r.hh) && decide (0 ≤ r.lo)) && decide (r.hi < sz)
theorem whole_ok (r : Rg) (w : World) : Calls Tryz.prog 91 #[r.val] w fun e w' => e = .returned (.bool (r.hl && r.hh)) ∧ Below w.heap.size w w' := by
 obtain ⟨lo, hi, hl, hh⟩ := r
 unfold Rg.val
 dsimp only
 obtain ⟨p0, hb0, -⟩ := new_one w #[lo, hi, hl, hh] 49
 obtain ⟨x0, x1, x2, x3, fx⟩ := rgbox p0
 cases hl <;> cases hh
 all_goals
  go_enter Tryz.func91, Tryz.ntmps91
  go_wp2
  go_ret
  exact ⟨rfl, hb0⟩
end
section
open Go.RowKit
set_option maxRecDepth 100000
set_option maxHeartbeats 8000000
attribute [local go_sem ↓] Go.wp_at_zero Go.wp_at_succ
theorem safefits_3 (r s : Rg) (_ir : I64 (loR r) ∧ I64 (hiR r)) (_is_ : I64 (loR s) ∧ I64 (hiR s)) (w : World) :
  Calls Tryz.prog 46 #[.int .i64 3, r.val, s.val] w fun e w' => e = .returned (.bool (!(decide (hiR r < loR r) || decide (hiR s < loR s)) && decide (-9223372036854775808 < loR r))) ∧ Below w.heap.size w w' := by
 have H1 := hid (fun W => sends_ok r W)
 have H2 := hid (fun W => sends_ok s W)
 rw [Rg.val_eq] at H1 H2
 rw [Rg.val_eq, Rg.val_eq]
 generalize loR r = a at *
 generalize hiR r = b at *
 generalize loR s = c at *
 generalize hiR s = d at *
 obtain ⟨R, hR⟩ : ∃ R, R = (!(decide (b < a) || decide (d < c)) && decide (-9223372036854775808 < a)) := ⟨_, rfl⟩
 rw [← hR]
 have HR := hid hR
 clear hR
 obtain ⟨p0, p1, a0, a5⟩ := new_two w #[r.lo, r.hi, r.hl, r.hh] #[s.lo, s.hi, s.hl, s.hh] 49 49
 clear a5
 go_enter Tryz.func46, Tryz.ntmps46
 go_upto_region 1 with fail
 generalize (w.alloc (Obj.cells #[r.lo, r.hi, r.hl, r.hh] 49)).alloc (Obj.cells #[s.lo, s.hi, s.hl, s.hh] 49) = w1 at *
 have f0 := laterE (show w1.cell? ⟨w.heap.size, 0, none⟩ = some (.int .i64 r.lo) from p0.cell 0)
 have f1 := laterE (show w1.cell? ⟨w.heap.size, 1, none⟩ = some (.int .i64 r.hi) from p0.cell 1)
 have f2 := laterE (show w1.cell? ⟨w.heap.size, 2, none⟩ = some (.bool r.hl) from p0.cell 2)
 have f3 := laterE (show w1.cell? ⟨w.heap.size, 3, none⟩ = some (.bool r.hh) from p0.cell 3)
 have j0 := laterE (show w1.cell? ⟨w.heap.size + 1, 0, none⟩ = some (.int .i64 s.lo) from p1.cell 0)
 have j1 := laterE (show w1.cell? ⟨w.heap.size + 1, 1, none⟩ = some (.int .i64 s.hi) from p1.cell 1)
 have j2 := laterE (show w1.cell? ⟨w.heap.size + 1, 2, none⟩ = some (.bool s.hl) from p1.cell 2)
 have j3 := laterE (show w1.cell? ⟨w.heap.size + 1, 3, none⟩ = some (.bool s.hh) from p1.cell 3)
 refine wp_region_flowE 6 [Sp.val (.agg #[r.lo, r.hi, r.hl, r.hh]), Sp.val (.agg #[a, b]), Sp.val (.agg #[s.lo, s.hi, s.hl, s.hh]), Sp.val (.agg #[c, d]), Sp.any (IsBox 135 #[.int .i64 0, .int .i64 0]), Sp.any (IsBox 135 #[.int .i64 0, .int .i64 0])] (by kernel_rfl) (by kernel_rfl) ?_
 (refine fe_t (fun _ _ => ?_))
 refine FlowE.callFV (by rfl) (fun W hW hf => ⟨99, #[.agg #[r.lo, r.hi, r.hl, r.hh]], by go_simp, H1.out W⟩) (fun _ _ => ?_)
 refine fe_p ?_
 (refine fe_t (fun _ _ => ?_))
 refine FlowE.callFV (by rfl) (fun W hW hf => ⟨99, #[.agg #[s.lo, s.hi, s.hl, s.hh]], by go_simp, H2.out W⟩) (fun _ _ => ?_)
 refine fe_p ?_
 refine FlowE.step (by rfl) (fun W hW K hK => ?_) (fun v4 l4 h4 => ?_)
 ·go_simp
  exact hK _ _ (new1 _ _) ⟨rfl, Blk.new _ _ _, by simp⟩
 refine fe_p ?_
 refine FlowE.step (by rfl) (fun W hW K hK => ?_) (fun v5 l5 h5 => ?_)
 ·go_simp
  exact hK _ _ (new1 _ _) ⟨rfl, Blk.new _ _ _, by simp⟩
 refine fe_p ?_
 refine FlowE.tail (fun W hW hf hd => ?_)
 replace hW : Below w1.heap.size w1 W := Ext.trans (Below.refl _ _).drew hW
 obtain ⟨g4, rfl, k4, lo4, e4, e4'⟩ := fact_box (show Sp.fact w1.drew (Sp.any (IsBox 135 #[.int .i64 0, .int .i64 0])) v4 l4 h4 W from hf 4)
 obtain ⟨g5, rfl, k5, lo5, e5, e5'⟩ := fact_box (show Sp.fact w1.drew (Sp.any (IsBox 135 #[.int .i64 0, .int .i64 0])) v5 l5 h5 W from hf 5)
 have dd : h4 ≤ l5 ∨ h5 ≤ l4 := hd 4 5 (by decide)
 have a3 : g4 ≠ g5 := by omega
 clear hf hd f0 f1 f2 f3 j0 j1 j2 j3 H1 H2 e4 e4' e5 e5' dd p0 p1
 have hww := a0.size
 replace a0 := bup a0 hW
 have q4 := (k4.set2 (v0 := .int .i64 a) (v1 := .int .i64 b)).far2 (g := g5) (v0 := .int .i64 c) (v1 := .int .i64 d) (Ne.symm a3)
 have q5 := (k5.far2 (g := g4) (v0 := .int .i64 a) (v1 := .int .i64 b) a3).set2 (v0 := .int .i64 c) (v1 := .int .i64 d)
 have a6 : w1.heap.size ≤ g4 := lo4
 have a4 : w1.heap.size ≤ g5 := lo5
 have a2 := a0.trans (below2 (W := W) (g := g4) (v0 := .int .i64 a) (v1 := .int .i64 b) (by omega) a0.size)
 have a1 := a2.trans (below2 (g := g5) (v0 := .int .i64 c) (v1 := .int .i64 d) (by omega) a2.size)
 clear a2 a6 a4 lo4 lo5 hW
 obtain ⟨x0, x1, fx⟩ := opbox k4
 obtain ⟨y0, y1, fy⟩ := opbox k5
 cases t1 : decide (b < a) with
 | true =>
  have HE : Hid (R = false) := hid (by rw [HR.out, t1]; rfl)
  go_wp2; go_ret; exact ⟨by rw [HE.out]; rfl, a1⟩
 | false =>
  cases t2 : decide (d < c) with
  | true =>
   have HE : Hid (R = false) := hid (by rw [HR.out, t1, t2]; rfl)
   go_wp2; go_ret; exact ⟨by rw [HE.out]; rfl, a1⟩
  | false =>
   have HE : Hid (R = decide (-9223372036854775808 < a)) := hid (by rw [HR.out, t1, t2]; rfl)
   go_wp2; go_ret; exact ⟨by rw [HE.out]; rfl, a1⟩
theorem safefits_o (kd : Int) (h3 : kd ≠ 3) (h4 : kd ≠ 4) (h5 : kd ≠ 5) (h6 : kd ≠ 6) (h7 : kd ≠ 7) (h8 : kd ≠ 8) (r s : Rg) (_ir : I64 (loR r) ∧ I64 (hiR r)) (_is_ : I64 (loR s) ∧ I64 (hiR s)) (w : World) :
  Calls Tryz.prog 46 #[kd, r.val, s.val] w fun e w' => e = .returned (.bool (!(decide (hiR r < loR r) || decide (hiR s < loR s)) && false)) ∧ Below w.heap.size w w' := by
 have t3' : (kd == 3) = false := by simp [h3]
 have t4' : (kd == 4) = false := by simp [h4]
 have t5' : (kd == 5) = false := by simp [h5]
 have t6' : (kd == 6) = false := by simp [h6]
 have t7' : (kd == 7) = false := by simp [h7]
 have t8' : (kd == 8) = false := by simp [h8]
 clear h3 h4 h5 h6 h7 h8
 have H1 := hid (fun W => sends_ok r W)
 have H2 := hid (fun W => sends_ok s W)
 rw [Rg.val_eq] at H1 H2
 rw [Rg.val_eq, Rg.val_eq]
 generalize loR r = a at *
 generalize hiR r = b at *
 generalize loR s = c at *
 generalize hiR s = d at *
 obtain ⟨R, hR⟩ : ∃ R, R = (!(decide (b < a) || decide (d < c)) && false) := ⟨_, rfl⟩
 rw [← hR]
 have HR := hid hR
 clear hR
 obtain ⟨p0, p1, a0, a5⟩ := new_two w #[r.lo, r.hi, r.hl, r.hh] #[s.lo, s.hi, s.hl, s.hh] 49 49
 clear a5
 go_enter Tryz.func46, Tryz.ntmps46
 go_upto_region 1 with fail
 generalize (w.alloc (Obj.cells #[r.lo, r.hi, r.hl, r.hh] 49)).alloc (Obj.cells #[s.lo, s.hi, s.hl, s.hh] 49) = w1 at *
 have f0 := laterE (show w1.cell? ⟨w.heap.size, 0, none⟩ = some (.int .i64 r.lo) from p0.cell 0)
 have f1 := laterE (show w1.cell? ⟨w.heap.size, 1, none⟩ = some (.int .i64 r.hi) from p0.cell 1)
 have f2 := laterE (show w1.cell? ⟨w.heap.size, 2, none⟩ = some (.bool r.hl) from p0.cell 2)
 have f3 := laterE (show w1.cell? ⟨w.heap.size, 3, none⟩ = some (.bool r.hh) from p0.cell 3)
 have j0 := laterE (show w1.cell? ⟨w.heap.size + 1, 0, none⟩ = some (.int .i64 s.lo) from p1.cell 0)
 have j1 := laterE (show w1.cell? ⟨w.heap.size + 1, 1, none⟩ = some (.int .i64 s.hi) from p1.cell 1)
 have j2 := laterE (show w1.cell? ⟨w.heap.size + 1, 2, none⟩ = some (.bool s.hl) from p1.cell 2)
 have j3 := laterE (show w1.cell? ⟨w.heap.size + 1, 3, none⟩ = some (.bool s.hh) from p1.cell 3)
 refine wp_region_flowE 6 [Sp.val (.agg #[r.lo, r.hi, r.hl, r.hh]), Sp.val (.agg #[a, b]), Sp.val (.agg #[s.lo, s.hi, s.hl, s.hh]), Sp.val (.agg #[c, d]), Sp.any (IsBox 135 #[.int .i64 0, .int .i64 0]), Sp.any (IsBox 135 #[.int .i64 0, .int .i64 0])] (by kernel_rfl) (by kernel_rfl) ?_
 (refine fe_t (fun _ _ => ?_))
 refine FlowE.callFV (by rfl) (fun W hW hf => ⟨99, #[.agg #[r.lo, r.hi, r.hl, r.hh]], by go_simp, H1.out W⟩) (fun _ _ => ?_)
 refine fe_p ?_
 (refine fe_t (fun _ _ => ?_))
 refine FlowE.callFV (by rfl) (fun W hW hf => ⟨99, #[.agg #[s.lo, s.hi, s.hl, s.hh]], by go_simp, H2.out W⟩) (fun _ _ => ?_)
 refine fe_p ?_
 refine FlowE.step (by rfl) (fun W hW K hK => ?_) (fun v4 l4 h4 => ?_)
 ·go_simp
  exact hK _ _ (new1 _ _) ⟨rfl, Blk.new _ _ _, by simp⟩
 refine fe_p ?_
 refine FlowE.step (by rfl) (fun W hW K hK => ?_) (fun v5 l5 h5 => ?_)
 ·go_simp
  exact hK _ _ (new1 _ _) ⟨rfl, Blk.new _ _ _, by simp⟩
 refine fe_p ?_
 refine FlowE.tail (fun W hW hf hd => ?_)
 replace hW : Below w1.heap.size w1 W := Ext.trans (Below.refl _ _).drew hW
 obtain ⟨g4, rfl, k4, lo4, e4, e4'⟩ := fact_box (show Sp.fact w1.drew (Sp.any (IsBox 135 #[.int .i64 0, .int .i64 0])) v4 l4 h4 W from hf 4)
 obtain ⟨g5, rfl, k5, lo5, e5, e5'⟩ := fact_box (show Sp.fact w1.drew (Sp.any (IsBox 135 #[.int .i64 0, .int .i64 0])) v5 l5 h5 W from hf 5)
 have dd : h4 ≤ l5 ∨ h5 ≤ l4 := hd 4 5 (by decide)
 have a3 : g4 ≠ g5 := by omega
 clear hf hd f0 f1 f2 f3 j0 j1 j2 j3 H1 H2 e4 e4' e5 e5' dd p0 p1
 have hww := a0.size
 replace a0 := bup a0 hW
 have q4 := (k4.set2 (v0 := .int .i64 a) (v1 := .int .i64 b)).far2 (g := g5) (v0 := .int .i64 c) (v1 := .int .i64 d) (Ne.symm a3)
 have q5 := (k5.far2 (g := g4) (v0 := .int .i64 a) (v1 := .int .i64 b) a3).set2 (v0 := .int .i64 c) (v1 := .int .i64 d)
 have a6 : w1.heap.size ≤ g4 := lo4
 have a4 : w1.heap.size ≤ g5 := lo5
 have a2 := a0.trans (below2 (W := W) (g := g4) (v0 := .int .i64 a) (v1 := .int .i64 b) (by omega) a0.size)
 have a1 := a2.trans (below2 (g := g5) (v0 := .int .i64 c) (v1 := .int .i64 d) (by omega) a2.size)
 clear a2 a6 a4 lo4 lo5 hW
 obtain ⟨x0, x1, fx⟩ := opbox k4
 obtain ⟨y0, y1, fy⟩ := opbox k5
 cases t1 : decide (b < a) with
 | true =>
  have HE : Hid (R = false) := hid (by rw [HR.out, t1]; rfl)
  go_wp2; go_ret; exact ⟨by rw [HE.out]; rfl, a1⟩
 | false =>
  cases t2 : decide (d < c) with
  | true =>
   have HE : Hid (R = false) := hid (by rw [HR.out, t1, t2]; rfl)
   go_wp2; go_ret; exact ⟨by rw [HE.out]; rfl, a1⟩
  | false =>
   have HE : Hid (R = false) := hid (by rw [HR.out, t1, t2]; rfl)
   go_wp2; go_ret; exact ⟨by rw [HE.out]; rfl, a1⟩
end
section
open Go.RowKit
set_option maxRecDepth 100000
set_option maxHeartbeats 8000000
attribute [local go_sem ↓] Go.wp_at_zero Go.wp_at_succ
theorem safefits_6 (r s : Rg) (ir : I64 (loR r) ∧ I64 (hiR r)) (is_ : I64 (loR s) ∧ I64 (hiR s)) (w : World) :
  Calls Tryz.prog 46 #[.int .i64 6, r.val, s.val] w fun e w' => e = .returned (.bool (!(decide (hiR r < loR r) || decide (hiR s < loR s)) && (((decide ((mulW (loR r) (loR s)).2 = 0) && decide ((mulW (loR r) (hiR s)).2 = 0)) && decide ((mulW (hiR r) (loR s)).2 = 0)) && decide ((mulW (hiR r) (hiR s)).2 = 0)))) ∧ Below w.heap.size w w' := by
 have H1 := hid (fun W => sends_ok r W)
 have H2 := hid (fun W => sends_ok s W)
 rw [Rg.val_eq] at H1 H2
 rw [Rg.val_eq, Rg.val_eq]
 generalize loR r = a at *
 generalize hiR r = b at *
 generalize loR s = c at *
 generalize hiR s = d at *
 have T1 := hid (fun W => stimes_ok a c ir.1 is_.1 W)
 have T2 := hid (fun W => stimes_ok a d ir.1 is_.2 W)
 have T3 := hid (fun W => stimes_ok b c ir.2 is_.1 W)
 have T4 := hid (fun W => stimes_ok b d ir.2 is_.2 W)
 generalize decide ((mulW a c).2 = 0) = z1 at *
 generalize decide ((mulW a d).2 = 0) = z2 at *
 generalize decide ((mulW b c).2 = 0) = z3 at *
 generalize decide ((mulW b d).2 = 0) = z4 at *
 obtain ⟨R, hR⟩ : ∃ R, R = (!(decide (b < a) || decide (d < c)) && (((z1 && z2) && z3) && z4)) := ⟨_, rfl⟩
 rw [← hR]
 have HR := hid hR
 clear hR
 obtain ⟨p0, p1, a1, hsz⟩ := new_two w #[r.lo, r.hi, r.hl, r.hh] #[s.lo, s.hi, s.hl, s.hh] 49 49
 clear hsz
 go_enter Tryz.func46, Tryz.ntmps46
 go_upto_region 1 with fail
 generalize (w.alloc (Obj.cells #[r.lo, r.hi, r.hl, r.hh] 49)).alloc (Obj.cells #[s.lo, s.hi, s.hl, s.hh] 49) = w1 at *
 have f0 := laterE (show w1.cell? ⟨w.heap.size, 0, none⟩ = some (.int .i64 r.lo) from p0.cell 0)
 have f1 := laterE (show w1.cell? ⟨w.heap.size, 1, none⟩ = some (.int .i64 r.hi) from p0.cell 1)
 have f2 := laterE (show w1.cell? ⟨w.heap.size, 2, none⟩ = some (.bool r.hl) from p0.cell 2)
 have f3 := laterE (show w1.cell? ⟨w.heap.size, 3, none⟩ = some (.bool r.hh) from p0.cell 3)
 have j0 := laterE (show w1.cell? ⟨w.heap.size + 1, 0, none⟩ = some (.int .i64 s.lo) from p1.cell 0)
 have j1 := laterE (show w1.cell? ⟨w.heap.size + 1, 1, none⟩ = some (.int .i64 s.hi) from p1.cell 1)
 have j2 := laterE (show w1.cell? ⟨w.heap.size + 1, 2, none⟩ = some (.bool s.hl) from p1.cell 2)
 have j3 := laterE (show w1.cell? ⟨w.heap.size + 1, 3, none⟩ = some (.bool s.hh) from p1.cell 3)
 refine wp_region_flowE 6 [Sp.val (.agg #[r.lo, r.hi, r.hl, r.hh]), Sp.val (.agg #[a, b]), Sp.val (.agg #[s.lo, s.hi, s.hl, s.hh]), Sp.val (.agg #[c, d]), Sp.any (IsBox 135 #[.int .i64 0, .int .i64 0]), Sp.any (IsBox 135 #[.int .i64 0, .int .i64 0])] (by kernel_rfl) (by kernel_rfl) ?_
 (refine fe_t (fun _ _ => ?_))
 refine FlowE.callFV (by rfl) (fun W hW hf => ⟨99, #[.agg #[r.lo, r.hi, r.hl, r.hh]], by go_simp, H1.out W⟩) (fun _ _ => ?_)
 refine fe_p ?_
 (refine fe_t (fun _ _ => ?_))
 refine FlowE.callFV (by rfl) (fun W hW hf => ⟨99, #[.agg #[s.lo, s.hi, s.hl, s.hh]], by go_simp, H2.out W⟩) (fun _ _ => ?_)
 refine fe_p ?_
 refine FlowE.step (by rfl) (fun W hW K hK => ?_) (fun v4 l4 h4 => ?_)
 ·go_simp
  exact hK _ _ (new1 _ _) ⟨rfl, Blk.new _ _ _, by simp⟩
 refine fe_p ?_
 refine FlowE.step (by rfl) (fun W hW K hK => ?_) (fun v5 l5 h5 => ?_)
 ·go_simp
  exact hK _ _ (new1 _ _) ⟨rfl, Blk.new _ _ _, by simp⟩
 refine fe_p ?_
 refine FlowE.tail (fun W hW hf hd => ?_)
 replace hW : Below w1.heap.size w1 W := Ext.trans (Below.refl _ _).drew hW
 obtain ⟨g4, rfl, k4, lo4, e4, e4'⟩ := fact_box (show Sp.fact w1.drew (Sp.any (IsBox 135 #[.int .i64 0, .int .i64 0])) v4 l4 h4 W from hf 4)
 obtain ⟨g5, rfl, k5, lo5, e5, e5'⟩ := fact_box (show Sp.fact w1.drew (Sp.any (IsBox 135 #[.int .i64 0, .int .i64 0])) v5 l5 h5 W from hf 5)
 have dd : h4 ≤ l5 ∨ h5 ≤ l4 := hd 4 5 (by decide)
 have hne : g4 ≠ g5 := by omega
 clear hf hd f0 f1 f2 f3 j0 j1 j2 j3 H1 H2 e4 e4' e5 e5' dd p0 p1
 have hww := a1.size
 replace a1 := bup a1 hW
 have q4 := (k4.set2 (v0 := .int .i64 a) (v1 := .int .i64 b)).far2 (g := g5) (v0 := .int .i64 c) (v1 := .int .i64 d) (Ne.symm hne)
 have q5 := (k5.far2 (g := g4) (v0 := .int .i64 a) (v1 := .int .i64 b) hne).set2 (v0 := .int .i64 c) (v1 := .int .i64 d)
 have hs4 : w1.heap.size ≤ g4 := lo4
 have hs5 : w1.heap.size ≤ g5 := lo5
 have a2 := a1.trans (below2 (W := W) (g := g4) (v0 := .int .i64 a) (v1 := .int .i64 b) (by omega) a1.size)
 have a0 := a2.trans (below2 (g := g5) (v0 := .int .i64 c) (v1 := .int .i64 d) (by omega) a2.size)
 clear a2 hs4 hs5 lo4 lo5 hW
 obtain ⟨x0, x1, fx⟩ := opbox k4
 obtain ⟨y0, y1, fy⟩ := opbox k5
 cases t1 : decide (b < a) with
 | true =>
  have HE : Hid (R = false) := hid (by rw [HR.out, t1]; rfl)
  go_wp2; go_ret; exact ⟨by rw [HE.out]; rfl, a0⟩
 | false =>
  cases t2 : decide (d < c) with
  | true =>
   have HE : Hid (R = false) := hid (by rw [HR.out, t1, t2]; rfl)
   go_wp2; go_ret; exact ⟨by rw [HE.out]; rfl, a0⟩
  | false =>
   have HE : Hid (R = (((z1 && z2) && z3) && z4)) := hid (by rw [HR.out, t1, t2]; rfl)
   go_wp2_with fail
   clear x0 x1 fx y0 y1 fy k4 k5 a1
   have hsz5 : ((((W.setCell ⟨g4, 0, none⟩ (.int .i64 a)).setCell ⟨g4, 1, none⟩ (.int .i64 b)).setCell ⟨g5, 0, none⟩ (.int .i64 c)).setCell ⟨g5, 1, none⟩ (.int .i64 d)).heap.size = W.heap.size := by simp
   generalize (((W.setCell ⟨g4, 0, none⟩ (.int .i64 a)).setCell ⟨g4, 1, none⟩ (.int .i64 b)).setCell ⟨g5, 0, none⟩ (.int .i64 c)).setCell ⟨g5, 1, none⟩ (.int .i64 d) = w5 at *
   (with_reducible refine (T1.out _).mono ?_)
   rintro e1 u1 ⟨rfl, rfl⟩
   clear T1
   cases z1 with
   | false => go_wp2; go_ret; exact ⟨by rw [HE.out]; rfl, a0⟩
   | true =>
    obtain ⟨x0, x1, fx⟩ := opbox q4
    obtain ⟨y0, y1, fy⟩ := opbox q5
    go_wp2_with fail
    clear x0 x1 fx y0 y1 fy
    (with_reducible refine (T2.out _).mono ?_)
    rintro e2 u2 ⟨rfl, rfl⟩
    clear T2
    cases z2 with
    | false => go_wp2; go_ret; exact ⟨by rw [HE.out]; rfl, a0⟩
    | true =>
     obtain ⟨x0, x1, fx⟩ := opbox q4
     obtain ⟨y0, y1, fy⟩ := opbox q5
     go_wp2_with fail
     clear x0 x1 fx y0 y1 fy
     (with_reducible refine (T3.out _).mono ?_)
     rintro e3 u3 ⟨rfl, rfl⟩
     clear T3
     cases z3 with
     | false => go_wp2; go_ret; exact ⟨by rw [HE.out]; rfl, a0⟩
     | true =>
      obtain ⟨x0, x1, fx⟩ := opbox q4
      obtain ⟨y0, y1, fy⟩ := opbox q5
      go_wp2_with fail
      clear x0 x1 fx y0 y1 fy
      (with_reducible refine (T4.out _).mono ?_)
      rintro e4 u4 ⟨rfl, rfl⟩
      clear T4
      go_wp2; go_ret; exact ⟨by rw [HE.out]; rfl, a0⟩
end
section
open Go.RowKit
set_option maxRecDepth 100000
set_option maxHeartbeats 8000000
attribute [local go_sem ↓] Go.wp_at_zero Go.wp_at_succ
theorem safefits_7 (r s : Rg) (_ir : I64 (loR r) ∧ I64 (hiR r)) (_is_ : I64 (loR s) ∧ I64 (hiR s)) (w : World) :
  Calls Tryz.prog 46 #[.int .i64 7, r.val, s.val] w fun e w' => e = .returned (.bool (!(decide (hiR r < loR r) || decide (hiR s < loR s)) && (!(decide (loR s ≤ 0) && decide (0 ≤ hiR s)) && !((loR r == -9223372036854775808) && (decide (loR s ≤ -1) && decide (-1 ≤ hiR s)))))) ∧ Below w.heap.size w w' := by
 have H1 := hid (fun W => sends_ok r W)
 have H2 := hid (fun W => sends_ok s W)
 rw [Rg.val_eq] at H1 H2
 rw [Rg.val_eq, Rg.val_eq]
 generalize loR r = a at *
 generalize hiR r = b at *
 generalize loR s = c at *
 generalize hiR s = d at *
 have T1 := hid (fun W => shas_ok c d 0 W)
 have T2 := hid (fun W => shas_ok c d (-1) W)
 generalize (decide (c ≤ 0) && decide (0 ≤ d)) = z1 at *
 generalize (decide (c ≤ -1) && decide (-1 ≤ d)) = z3 at *
 obtain ⟨R, hR⟩ : ∃ R, R = (!(decide (b < a) || decide (d < c)) && (!z1 && !((a == -9223372036854775808) && z3))) := ⟨_, rfl⟩
 rw [← hR]
 have HR := hid hR
 clear hR
 obtain ⟨p0, p1, a1, a7⟩ := new_two w #[r.lo, r.hi, r.hl, r.hh] #[s.lo, s.hi, s.hl, s.hh] 49 49
 clear a7
 go_enter Tryz.func46, Tryz.ntmps46
 go_upto_region 1 with fail
 generalize (w.alloc (Obj.cells #[r.lo, r.hi, r.hl, r.hh] 49)).alloc (Obj.cells #[s.lo, s.hi, s.hl, s.hh] 49) = w1 at *
 have f0 := laterE (show w1.cell? ⟨w.heap.size, 0, none⟩ = some (.int .i64 r.lo) from p0.cell 0)
 have f1 := laterE (show w1.cell? ⟨w.heap.size, 1, none⟩ = some (.int .i64 r.hi) from p0.cell 1)
 have f2 := laterE (show w1.cell? ⟨w.heap.size, 2, none⟩ = some (.bool r.hl) from p0.cell 2)
 have f3 := laterE (show w1.cell? ⟨w.heap.size, 3, none⟩ = some (.bool r.hh) from p0.cell 3)
 have j0 := laterE (show w1.cell? ⟨w.heap.size + 1, 0, none⟩ = some (.int .i64 s.lo) from p1.cell 0)
 have j1 := laterE (show w1.cell? ⟨w.heap.size + 1, 1, none⟩ = some (.int .i64 s.hi) from p1.cell 1)
 have j2 := laterE (show w1.cell? ⟨w.heap.size + 1, 2, none⟩ = some (.bool s.hl) from p1.cell 2)
 have j3 := laterE (show w1.cell? ⟨w.heap.size + 1, 3, none⟩ = some (.bool s.hh) from p1.cell 3)
 refine wp_region_flowE 6 [Sp.val (.agg #[r.lo, r.hi, r.hl, r.hh]), Sp.val (.agg #[a, b]), Sp.val (.agg #[s.lo, s.hi, s.hl, s.hh]), Sp.val (.agg #[c, d]), Sp.any (IsBox 135 #[.int .i64 0, .int .i64 0]), Sp.any (IsBox 135 #[.int .i64 0, .int .i64 0])] (by kernel_rfl) (by kernel_rfl) ?_
 (refine fe_t (fun _ _ => ?_))
 refine FlowE.callFV (by rfl) (fun W hW hf => ⟨99, #[.agg #[r.lo, r.hi, r.hl, r.hh]], by go_simp, H1.out W⟩) (fun _ _ => ?_)
 refine fe_p ?_
 (refine fe_t (fun _ _ => ?_))
 refine FlowE.callFV (by rfl) (fun W hW hf => ⟨99, #[.agg #[s.lo, s.hi, s.hl, s.hh]], by go_simp, H2.out W⟩) (fun _ _ => ?_)
 refine fe_p ?_
 refine FlowE.step (by rfl) (fun W hW K hK => ?_) (fun v4 l4 h4 => ?_)
 ·go_simp
  exact hK _ _ (new1 _ _) ⟨rfl, Blk.new _ _ _, by simp⟩
 refine fe_p ?_
 refine FlowE.step (by rfl) (fun W hW K hK => ?_) (fun v5 l5 h5 => ?_)
 ·go_simp
  exact hK _ _ (new1 _ _) ⟨rfl, Blk.new _ _ _, by simp⟩
 refine fe_p ?_
 refine FlowE.tail (fun W hW hf hd => ?_)
 replace hW : Below w1.heap.size w1 W := Ext.trans (Below.refl _ _).drew hW
 obtain ⟨g4, rfl, k4, lo4, e4, e4'⟩ := fact_box (show Sp.fact w1.drew (Sp.any (IsBox 135 #[.int .i64 0, .int .i64 0])) v4 l4 h4 W from hf 4)
 obtain ⟨g5, rfl, k5, lo5, e5, e5'⟩ := fact_box (show Sp.fact w1.drew (Sp.any (IsBox 135 #[.int .i64 0, .int .i64 0])) v5 l5 h5 W from hf 5)
 have dd : h4 ≤ l5 ∨ h5 ≤ l4 := hd 4 5 (by decide)
 have a4 : g4 ≠ g5 := by omega
 clear hf hd f0 f1 f2 f3 j0 j1 j2 j3 H1 H2 e4 e4' e5 e5' dd p0 p1
 have hww := a1.size
 replace a1 := bup a1 hW
 have q4 := (k4.set2 (v0 := .int .i64 a) (v1 := .int .i64 b)).far2 (g := g5) (v0 := .int .i64 c) (v1 := .int .i64 d) (Ne.symm a4)
 have q5 := (k5.far2 (g := g4) (v0 := .int .i64 a) (v1 := .int .i64 b) a4).set2 (v0 := .int .i64 c) (v1 := .int .i64 d)
 have a8 : w1.heap.size ≤ g4 := lo4
 have a5 : w1.heap.size ≤ g5 := lo5
 have a3 := a1.trans (below2 (W := W) (g := g4) (v0 := .int .i64 a) (v1 := .int .i64 b) (by omega) a1.size)
 have a0 := a3.trans (below2 (g := g5) (v0 := .int .i64 c) (v1 := .int .i64 d) (by omega) a3.size)
 clear a3 a8 a5 lo4 lo5 hW
 obtain ⟨x0, x1, fx⟩ := opbox k4
 obtain ⟨y0, y1, fy⟩ := opbox k5
 cases t1 : decide (b < a) with
 | true =>
  have HE : Hid (R = false) := hid (by rw [HR.out, t1]; rfl)
  go_wp2; go_ret; exact ⟨by rw [HE.out]; rfl, a0⟩
 | false =>
  cases t2 : decide (d < c) with
  | true =>
   have HE : Hid (R = false) := hid (by rw [HR.out, t1, t2]; rfl)
   go_wp2; go_ret; exact ⟨by rw [HE.out]; rfl, a0⟩
  | false =>
   have HE : Hid (R = (!z1 && !((a == -9223372036854775808) && z3))) := hid (by rw [HR.out, t1, t2]; rfl)
   go_wp2_with fail
   clear x0 x1 fx y0 y1 fy k4 k5 a1
   have a6 : ((((W.setCell ⟨g4, 0, none⟩ (.int .i64 a)).setCell ⟨g4, 1, none⟩ (.int .i64 b)).setCell ⟨g5, 0, none⟩ (.int .i64 c)).setCell ⟨g5, 1, none⟩ (.int .i64 d)).heap.size = W.heap.size := by simp
   generalize (((W.setCell ⟨g4, 0, none⟩ (.int .i64 a)).setCell ⟨g4, 1, none⟩ (.int .i64 b)).setCell ⟨g5, 0, none⟩ (.int .i64 c)).setCell ⟨g5, 1, none⟩ (.int .i64 d) = w5 at *
   (with_reducible refine (T1.out _).mono ?_)
   rintro e6 w6 ⟨rfl, a2⟩
   replace q4 := q4.later a2
   replace q5 := q5.later a2
   replace a0 := bup a0 a2
   clear a2 T1
   cases z1 with
   | true => go_wp2; go_ret; exact ⟨by rw [HE.out]; rfl, a0⟩
   | false =>
    obtain ⟨x0, x1, fx⟩ := opbox q4
    obtain ⟨y0, y1, fy⟩ := opbox q5
    cases t9 : (a == -9223372036854775808) with
    | false => go_wp2; go_ret; exact ⟨by rw [HE.out, t9]; rfl, a0⟩
    | true =>
     go_wp2_with fail
     (with_reducible refine (T2.out _).mono ?_)
     rintro e7 w7 ⟨rfl, a9⟩
     go_wp2; go_ret; exact ⟨by rw [HE.out, t9]; first | rfl | simp, bup a0 a9⟩
theorem safefits_8 (r s : Rg) (_ir : I64 (loR r) ∧ I64 (hiR r)) (_is_ : I64 (loR s) ∧ I64 (hiR s)) (w : World) :
  Calls Tryz.prog 46 #[.int .i64 8, r.val, s.val] w fun e w' => e = .returned (.bool (!(decide (hiR r < loR r) || decide (hiR s < loR s)) && (!(decide (loR s ≤ 0) && decide (0 ≤ hiR s)) && !((loR r == -9223372036854775808) && (decide (loR s ≤ -1) && decide (-1 ≤ hiR s)))))) ∧ Below w.heap.size w w' := by
 have H1 := hid (fun W => sends_ok r W)
 have H2 := hid (fun W => sends_ok s W)
 rw [Rg.val_eq] at H1 H2
 rw [Rg.val_eq, Rg.val_eq]
 generalize loR r = a at *
 generalize hiR r = b at *
 generalize loR s = c at *
 generalize hiR s = d at *
 have T1 := hid (fun W => shas_ok c d 0 W)
 have T2 := hid (fun W => shas_ok c d (-1) W)
 generalize (decide (c ≤ 0) && decide (0 ≤ d)) = z1 at *
 generalize (decide (c ≤ -1) && decide (-1 ≤ d)) = z3 at *
 obtain ⟨R, hR⟩ : ∃ R, R = (!(decide (b < a) || decide (d < c)) && (!z1 && !((a == -9223372036854775808) && z3))) := ⟨_, rfl⟩
 rw [← hR]
 have HR := hid hR
 clear hR
 obtain ⟨p0, p1, a1, a7⟩ := new_two w #[r.lo, r.hi, r.hl, r.hh] #[s.lo, s.hi, s.hl, s.hh] 49 49
 clear a7
 go_enter Tryz.func46, Tryz.ntmps46
 go_upto_region 1 with fail
 generalize (w.alloc (Obj.cells #[r.lo, r.hi, r.hl, r.hh] 49)).alloc (Obj.cells #[s.lo, s.hi, s.hl, s.hh] 49) = w1 at *
 have f0 := laterE (show w1.cell? ⟨w.heap.size, 0, none⟩ = some (.int .i64 r.lo) from p0.cell 0)
 have f1 := laterE (show w1.cell? ⟨w.heap.size, 1, none⟩ = some (.int .i64 r.hi) from p0.cell 1)
 have f2 := laterE (show w1.cell? ⟨w.heap.size, 2, none⟩ = some (.bool r.hl) from p0.cell 2)
 have f3 := laterE (show w1.cell? ⟨w.heap.size, 3, none⟩ = some (.bool r.hh) from p0.cell 3)
 have j0 := laterE (show w1.cell? ⟨w.heap.size + 1, 0, none⟩ = some (.int .i64 s.lo) from p1.cell 0)
 have j1 := laterE (show w1.cell? ⟨w.heap.size + 1, 1, none⟩ = some (.int .i64 s.hi) from p1.cell 1)
 have j2 := laterE (show w1.cell? ⟨w.heap.size + 1, 2, none⟩ = some (.bool s.hl) from p1.cell 2)
 have j3 := laterE (show w1.cell? ⟨w.heap.size + 1, 3, none⟩ = some (.bool s.hh) from p1.cell 3)
 refine wp_region_flowE 6 [Sp.val (.agg #[r.lo, r.hi, r.hl, r.hh]), Sp.val (.agg #[a, b]), Sp.val (.agg #[s.lo, s.hi, s.hl, s.hh]), Sp.val (.agg #[c, d]), Sp.any (IsBox 135 #[.int .i64 0, .int .i64 0]), Sp.any (IsBox 135 #[.int .i64 0, .int .i64 0])] (by kernel_rfl) (by kernel_rfl) ?_
 (refine fe_t (fun _ _ => ?_))
 refine FlowE.callFV (by rfl) (fun W hW hf => ⟨99, #[.agg #[r.lo, r.hi, r.hl, r.hh]], by go_simp, H1.out W⟩) (fun _ _ => ?_)
 refine fe_p ?_
 (refine fe_t (fun _ _ => ?_))
 refine FlowE.callFV (by rfl) (fun W hW hf => ⟨99, #[.agg #[s.lo, s.hi, s.hl, s.hh]], by go_simp, H2.out W⟩) (fun _ _ => ?_)
 refine fe_p ?_
 refine FlowE.step (by rfl) (fun W hW K hK => ?_) (fun v4 l4 h4 => ?_)
 ·go_simp
  exact hK _ _ (new1 _ _) ⟨rfl, Blk.new _ _ _, by simp⟩
 refine fe_p ?_
 refine FlowE.step (by rfl) (fun W hW K hK => ?_) (fun v5 l5 h5 => ?_)
 ·go_simp
  exact hK _ _ (new1 _ _) ⟨rfl, Blk.new _ _ _, by simp⟩
 refine fe_p ?_
 refine FlowE.tail (fun W hW hf hd => ?_)
 replace hW : Below w1.heap.size w1 W := Ext.trans (Below.refl _ _).drew hW
 obtain ⟨g4, rfl, k4, lo4, e4, e4'⟩ := fact_box (show Sp.fact w1.drew (Sp.any (IsBox 135 #[.int .i64 0, .int .i64 0])) v4 l4 h4 W from hf 4)
 obtain ⟨g5, rfl, k5, lo5, e5, e5'⟩ := fact_box (show Sp.fact w1.drew (Sp.any (IsBox 135 #[.int .i64 0, .int .i64 0])) v5 l5 h5 W from hf 5)
 have dd : h4 ≤ l5 ∨ h5 ≤ l4 := hd 4 5 (by decide)
 have a4 : g4 ≠ g5 := by omega
 clear hf hd f0 f1 f2 f3 j0 j1 j2 j3 H1 H2 e4 e4' e5 e5' dd p0 p1
 have hww := a1.size
 replace a1 := bup a1 hW
 have q4 := (k4.set2 (v0 := .int .i64 a) (v1 := .int .i64 b)).far2 (g := g5) (v0 := .int .i64 c) (v1 := .int .i64 d) (Ne.symm a4)
 have q5 := (k5.far2 (g := g4) (v0 := .int .i64 a) (v1 := .int .i64 b) a4).set2 (v0 := .int .i64 c) (v1 := .int .i64 d)
 have a8 : w1.heap.size ≤ g4 := lo4
 have a5 : w1.heap.size ≤ g5 := lo5
 have a3 := a1.trans (below2 (W := W) (g := g4) (v0 := .int .i64 a) (v1 := .int .i64 b) (by omega) a1.size)
 have a0 := a3.trans (below2 (g := g5) (v0 := .int .i64 c) (v1 := .int .i64 d) (by omega) a3.size)
 clear a3 a8 a5 lo4 lo5 hW
 obtain ⟨x0, x1, fx⟩ := opbox k4
 obtain ⟨y0, y1, fy⟩ := opbox k5
 cases t1 : decide (b < a) with
 | true =>
  have HE : Hid (R = false) := hid (by rw [HR.out, t1]; rfl)
  go_wp2; go_ret; exact ⟨by rw [HE.out]; rfl, a0⟩
 | false =>
  cases t2 : decide (d < c) with
  | true =>
   have HE : Hid (R = false) := hid (by rw [HR.out, t1, t2]; rfl)
   go_wp2; go_ret; exact ⟨by rw [HE.out]; rfl, a0⟩
  | false =>
   have HE : Hid (R = (!z1 && !((a == -9223372036854775808) && z3))) := hid (by rw [HR.out, t1, t2]; rfl)
   go_wp2_with fail
   clear x0 x1 fx y0 y1 fy k4 k5 a1
   have a6 : ((((W.setCell ⟨g4, 0, none⟩ (.int .i64 a)).setCell ⟨g4, 1, none⟩ (.int .i64 b)).setCell ⟨g5, 0, none⟩ (.int .i64 c)).setCell ⟨g5, 1, none⟩ (.int .i64 d)).heap.size = W.heap.size := by simp
   generalize (((W.setCell ⟨g4, 0, none⟩ (.int .i64 a)).setCell ⟨g4, 1, none⟩ (.int .i64 b)).setCell ⟨g5, 0, none⟩ (.int .i64 c)).setCell ⟨g5, 1, none⟩ (.int .i64 d) = w5 at *
   (with_reducible refine (T1.out _).mono ?_)
   rintro e6 w6 ⟨rfl, a2⟩
   replace q4 := q4.later a2
   replace q5 := q5.later a2
   replace a0 := bup a0 a2
   clear a2 T1
   cases z1 with
   | true => go_wp2; go_ret; exact ⟨by rw [HE.out]; rfl, a0⟩
   | false =>
    obtain ⟨x0, x1, fx⟩ := opbox q4
    obtain ⟨y0, y1, fy⟩ := opbox q5
    cases t9 : (a == -9223372036854775808) with
    | false => go_wp2; go_ret; exact ⟨by rw [HE.out, t9]; rfl, a0⟩
    | true =>
     go_wp2_with fail
     (with_reducible refine (T2.out _).mono ?_)
     rintro e7 w7 ⟨rfl, a9⟩
     go_wp2; go_ret; exact ⟨by rw [HE.out, t9]; first | rfl | simp, bup a0 a9⟩
end
end Go.Proofs.YtnmpgijiimglcaaGreat
