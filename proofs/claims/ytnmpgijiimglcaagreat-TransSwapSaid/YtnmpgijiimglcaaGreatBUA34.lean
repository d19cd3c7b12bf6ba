/-
  safe.Fits: what it answers.
  safe.Fits: what it answers.
-/
import Derived.Test.YtnmpgijiimglcaaGreatBUA30
import Derived.Test.YtnmpgijiimglcaaGreatBUA24
import Derived.Test.YtnmpgijiimglcaaGreatBUA33
namespace Go.Proofs.YtnmpgijiimglcaaGreat
section
open Go.RowKit
attribute [local go_sem ↓] Go.wp_at_zero Go.wp_at_succ

set_option maxRecDepth 8000 in
set_option maxHeartbeats 4000000 in
theorem safefits_4 (r s : Rg) (ir : I64 (loR r) ∧ I64 (hiR r)) (is_ : I64 (loR s) ∧ I64 (hiR s)) (w : World) :
    Calls Tryz.prog 46 #[.int .i64 4, r.val, s.val] w fun e w' => e = .returned (.bool (!(decide (hiR r < loR r) || decide (hiR s < loR s)) && (decide ((addW (loR r) (loR s)).2 = 0) && decide ((addW (hiR r) (hiR s)).2 = 0)))) ∧ Below w.heap.size w w' := by
  have H1 := hid (fun W => sends_ok r W)
  have H2 := hid (fun W => sends_ok s W)
  rw [Rg.val_eq] at H1 H2
  rw [Rg.val_eq, Rg.val_eq]
  generalize loR r = a at *
  generalize hiR r = b at *
  generalize loR s = c at *
  generalize hiR s = d at *
  obtain ⟨R, hR⟩ : ∃ R, R = (!(decide (b < a) || decide (d < c)) && (decide ((addW a c).2 = 0) && decide ((addW b d).2 = 0))) := ⟨_, rfl⟩
  rw [← hR]
  have HR := hid hR
  clear hR
  obtain ⟨p0, p1, hb0, hsz⟩ := new_two w #[.int .i64 r.lo, .int .i64 r.hi, .bool r.hl, .bool r.hh] #[.int .i64 s.lo, .int .i64 s.hi, .bool s.hl, .bool s.hh] 49 49
  clear hsz
  go_enter Tryz.func46, Tryz.ntmps46
  go_upto_region 1 with fail
  generalize (w.alloc (Obj.cells #[.int .i64 r.lo, .int .i64 r.hi, .bool r.hl, .bool r.hh] 49)).alloc (Obj.cells #[.int .i64 s.lo, .int .i64 s.hi, .bool s.hl, .bool s.hh] 49) = w1 at *
  have f0 := laterE (show w1.cell? ⟨w.heap.size, 0, none⟩ = some (.int .i64 r.lo) from p0.cell 0)
  have f1 := laterE (show w1.cell? ⟨w.heap.size, 1, none⟩ = some (.int .i64 r.hi) from p0.cell 1)
  have f2 := laterE (show w1.cell? ⟨w.heap.size, 2, none⟩ = some (.bool r.hl) from p0.cell 2)
  have f3 := laterE (show w1.cell? ⟨w.heap.size, 3, none⟩ = some (.bool r.hh) from p0.cell 3)
  have j0 := laterE (show w1.cell? ⟨w.heap.size + 1, 0, none⟩ = some (.int .i64 s.lo) from p1.cell 0)
  have j1 := laterE (show w1.cell? ⟨w.heap.size + 1, 1, none⟩ = some (.int .i64 s.hi) from p1.cell 1)
  have j2 := laterE (show w1.cell? ⟨w.heap.size + 1, 2, none⟩ = some (.bool s.hl) from p1.cell 2)
  have j3 := laterE (show w1.cell? ⟨w.heap.size + 1, 3, none⟩ = some (.bool s.hh) from p1.cell 3)
  refine wp_region_flowE 6 [Sp.val (.agg #[.int .i64 r.lo, .int .i64 r.hi, .bool r.hl, .bool r.hh]), Sp.val (.agg #[.int .i64 a, .int .i64 b]), Sp.val (.agg #[.int .i64 s.lo, .int .i64 s.hi, .bool s.hl, .bool s.hh]), Sp.val (.agg #[.int .i64 c, .int .i64 d]), Sp.any (IsBox 135 #[.int .i64 0, .int .i64 0]), Sp.any (IsBox 135 #[.int .i64 0, .int .i64 0])] (by kernel_rfl) (by kernel_rfl) ?_
  (refine FlowE.take (by rfl) (fun W hW R hR => ?_) (fun _ _ => ?_); (go_simp; (try go_bits); with_reducible exact hR); simp only [Act.put, List.setIfInBounds_toArray, List.set_cons_zero, List.set_cons_succ])
  refine FlowE.callFV (by rfl) (fun W hW hf => ⟨99, #[.agg #[.int .i64 r.lo, .int .i64 r.hi, .bool r.hl, .bool r.hh]], by go_simp, H1.out W⟩) (fun _ _ => ?_)
  simp only [Act.put, List.setIfInBounds_toArray, List.set_cons_zero, List.set_cons_succ]
  (refine FlowE.take (by rfl) (fun W hW R hR => ?_) (fun _ _ => ?_); (go_simp; (try go_bits); with_reducible exact hR); simp only [Act.put, List.setIfInBounds_toArray, List.set_cons_zero, List.set_cons_succ])
  refine FlowE.callFV (by rfl) (fun W hW hf => ⟨99, #[.agg #[.int .i64 s.lo, .int .i64 s.hi, .bool s.hl, .bool s.hh]], by go_simp, H2.out W⟩) (fun _ _ => ?_)
  simp only [Act.put, List.setIfInBounds_toArray, List.set_cons_zero, List.set_cons_succ]
  refine FlowE.step (by rfl) (fun W hW K hK => ?_) (fun v4 l4 h4 => ?_)
  · go_simp
    exact hK _ _ (new1 _ _) ⟨rfl, Blk.new _ _ _, by simp⟩
  simp only [Act.put, List.setIfInBounds_toArray, List.set_cons_zero, List.set_cons_succ]
  refine FlowE.step (by rfl) (fun W hW K hK => ?_) (fun v5 l5 h5 => ?_)
  · go_simp
    exact hK _ _ (new1 _ _) ⟨rfl, Blk.new _ _ _, by simp⟩
  simp only [Act.put, List.setIfInBounds_toArray, List.set_cons_zero, List.set_cons_succ]
  refine FlowE.tail (fun W hW hf hd => ?_)
  replace hW : Below w1.heap.size w1 W := Ext.trans (Below.refl _ _).drew hW
  obtain ⟨g4, rfl, k4, lo4, e4, e4'⟩ := fact_box (show Sp.fact w1.drew (Sp.any (IsBox 135 #[.int .i64 0, .int .i64 0])) v4 l4 h4 W from hf 4)
  obtain ⟨g5, rfl, k5, lo5, e5, e5'⟩ := fact_box (show Sp.fact w1.drew (Sp.any (IsBox 135 #[.int .i64 0, .int .i64 0])) v5 l5 h5 W from hf 5)
  have dd : h4 ≤ l5 ∨ h5 ≤ l4 := hd 4 5 (by decide)
  have hne : g4 ≠ g5 := by omega
  clear hf hd f0 f1 f2 f3 j0 j1 j2 j3 H1 H2 e4 e4' e5 e5' dd p0 p1
  have hww := hb0.size
  replace hb0 := bup hb0 hW
  have q4 := (k4.set2 (v0 := .int .i64 a) (v1 := .int .i64 b)).far2 (g := g5) (v0 := .int .i64 c) (v1 := .int .i64 d) (Ne.symm hne)
  have q5 := (k5.far2 (g := g4) (v0 := .int .i64 a) (v1 := .int .i64 b) hne).set2 (v0 := .int .i64 c) (v1 := .int .i64 d)
  have hs4 : w1.heap.size ≤ g4 := lo4
  have hs5 : w1.heap.size ≤ g5 := lo5
  have hba := hb0.trans (below2 (W := W) (g := g4) (v0 := .int .i64 a) (v1 := .int .i64 b) (by omega) hb0.size)
  have hb9 := hba.trans (below2 (g := g5) (v0 := .int .i64 c) (v1 := .int .i64 d) (by omega) hba.size)
  clear hba hs4 hs5 lo4 lo5 hW
  obtain ⟨x0, x1, fx⟩ := opbox k4
  obtain ⟨y0, y1, fy⟩ := opbox k5
  cases t1 : decide (b < a) with
  | true =>
    have HE : Hid (R = false) := hid (by rw [HR.out, t1]; rfl)
    go_wp2; go_ret; exact ⟨by rw [HE.out]; rfl, hb9⟩
  | false =>
    cases t2 : decide (d < c) with
    | true =>
      have HE : Hid (R = false) := hid (by rw [HR.out, t1, t2]; rfl)
      go_wp2; go_ret; exact ⟨by rw [HE.out]; rfl, hb9⟩
    | false =>
      have HE : Hid (R = (decide ((addW a c).2 = 0) && decide ((addW b d).2 = 0))) := hid (by rw [HR.out, t1, t2]; rfl)
      go_wp2_with fail
      clear x0 x1 fx y0 y1 fy k4 k5 hb0
      have hsz5 : ((((W.setCell ⟨g4, 0, none⟩ (.int .i64 a)).setCell ⟨g4, 1, none⟩ (.int .i64 b)).setCell ⟨g5, 0, none⟩ (.int .i64 c)).setCell ⟨g5, 1, none⟩ (.int .i64 d)).heap.size = W.heap.size := by simp
      generalize (((W.setCell ⟨g4, 0, none⟩ (.int .i64 a)).setCell ⟨g4, 1, none⟩ (.int .i64 b)).setCell ⟨g5, 0, none⟩ (.int .i64 c)).setCell ⟨g5, 1, none⟩ (.int .i64 d) = w5 at *
      rw [← hsz5]
      have hb8 := bup hb9 (new1 w5 (Obj.cells #[.int .i64 a, .int .i64 c, .int .i64 b, .int .i64 d] 135))
      have HX := hid (sfits_add a c b d ir.1 is_.1 ir.2 is_.2 w5.heap.size 2 (w5.alloc (Obj.cells #[.int .i64 a, .int .i64 c, .int .i64 b, .int .i64 d] 135)) (Blk.new w5 135 #[.int .i64 a, .int .i64 c, .int .i64 b, .int .i64 d]))
      (with_reducible refine HX.out.mono ?_)
      rintro e9 w9 ⟨rfl, hb7⟩
      go_wp2; go_ret; exact ⟨by rw [HE.out]; rfl, bup hb8 hb7⟩

set_option maxRecDepth 8000 in
set_option maxHeartbeats 4000000 in
theorem safefits_5 (r s : Rg) (ir : I64 (loR r) ∧ I64 (hiR r)) (is_ : I64 (loR s) ∧ I64 (hiR s)) (w : World) :
    Calls Tryz.prog 46 #[.int .i64 5, r.val, s.val] w fun e w' => e = .returned (.bool (!(decide (hiR r < loR r) || decide (hiR s < loR s)) && (decide ((subW (loR r) (hiR s)).2 = 0) && decide ((subW (hiR r) (loR s)).2 = 0)))) ∧ Below w.heap.size w w' := by
  have H1 := hid (fun W => sends_ok r W)
  have H2 := hid (fun W => sends_ok s W)
  rw [Rg.val_eq] at H1 H2
  rw [Rg.val_eq, Rg.val_eq]
  generalize loR r = a at *
  generalize hiR r = b at *
  generalize loR s = c at *
  generalize hiR s = d at *
  obtain ⟨R, hR⟩ : ∃ R, R = (!(decide (b < a) || decide (d < c)) && (decide ((subW a d).2 = 0) && decide ((subW b c).2 = 0))) := ⟨_, rfl⟩
  rw [← hR]
  have HR := hid hR
  clear hR
  obtain ⟨p0, p1, hb0, hsz⟩ := new_two w #[.int .i64 r.lo, .int .i64 r.hi, .bool r.hl, .bool r.hh] #[.int .i64 s.lo, .int .i64 s.hi, .bool s.hl, .bool s.hh] 49 49
  clear hsz
  go_enter Tryz.func46, Tryz.ntmps46
  go_upto_region 1 with fail
  generalize (w.alloc (Obj.cells #[.int .i64 r.lo, .int .i64 r.hi, .bool r.hl, .bool r.hh] 49)).alloc (Obj.cells #[.int .i64 s.lo, .int .i64 s.hi, .bool s.hl, .bool s.hh] 49) = w1 at *
  have f0 := laterE (show w1.cell? ⟨w.heap.size, 0, none⟩ = some (.int .i64 r.lo) from p0.cell 0)
  have f1 := laterE (show w1.cell? ⟨w.heap.size, 1, none⟩ = some (.int .i64 r.hi) from p0.cell 1)
  have f2 := laterE (show w1.cell? ⟨w.heap.size, 2, none⟩ = some (.bool r.hl) from p0.cell 2)
  have f3 := laterE (show w1.cell? ⟨w.heap.size, 3, none⟩ = some (.bool r.hh) from p0.cell 3)
  have j0 := laterE (show w1.cell? ⟨w.heap.size + 1, 0, none⟩ = some (.int .i64 s.lo) from p1.cell 0)
  have j1 := laterE (show w1.cell? ⟨w.heap.size + 1, 1, none⟩ = some (.int .i64 s.hi) from p1.cell 1)
  have j2 := laterE (show w1.cell? ⟨w.heap.size + 1, 2, none⟩ = some (.bool s.hl) from p1.cell 2)
  have j3 := laterE (show w1.cell? ⟨w.heap.size + 1, 3, none⟩ = some (.bool s.hh) from p1.cell 3)
  refine wp_region_flowE 6 [Sp.val (.agg #[.int .i64 r.lo, .int .i64 r.hi, .bool r.hl, .bool r.hh]), Sp.val (.agg #[.int .i64 a, .int .i64 b]), Sp.val (.agg #[.int .i64 s.lo, .int .i64 s.hi, .bool s.hl, .bool s.hh]), Sp.val (.agg #[.int .i64 c, .int .i64 d]), Sp.any (IsBox 135 #[.int .i64 0, .int .i64 0]), Sp.any (IsBox 135 #[.int .i64 0, .int .i64 0])] (by kernel_rfl) (by kernel_rfl) ?_
  (refine FlowE.take (by rfl) (fun W hW R hR => ?_) (fun _ _ => ?_); (go_simp; (try go_bits); with_reducible exact hR); simp only [Act.put, List.setIfInBounds_toArray, List.set_cons_zero, List.set_cons_succ])
  refine FlowE.callFV (by rfl) (fun W hW hf => ⟨99, #[.agg #[.int .i64 r.lo, .int .i64 r.hi, .bool r.hl, .bool r.hh]], by go_simp, H1.out W⟩) (fun _ _ => ?_)
  simp only [Act.put, List.setIfInBounds_toArray, List.set_cons_zero, List.set_cons_succ]
  (refine FlowE.take (by rfl) (fun W hW R hR => ?_) (fun _ _ => ?_); (go_simp; (try go_bits); with_reducible exact hR); simp only [Act.put, List.setIfInBounds_toArray, List.set_cons_zero, List.set_cons_succ])
  refine FlowE.callFV (by rfl) (fun W hW hf => ⟨99, #[.agg #[.int .i64 s.lo, .int .i64 s.hi, .bool s.hl, .bool s.hh]], by go_simp, H2.out W⟩) (fun _ _ => ?_)
  simp only [Act.put, List.setIfInBounds_toArray, List.set_cons_zero, List.set_cons_succ]
  refine FlowE.step (by rfl) (fun W hW K hK => ?_) (fun v4 l4 h4 => ?_)
  · go_simp
    exact hK _ _ (new1 _ _) ⟨rfl, Blk.new _ _ _, by simp⟩
  simp only [Act.put, List.setIfInBounds_toArray, List.set_cons_zero, List.set_cons_succ]
  refine FlowE.step (by rfl) (fun W hW K hK => ?_) (fun v5 l5 h5 => ?_)
  · go_simp
    exact hK _ _ (new1 _ _) ⟨rfl, Blk.new _ _ _, by simp⟩
  simp only [Act.put, List.setIfInBounds_toArray, List.set_cons_zero, List.set_cons_succ]
  refine FlowE.tail (fun W hW hf hd => ?_)
  replace hW : Below w1.heap.size w1 W := Ext.trans (Below.refl _ _).drew hW
  obtain ⟨g4, rfl, k4, lo4, e4, e4'⟩ := fact_box (show Sp.fact w1.drew (Sp.any (IsBox 135 #[.int .i64 0, .int .i64 0])) v4 l4 h4 W from hf 4)
  obtain ⟨g5, rfl, k5, lo5, e5, e5'⟩ := fact_box (show Sp.fact w1.drew (Sp.any (IsBox 135 #[.int .i64 0, .int .i64 0])) v5 l5 h5 W from hf 5)
  have dd : h4 ≤ l5 ∨ h5 ≤ l4 := hd 4 5 (by decide)
  have hne : g4 ≠ g5 := by omega
  clear hf hd f0 f1 f2 f3 j0 j1 j2 j3 H1 H2 e4 e4' e5 e5' dd p0 p1
  have hww := hb0.size
  replace hb0 := bup hb0 hW
  have q4 := (k4.set2 (v0 := .int .i64 a) (v1 := .int .i64 b)).far2 (g := g5) (v0 := .int .i64 c) (v1 := .int .i64 d) (Ne.symm hne)
  have q5 := (k5.far2 (g := g4) (v0 := .int .i64 a) (v1 := .int .i64 b) hne).set2 (v0 := .int .i64 c) (v1 := .int .i64 d)
  have hs4 : w1.heap.size ≤ g4 := lo4
  have hs5 : w1.heap.size ≤ g5 := lo5
  have hba := hb0.trans (below2 (W := W) (g := g4) (v0 := .int .i64 a) (v1 := .int .i64 b) (by omega) hb0.size)
  have hb9 := hba.trans (below2 (g := g5) (v0 := .int .i64 c) (v1 := .int .i64 d) (by omega) hba.size)
  clear hba hs4 hs5 lo4 lo5 hW
  obtain ⟨x0, x1, fx⟩ := opbox k4
  obtain ⟨y0, y1, fy⟩ := opbox k5
  cases t1 : decide (b < a) with
  | true =>
    have HE : Hid (R = false) := hid (by rw [HR.out, t1]; rfl)
    go_wp2; go_ret; exact ⟨by rw [HE.out]; rfl, hb9⟩
  | false =>
    cases t2 : decide (d < c) with
    | true =>
      have HE : Hid (R = false) := hid (by rw [HR.out, t1, t2]; rfl)
      go_wp2; go_ret; exact ⟨by rw [HE.out]; rfl, hb9⟩
    | false =>
      have HE : Hid (R = (decide ((subW a d).2 = 0) && decide ((subW b c).2 = 0))) := hid (by rw [HR.out, t1, t2]; rfl)
      go_wp2_with fail
      clear x0 x1 fx y0 y1 fy k4 k5 hb0
      have hsz5 : ((((W.setCell ⟨g4, 0, none⟩ (.int .i64 a)).setCell ⟨g4, 1, none⟩ (.int .i64 b)).setCell ⟨g5, 0, none⟩ (.int .i64 c)).setCell ⟨g5, 1, none⟩ (.int .i64 d)).heap.size = W.heap.size := by simp
      generalize (((W.setCell ⟨g4, 0, none⟩ (.int .i64 a)).setCell ⟨g4, 1, none⟩ (.int .i64 b)).setCell ⟨g5, 0, none⟩ (.int .i64 c)).setCell ⟨g5, 1, none⟩ (.int .i64 d) = w5 at *
      rw [← hsz5]
      have hb8 := bup hb9 (new1 w5 (Obj.cells #[.int .i64 a, .int .i64 d, .int .i64 b, .int .i64 c] 135))
      have HX := hid (sfits_sub a d b c ir.1 is_.2 ir.2 is_.1 w5.heap.size 2 (w5.alloc (Obj.cells #[.int .i64 a, .int .i64 d, .int .i64 b, .int .i64 c] 135)) (Blk.new w5 135 #[.int .i64 a, .int .i64 d, .int .i64 b, .int .i64 c]))
      (with_reducible refine HX.out.mono ?_)
      rintro e9 w9 ⟨rfl, hb7⟩
      go_wp2; go_ret; exact ⟨by rw [HE.out]; rfl, bup hb8 hb7⟩
end
section
open Go.RowKit
attribute [local go_sem ↓] Go.wp_at_zero Go.wp_at_succ

set_option maxRecDepth 8000 in
set_option maxHeartbeats 4000000 in
theorem safefits_6 (r s : Rg) (ir : I64 (loR r) ∧ I64 (hiR r)) (is_ : I64 (loR s) ∧ I64 (hiR s)) (w : World) :
    Calls Tryz.prog 46 #[.int .i64 6, r.val, s.val] w fun e w' => e = .returned (.bool (!(decide (hiR r < loR r) || decide (hiR s < loR s)) && (((decide ((mulW (loR r) (loR s)).2 = 0) && decide ((mulW (loR r) (hiR s)).2 = 0)) && decide ((mulW (hiR r) (loR s)).2 = 0)) && decide ((mulW (hiR r) (hiR s)).2 = 0)))) ∧ Below w.heap.size w w' := by
  have H1 := hid (fun W => sends_ok r W)
  have H2 := hid (fun W => sends_ok s W)
  rw [Rg.val_eq] at H1 H2
  rw [Rg.val_eq, Rg.val_eq]
  generalize loR r = a at *
  generalize hiR r = b at *
  generalize loR s = c at *
  generalize hiR s = d at *
  have T1 := hid (fun W => stimes_ok a c ir.1 is_.1 W)
  have T2 := hid (fun W => stimes_ok a d ir.1 is_.2 W)
  have T3 := hid (fun W => stimes_ok b c ir.2 is_.1 W)
  have T4 := hid (fun W => stimes_ok b d ir.2 is_.2 W)
  generalize decide ((mulW a c).2 = 0) = z1 at *
  generalize decide ((mulW a d).2 = 0) = z2 at *
  generalize decide ((mulW b c).2 = 0) = z3 at *
  generalize decide ((mulW b d).2 = 0) = z4 at *
  obtain ⟨R, hR⟩ : ∃ R, R = (!(decide (b < a) || decide (d < c)) && (((z1 && z2) && z3) && z4)) := ⟨_, rfl⟩
  rw [← hR]
  have HR := hid hR
  clear hR
  obtain ⟨p0, p1, hb0, hsz⟩ := new_two w #[.int .i64 r.lo, .int .i64 r.hi, .bool r.hl, .bool r.hh] #[.int .i64 s.lo, .int .i64 s.hi, .bool s.hl, .bool s.hh] 49 49
  clear hsz
  go_enter Tryz.func46, Tryz.ntmps46
  go_upto_region 1 with fail
  generalize (w.alloc (Obj.cells #[.int .i64 r.lo, .int .i64 r.hi, .bool r.hl, .bool r.hh] 49)).alloc (Obj.cells #[.int .i64 s.lo, .int .i64 s.hi, .bool s.hl, .bool s.hh] 49) = w1 at *
  have f0 := laterE (show w1.cell? ⟨w.heap.size, 0, none⟩ = some (.int .i64 r.lo) from p0.cell 0)
  have f1 := laterE (show w1.cell? ⟨w.heap.size, 1, none⟩ = some (.int .i64 r.hi) from p0.cell 1)
  have f2 := laterE (show w1.cell? ⟨w.heap.size, 2, none⟩ = some (.bool r.hl) from p0.cell 2)
  have f3 := laterE (show w1.cell? ⟨w.heap.size, 3, none⟩ = some (.bool r.hh) from p0.cell 3)
  have j0 := laterE (show w1.cell? ⟨w.heap.size + 1, 0, none⟩ = some (.int .i64 s.lo) from p1.cell 0)
  have j1 := laterE (show w1.cell? ⟨w.heap.size + 1, 1, none⟩ = some (.int .i64 s.hi) from p1.cell 1)
  have j2 := laterE (show w1.cell? ⟨w.heap.size + 1, 2, none⟩ = some (.bool s.hl) from p1.cell 2)
  have j3 := laterE (show w1.cell? ⟨w.heap.size + 1, 3, none⟩ = some (.bool s.hh) from p1.cell 3)
  refine wp_region_flowE 6 [Sp.val (.agg #[.int .i64 r.lo, .int .i64 r.hi, .bool r.hl, .bool r.hh]), Sp.val (.agg #[.int .i64 a, .int .i64 b]), Sp.val (.agg #[.int .i64 s.lo, .int .i64 s.hi, .bool s.hl, .bool s.hh]), Sp.val (.agg #[.int .i64 c, .int .i64 d]), Sp.any (IsBox 135 #[.int .i64 0, .int .i64 0]), Sp.any (IsBox 135 #[.int .i64 0, .int .i64 0])] (by kernel_rfl) (by kernel_rfl) ?_
  (refine FlowE.take (by rfl) (fun W hW R hR => ?_) (fun _ _ => ?_); (go_simp; (try go_bits); with_reducible exact hR); simp only [Act.put, List.setIfInBounds_toArray, List.set_cons_zero, List.set_cons_succ])
  refine FlowE.callFV (by rfl) (fun W hW hf => ⟨99, #[.agg #[.int .i64 r.lo, .int .i64 r.hi, .bool r.hl, .bool r.hh]], by go_simp, H1.out W⟩) (fun _ _ => ?_)
  simp only [Act.put, List.setIfInBounds_toArray, List.set_cons_zero, List.set_cons_succ]
  (refine FlowE.take (by rfl) (fun W hW R hR => ?_) (fun _ _ => ?_); (go_simp; (try go_bits); with_reducible exact hR); simp only [Act.put, List.setIfInBounds_toArray, List.set_cons_zero, List.set_cons_succ])
  refine FlowE.callFV (by rfl) (fun W hW hf => ⟨99, #[.agg #[.int .i64 s.lo, .int .i64 s.hi, .bool s.hl, .bool s.hh]], by go_simp, H2.out W⟩) (fun _ _ => ?_)
  simp only [Act.put, List.setIfInBounds_toArray, List.set_cons_zero, List.set_cons_succ]
  refine FlowE.step (by rfl) (fun W hW K hK => ?_) (fun v4 l4 h4 => ?_)
  · go_simp
    exact hK _ _ (new1 _ _) ⟨rfl, Blk.new _ _ _, by simp⟩
  simp only [Act.put, List.setIfInBounds_toArray, List.set_cons_zero, List.set_cons_succ]
  refine FlowE.step (by rfl) (fun W hW K hK => ?_) (fun v5 l5 h5 => ?_)
  · go_simp
    exact hK _ _ (new1 _ _) ⟨rfl, Blk.new _ _ _, by simp⟩
  simp only [Act.put, List.setIfInBounds_toArray, List.set_cons_zero, List.set_cons_succ]
  refine FlowE.tail (fun W hW hf hd => ?_)
  replace hW : Below w1.heap.size w1 W := Ext.trans (Below.refl _ _).drew hW
  obtain ⟨g4, rfl, k4, lo4, e4, e4'⟩ := fact_box (show Sp.fact w1.drew (Sp.any (IsBox 135 #[.int .i64 0, .int .i64 0])) v4 l4 h4 W from hf 4)
  obtain ⟨g5, rfl, k5, lo5, e5, e5'⟩ := fact_box (show Sp.fact w1.drew (Sp.any (IsBox 135 #[.int .i64 0, .int .i64 0])) v5 l5 h5 W from hf 5)
  have dd : h4 ≤ l5 ∨ h5 ≤ l4 := hd 4 5 (by decide)
  have hne : g4 ≠ g5 := by omega
  clear hf hd f0 f1 f2 f3 j0 j1 j2 j3 H1 H2 e4 e4' e5 e5' dd p0 p1
  have hww := hb0.size
  replace hb0 := bup hb0 hW
  have q4 := (k4.set2 (v0 := .int .i64 a) (v1 := .int .i64 b)).far2 (g := g5) (v0 := .int .i64 c) (v1 := .int .i64 d) (Ne.symm hne)
  have q5 := (k5.far2 (g := g4) (v0 := .int .i64 a) (v1 := .int .i64 b) hne).set2 (v0 := .int .i64 c) (v1 := .int .i64 d)
  have hs4 : w1.heap.size ≤ g4 := lo4
  have hs5 : w1.heap.size ≤ g5 := lo5
  have hba := hb0.trans (below2 (W := W) (g := g4) (v0 := .int .i64 a) (v1 := .int .i64 b) (by omega) hb0.size)
  have hb9 := hba.trans (below2 (g := g5) (v0 := .int .i64 c) (v1 := .int .i64 d) (by omega) hba.size)
  clear hba hs4 hs5 lo4 lo5 hW
  obtain ⟨x0, x1, fx⟩ := opbox k4
  obtain ⟨y0, y1, fy⟩ := opbox k5
  cases t1 : decide (b < a) with
  | true =>
    have HE : Hid (R = false) := hid (by rw [HR.out, t1]; rfl)
    go_wp2; go_ret; exact ⟨by rw [HE.out]; rfl, hb9⟩
  | false =>
    cases t2 : decide (d < c) with
    | true =>
      have HE : Hid (R = false) := hid (by rw [HR.out, t1, t2]; rfl)
      go_wp2; go_ret; exact ⟨by rw [HE.out]; rfl, hb9⟩
    | false =>
      have HE : Hid (R = (((z1 && z2) && z3) && z4)) := hid (by rw [HR.out, t1, t2]; rfl)
      go_wp2_with fail
      clear x0 x1 fx y0 y1 fy k4 k5 hb0
      have hsz5 : ((((W.setCell ⟨g4, 0, none⟩ (.int .i64 a)).setCell ⟨g4, 1, none⟩ (.int .i64 b)).setCell ⟨g5, 0, none⟩ (.int .i64 c)).setCell ⟨g5, 1, none⟩ (.int .i64 d)).heap.size = W.heap.size := by simp
      generalize (((W.setCell ⟨g4, 0, none⟩ (.int .i64 a)).setCell ⟨g4, 1, none⟩ (.int .i64 b)).setCell ⟨g5, 0, none⟩ (.int .i64 c)).setCell ⟨g5, 1, none⟩ (.int .i64 d) = w5 at *
      (with_reducible refine (T1.out _).mono ?_)
      rintro e1 u1 ⟨rfl, rfl⟩
      clear T1
      cases z1 with
      | false => go_wp2; go_ret; exact ⟨by rw [HE.out]; rfl, hb9⟩
      | true =>
        obtain ⟨x0, x1, fx⟩ := opbox q4
        obtain ⟨y0, y1, fy⟩ := opbox q5
        go_wp2_with fail
        clear x0 x1 fx y0 y1 fy
        (with_reducible refine (T2.out _).mono ?_)
        rintro e2 u2 ⟨rfl, rfl⟩
        clear T2
        cases z2 with
        | false => go_wp2; go_ret; exact ⟨by rw [HE.out]; rfl, hb9⟩
        | true =>
          obtain ⟨x0, x1, fx⟩ := opbox q4
          obtain ⟨y0, y1, fy⟩ := opbox q5
          go_wp2_with fail
          clear x0 x1 fx y0 y1 fy
          (with_reducible refine (T3.out _).mono ?_)
          rintro e3 u3 ⟨rfl, rfl⟩
          clear T3
          cases z3 with
          | false => go_wp2; go_ret; exact ⟨by rw [HE.out]; rfl, hb9⟩
          | true =>
            obtain ⟨x0, x1, fx⟩ := opbox q4
            obtain ⟨y0, y1, fy⟩ := opbox q5
            go_wp2_with fail
            clear x0 x1 fx y0 y1 fy
            (with_reducible refine (T4.out _).mono ?_)
            rintro e4 u4 ⟨rfl, rfl⟩
            clear T4
            go_wp2; go_ret; exact ⟨by rw [HE.out]; rfl, hb9⟩
end
end Go.Proofs.YtnmpgijiimglcaaGreat
