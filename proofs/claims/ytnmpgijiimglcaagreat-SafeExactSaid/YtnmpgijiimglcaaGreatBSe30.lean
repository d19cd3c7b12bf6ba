import Derived.Test.YtnmpgijiimglcaaGreatBSe29
import Derived.Test.YtnmpgijiimglcaaGreatBSe24
import Derived.Test.YtnmpgijiimglcaaGreatBSe21
import Derived.Test.YtnmpgijiimglcaaGreatBSe23
import Derived.Test.YtnmpgijiimglcaaGreatBSe11
import Derived.Test.YtnmpgijiimglcaaGreatBSe02
import Derived.IntWalk
namespace Go.Proofs.YtnmpgijiimglcaaGreat
open Go.RowKit
set_option maxRecDepth 100000
set_option maxHeartbeats 8000000
section
attribute [local go_sem ↓] Go.wp_at_zero Go.wp_at_succ
theorem zej (r s : Rg) (ir : I64 (loR r) ∧ I64 (hiR r)) (is_ : I64 (loR s) ∧ I64 (hiR s)) (w : World) :
  Calls Tryz.prog 46 #[.int .i64 4, r.val, s.val] w fun e w' => e = .returned (.bool (!(decide (hiR r < loR r) || decide (hiR s < loR s)) && (decide ((addW (loR r) (loR s)).2 = 0) && decide ((addW (hiR r) (hiR s)).2 = 0)))) ∧ Below w.heap.size w w' := by
 have H1 := hid (fun W => za4 r W)
 have H2 := hid (fun W => za4 s W)
 rw [Rg.val_eq] at H1 H2
 rw [Rg.val_eq, Rg.val_eq]
 generalize loR r = a at *
 generalize hiR r = b at *
 generalize loR s = c at *
 generalize hiR s = d at *
 obtain ⟨R, hR⟩ : ∃ R, R = (!(decide (b < a) || decide (d < c)) && (decide ((addW a c).2 = 0) && decide ((addW b d).2 = 0))) := ⟨_, rfl⟩
 rw [← hR]
 have HR := hid hR
 clear hR
 obtain ⟨p0, p1, a0, a7⟩ := zal w #[r.lo, r.hi, r.hl, r.hh] #[s.lo, s.hi, s.hl, s.hh] 49 49
 clear a7
 go_enter Tryz.func46, Tryz.ntmps46
 go_upto_region 1 with fail
 generalize (w.alloc (Obj.cells #[r.lo, r.hi, r.hl, r.hh] 49)).alloc (Obj.cells #[s.lo, s.hi, s.hl, s.hh] 49) = w1 at *
 have f0 := zab (show w1.cell? ⟨w.heap.size, 0, none⟩ = some (.int .i64 r.lo) from p0.cell 0)
 have f1 := zab (show w1.cell? ⟨w.heap.size, 1, none⟩ = some (.int .i64 r.hi) from p0.cell 1)
 have f2 := zab (show w1.cell? ⟨w.heap.size, 2, none⟩ = some (.bool r.hl) from p0.cell 2)
 have f3 := zab (show w1.cell? ⟨w.heap.size, 3, none⟩ = some (.bool r.hh) from p0.cell 3)
 have j0 := zab (show w1.cell? ⟨w.heap.size + 1, 0, none⟩ = some (.int .i64 s.lo) from p1.cell 0)
 have j1 := zab (show w1.cell? ⟨w.heap.size + 1, 1, none⟩ = some (.int .i64 s.hi) from p1.cell 1)
 have j2 := zab (show w1.cell? ⟨w.heap.size + 1, 2, none⟩ = some (.bool s.hl) from p1.cell 2)
 have j3 := zab (show w1.cell? ⟨w.heap.size + 1, 3, none⟩ = some (.bool s.hh) from p1.cell 3)
 refine zac 6 [Sp.val (.agg #[r.lo, r.hi, r.hl, r.hh]), Sp.val (.agg #[a, b]), Sp.val (.agg #[s.lo, s.hi, s.hl, s.hh]), Sp.val (.agg #[c, d]), Sp.any (zat 135 #[.int .i64 0, .int .i64 0]), Sp.any (zat 135 #[.int .i64 0, .int .i64 0])] (by kernel_rfl) (by kernel_rfl) ?_
 (refine fe_t (fun _ _ => ?_))
 refine zaf.callFV (by rfl) (fun W hW hf => ⟨99, #[.agg #[r.lo, r.hi, r.hl, r.hh]], by go_simp, H1.out W⟩) (fun _ _ => ?_)
 refine fe_p ?_
 (refine fe_t (fun _ _ => ?_))
 refine zaf.callFV (by rfl) (fun W hW hf => ⟨99, #[.agg #[s.lo, s.hi, s.hl, s.hh]], by go_simp, H2.out W⟩) (fun _ _ => ?_)
 refine fe_p ?_
 refine zaf.step (by rfl) (fun W hW K hK => ?_) (fun v4 l4 h4 => ?_)
 ·go_simp
  exact hK _ _ (new1 _ _) ⟨rfl, Blk.new _ _ _, by simp⟩
 refine fe_p ?_
 refine zaf.step (by rfl) (fun W hW K hK => ?_) (fun v5 l5 h5 => ?_)
 ·go_simp
  exact hK _ _ (new1 _ _) ⟨rfl, Blk.new _ _ _, by simp⟩
 refine fe_p ?_
 refine zaf.tail (fun W hW hf hd => ?_)
 replace hW : Below w1.heap.size w1 W := Ext.trans (Below.refl _ _).drew hW
 obtain ⟨g4, rfl, k4, lo4, e4, e4'⟩ := zap (show Sp.fact w1.drew (Sp.any (zat 135 #[.int .i64 0, .int .i64 0])) v4 l4 h4 W from hf 4)
 obtain ⟨g5, rfl, k5, lo5, e5, e5'⟩ := zap (show Sp.fact w1.drew (Sp.any (zat 135 #[.int .i64 0, .int .i64 0])) v5 l5 h5 W from hf 5)
 have dd : h4 ≤ l5 ∨ h5 ≤ l4 := hd 4 5 (by decide)
 have a4 : g4 ≠ g5 := by omega
 clear hf hd f0 f1 f2 f3 j0 j1 j2 j3 H1 H2 e4 e4' e5 e5' dd p0 p1
 have hww := a0.size
 replace a0 := bup a0 hW
 have q4 := (k4.set2 (v0 := .int .i64 a) (v1 := .int .i64 b)).far2 (g := g5) (v0 := .int .i64 c) (v1 := .int .i64 d) (Ne.symm a4)
 have q5 := (k5.far2 (g := g4) (v0 := .int .i64 a) (v1 := .int .i64 b) a4).set2 (v0 := .int .i64 c) (v1 := .int .i64 d)
 have a8 : w1.heap.size ≤ g4 := lo4
 have a6 : w1.heap.size ≤ g5 := lo5
 have a3 := a0.trans (zba (W := W) (g := g4) (v0 := .int .i64 a) (v1 := .int .i64 b) (by omega) a0.size)
 have a1 := a3.trans (zba (g := g5) (v0 := .int .i64 c) (v1 := .int .i64 d) (by omega) a3.size)
 clear a3 a8 a6 lo4 lo5 hW
 obtain ⟨x0, x1, fx⟩ := zai k4
 obtain ⟨y0, y1, fy⟩ := zai k5
 cases t1 : decide (b < a) with
 | true =>
  have HE : Hid (R = false) := hid (by rw [HR.out, t1]; rfl)
  go_wp2; go_ret; exact ⟨by rw [HE.out]; rfl, a1⟩
 | false =>
  cases t2 : decide (d < c) with
  | true =>
   have HE : Hid (R = false) := hid (by rw [HR.out, t1, t2]; rfl)
   go_wp2; go_ret; exact ⟨by rw [HE.out]; rfl, a1⟩
  | false =>
   have HE : Hid (R = (decide ((addW a c).2 = 0) && decide ((addW b d).2 = 0))) := hid (by rw [HR.out, t1, t2]; rfl)
   go_wp2_with fail
   clear x0 x1 fx y0 y1 fy k4 k5 a0
   have a2 : ((((W.setCell ⟨g4, 0, none⟩ (.int .i64 a)).setCell ⟨g4, 1, none⟩ (.int .i64 b)).setCell ⟨g5, 0, none⟩ (.int .i64 c)).setCell ⟨g5, 1, none⟩ (.int .i64 d)).heap.size = W.heap.size := by simp
   generalize (((W.setCell ⟨g4, 0, none⟩ (.int .i64 a)).setCell ⟨g4, 1, none⟩ (.int .i64 b)).setCell ⟨g5, 0, none⟩ (.int .i64 c)).setCell ⟨g5, 1, none⟩ (.int .i64 d) = w5 at *
   rw [← a2]
   have a9 := bup a1 (new1 w5 (Obj.cells #[a, c, b, d] 135))
   have HX := hid (ziH a c b d ir.1 is_.1 ir.2 is_.2 w5.heap.size 2 (w5.alloc (Obj.cells #[a, c, b, d] 135)) (Blk.new w5 135 #[a, c, b, d]))
   (with_reducible refine HX.out.mono ?_)
   rintro e9 w9 ⟨rfl, a5⟩
   go_wp2; go_ret; exact ⟨by rw [HE.out]; rfl, bup a9 a5⟩
theorem zd8 (r s : Rg) (ir : I64 (loR r) ∧ I64 (hiR r)) (is_ : I64 (loR s) ∧ I64 (hiR s)) (w : World) :
  Calls Tryz.prog 46 #[.int .i64 5, r.val, s.val] w fun e w' => e = .returned (.bool (!(decide (hiR r < loR r) || decide (hiR s < loR s)) && (decide ((subW (loR r) (hiR s)).2 = 0) && decide ((subW (hiR r) (loR s)).2 = 0)))) ∧ Below w.heap.size w w' := by
 have H1 := hid (fun W => za4 r W)
 have H2 := hid (fun W => za4 s W)
 rw [Rg.val_eq] at H1 H2
 rw [Rg.val_eq, Rg.val_eq]
 generalize loR r = a at *
 generalize hiR r = b at *
 generalize loR s = c at *
 generalize hiR s = d at *
 obtain ⟨R, hR⟩ : ∃ R, R = (!(decide (b < a) || decide (d < c)) && (decide ((subW a d).2 = 0) && decide ((subW b c).2 = 0))) := ⟨_, rfl⟩
 rw [← hR]
 have HR := hid hR
 clear hR
 obtain ⟨p0, p1, a0, a7⟩ := zal w #[r.lo, r.hi, r.hl, r.hh] #[s.lo, s.hi, s.hl, s.hh] 49 49
 clear a7
 go_enter Tryz.func46, Tryz.ntmps46
 go_upto_region 1 with fail
 generalize (w.alloc (Obj.cells #[r.lo, r.hi, r.hl, r.hh] 49)).alloc (Obj.cells #[s.lo, s.hi, s.hl, s.hh] 49) = w1 at *
 have f0 := zab (show w1.cell? ⟨w.heap.size, 0, none⟩ = some (.int .i64 r.lo) from p0.cell 0)
 have f1 := zab (show w1.cell? ⟨w.heap.size, 1, none⟩ = some (.int .i64 r.hi) from p0.cell 1)
 have f2 := zab (show w1.cell? ⟨w.heap.size, 2, none⟩ = some (.bool r.hl) from p0.cell 2)
 have f3 := zab (show w1.cell? ⟨w.heap.size, 3, none⟩ = some (.bool r.hh) from p0.cell 3)
 have j0 := zab (show w1.cell? ⟨w.heap.size + 1, 0, none⟩ = some (.int .i64 s.lo) from p1.cell 0)
 have j1 := zab (show w1.cell? ⟨w.heap.size + 1, 1, none⟩ = some (.int .i64 s.hi) from p1.cell 1)
 have j2 := zab (show w1.cell? ⟨w.heap.size + 1, 2, none⟩ = some (.bool s.hl) from p1.cell 2)
 have j3 := zab (show w1.cell? ⟨w.heap.size + 1, 3, none⟩ = some (.bool s.hh) from p1.cell 3)
 refine zac 6 [Sp.val (.agg #[r.lo, r.hi, r.hl, r.hh]), Sp.val (.agg #[a, b]), Sp.val (.agg #[s.lo, s.hi, s.hl, s.hh]), Sp.val (.agg #[c, d]), Sp.any (zat 135 #[.int .i64 0, .int .i64 0]), Sp.any (zat 135 #[.int .i64 0, .int .i64 0])] (by kernel_rfl) (by kernel_rfl) ?_
 (refine fe_t (fun _ _ => ?_))
 refine zaf.callFV (by rfl) (fun W hW hf => ⟨99, #[.agg #[r.lo, r.hi, r.hl, r.hh]], by go_simp, H1.out W⟩) (fun _ _ => ?_)
 refine fe_p ?_
 (refine fe_t (fun _ _ => ?_))
 refine zaf.callFV (by rfl) (fun W hW hf => ⟨99, #[.agg #[s.lo, s.hi, s.hl, s.hh]], by go_simp, H2.out W⟩) (fun _ _ => ?_)
 refine fe_p ?_
 refine zaf.step (by rfl) (fun W hW K hK => ?_) (fun v4 l4 h4 => ?_)
 ·go_simp
  exact hK _ _ (new1 _ _) ⟨rfl, Blk.new _ _ _, by simp⟩
 refine fe_p ?_
 refine zaf.step (by rfl) (fun W hW K hK => ?_) (fun v5 l5 h5 => ?_)
 ·go_simp
  exact hK _ _ (new1 _ _) ⟨rfl, Blk.new _ _ _, by simp⟩
 refine fe_p ?_
 refine zaf.tail (fun W hW hf hd => ?_)
 replace hW : Below w1.heap.size w1 W := Ext.trans (Below.refl _ _).drew hW
 obtain ⟨g4, rfl, k4, lo4, e4, e4'⟩ := zap (show Sp.fact w1.drew (Sp.any (zat 135 #[.int .i64 0, .int .i64 0])) v4 l4 h4 W from hf 4)
 obtain ⟨g5, rfl, k5, lo5, e5, e5'⟩ := zap (show Sp.fact w1.drew (Sp.any (zat 135 #[.int .i64 0, .int .i64 0])) v5 l5 h5 W from hf 5)
 have dd : h4 ≤ l5 ∨ h5 ≤ l4 := hd 4 5 (by decide)
 have a4 : g4 ≠ g5 := by omega
 clear hf hd f0 f1 f2 f3 j0 j1 j2 j3 H1 H2 e4 e4' e5 e5' dd p0 p1
 have hww := a0.size
 replace a0 := bup a0 hW
 have q4 := (k4.set2 (v0 := .int .i64 a) (v1 := .int .i64 b)).far2 (g := g5) (v0 := .int .i64 c) (v1 := .int .i64 d) (Ne.symm a4)
 have q5 := (k5.far2 (g := g4) (v0 := .int .i64 a) (v1 := .int .i64 b) a4).set2 (v0 := .int .i64 c) (v1 := .int .i64 d)
 have a8 : w1.heap.size ≤ g4 := lo4
 have a6 : w1.heap.size ≤ g5 := lo5
 have a3 := a0.trans (zba (W := W) (g := g4) (v0 := .int .i64 a) (v1 := .int .i64 b) (by omega) a0.size)
 have a1 := a3.trans (zba (g := g5) (v0 := .int .i64 c) (v1 := .int .i64 d) (by omega) a3.size)
 clear a3 a8 a6 lo4 lo5 hW
 obtain ⟨x0, x1, fx⟩ := zai k4
 obtain ⟨y0, y1, fy⟩ := zai k5
 cases t1 : decide (b < a) with
 | true =>
  have HE : Hid (R = false) := hid (by rw [HR.out, t1]; rfl)
  go_wp2; go_ret; exact ⟨by rw [HE.out]; rfl, a1⟩
 | false =>
  cases t2 : decide (d < c) with
  | true =>
   have HE : Hid (R = false) := hid (by rw [HR.out, t1, t2]; rfl)
   go_wp2; go_ret; exact ⟨by rw [HE.out]; rfl, a1⟩
  | false =>
   have HE : Hid (R = (decide ((subW a d).2 = 0) && decide ((subW b c).2 = 0))) := hid (by rw [HR.out, t1, t2]; rfl)
   go_wp2_with fail
   clear x0 x1 fx y0 y1 fy k4 k5 a0
   have a2 : ((((W.setCell ⟨g4, 0, none⟩ (.int .i64 a)).setCell ⟨g4, 1, none⟩ (.int .i64 b)).setCell ⟨g5, 0, none⟩ (.int .i64 c)).setCell ⟨g5, 1, none⟩ (.int .i64 d)).heap.size = W.heap.size := by simp
   generalize (((W.setCell ⟨g4, 0, none⟩ (.int .i64 a)).setCell ⟨g4, 1, none⟩ (.int .i64 b)).setCell ⟨g5, 0, none⟩ (.int .i64 c)).setCell ⟨g5, 1, none⟩ (.int .i64 d) = w5 at *
   rw [← a2]
   have a9 := bup a1 (new1 w5 (Obj.cells #[a, d, b, c] 135))
   have HX := hid (zhG a d b c ir.1 is_.2 ir.2 is_.1 w5.heap.size 2 (w5.alloc (Obj.cells #[a, d, b, c] 135)) (Blk.new w5 135 #[a, d, b, c]))
   (with_reducible refine HX.out.mono ?_)
   rintro e9 w9 ⟨rfl, a5⟩
   go_wp2; go_ret; exact ⟨by rw [HE.out]; rfl, bup a9 a5⟩
end
section
attribute [local go_sem ↓] Go.wp_at_zero Go.wp_at_succ
theorem zgv (r s : Rg) (ir : I64 (loR r) ∧ I64 (hiR r)) (is_ : I64 (loR s) ∧ I64 (hiR s)) (w : World) :
  Calls Tryz.prog 46 #[.int .i64 6, r.val, s.val] w fun e w' => e = .returned (.bool (!(decide (hiR r < loR r) || decide (hiR s < loR s)) && (((decide ((mulW (loR r) (loR s)).2 = 0) && decide ((mulW (loR r) (hiR s)).2 = 0)) && decide ((mulW (hiR r) (loR s)).2 = 0)) && decide ((mulW (hiR r) (hiR s)).2 = 0)))) ∧ Below w.heap.size w w' := by
 have H1 := hid (fun W => za4 r W)
 have H2 := hid (fun W => za4 s W)
 rw [Rg.val_eq] at H1 H2
 rw [Rg.val_eq, Rg.val_eq]
 generalize loR r = a at *
 generalize hiR r = b at *
 generalize loR s = c at *
 generalize hiR s = d at *
 have T1 := hid (fun W => zc1 a c ir.1 is_.1 W)
 have T2 := hid (fun W => zc1 a d ir.1 is_.2 W)
 have T3 := hid (fun W => zc1 b c ir.2 is_.1 W)
 have T4 := hid (fun W => zc1 b d ir.2 is_.2 W)
 generalize decide ((mulW a c).2 = 0) = z1 at *
 generalize decide ((mulW a d).2 = 0) = z2 at *
 generalize decide ((mulW b c).2 = 0) = z3 at *
 generalize decide ((mulW b d).2 = 0) = z4 at *
 obtain ⟨R, hR⟩ : ∃ R, R = (!(decide (b < a) || decide (d < c)) && (((z1 && z2) && z3) && z4)) := ⟨_, rfl⟩
 rw [← hR]
 have HR := hid hR
 clear hR
 obtain ⟨p0, p1, a1, hsz⟩ := zal w #[r.lo, r.hi, r.hl, r.hh] #[s.lo, s.hi, s.hl, s.hh] 49 49
 clear hsz
 go_enter Tryz.func46, Tryz.ntmps46
 go_upto_region 1 with fail
 generalize (w.alloc (Obj.cells #[r.lo, r.hi, r.hl, r.hh] 49)).alloc (Obj.cells #[s.lo, s.hi, s.hl, s.hh] 49) = w1 at *
 have f0 := zab (show w1.cell? ⟨w.heap.size, 0, none⟩ = some (.int .i64 r.lo) from p0.cell 0)
 have f1 := zab (show w1.cell? ⟨w.heap.size, 1, none⟩ = some (.int .i64 r.hi) from p0.cell 1)
 have f2 := zab (show w1.cell? ⟨w.heap.size, 2, none⟩ = some (.bool r.hl) from p0.cell 2)
 have f3 := zab (show w1.cell? ⟨w.heap.size, 3, none⟩ = some (.bool r.hh) from p0.cell 3)
 have j0 := zab (show w1.cell? ⟨w.heap.size + 1, 0, none⟩ = some (.int .i64 s.lo) from p1.cell 0)
 have j1 := zab (show w1.cell? ⟨w.heap.size + 1, 1, none⟩ = some (.int .i64 s.hi) from p1.cell 1)
 have j2 := zab (show w1.cell? ⟨w.heap.size + 1, 2, none⟩ = some (.bool s.hl) from p1.cell 2)
 have j3 := zab (show w1.cell? ⟨w.heap.size + 1, 3, none⟩ = some (.bool s.hh) from p1.cell 3)
 refine zac 6 [Sp.val (.agg #[r.lo, r.hi, r.hl, r.hh]), Sp.val (.agg #[a, b]), Sp.val (.agg #[s.lo, s.hi, s.hl, s.hh]), Sp.val (.agg #[c, d]), Sp.any (zat 135 #[.int .i64 0, .int .i64 0]), Sp.any (zat 135 #[.int .i64 0, .int .i64 0])] (by kernel_rfl) (by kernel_rfl) ?_
 (refine fe_t (fun _ _ => ?_))
 refine zaf.callFV (by rfl) (fun W hW hf => ⟨99, #[.agg #[r.lo, r.hi, r.hl, r.hh]], by go_simp, H1.out W⟩) (fun _ _ => ?_)
 refine fe_p ?_
 (refine fe_t (fun _ _ => ?_))
 refine zaf.callFV (by rfl) (fun W hW hf => ⟨99, #[.agg #[s.lo, s.hi, s.hl, s.hh]], by go_simp, H2.out W⟩) (fun _ _ => ?_)
 refine fe_p ?_
 refine zaf.step (by rfl) (fun W hW K hK => ?_) (fun v4 l4 h4 => ?_)
 ·go_simp
  exact hK _ _ (new1 _ _) ⟨rfl, Blk.new _ _ _, by simp⟩
 refine fe_p ?_
 refine zaf.step (by rfl) (fun W hW K hK => ?_) (fun v5 l5 h5 => ?_)
 ·go_simp
  exact hK _ _ (new1 _ _) ⟨rfl, Blk.new _ _ _, by simp⟩
 refine fe_p ?_
 refine zaf.tail (fun W hW hf hd => ?_)
 replace hW : Below w1.heap.size w1 W := Ext.trans (Below.refl _ _).drew hW
 obtain ⟨g4, rfl, k4, lo4, e4, e4'⟩ := zap (show Sp.fact w1.drew (Sp.any (zat 135 #[.int .i64 0, .int .i64 0])) v4 l4 h4 W from hf 4)
 obtain ⟨g5, rfl, k5, lo5, e5, e5'⟩ := zap (show Sp.fact w1.drew (Sp.any (zat 135 #[.int .i64 0, .int .i64 0])) v5 l5 h5 W from hf 5)
 have dd : h4 ≤ l5 ∨ h5 ≤ l4 := hd 4 5 (by decide)
 have hne : g4 ≠ g5 := by omega
 clear hf hd f0 f1 f2 f3 j0 j1 j2 j3 H1 H2 e4 e4' e5 e5' dd p0 p1
 have hww := a1.size
 replace a1 := bup a1 hW
 have q4 := (k4.set2 (v0 := .int .i64 a) (v1 := .int .i64 b)).far2 (g := g5) (v0 := .int .i64 c) (v1 := .int .i64 d) (Ne.symm hne)
 have q5 := (k5.far2 (g := g4) (v0 := .int .i64 a) (v1 := .int .i64 b) hne).set2 (v0 := .int .i64 c) (v1 := .int .i64 d)
 have hs4 : w1.heap.size ≤ g4 := lo4
 have hs5 : w1.heap.size ≤ g5 := lo5
 have a2 := a1.trans (zba (W := W) (g := g4) (v0 := .int .i64 a) (v1 := .int .i64 b) (by omega) a1.size)
 have a0 := a2.trans (zba (g := g5) (v0 := .int .i64 c) (v1 := .int .i64 d) (by omega) a2.size)
 clear a2 hs4 hs5 lo4 lo5 hW
 obtain ⟨x0, x1, fx⟩ := zai k4
 obtain ⟨y0, y1, fy⟩ := zai k5
 cases t1 : decide (b < a) with
 | true =>
  have HE : Hid (R = false) := hid (by rw [HR.out, t1]; rfl)
  go_wp2; go_ret; exact ⟨by rw [HE.out]; rfl, a0⟩
 | false =>
  cases t2 : decide (d < c) with
  | true =>
   have HE : Hid (R = false) := hid (by rw [HR.out, t1, t2]; rfl)
   go_wp2; go_ret; exact ⟨by rw [HE.out]; rfl, a0⟩
  | false =>
   have HE : Hid (R = (((z1 && z2) && z3) && z4)) := hid (by rw [HR.out, t1, t2]; rfl)
   go_wp2_with fail
   clear x0 x1 fx y0 y1 fy k4 k5 a1
   have hsz5 : ((((W.setCell ⟨g4, 0, none⟩ (.int .i64 a)).setCell ⟨g4, 1, none⟩ (.int .i64 b)).setCell ⟨g5, 0, none⟩ (.int .i64 c)).setCell ⟨g5, 1, none⟩ (.int .i64 d)).heap.size = W.heap.size := by simp
   generalize (((W.setCell ⟨g4, 0, none⟩ (.int .i64 a)).setCell ⟨g4, 1, none⟩ (.int .i64 b)).setCell ⟨g5, 0, none⟩ (.int .i64 c)).setCell ⟨g5, 1, none⟩ (.int .i64 d) = w5 at *
   (with_reducible refine (T1.out _).mono ?_)
   rintro e1 u1 ⟨rfl, rfl⟩
   clear T1
   cases z1 with
   | false => go_wp2; go_ret; exact ⟨by rw [HE.out]; rfl, a0⟩
   | true =>
    obtain ⟨x0, x1, fx⟩ := zai q4
    obtain ⟨y0, y1, fy⟩ := zai q5
    go_wp2_with fail
    clear x0 x1 fx y0 y1 fy
    (with_reducible refine (T2.out _).mono ?_)
    rintro e2 u2 ⟨rfl, rfl⟩
    clear T2
    cases z2 with
    | false => go_wp2; go_ret; exact ⟨by rw [HE.out]; rfl, a0⟩
    | true =>
     obtain ⟨x0, x1, fx⟩ := zai q4
     obtain ⟨y0, y1, fy⟩ := zai q5
     go_wp2_with fail
     clear x0 x1 fx y0 y1 fy
     (with_reducible refine (T3.out _).mono ?_)
     rintro e3 u3 ⟨rfl, rfl⟩
     clear T3
     cases z3 with
     | false => go_wp2; go_ret; exact ⟨by rw [HE.out]; rfl, a0⟩
     | true =>
      obtain ⟨x0, x1, fx⟩ := zai q4
      obtain ⟨y0, y1, fy⟩ := zai q5
      go_wp2_with fail
      clear x0 x1 fx y0 y1 fy
      (with_reducible refine (T4.out _).mono ?_)
      rintro e4 u4 ⟨rfl, rfl⟩
      clear T4
      go_wp2; go_ret; exact ⟨by rw [HE.out]; rfl, a0⟩
end
section
attribute [local go_sem ↓] Go.wp_at_zero Go.wp_at_succ
theorem zei (r s : Rg) (ir : I64 (loR r) ∧ I64 (hiR r)) (is_ : I64 (loR s) ∧ I64 (hiR s)) (w : World) :
  Calls Tryz.prog 46 #[.int .i64 7, r.val, s.val] w fun e w' => e = .returned (.bool (!(decide (hiR r < loR r) || decide (hiR s < loR s)) && (!(decide (loR s ≤ 0) && decide (0 ≤ hiR s)) && !((loR r == -9223372036854775808) && (decide (loR s ≤ -1) && decide (-1 ≤ hiR s)))))) ∧ Below w.heap.size w w' := by
 have H1 := hid (fun W => za4 r W)
 have H2 := hid (fun W => za4 s W)
 rw [Rg.val_eq] at H1 H2
 rw [Rg.val_eq, Rg.val_eq]
 generalize loR r = a at *
 generalize hiR r = b at *
 generalize loR s = c at *
 generalize hiR s = d at *
 have T1 := hid (fun W => zey c d 0 W)
 have T2 := hid (fun W => zey c d (-1) W)
 generalize (decide (c ≤ 0) && decide (0 ≤ d)) = z1 at *
 generalize (decide (c ≤ -1) && decide (-1 ≤ d)) = z3 at *
 obtain ⟨R, hR⟩ : ∃ R, R = (!(decide (b < a) || decide (d < c)) && (!z1 && !((a == -9223372036854775808) && z3))) := ⟨_, rfl⟩
 rw [← hR]
 have HR := hid hR
 clear hR
 obtain ⟨p0, p1, a1, a7⟩ := zal w #[r.lo, r.hi, r.hl, r.hh] #[s.lo, s.hi, s.hl, s.hh] 49 49
 clear a7
 go_enter Tryz.func46, Tryz.ntmps46
 go_upto_region 1 with fail
 generalize (w.alloc (Obj.cells #[r.lo, r.hi, r.hl, r.hh] 49)).alloc (Obj.cells #[s.lo, s.hi, s.hl, s.hh] 49) = w1 at *
 have f0 := zab (show w1.cell? ⟨w.heap.size, 0, none⟩ = some (.int .i64 r.lo) from p0.cell 0)
 have f1 := zab (show w1.cell? ⟨w.heap.size, 1, none⟩ = some (.int .i64 r.hi) from p0.cell 1)
 have f2 := zab (show w1.cell? ⟨w.heap.size, 2, none⟩ = some (.bool r.hl) from p0.cell 2)
 have f3 := zab (show w1.cell? ⟨w.heap.size, 3, none⟩ = some (.bool r.hh) from p0.cell 3)
 have j0 := zab (show w1.cell? ⟨w.heap.size + 1, 0, none⟩ = some (.int .i64 s.lo) from p1.cell 0)
 have j1 := zab (show w1.cell? ⟨w.heap.size + 1, 1, none⟩ = some (.int .i64 s.hi) from p1.cell 1)
 have j2 := zab (show w1.cell? ⟨w.heap.size + 1, 2, none⟩ = some (.bool s.hl) from p1.cell 2)
 have j3 := zab (show w1.cell? ⟨w.heap.size + 1, 3, none⟩ = some (.bool s.hh) from p1.cell 3)
 refine zac 6 [Sp.val (.agg #[r.lo, r.hi, r.hl, r.hh]), Sp.val (.agg #[a, b]), Sp.val (.agg #[s.lo, s.hi, s.hl, s.hh]), Sp.val (.agg #[c, d]), Sp.any (zat 135 #[.int .i64 0, .int .i64 0]), Sp.any (zat 135 #[.int .i64 0, .int .i64 0])] (by kernel_rfl) (by kernel_rfl) ?_
 (refine fe_t (fun _ _ => ?_))
 refine zaf.callFV (by rfl) (fun W hW hf => ⟨99, #[.agg #[r.lo, r.hi, r.hl, r.hh]], by go_simp, H1.out W⟩) (fun _ _ => ?_)
 refine fe_p ?_
 (refine fe_t (fun _ _ => ?_))
 refine zaf.callFV (by rfl) (fun W hW hf => ⟨99, #[.agg #[s.lo, s.hi, s.hl, s.hh]], by go_simp, H2.out W⟩) (fun _ _ => ?_)
 refine fe_p ?_
 refine zaf.step (by rfl) (fun W hW K hK => ?_) (fun v4 l4 h4 => ?_)
 ·go_simp
  exact hK _ _ (new1 _ _) ⟨rfl, Blk.new _ _ _, by simp⟩
 refine fe_p ?_
 refine zaf.step (by rfl) (fun W hW K hK => ?_) (fun v5 l5 h5 => ?_)
 ·go_simp
  exact hK _ _ (new1 _ _) ⟨rfl, Blk.new _ _ _, by simp⟩
 refine fe_p ?_
 refine zaf.tail (fun W hW hf hd => ?_)
 replace hW : Below w1.heap.size w1 W := Ext.trans (Below.refl _ _).drew hW
 obtain ⟨g4, rfl, k4, lo4, e4, e4'⟩ := zap (show Sp.fact w1.drew (Sp.any (zat 135 #[.int .i64 0, .int .i64 0])) v4 l4 h4 W from hf 4)
 obtain ⟨g5, rfl, k5, lo5, e5, e5'⟩ := zap (show Sp.fact w1.drew (Sp.any (zat 135 #[.int .i64 0, .int .i64 0])) v5 l5 h5 W from hf 5)
 have dd : h4 ≤ l5 ∨ h5 ≤ l4 := hd 4 5 (by decide)
 have a4 : g4 ≠ g5 := by omega
 clear hf hd f0 f1 f2 f3 j0 j1 j2 j3 H1 H2 e4 e4' e5 e5' dd p0 p1
 have hww := a1.size
 replace a1 := bup a1 hW
 have q4 := (k4.set2 (v0 := .int .i64 a) (v1 := .int .i64 b)).far2 (g := g5) (v0 := .int .i64 c) (v1 := .int .i64 d) (Ne.symm a4)
 have q5 := (k5.far2 (g := g4) (v0 := .int .i64 a) (v1 := .int .i64 b) a4).set2 (v0 := .int .i64 c) (v1 := .int .i64 d)
 have a9 : w1.heap.size ≤ g4 := lo4
 have a6 : w1.heap.size ≤ g5 := lo5
 have a3 := a1.trans (zba (W := W) (g := g4) (v0 := .int .i64 a) (v1 := .int .i64 b) (by omega) a1.size)
 have a0 := a3.trans (zba (g := g5) (v0 := .int .i64 c) (v1 := .int .i64 d) (by omega) a3.size)
 clear a3 a9 a6 lo4 lo5 hW
 obtain ⟨x0, x1, fx⟩ := zai k4
 obtain ⟨y0, y1, fy⟩ := zai k5
 cases t1 : decide (b < a) with
 | true =>
  have HE : Hid (R = false) := hid (by rw [HR.out, t1]; rfl)
  go_wp2; go_ret; exact ⟨by rw [HE.out]; rfl, a0⟩
 | false =>
  cases t2 : decide (d < c) with
  | true =>
   have HE : Hid (R = false) := hid (by rw [HR.out, t1, t2]; rfl)
   go_wp2; go_ret; exact ⟨by rw [HE.out]; rfl, a0⟩
  | false =>
   have HE : Hid (R = (!z1 && !((a == -9223372036854775808) && z3))) := hid (by rw [HR.out, t1, t2]; rfl)
   go_wp2_with fail
   clear x0 x1 fx y0 y1 fy k4 k5 a1
   have a8 : ((((W.setCell ⟨g4, 0, none⟩ (.int .i64 a)).setCell ⟨g4, 1, none⟩ (.int .i64 b)).setCell ⟨g5, 0, none⟩ (.int .i64 c)).setCell ⟨g5, 1, none⟩ (.int .i64 d)).heap.size = W.heap.size := by simp
   generalize (((W.setCell ⟨g4, 0, none⟩ (.int .i64 a)).setCell ⟨g4, 1, none⟩ (.int .i64 b)).setCell ⟨g5, 0, none⟩ (.int .i64 c)).setCell ⟨g5, 1, none⟩ (.int .i64 d) = w5 at *
   (with_reducible refine (T1.out _).mono ?_)
   rintro e6 w6 ⟨rfl, a2⟩
   replace q4 := q4.later a2
   replace q5 := q5.later a2
   replace a0 := bup a0 a2
   clear a2 T1
   cases z1 with
   | true => go_wp2; go_ret; exact ⟨by rw [HE.out]; rfl, a0⟩
   | false =>
    obtain ⟨x0, x1, fx⟩ := zai q4
    obtain ⟨y0, y1, fy⟩ := zai q5
    cases t9 : (a == -9223372036854775808) with
    | false => go_wp2; go_ret; exact ⟨by rw [HE.out, t9]; rfl, a0⟩
    | true =>
     go_wp2_with fail
     (with_reducible refine (T2.out _).mono ?_)
     rintro e7 w7 ⟨rfl, a5⟩
     go_wp2; go_ret; exact ⟨by rw [HE.out, t9]; first | rfl | simp, bup a0 a5⟩
theorem zgA (r s : Rg) (ir : I64 (loR r) ∧ I64 (hiR r)) (is_ : I64 (loR s) ∧ I64 (hiR s)) (w : World) :
  Calls Tryz.prog 46 #[.int .i64 8, r.val, s.val] w fun e w' => e = .returned (.bool (!(decide (hiR r < loR r) || decide (hiR s < loR s)) && (!(decide (loR s ≤ 0) && decide (0 ≤ hiR s)) && !((loR r == -9223372036854775808) && (decide (loR s ≤ -1) && decide (-1 ≤ hiR s)))))) ∧ Below w.heap.size w w' := by
 have H1 := hid (fun W => za4 r W)
 have H2 := hid (fun W => za4 s W)
 rw [Rg.val_eq] at H1 H2
 rw [Rg.val_eq, Rg.val_eq]
 generalize loR r = a at *
 generalize hiR r = b at *
 generalize loR s = c at *
 generalize hiR s = d at *
 have T1 := hid (fun W => zey c d 0 W)
 have T2 := hid (fun W => zey c d (-1) W)
 generalize (decide (c ≤ 0) && decide (0 ≤ d)) = z1 at *
 generalize (decide (c ≤ -1) && decide (-1 ≤ d)) = z3 at *
 obtain ⟨R, hR⟩ : ∃ R, R = (!(decide (b < a) || decide (d < c)) && (!z1 && !((a == -9223372036854775808) && z3))) := ⟨_, rfl⟩
 rw [← hR]
 have HR := hid hR
 clear hR
 obtain ⟨p0, p1, a1, a7⟩ := zal w #[r.lo, r.hi, r.hl, r.hh] #[s.lo, s.hi, s.hl, s.hh] 49 49
 clear a7
 go_enter Tryz.func46, Tryz.ntmps46
 go_upto_region 1 with fail
 generalize (w.alloc (Obj.cells #[r.lo, r.hi, r.hl, r.hh] 49)).alloc (Obj.cells #[s.lo, s.hi, s.hl, s.hh] 49) = w1 at *
 have f0 := zab (show w1.cell? ⟨w.heap.size, 0, none⟩ = some (.int .i64 r.lo) from p0.cell 0)
 have f1 := zab (show w1.cell? ⟨w.heap.size, 1, none⟩ = some (.int .i64 r.hi) from p0.cell 1)
 have f2 := zab (show w1.cell? ⟨w.heap.size, 2, none⟩ = some (.bool r.hl) from p0.cell 2)
 have f3 := zab (show w1.cell? ⟨w.heap.size, 3, none⟩ = some (.bool r.hh) from p0.cell 3)
 have j0 := zab (show w1.cell? ⟨w.heap.size + 1, 0, none⟩ = some (.int .i64 s.lo) from p1.cell 0)
 have j1 := zab (show w1.cell? ⟨w.heap.size + 1, 1, none⟩ = some (.int .i64 s.hi) from p1.cell 1)
 have j2 := zab (show w1.cell? ⟨w.heap.size + 1, 2, none⟩ = some (.bool s.hl) from p1.cell 2)
 have j3 := zab (show w1.cell? ⟨w.heap.size + 1, 3, none⟩ = some (.bool s.hh) from p1.cell 3)
 refine zac 6 [Sp.val (.agg #[r.lo, r.hi, r.hl, r.hh]), Sp.val (.agg #[a, b]), Sp.val (.agg #[s.lo, s.hi, s.hl, s.hh]), Sp.val (.agg #[c, d]), Sp.any (zat 135 #[.int .i64 0, .int .i64 0]), Sp.any (zat 135 #[.int .i64 0, .int .i64 0])] (by kernel_rfl) (by kernel_rfl) ?_
 (refine fe_t (fun _ _ => ?_))
 refine zaf.callFV (by rfl) (fun W hW hf => ⟨99, #[.agg #[r.lo, r.hi, r.hl, r.hh]], by go_simp, H1.out W⟩) (fun _ _ => ?_)
 refine fe_p ?_
 (refine fe_t (fun _ _ => ?_))
 refine zaf.callFV (by rfl) (fun W hW hf => ⟨99, #[.agg #[s.lo, s.hi, s.hl, s.hh]], by go_simp, H2.out W⟩) (fun _ _ => ?_)
 refine fe_p ?_
 refine zaf.step (by rfl) (fun W hW K hK => ?_) (fun v4 l4 h4 => ?_)
 ·go_simp
  exact hK _ _ (new1 _ _) ⟨rfl, Blk.new _ _ _, by simp⟩
 refine fe_p ?_
 refine zaf.step (by rfl) (fun W hW K hK => ?_) (fun v5 l5 h5 => ?_)
 ·go_simp
  exact hK _ _ (new1 _ _) ⟨rfl, Blk.new _ _ _, by simp⟩
 refine fe_p ?_
 refine zaf.tail (fun W hW hf hd => ?_)
 replace hW : Below w1.heap.size w1 W := Ext.trans (Below.refl _ _).drew hW
 obtain ⟨g4, rfl, k4, lo4, e4, e4'⟩ := zap (show Sp.fact w1.drew (Sp.any (zat 135 #[.int .i64 0, .int .i64 0])) v4 l4 h4 W from hf 4)
 obtain ⟨g5, rfl, k5, lo5, e5, e5'⟩ := zap (show Sp.fact w1.drew (Sp.any (zat 135 #[.int .i64 0, .int .i64 0])) v5 l5 h5 W from hf 5)
 have dd : h4 ≤ l5 ∨ h5 ≤ l4 := hd 4 5 (by decide)
 have a4 : g4 ≠ g5 := by omega
 clear hf hd f0 f1 f2 f3 j0 j1 j2 j3 H1 H2 e4 e4' e5 e5' dd p0 p1
 have hww := a1.size
 replace a1 := bup a1 hW
 have q4 := (k4.set2 (v0 := .int .i64 a) (v1 := .int .i64 b)).far2 (g := g5) (v0 := .int .i64 c) (v1 := .int .i64 d) (Ne.symm a4)
 have q5 := (k5.far2 (g := g4) (v0 := .int .i64 a) (v1 := .int .i64 b) a4).set2 (v0 := .int .i64 c) (v1 := .int .i64 d)
 have a9 : w1.heap.size ≤ g4 := lo4
 have a6 : w1.heap.size ≤ g5 := lo5
 have a3 := a1.trans (zba (W := W) (g := g4) (v0 := .int .i64 a) (v1 := .int .i64 b) (by omega) a1.size)
 have a0 := a3.trans (zba (g := g5) (v0 := .int .i64 c) (v1 := .int .i64 d) (by omega) a3.size)
 clear a3 a9 a6 lo4 lo5 hW
 obtain ⟨x0, x1, fx⟩ := zai k4
 obtain ⟨y0, y1, fy⟩ := zai k5
 cases t1 : decide (b < a) with
 | true =>
  have HE : Hid (R = false) := hid (by rw [HR.out, t1]; rfl)
  go_wp2; go_ret; exact ⟨by rw [HE.out]; rfl, a0⟩
 | false =>
  cases t2 : decide (d < c) with
  | true =>
   have HE : Hid (R = false) := hid (by rw [HR.out, t1, t2]; rfl)
   go_wp2; go_ret; exact ⟨by rw [HE.out]; rfl, a0⟩
  | false =>
   have HE : Hid (R = (!z1 && !((a == -9223372036854775808) && z3))) := hid (by rw [HR.out, t1, t2]; rfl)
   go_wp2_with fail
   clear x0 x1 fx y0 y1 fy k4 k5 a1
   have a8 : ((((W.setCell ⟨g4, 0, none⟩ (.int .i64 a)).setCell ⟨g4, 1, none⟩ (.int .i64 b)).setCell ⟨g5, 0, none⟩ (.int .i64 c)).setCell ⟨g5, 1, none⟩ (.int .i64 d)).heap.size = W.heap.size := by simp
   generalize (((W.setCell ⟨g4, 0, none⟩ (.int .i64 a)).setCell ⟨g4, 1, none⟩ (.int .i64 b)).setCell ⟨g5, 0, none⟩ (.int .i64 c)).setCell ⟨g5, 1, none⟩ (.int .i64 d) = w5 at *
   (with_reducible refine (T1.out _).mono ?_)
   rintro e6 w6 ⟨rfl, a2⟩
   replace q4 := q4.later a2
   replace q5 := q5.later a2
   replace a0 := bup a0 a2
   clear a2 T1
   cases z1 with
   | true => go_wp2; go_ret; exact ⟨by rw [HE.out]; rfl, a0⟩
   | false =>
    obtain ⟨x0, x1, fx⟩ := zai q4
    obtain ⟨y0, y1, fy⟩ := zai q5
    cases t9 : (a == -9223372036854775808) with
    | false => go_wp2; go_ret; exact ⟨by rw [HE.out, t9]; rfl, a0⟩
    | true =>
     go_wp2_with fail
     (with_reducible refine (T2.out _).mono ?_)
     rintro e7 w7 ⟨rfl, a5⟩
     go_wp2; go_ret; exact ⟨by rw [HE.out, t9]; first | rfl | simp, bup a0 a5⟩
end
section
attribute [local go_sem ↓] Go.wp_at_zero Go.wp_at_succ
theorem zdF (a : Int) (w : World) (ha : I64 a) : Calls Tryz.prog 107 #[a] w (zaE (negW a) w) := by
 have HA := hid ha
 clear ha
 cases t1 : (a == -9223372036854775808)
 all_goals
  go_enter Tryz.func107, Tryz.ntmps107
  go_wp2
  go_ret2
  have ha := HA.out
  unfold I64 at ha
  simp only [beq_iff_eq, beq_eq_false_iff_ne] at t1
  refine prok ?_
  unfold negW
  first | exact zb6 (by omega) | exact zbt (by omega)
theorem zic (a b : Int) (w : World) (ha : I64 a) (hb : I64 b) : Calls Tryz.prog 108 #[a, b] w (zaE (addW a b) w) := by
 have HA := hid ha
 have HB := hid hb
 clear ha hb
 cases t1 : decide (0 < b) <;> cases t2 : decide (wrap64 (9223372036854775807 - b) < a) <;> cases t3 : decide (b < 0) <;> cases t4 : decide (a < wrap64 (-9223372036854775808 - b))
 all_goals
  go_enter Tryz.func108, Tryz.ntmps108
  go_wp2
  go_ret2
  have ha := HA.out
  have hb := HB.out
  unfold I64 at ha hb
  simp only [decide_eq_true_eq, decide_eq_false_iff_not] at t1 t2 t3 t4
  unfold wrap64 at t2 t4
  refine prok ?_
  unfold addW
  first | exact zb6 (by omega) | exact zbt (by omega)
theorem zhJ (a b : Int) (w : World) (ha : I64 a) (hb : I64 b) : Calls Tryz.prog 109 #[a, b] w (zaE (subW a b) w) := by
 have HA := hid ha
 have HB := hid hb
 clear ha hb
 cases t1 : decide (b < 0) <;> cases t2 : decide (wrap64 (9223372036854775807 + b) < a) <;> cases t3 : decide (0 < b) <;> cases t4 : decide (a < wrap64 (-9223372036854775808 + b))
 all_goals
  go_enter Tryz.func109, Tryz.ntmps109
  go_wp2
  go_ret2
  have ha := HA.out
  have hb := HB.out
  unfold I64 at ha hb
  simp only [decide_eq_true_eq, decide_eq_false_iff_not] at t1 t2 t3 t4
  unfold wrap64 at t2 t4
  refine prok ?_
  unfold subW
  first | exact zb6 (by omega) | exact zbt (by omega)
theorem ziY {a b : Int} (ha : I64 a) (hb : I64 b) (a0 : a ≠ 0) (b0 : b ≠ 0) (b1 : b ≠ -1) : (wrap64 ((wrap64 (a * b)).tdiv b) = a) ↔ I64 (a * b) := by
 have hw : I64 (wrap64 (a * b)) := by unfold I64 wrap64; omega
 have hin : wrap64 ((wrap64 (a * b)).tdiv b) = (wrap64 (a * b)).tdiv b := IntWalk.wrap64_in _ (zep hw b0 (by simp [b1]))
 rw [hin]
 constructor
 ·intro h
  have h1 := Int.mul_tdiv_add_tmod (wrap64 (a * b)) b
  rw [h, Int.mul_comm] at h1
  have h2 : ((wrap64 (a * b)).tmod b).natAbs = (wrap64 (a * b)).natAbs % b.natAbs := Int.natAbs_tmod _ _
  have h3 : (wrap64 (a * b)).natAbs % b.natAbs < b.natAbs := Nat.mod_lt _ (by omega)
  unfold I64 at *
  generalize (wrap64 (a * b)).tmod b = r at *
  generalize a * b = p at *
  unfold wrap64 at h1 hw
  omega
 ·intro h
  have e : wrap64 (a * b) = a * b := IntWalk.wrap64_in _ h
  rw [e, Int.mul_tdiv_cancel _ b0]
theorem zfn (b : Int) : mulW 0 b = (0, 0) := by unfold mulW; rw [Int.zero_mul]; rfl
theorem zfy (a : Int) : mulW a 0 = (0, 0) := by unfold mulW; rw [Int.mul_zero]; rfl
theorem zgH (b : Int) : mulW (-1) b = negW b := by unfold mulW negW; rw [Int.neg_one_mul]
theorem zgE (a : Int) : mulW a (-1) = negW a := by unfold mulW negW; rw [Int.mul_neg_one]
theorem zhX (a b : Int) (w : World) (ha : I64 a) (hb : I64 b) : Calls Tryz.prog 110 #[a, b] w (zaE (mulW a b) w) := by
 have HNA := hid (zdF a w ha)
 have HNB := hid (zdF b w hb)
 have HA := hid ha
 have HB := hid hb
 clear ha hb
 by_cases a0 : a = 0
 ·subst a0
  rw [zfn]
  go_enter Tryz.func110, Tryz.ntmps110
  go_wp2
  go_ret2
  exact prok rfl
 by_cases b0 : b = 0
 ·subst b0
  have t1 : (a == 0) = false := by simp [a0]
  rw [zfy]
  go_enter Tryz.func110, Tryz.ntmps110
  go_wp2
  go_ret2
  exact prok rfl
 have t1 : (a == 0) = false := by simp [a0]
 have t2 : (b == 0) = false := by simp [b0]
 by_cases a1 : a = -1
 ·subst a1
  rw [zgH]
  generalize negW b = p at *
  go_enter Tryz.func110, Tryz.ntmps110
  go_wp2_with fail
  refine HNB.out.mono ?_
  rintro e w' ⟨rfl, rfl⟩
  obtain ⟨p, q⟩ := p
  unfold zce
  go_wp2
  go_ret2
  exact prok rfl
 have t3 : (a == -1) = false := by simp [a1]
 by_cases b1 : b = -1
 ·subst b1
  rw [zgE]
  generalize negW a = p at *
  go_enter Tryz.func110, Tryz.ntmps110
  go_wp2_with fail
  refine HNA.out.mono ?_
  rintro e w' ⟨rfl, rfl⟩
  obtain ⟨p, q⟩ := p
  unfold zce
  go_wp2
  go_ret2
  exact prok rfl
 have t4 : (b == -1) = false := by simp [b1]
 have HM := hid (ziY HA.out HB.out a0 b0 b1)
 have hne : ¬ b = 0 := b0
 have hov : (wrap64 (a * b) == -9223372036854775808 && b == -1) = false := by simp [b1]
 clear a0 b0 a1 b1 HNA HNB HA HB
 cases t5 : (wrap64 ((wrap64 (a * b)).tdiv b) != a)
 all_goals
  go_enter Tryz.func110, Tryz.ntmps110
  go_wp2
  go_ret2
  have hm := HM.out
  simp only [bne_iff_ne, bne_eq_false_iff_eq] at t5
  refine prok ?_
  unfold mulW
  first | (exact zb6 (hm.1 t5)) | (refine zbt ?_; have hn : ¬ I64 (a * b) := fun h => t5 (hm.2 h); unfold I64 at hn; omega)
def doW (kd a b : Int) : Int × Int := if kd = 5 then negW a else if kd = 6 then addW a b else if kd = 7 then subW a b else if kd = 8 then mulW a b else if kd = 9 then divW a b else remW a b
theorem zlf (a b : Int) (w : World) (ha : I64 a) (hb : I64 b) : Calls Tryz.prog 49 #[.int .i64 5, a, b] w (zaE (negW a) w) := by
  have HC := hid (zdF a w ha)
  generalize negW a = p at *
  clear ha hb
  go_enter Tryz.func49, Tryz.ntmps49
  go_wp2_with fail
  refine HC.out.mono ?_
  rintro e w' ⟨rfl, rfl⟩
  obtain ⟨p, q⟩ := p
  unfold zce
  go_wp2
  go_ret2
  exact prok rfl
theorem zk6 (a b : Int) (w : World) (ha : I64 a) (hb : I64 b) : Calls Tryz.prog 49 #[.int .i64 6, a, b] w (zaE (addW a b) w) := by
  have HC := hid (zic a b w ha hb)
  generalize addW a b = p at *
  clear ha hb
  go_enter Tryz.func49, Tryz.ntmps49
  go_wp2_with fail
  refine HC.out.mono ?_
  rintro e w' ⟨rfl, rfl⟩
  obtain ⟨p, q⟩ := p
  unfold zce
  go_wp2
  go_ret2
  exact prok rfl
theorem zlw (a b : Int) (w : World) (ha : I64 a) (hb : I64 b) : Calls Tryz.prog 49 #[.int .i64 7, a, b] w (zaE (subW a b) w) := by
  have HC := hid (zhJ a b w ha hb)
  generalize subW a b = p at *
  clear ha hb
  go_enter Tryz.func49, Tryz.ntmps49
  go_wp2_with fail
  refine HC.out.mono ?_
  rintro e w' ⟨rfl, rfl⟩
  obtain ⟨p, q⟩ := p
  unfold zce
  go_wp2
  go_ret2
  exact prok rfl
theorem zlx (a b : Int) (w : World) (ha : I64 a) (hb : I64 b) : Calls Tryz.prog 49 #[.int .i64 8, a, b] w (zaE (mulW a b) w) := by
  have HC := hid (zhX a b w ha hb)
  generalize mulW a b = p at *
  clear ha hb
  go_enter Tryz.func49, Tryz.ntmps49
  go_wp2_with fail
  refine HC.out.mono ?_
  rintro e w' ⟨rfl, rfl⟩
  obtain ⟨p, q⟩ := p
  unfold zce
  go_wp2
  go_ret2
  exact prok rfl
theorem zli (a b : Int) (w : World) (ha : I64 a) (hb : I64 b) : Calls Tryz.prog 49 #[.int .i64 9, a, b] w (zaE (divW a b) w) := by
  have HC := hid (zj6 a b w ha hb)
  generalize divW a b = p at *
  clear ha hb
  go_enter Tryz.func49, Tryz.ntmps49
  go_wp2_with fail
  refine HC.out.mono ?_
  rintro e w' ⟨rfl, rfl⟩
  obtain ⟨p, q⟩ := p
  unfold zce
  go_wp2
  go_ret2
  exact prok rfl
theorem zlA (kd a b : Int) (w : World) (ha : I64 a) (hb : I64 b) (h5 : kd ≠ 5) (h6 : kd ≠ 6) (h7 : kd ≠ 7) (h8 : kd ≠ 8) (h9 : kd ≠ 9) : Calls Tryz.prog 49 #[kd, a, b] w (zaE (remW a b) w) := by
  have HC := hid (zjB a b w ha hb)
  generalize remW a b = p at *
  clear ha hb
  have t5 : (kd == 5) = false := by simp [h5]
  have t6 : (kd == 6) = false := by simp [h6]
  have t7 : (kd == 7) = false := by simp [h7]
  have t8 : (kd == 8) = false := by simp [h8]
  have t9 : (kd == 9) = false := by simp [h9]
  clear h5 h6 h7 h8 h9
  go_enter Tryz.func49, Tryz.ntmps49
  go_wp2_with fail
  refine HC.out.mono ?_
  rintro e w' ⟨rfl, rfl⟩
  obtain ⟨p, q⟩ := p
  unfold zce
  go_wp2
  go_ret2
  exact prok rfl
theorem zjj (kd a b : Int) (w : World) (ha : I64 a) (hb : I64 b) : Calls Tryz.prog 49 #[kd, a, b] w (zaE (doW kd a b) w) := by
 unfold doW
 split
 ·rename_i h; subst h; exact zlf a b w ha hb
 ·split
  ·rename_i h; subst h; exact zk6 a b w ha hb
  ·split
   ·rename_i h; subst h; exact zlw a b w ha hb
   ·split
    ·rename_i h; subst h; exact zlx a b w ha hb
    ·split
     ·rename_i h; subst h; exact zli a b w ha hb
     ·rename_i h5 h6 h7 h8 h9; exact zlA kd a b w ha hb h5 h6 h7 h8 h9
theorem za9 (kd a b : Int) (w : World) (ha : I64 a) (hb : I64 b) : Calls Tryz.prog 106 #[kd, a, b] w (zbk (decide ((doW kd a b).2 = 0)) w) := by
 have HC := hid (zjj kd a b w ha hb)
 generalize doW kd a b = p at *
 clear ha hb
 obtain ⟨p, q⟩ := p
 dsimp only
 cases t : decide (q = 0)
 all_goals
  go_enter Tryz.func106, Tryz.ntmps106
  go_wp2_with fail
  refine HC.out.mono ?_
  rintro e w' ⟨rfl, rfl⟩
  unfold zce
  go_wp2
  go_ret
  exact ⟨by rw [← t]; rfl, rfl⟩
end
end Go.Proofs.YtnmpgijiimglcaaGreat
