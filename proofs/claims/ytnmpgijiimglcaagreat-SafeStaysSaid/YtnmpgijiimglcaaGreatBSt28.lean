import Derived.Test.YtnmpgijiimglcaaGreatBSt21
import Derived.Test.YtnmpgijiimglcaaGreatBSt23
import Derived.Test.YtnmpgijiimglcaaGreatBSt27
import Derived.Test.YtnmpgijiimglcaaGreatBSt16
import Derived.Test.YtnmpgijiimglcaaGreatBSt11
namespace Go.Proofs.YtnmpgijiimglcaaGreat
section
open Go.RowKit
set_option maxRecDepth 100000
set_option maxHeartbeats 8000000
attribute [local go_sem ↓] Go.wp_at_zero Go.wp_at_succ
theorem turned_ok (r : Rg) (ir : I64 r.lo ∧ I64 r.hi) (w : World) : Calls Tryz.prog 236 #[r.val] w (BelVal (turnedR r).val w) := by
 obtain ⟨lo, hi, hl, hh⟩ := r
 dsimp only at ir
 have H1 := hid (fun W => (negated_ok hi ir.2 W).mono (R' := fun e w' => e = .returned (.int .i64 (negB hi)) ∧ Below W.heap.size W w') fun _ _ ⟨he, hw⟩ => ⟨he, hw ▸ Below.refl _ _⟩)
 have H2 := hid (fun W => (negated_ok lo ir.1 W).mono (R' := fun e w' => e = .returned (.int .i64 (negB lo)) ∧ Below W.heap.size W w') fun _ _ ⟨he, hw⟩ => ⟨he, hw ▸ Below.refl _ _⟩)
 clear ir
 unfold turnedR Rg.val
 dsimp only
 generalize negB hi = a at *
 generalize negB lo = b at *
 obtain ⟨p1, p2, a0, a6⟩ := new_two w #[lo, hi, hl, hh] #[.int .i64 0, .int .i64 0, false, false] 49 49
 clear a6
 go_enter Tryz.func236, Tryz.ntmps236
 go_upto_region 1 with fail
 generalize (w.alloc (Obj.cells #[lo, hi, hl, hh] 49)).alloc (Obj.cells #[.int .i64 0, .int .i64 0, false, false] 49) = w1 at *
 have f0 := laterE (show w1.cell? ⟨w.heap.size, 0, none⟩ = some (.int .i64 lo) from p1.cell 0)
 have f1 := laterE (show w1.cell? ⟨w.heap.size, 1, none⟩ = some (.int .i64 hi) from p1.cell 1)
 have f2 := laterE (show w1.cell? ⟨w.heap.size, 2, none⟩ = some (.bool hl) from p1.cell 2)
 have f3 := laterE (show w1.cell? ⟨w.heap.size, 3, none⟩ = some (.bool hh) from p1.cell 3)
 refine wp_region_flowE 10 [Sp.val (.pointer (some ⟨w.heap.size, 1, none⟩)), Sp.val (.int .i64 hi), Sp.val (.int .i64 a), Sp.val (.pointer (some ⟨w.heap.size, 0, none⟩)), Sp.val (.int .i64 lo), Sp.val (.int .i64 b), Sp.val (.pointer (some ⟨w.heap.size, 3, none⟩)), Sp.val (.bool hh), Sp.val (.pointer (some ⟨w.heap.size, 2, none⟩)), Sp.val (.bool hl)] (by kernel_rfl) (by kernel_rfl) ?_
 (refine fe_t (fun _ _ => ?_))
 (refine fe_t (fun _ _ => ?_))
 refine FlowE.callFV (by rfl) (fun W hW hf => ⟨206, #[hi], by go_simp, H1.out W⟩) (fun _ _ => ?_)
 refine fe_p ?_
 (refine fe_t (fun _ _ => ?_))
 (refine fe_t (fun _ _ => ?_))
 refine FlowE.callFV (by rfl) (fun W hW hf => ⟨206, #[lo], by go_simp, H2.out W⟩) (fun _ _ => ?_)
 refine fe_p ?_
 iterate 4 (refine fe_t (fun _ _ => ?_))
 refine FlowE.tail (fun W hW hf hd => ?_)
 replace hW : Below w1.heap.size w1 W := Ext.trans (Below.refl _ _).drew hW
 clear hf hd H1 H2 f0 f1 f2 f3
 replace p2 := p2.later hW
 replace a0 := bup a0 hW
 clear hW p1
 obtain ⟨x0, x1, x2, x3, fx⟩ := rgbox p2
 go_wp2
 clear x0 x1 x2 x3 fx
 have q9 := (((p2.set_ 0 (.int .i64 a)).set_ 1 (.int .i64 b)).set_ 2 (.bool hh)).set_ 3 (.bool hl)
 have a3 := a0.trans (below4 (W := W) (g := w.heap.size + 1) (v0 := .int .i64 a) (v1 := .int .i64 b) (v2 := .bool hh) (v3 := .bool hl) (by omega) a0.size)
 obtain ⟨z0, z1, z2, z3, fz⟩ := rgbox (show Blk _ _ _ #[a, b, hh, hl] from q9)
 refine bodyPost_ret (v := .agg #[a, b, hh, hl]) (by simp [results, Tryz.results236, go_sem, z0, z1, z2, z3]) rfl (And.intro ?_ a3)
 rfl
theorem fit_bad {a : Int} (h : (fit a).2 ≠ 0) : (fit a).1 = 0 := by
 by_cases q : -9223372036854775808 ≤ a ∧ a ≤ 9223372036854775807
 ·rw [fit_in q] at h; exact absurd rfl h
 ·rw [fit_out (by omega)]
theorem rest_ok (k : Int) (r : Rg) (ik : I64 k) (ir : I64 r.lo ∧ I64 r.hi) (w : World) : Calls Tryz.prog 196 #[.int .i64 k, r.val] w (BelVal (restR k r).val w) := by
 obtain ⟨lo, hi, hl, hh⟩ := r
 dsimp only at ir
 have H1 := hid (fun W => nsub_any k hi W ik ir.2)
 have H2 := hid (fun W => nsub_any k lo W ik ir.1)
 have Z1 := hid (fun h : (subW k hi).2 ≠ 0 => (show (subW k hi).1 = 0 from fit_bad h))
 have Z2 := hid (fun h : (subW k lo).2 ≠ 0 => (show (subW k lo).1 = 0 from fit_bad h))
 clear ik ir
 have HE : Hid (restR k ⟨lo, hi, hl, hh⟩ = ⟨if hh then (subW k hi).1 else 0, if hl then (subW k lo).1 else 0, hh && decide ((subW k hi).2 = 0), hl && decide ((subW k lo).2 = 0)⟩) := hid rfl
 generalize restR k ⟨lo, hi, hl, hh⟩ = R at *
 generalize subW k hi = u at *
 generalize subW k lo = v at *
 obtain ⟨u, q1⟩ := u
 obtain ⟨v, q2⟩ := v
 unfold PairRes pairV at H1 H2
 dsimp only at H1 H2 Z1 Z2 HE
 rw [show Rg.val ⟨lo, hi, hl, hh⟩ = .agg #[.int .i64 lo, .int .i64 hi, hl, hh] from rfl]
 obtain ⟨p3, p4, p5, a0, a6⟩ := new_three w #[.int .i64 lo, .int .i64 hi, hl, hh] #[.int .i64 0, .int .i64 0, false, false] #[.int .i64 0, .int .i64 0, false, false] 49 49 49
 clear a6
 go_enter Tryz.func196, Tryz.ntmps196
 obtain ⟨x0, x1, x2, x3, fx⟩ := rgbox p3
 go_wp2_with fail
 generalize ((w.alloc (Obj.cells #[.int .i64 lo, .int .i64 hi, hl, hh] 49)).alloc (Obj.cells #[.int .i64 0, .int .i64 0, false, false] 49)).alloc (Obj.cells #[.int .i64 0, .int .i64 0, false, false] 49) = w1 at *
 (with_reducible refine (H1.out w1).mono ?_)
 rintro e_1 w_1 ⟨rfl, rfl⟩
 clear H1
 obtain ⟨y0, y1, y2, y3, fy⟩ := rgbox p5
 cases hh with
 | false =>
  go_wp2_with fail
  clear x0 x1 x2 x3 fx y0 y1 y2 y3 fy
  (with_reducible refine (H2.out w1).mono ?_)
  rintro e_2 w_2 ⟨rfl, rfl⟩
  clear H2
  obtain ⟨x0, x1, x2, x3, fx⟩ := rgbox p3
  obtain ⟨y0, y1, y2, y3, fy⟩ := rgbox p5
  cases hl with
  | false =>
   have hR : R = ⟨0, 0, false, false⟩ := by rw [HE.out]; simp_all
   subst hR
   clear HE Z1 Z2
   obtain ⟨k0, k1, k2, k3, fk⟩ := rgbox p4
   go_wp2
   clear x0 x1 x2 x3 fx y0 y1 y2 y3 fy k0 k1 k2 k3 fk
   have q9 := (((p4.set_ 0 (.int .i64 0)).set_ 1 (.int .i64 0)).set_ 2 (.bool false)).set_ 3 (.bool false)
   have a3 := a0.trans (below4 (W := w1) (g := w.heap.size + 1) (v0 := .int .i64 0) (v1 := .int .i64 0) (v2 := .bool false) (v3 := .bool false) (by omega) a0.size)
   obtain ⟨z0, z1, z2, z3, fz⟩ := rgbox (show Blk _ _ _ #[.int .i64 0, .int .i64 0, false, false] from q9)
   refine bodyPost_ret (v := .agg #[.int .i64 0, .int .i64 0, false, false]) (by simp [results, Tryz.results196, go_sem, z0, z1, z2, z3]) rfl (And.intro rfl a3)
  | true =>
   cases t2 : (q2 == 0) with
   | false =>
    have hR : R = ⟨0, 0, false, false⟩ := by rw [HE.out]; have a2 := Z2.out (by simpa using t2); have b2 : ¬ q2 = 0 := (by simpa using t2); simp_all
    subst hR
    clear HE Z1 Z2
    obtain ⟨k0, k1, k2, k3, fk⟩ := rgbox p4
    go_wp2
    clear x0 x1 x2 x3 fx y0 y1 y2 y3 fy k0 k1 k2 k3 fk
    have q9 := (((p4.set_ 0 (.int .i64 0)).set_ 1 (.int .i64 0)).set_ 2 (.bool false)).set_ 3 (.bool false)
    have a3 := a0.trans (below4 (W := w1) (g := w.heap.size + 1) (v0 := .int .i64 0) (v1 := .int .i64 0) (v2 := .bool false) (v3 := .bool false) (by omega) a0.size)
    obtain ⟨z0, z1, z2, z3, fz⟩ := rgbox (show Blk _ _ _ #[.int .i64 0, .int .i64 0, false, false] from q9)
    refine bodyPost_ret (v := .agg #[.int .i64 0, .int .i64 0, false, false]) (by simp [results, Tryz.results196, go_sem, z0, z1, z2, z3]) rfl (And.intro rfl a3)
   | true =>
    have hR : R = ⟨0, v, false, true⟩ := by rw [HE.out]; have b2 : q2 = 0 := (by simpa using t2); simp_all
    subst hR
    clear HE Z1 Z2
    obtain ⟨k0, k1, k2, k3, fk⟩ := rgbox p4
    go_wp2
    clear x0 x1 x2 x3 fx y0 y1 y2 y3 fy k0 k1 k2 k3 fk
    have n54 : (w.heap.size + 1 + 1) ≠ w.heap.size + 1 := by omega
    have a4 := (a0.trans (below1 (W := w1) (g := w.heap.size + 1 + 1) (i := 1) (v := .int .i64 v) (by omega) a0.size))
    have a5 := a4.trans (below1 (g := w.heap.size + 1 + 1) (i := 3) (v := .bool true) (by omega) a4.size)
    replace p4 := (p4.far (p := ⟨w.heap.size + 1 + 1, 1, none⟩) n54 (.int .i64 v)).far (p := ⟨w.heap.size + 1 + 1, 3, none⟩) n54 (.bool true)
    clear a0 a4
    have a0 := a5
    clear a5
    have q9 := (((p4.set_ 0 (.int .i64 0)).set_ 1 (.int .i64 v)).set_ 2 (.bool false)).set_ 3 (.bool true)
    have a3 := a0.trans (below4 (W := (w1.setCell ⟨w.heap.size + 1 + 1, 1, none⟩ (.int .i64 v)).setCell ⟨w.heap.size + 1 + 1, 3, none⟩ (.bool true)) (g := w.heap.size + 1) (v0 := .int .i64 0) (v1 := .int .i64 v) (v2 := .bool false) (v3 := .bool true) (by omega) a0.size)
    obtain ⟨z0, z1, z2, z3, fz⟩ := rgbox (show Blk _ _ _ #[.int .i64 0, v, false, true] from q9)
    refine bodyPost_ret (v := .agg #[.int .i64 0, v, false, true]) (by simp [results, Tryz.results196, go_sem, z0, z1, z2, z3]) rfl (And.intro rfl a3)
 | true =>
  cases t1 : (q1 == 0) with
  | false =>
   go_wp2_with fail
   clear x0 x1 x2 x3 fx y0 y1 y2 y3 fy
   (with_reducible refine (H2.out w1).mono ?_)
   rintro e_2 w_2 ⟨rfl, rfl⟩
   clear H2
   obtain ⟨x0, x1, x2, x3, fx⟩ := rgbox p3
   obtain ⟨y0, y1, y2, y3, fy⟩ := rgbox p5
   cases hl with
   | false =>
    have hR : R = ⟨0, 0, false, false⟩ := by rw [HE.out]; have a1 := Z1.out (by simpa using t1); have b1 : ¬ q1 = 0 := (by simpa using t1); simp_all
    subst hR
    clear HE Z1 Z2
    obtain ⟨k0, k1, k2, k3, fk⟩ := rgbox p4
    go_wp2
    clear x0 x1 x2 x3 fx y0 y1 y2 y3 fy k0 k1 k2 k3 fk
    have q9 := (((p4.set_ 0 (.int .i64 0)).set_ 1 (.int .i64 0)).set_ 2 (.bool false)).set_ 3 (.bool false)
    have a3 := a0.trans (below4 (W := w1) (g := w.heap.size + 1) (v0 := .int .i64 0) (v1 := .int .i64 0) (v2 := .bool false) (v3 := .bool false) (by omega) a0.size)
    obtain ⟨z0, z1, z2, z3, fz⟩ := rgbox (show Blk _ _ _ #[.int .i64 0, .int .i64 0, false, false] from q9)
    refine bodyPost_ret (v := .agg #[.int .i64 0, .int .i64 0, false, false]) (by simp [results, Tryz.results196, go_sem, z0, z1, z2, z3]) rfl (And.intro rfl a3)
   | true =>
    cases t2 : (q2 == 0) with
    | false =>
     have hR : R = ⟨0, 0, false, false⟩ := by rw [HE.out]; have a1 := Z1.out (by simpa using t1); have b1 : ¬ q1 = 0 := (by simpa using t1); have a2 := Z2.out (by simpa using t2); have b2 : ¬ q2 = 0 := (by simpa using t2); simp_all
     subst hR
     clear HE Z1 Z2
     obtain ⟨k0, k1, k2, k3, fk⟩ := rgbox p4
     go_wp2
     clear x0 x1 x2 x3 fx y0 y1 y2 y3 fy k0 k1 k2 k3 fk
     have q9 := (((p4.set_ 0 (.int .i64 0)).set_ 1 (.int .i64 0)).set_ 2 (.bool false)).set_ 3 (.bool false)
     have a3 := a0.trans (below4 (W := w1) (g := w.heap.size + 1) (v0 := .int .i64 0) (v1 := .int .i64 0) (v2 := .bool false) (v3 := .bool false) (by omega) a0.size)
     obtain ⟨z0, z1, z2, z3, fz⟩ := rgbox (show Blk _ _ _ #[.int .i64 0, .int .i64 0, false, false] from q9)
     refine bodyPost_ret (v := .agg #[.int .i64 0, .int .i64 0, false, false]) (by simp [results, Tryz.results196, go_sem, z0, z1, z2, z3]) rfl (And.intro rfl a3)
    | true =>
     have hR : R = ⟨0, v, false, true⟩ := by rw [HE.out]; have a1 := Z1.out (by simpa using t1); have b1 : ¬ q1 = 0 := (by simpa using t1); have b2 : q2 = 0 := (by simpa using t2); simp_all
     subst hR
     clear HE Z1 Z2
     obtain ⟨k0, k1, k2, k3, fk⟩ := rgbox p4
     go_wp2
     clear x0 x1 x2 x3 fx y0 y1 y2 y3 fy k0 k1 k2 k3 fk
     have n54 : (w.heap.size + 1 + 1) ≠ w.heap.size + 1 := by omega
     have a4 := (a0.trans (below1 (W := w1) (g := w.heap.size + 1 + 1) (i := 1) (v := .int .i64 v) (by omega) a0.size))
     have a5 := a4.trans (below1 (g := w.heap.size + 1 + 1) (i := 3) (v := .bool true) (by omega) a4.size)
     replace p4 := (p4.far (p := ⟨w.heap.size + 1 + 1, 1, none⟩) n54 (.int .i64 v)).far (p := ⟨w.heap.size + 1 + 1, 3, none⟩) n54 (.bool true)
     clear a0 a4
     have a0 := a5
     clear a5
     have q9 := (((p4.set_ 0 (.int .i64 0)).set_ 1 (.int .i64 v)).set_ 2 (.bool false)).set_ 3 (.bool true)
     have a3 := a0.trans (below4 (W := (w1.setCell ⟨w.heap.size + 1 + 1, 1, none⟩ (.int .i64 v)).setCell ⟨w.heap.size + 1 + 1, 3, none⟩ (.bool true)) (g := w.heap.size + 1) (v0 := .int .i64 0) (v1 := .int .i64 v) (v2 := .bool false) (v3 := .bool true) (by omega) a0.size)
     obtain ⟨z0, z1, z2, z3, fz⟩ := rgbox (show Blk _ _ _ #[.int .i64 0, v, false, true] from q9)
     refine bodyPost_ret (v := .agg #[.int .i64 0, v, false, true]) (by simp [results, Tryz.results196, go_sem, z0, z1, z2, z3]) rfl (And.intro rfl a3)
  | true =>
   go_wp2_with fail
   clear x0 x1 x2 x3 fx y0 y1 y2 y3 fy
   have n53 : (w.heap.size + 1 + 1) ≠ w.heap.size := by omega
   have n54 : (w.heap.size + 1 + 1) ≠ w.heap.size + 1 := by omega
   have a4 := (a0.trans (below1 (W := w1) (g := w.heap.size + 1 + 1) (i := 0) (v := .int .i64 u) (by omega) a0.size))
   have a5 := a4.trans (below1 (g := w.heap.size + 1 + 1) (i := 2) (v := .bool true) (by omega) a4.size)
   replace p3 := (p3.far (p := ⟨w.heap.size + 1 + 1, 0, none⟩) n53 (.int .i64 u)).far (p := ⟨w.heap.size + 1 + 1, 2, none⟩) n53 (.bool true)
   replace p4 := (p4.far (p := ⟨w.heap.size + 1 + 1, 0, none⟩) n54 (.int .i64 u)).far (p := ⟨w.heap.size + 1 + 1, 2, none⟩) n54 (.bool true)
   replace p5 := (p5.set_ 0 (.int .i64 u)).set_ 2 (.bool true)
   clear a0 a4 n53 n54
   have a0 := a5
   clear a5
   generalize (w1.setCell ⟨w.heap.size + 1 + 1, 0, none⟩ (.int .i64 u)).setCell ⟨w.heap.size + 1 + 1, 2, none⟩ (.bool true) = wA at *
   replace p5 : Blk wA (w.heap.size + 1 + 1) 49 #[u, .int .i64 0, true, false] := p5
   (with_reducible refine (H2.out wA).mono ?_)
   rintro e_2 w_2 ⟨rfl, rfl⟩
   clear H2
   obtain ⟨x0, x1, x2, x3, fx⟩ := rgbox p3
   obtain ⟨y0, y1, y2, y3, fy⟩ := rgbox p5
   cases hl with
   | false =>
    have hR : R = ⟨u, 0, true, false⟩ := by rw [HE.out]; have b1 : q1 = 0 := (by simpa using t1); simp_all
    subst hR
    clear HE Z1 Z2
    obtain ⟨k0, k1, k2, k3, fk⟩ := rgbox p4
    go_wp2
    clear x0 x1 x2 x3 fx y0 y1 y2 y3 fy k0 k1 k2 k3 fk
    have q9 := (((p4.set_ 0 (.int .i64 u)).set_ 1 (.int .i64 0)).set_ 2 (.bool true)).set_ 3 (.bool false)
    have a3 := a0.trans (below4 (W := wA) (g := w.heap.size + 1) (v0 := .int .i64 u) (v1 := .int .i64 0) (v2 := .bool true) (v3 := .bool false) (by omega) a0.size)
    obtain ⟨z0, z1, z2, z3, fz⟩ := rgbox (show Blk _ _ _ #[u, .int .i64 0, true, false] from q9)
    refine bodyPost_ret (v := .agg #[u, .int .i64 0, true, false]) (by simp [results, Tryz.results196, go_sem, z0, z1, z2, z3]) rfl (And.intro rfl a3)
   | true =>
    cases t2 : (q2 == 0) with
    | false =>
     have hR : R = ⟨u, 0, true, false⟩ := by rw [HE.out]; have b1 : q1 = 0 := (by simpa using t1); have a2 := Z2.out (by simpa using t2); have b2 : ¬ q2 = 0 := (by simpa using t2); simp_all
     subst hR
     clear HE Z1 Z2
     obtain ⟨k0, k1, k2, k3, fk⟩ := rgbox p4
     go_wp2
     clear x0 x1 x2 x3 fx y0 y1 y2 y3 fy k0 k1 k2 k3 fk
     have q9 := (((p4.set_ 0 (.int .i64 u)).set_ 1 (.int .i64 0)).set_ 2 (.bool true)).set_ 3 (.bool false)
     have a3 := a0.trans (below4 (W := wA) (g := w.heap.size + 1) (v0 := .int .i64 u) (v1 := .int .i64 0) (v2 := .bool true) (v3 := .bool false) (by omega) a0.size)
     obtain ⟨z0, z1, z2, z3, fz⟩ := rgbox (show Blk _ _ _ #[u, .int .i64 0, true, false] from q9)
     refine bodyPost_ret (v := .agg #[u, .int .i64 0, true, false]) (by simp [results, Tryz.results196, go_sem, z0, z1, z2, z3]) rfl (And.intro rfl a3)
    | true =>
     have hR : R = ⟨u, v, true, true⟩ := by rw [HE.out]; have b1 : q1 = 0 := (by simpa using t1); have b2 : q2 = 0 := (by simpa using t2); simp_all
     subst hR
     clear HE Z1 Z2
     obtain ⟨k0, k1, k2, k3, fk⟩ := rgbox p4
     go_wp2
     clear x0 x1 x2 x3 fx y0 y1 y2 y3 fy k0 k1 k2 k3 fk
     have n54 : (w.heap.size + 1 + 1) ≠ w.heap.size + 1 := by omega
     have a4 := (a0.trans (below1 (W := wA) (g := w.heap.size + 1 + 1) (i := 1) (v := .int .i64 v) (by omega) a0.size))
     have a5 := a4.trans (below1 (g := w.heap.size + 1 + 1) (i := 3) (v := .bool true) (by omega) a4.size)
     replace p4 := (p4.far (p := ⟨w.heap.size + 1 + 1, 1, none⟩) n54 (.int .i64 v)).far (p := ⟨w.heap.size + 1 + 1, 3, none⟩) n54 (.bool true)
     clear a0 a4
     have a0 := a5
     clear a5
     have q9 := (((p4.set_ 0 (.int .i64 u)).set_ 1 (.int .i64 v)).set_ 2 (.bool true)).set_ 3 (.bool true)
     have a3 := a0.trans (below4 (W := (wA.setCell ⟨w.heap.size + 1 + 1, 1, none⟩ (.int .i64 v)).setCell ⟨w.heap.size + 1 + 1, 3, none⟩ (.bool true)) (g := w.heap.size + 1) (v0 := .int .i64 u) (v1 := .int .i64 v) (v2 := .bool true) (v3 := .bool true) (by omega) a0.size)
     obtain ⟨z0, z1, z2, z3, fz⟩ := rgbox (show Blk _ _ _ #[u, v, true, true] from q9)
     refine bodyPost_ret (v := .agg #[u, v, true, true]) (by simp [results, Tryz.results196, go_sem, z0, z1, z2, z3]) rfl (And.intro rfl a3)
end
section
open Go.RowKit
set_option maxRecDepth 100000
set_option maxHeartbeats 8000000
attribute [local go_sem ↓] Go.wp_at_zero Go.wp_at_succ
theorem tpair_ff (n : Int) (o : O) (ok : OkO n o) (i j : Nat) (hi_ : (i : Int) < 2 * n) (hj_ : (j : Int) < 2 * n) (lo hi : Int) (ilo : I64 lo) (A : Option Addr) (cap : Nat) (w : World) (B : Nat) (hB : B ≤ w.heap.size) (sx : Sx w B A o.m) (hm : o.m.length ≤ 17592186044416) :
  Calls Tryz.prog 237 #[.agg #[o.n, o.e, .slice A o.m.length cap], (i : Int), (j : Int), .agg #[lo, hi, false, false]] w (SxRes w B (pairO o i j ⟨lo, hi, false, false⟩)) := by
 have c3 := hid (fun W => (negated_ok lo ilo W).mono (R' := fun e w' => e = .returned (.int .i64 (negB lo)) ∧ Below W.heap.size W w') fun _ _ ⟨he, hw⟩ => ⟨he, hw ▸ Below.refl _ _⟩)
 clear ilo
 have lenb1 := hm
 have ok1 := ok
 have HR : Hid (pairO o i j ⟨lo, hi, false, false⟩ = o) := hid rfl
 clear lenb1 ok1 ok hm hi_ hj_
 generalize pairO o i j ⟨lo, hi, false, false⟩ = R at *
 generalize negB lo = nl at *
 have c7 := sx
 obtain ⟨p4, p7, p8, a1, b9⟩ := new_three w #[o.n, o.e, .slice A o.m.length cap] #[lo, hi, false, false] #[.int .i64 0, false, .slice none 0 0] 24 49 24
 replace sx := sx.later a1 hB
 clear b9
 go_enter Tryz.func237, Tryz.ntmps237
 obtain ⟨a5, a3, a2, a4⟩ := octbox p4
 obtain ⟨b0, a6, a8, a7, a9⟩ := rgbox p7
 obtain ⟨b5, b3, b2, b4⟩ := octbox p8
 go_wp2
 clear a5 a3 a2 a4 b0 a6 a8 a7 a9 b5 b3 b2 b4
 clear p4 p7 p8 sx a1
 obtain ⟨-, -, q9, b7, -⟩ := new_three w #[o.n, o.e, .slice A o.m.length cap] #[lo, hi, false, false] #[o.n, o.e, .slice A o.m.length cap] 24 49 24
 have b8 := c7.later b7 hB
 obtain ⟨z0, z1, z2, fz⟩ := octbox q9
 refine bodyPost_ret (v := .agg #[o.n, o.e, .slice A o.m.length cap]) (by simp [results, Tryz.results237, go_sem, z0, z1, z2]) rfl ?_
 rw [HR.out]
 exact ⟨_, _, rfl, b8, b7⟩
theorem tpair_ft (n : Int) (o : O) (ok : OkO n o) (i j : Nat) (hi_ : (i : Int) < 2 * n) (hj_ : (j : Int) < 2 * n) (lo hi : Int) (ilo : I64 lo) (A : Option Addr) (cap : Nat) (w : World) (B : Nat) (hB : B ≤ w.heap.size) (sx : Sx w B A o.m) (hm : o.m.length ≤ 17592186044416) :
  Calls Tryz.prog 237 #[.agg #[o.n, o.e, .slice A o.m.length cap], (i : Int), (j : Int), .agg #[lo, hi, false, true]] w (SxRes w B (pairO o i j ⟨lo, hi, false, true⟩)) := by
 have c3 := hid (fun W => (negated_ok lo ilo W).mono (R' := fun e w' => e = .returned (.int .i64 (negB lo)) ∧ Below W.heap.size W w') fun _ _ ⟨he, hw⟩ => ⟨he, hw ▸ Below.refl _ _⟩)
 clear ilo
 have c5 := hid (fun W (hW : B ≤ W.heap.size) (h : Sx W B A o.m) => (limits_ok n o ok i j hi_ hj_ hi A cap W (h.rd hW) hm).mono (R' := SxRes W B (withO o i j hi)) fun _ _ q => q.sx hW)
 have lenb1 : (withO o i j hi).m.length ≤ 17592186044416 := Nat.le_trans (withO_len _ _ _ _) hm
 have ok1 : OkO n (withO o i j hi) := ok.with_ hi_ hj_ _
 have HR : Hid (pairO o i j ⟨lo, hi, false, true⟩ = withO o i j hi) := hid rfl
 clear lenb1 ok1 ok hm hi_ hj_
 generalize pairO o i j ⟨lo, hi, false, true⟩ = R at *
 generalize withO o i j hi = r1 at *
 generalize negB lo = nl at *
 have c7 := sx
 obtain ⟨p4, p7, p8, a1, b9⟩ := new_three w #[o.n, o.e, .slice A o.m.length cap] #[lo, hi, false, true] #[.int .i64 0, false, .slice none 0 0] 24 49 24
 replace sx := sx.later a1 hB
 clear b9
 go_enter Tryz.func237, Tryz.ntmps237
 obtain ⟨a5, a3, a2, a4⟩ := octbox p4
 obtain ⟨b0, a6, a8, a7, a9⟩ := rgbox p7
 go_wp2_with fail
 clear a5 a3 a2 a4 b0 a6 a8 a7 a9
 generalize ((w.alloc (Obj.cells #[o.n, o.e, .slice A o.m.length cap] 24)).alloc (Obj.cells #[lo, hi, false, true] 49)).alloc (Obj.cells #[.int .i64 0, false, .slice none 0 0] 24) = w1 at *
 (with_reducible refine (c5.out w1 (Nat.le_trans hB a1.size) sx).mono ?_)
 rintro c6 w2 ⟨A1, c1, rfl, b6, a0⟩
 clear sx c5
 replace p4 := p4.later a0
 replace p7 := p7.later a0
 replace p8 := p8.later a0
 replace a1 := bup a1 a0
 clear a0
 obtain ⟨a5, a3, a2, a4⟩ := octbox p4
 obtain ⟨b0, a6, a8, a7, a9⟩ := rgbox p7
 obtain ⟨b5, b3, b2, b4⟩ := octbox p8
 go_wp2
 clear a5 a3 a2 a4 b0 a6 a8 a7 a9 b5 b3 b2 b4
 replace b6 := b6.far3 (g := w.heap.size) (v0 := .int .i64 r1.n) (v1 := .bool r1.e) (v2 := .slice A1 r1.m.length c1) (by omega) p4 (by decide)
 replace p7 := p7.far3 (g := w.heap.size) (v0 := .int .i64 r1.n) (v1 := .bool r1.e) (v2 := .slice A1 r1.m.length c1) (by omega)
 replace p8 := p8.far3 (g := w.heap.size) (v0 := .int .i64 r1.n) (v1 := .bool r1.e) (v2 := .slice A1 r1.m.length c1) (by omega)
 replace p4 := p4.set3 (v0 := .int .i64 r1.n) (v1 := .bool r1.e) (v2 := .slice A1 r1.m.length c1)
 replace a1 := a1.trans (below3 (W := w2) (g := w.heap.size) (v0 := .int .i64 r1.n) (v1 := .bool r1.e) (v2 := .slice A1 r1.m.length c1) (by omega) a1.size)
 generalize ((w2.setCell ⟨w.heap.size, 0, none⟩ (.int .i64 r1.n)).setCell ⟨w.heap.size, 1, none⟩ (.bool r1.e)).setCell ⟨w.heap.size, 2, none⟩ (.slice A1 r1.m.length c1) = w3 at *
 have q9 := p8.set3 (v0 := .int .i64 r1.n) (v1 := .bool r1.e) (v2 := .slice A1 r1.m.length c1)
 have b7 := a1.trans (below3 (W := w3) (g := w.heap.size + 1 + 1) (v0 := .int .i64 r1.n) (v1 := .bool r1.e) (v2 := .slice A1 r1.m.length c1) (by omega) a1.size)
 have b8 := b6.far3 (g := w.heap.size + 1 + 1) (v0 := .int .i64 r1.n) (v1 := .bool r1.e) (v2 := .slice A1 r1.m.length c1) (by omega) p8 (by decide)
 obtain ⟨z0, z1, z2, fz⟩ := octbox q9
 refine bodyPost_ret (v := .agg #[r1.n, r1.e, .slice A1 r1.m.length c1]) (by simp [results, Tryz.results237, go_sem, z0, z1, z2]) rfl ?_
 rw [HR.out]
 exact ⟨_, _, rfl, b8, b7⟩
theorem tpair_tf (n : Int) (o : O) (ok : OkO n o) (i j : Nat) (hi_ : (i : Int) < 2 * n) (hj_ : (j : Int) < 2 * n) (lo hi : Int) (ilo : I64 lo) (A : Option Addr) (cap : Nat) (w : World) (B : Nat) (hB : B ≤ w.heap.size) (sx : Sx w B A o.m) (hm : o.m.length ≤ 17592186044416) :
  Calls Tryz.prog 237 #[.agg #[o.n, o.e, .slice A o.m.length cap], (i : Int), (j : Int), .agg #[lo, hi, true, false]] w (SxRes w B (pairO o i j ⟨lo, hi, true, false⟩)) := by
 have c3 := hid (fun W => (negated_ok lo ilo W).mono (R' := fun e w' => e = .returned (.int .i64 (negB lo)) ∧ Below W.heap.size W w') fun _ _ ⟨he, hw⟩ => ⟨he, hw ▸ Below.refl _ _⟩)
 clear ilo
 have lenb1 := hm
 have ok1 := ok
 have c4 := hid (fun A1 c1 W (hW : B ≤ W.heap.size) (h : Sx W B A1 (o).m) => (limits_ok n (o) ok1 j i hj_ hi_ (negB lo) A1 c1 W (h.rd hW) lenb1).mono (R' := SxRes W B (withO (o) j i (negB lo))) fun _ _ q => q.sx hW)
 have HR : Hid (pairO o i j ⟨lo, hi, true, false⟩ = withO (o) j i (negB lo)) := hid rfl
 clear lenb1 ok1 ok hm hi_ hj_
 generalize pairO o i j ⟨lo, hi, true, false⟩ = R at *
 generalize withO (o) j i (negB lo) = r2 at *
 generalize negB lo = nl at *
 have c7 := sx
 obtain ⟨p4, p7, p8, a1, b9⟩ := new_three w #[o.n, o.e, .slice A o.m.length cap] #[lo, hi, true, false] #[.int .i64 0, false, .slice none 0 0] 24 49 24
 replace sx := sx.later a1 hB
 clear b9
 go_enter Tryz.func237, Tryz.ntmps237
 obtain ⟨a5, a3, a2, a4⟩ := octbox p4
 obtain ⟨b0, a6, a8, a7, a9⟩ := rgbox p7
 go_upto_region 4 with fail
 clear a5 a3 a2 a4 b0 a6 a8 a7 a9
 generalize ((w.alloc (Obj.cells #[o.n, o.e, .slice A o.m.length cap] 24)).alloc (Obj.cells #[lo, hi, true, false] 49)).alloc (Obj.cells #[.int .i64 0, false, .slice none 0 0] 24) = w1 at *
 have f0 := laterE (show w1.cell? ⟨w.heap.size, 0, none⟩ = some (.int .i64 o.n) from p4.cell 0)
 have f1 := laterE (show w1.cell? ⟨w.heap.size, 1, none⟩ = some (.bool o.e) from p4.cell 1)
 have f2 := laterE (show w1.cell? ⟨w.heap.size, 2, none⟩ = some (.slice A o.m.length cap) from p4.cell 2)
 have f3 := laterE (show w1.cell? ⟨w.heap.size + 1, 0, none⟩ = some (.int .i64 lo) from p7.cell 0)
 refine wp_region_flowE 6 [Sp.val (.agg #[o.n, o.e, .slice A o.m.length cap]), Sp.val (.int .i64 (j : Int)), Sp.val (.int .i64 (i : Int)), Sp.val (.pointer (some ⟨w.heap.size + 1, 0, none⟩)), Sp.val (.int .i64 lo), Sp.val (.int .i64 nl)] (by kernel_rfl) (by kernel_rfl) ?_
 iterate 5 (refine fe_t (fun _ _ => ?_))
 refine FlowE.callFV (by rfl) (fun W hW hf => ⟨206, #[lo], by go_simp, c3.out W⟩) (fun _ _ => ?_)
 refine fe_p ?_
 refine FlowE.tail (fun W hW hf hd2 => ?_)
 replace hW : Below w1.heap.size w1 W := Ext.trans (Below.refl _ _).drew hW
 clear hf hd2 c3 f0 f1 f2 f3
 replace p4 := p4.later hW
 replace p7 := p7.later hW
 replace p8 := p8.later hW
 replace sx := sx.later hW (Nat.le_trans hB a1.size)
 replace a1 := bup a1 hW
 clear hW
 go_wp2_with fail
 (with_reducible refine (c4.out A cap W (Nat.le_trans hB a1.size) sx).mono ?_)
 rintro c6 w2 ⟨A2, c2, rfl, c0, a0⟩
 clear sx c4
 replace p4 := p4.later a0
 replace p7 := p7.later a0
 replace p8 := p8.later a0
 replace a1 := bup a1 a0
 clear a0
 obtain ⟨a5, a3, a2, a4⟩ := octbox p4
 obtain ⟨b5, b3, b2, b4⟩ := octbox p8
 go_wp2
 clear a5 a3 a2 a4 b5 b3 b2 b4
 replace c0 := c0.far3 (g := w.heap.size) (v0 := .int .i64 r2.n) (v1 := .bool r2.e) (v2 := .slice A2 r2.m.length c2) (by omega) p4 (by decide)
 replace p7 := p7.far3 (g := w.heap.size) (v0 := .int .i64 r2.n) (v1 := .bool r2.e) (v2 := .slice A2 r2.m.length c2) (by omega)
 replace p8 := p8.far3 (g := w.heap.size) (v0 := .int .i64 r2.n) (v1 := .bool r2.e) (v2 := .slice A2 r2.m.length c2) (by omega)
 replace p4 := p4.set3 (v0 := .int .i64 r2.n) (v1 := .bool r2.e) (v2 := .slice A2 r2.m.length c2)
 replace a1 := a1.trans (below3 (W := w2) (g := w.heap.size) (v0 := .int .i64 r2.n) (v1 := .bool r2.e) (v2 := .slice A2 r2.m.length c2) (by omega) a1.size)
 generalize ((w2.setCell ⟨w.heap.size, 0, none⟩ (.int .i64 r2.n)).setCell ⟨w.heap.size, 1, none⟩ (.bool r2.e)).setCell ⟨w.heap.size, 2, none⟩ (.slice A2 r2.m.length c2) = w3 at *
 have q9 := p8.set3 (v0 := .int .i64 r2.n) (v1 := .bool r2.e) (v2 := .slice A2 r2.m.length c2)
 have b7 := a1.trans (below3 (W := w3) (g := w.heap.size + 1 + 1) (v0 := .int .i64 r2.n) (v1 := .bool r2.e) (v2 := .slice A2 r2.m.length c2) (by omega) a1.size)
 have b8 := c0.far3 (g := w.heap.size + 1 + 1) (v0 := .int .i64 r2.n) (v1 := .bool r2.e) (v2 := .slice A2 r2.m.length c2) (by omega) p8 (by decide)
 obtain ⟨z0, z1, z2, fz⟩ := octbox q9
 refine bodyPost_ret (v := .agg #[r2.n, r2.e, .slice A2 r2.m.length c2]) (by simp [results, Tryz.results237, go_sem, z0, z1, z2]) rfl ?_
 rw [HR.out]
 exact ⟨_, _, rfl, b8, b7⟩
theorem tpair_tt (n : Int) (o : O) (ok : OkO n o) (i j : Nat) (hi_ : (i : Int) < 2 * n) (hj_ : (j : Int) < 2 * n) (lo hi : Int) (ilo : I64 lo) (A : Option Addr) (cap : Nat) (w : World) (B : Nat) (hB : B ≤ w.heap.size) (sx : Sx w B A o.m) (hm : o.m.length ≤ 17592186044416) :
  Calls Tryz.prog 237 #[.agg #[o.n, o.e, .slice A o.m.length cap], (i : Int), (j : Int), .agg #[lo, hi, true, true]] w (SxRes w B (pairO o i j ⟨lo, hi, true, true⟩)) := by
 have c3 := hid (fun W => (negated_ok lo ilo W).mono (R' := fun e w' => e = .returned (.int .i64 (negB lo)) ∧ Below W.heap.size W w') fun _ _ ⟨he, hw⟩ => ⟨he, hw ▸ Below.refl _ _⟩)
 clear ilo
 have c5 := hid (fun W (hW : B ≤ W.heap.size) (h : Sx W B A o.m) => (limits_ok n o ok i j hi_ hj_ hi A cap W (h.rd hW) hm).mono (R' := SxRes W B (withO o i j hi)) fun _ _ q => q.sx hW)
 have lenb1 : (withO o i j hi).m.length ≤ 17592186044416 := Nat.le_trans (withO_len _ _ _ _) hm
 have ok1 : OkO n (withO o i j hi) := ok.with_ hi_ hj_ _
 have c4 := hid (fun A1 c1 W (hW : B ≤ W.heap.size) (h : Sx W B A1 (withO o i j hi).m) => (limits_ok n (withO o i j hi) ok1 j i hj_ hi_ (negB lo) A1 c1 W (h.rd hW) lenb1).mono (R' := SxRes W B (withO (withO o i j hi) j i (negB lo))) fun _ _ q => q.sx hW)
 have HR : Hid (pairO o i j ⟨lo, hi, true, true⟩ = withO (withO o i j hi) j i (negB lo)) := hid rfl
 clear lenb1 ok1 ok hm hi_ hj_
 generalize pairO o i j ⟨lo, hi, true, true⟩ = R at *
 generalize withO (withO o i j hi) j i (negB lo) = r2 at *
 generalize withO o i j hi = r1 at *
 generalize negB lo = nl at *
 have c7 := sx
 obtain ⟨p4, p7, p8, a1, b9⟩ := new_three w #[o.n, o.e, .slice A o.m.length cap] #[lo, hi, true, true] #[.int .i64 0, false, .slice none 0 0] 24 49 24
 replace sx := sx.later a1 hB
 clear b9
 go_enter Tryz.func237, Tryz.ntmps237
 obtain ⟨a5, a3, a2, a4⟩ := octbox p4
 obtain ⟨b0, a6, a8, a7, a9⟩ := rgbox p7
 go_wp2_with fail
 clear a5 a3 a2 a4 b0 a6 a8 a7 a9
 generalize ((w.alloc (Obj.cells #[o.n, o.e, .slice A o.m.length cap] 24)).alloc (Obj.cells #[lo, hi, true, true] 49)).alloc (Obj.cells #[.int .i64 0, false, .slice none 0 0] 24) = w1 at *
 (with_reducible refine (c5.out w1 (Nat.le_trans hB a1.size) sx).mono ?_)
 rintro c6 w2 ⟨A1, c1, rfl, b6, a0⟩
 clear sx c5
 replace p4 := p4.later a0
 replace p7 := p7.later a0
 replace p8 := p8.later a0
 replace a1 := bup a1 a0
 clear a0
 obtain ⟨a5, a3, a2, a4⟩ := octbox p4
 obtain ⟨b0, a6, a8, a7, a9⟩ := rgbox p7
 go_upto_region 4 with fail
 clear a5 a3 a2 a4 b0 a6 a8 a7 a9
 replace b6 := b6.far3 (g := w.heap.size) (v0 := .int .i64 r1.n) (v1 := .bool r1.e) (v2 := .slice A1 r1.m.length c1) (by omega) p4 (by decide)
 replace p7 := p7.far3 (g := w.heap.size) (v0 := .int .i64 r1.n) (v1 := .bool r1.e) (v2 := .slice A1 r1.m.length c1) (by omega)
 replace p8 := p8.far3 (g := w.heap.size) (v0 := .int .i64 r1.n) (v1 := .bool r1.e) (v2 := .slice A1 r1.m.length c1) (by omega)
 replace p4 := p4.set3 (v0 := .int .i64 r1.n) (v1 := .bool r1.e) (v2 := .slice A1 r1.m.length c1)
 replace a1 := a1.trans (below3 (W := w2) (g := w.heap.size) (v0 := .int .i64 r1.n) (v1 := .bool r1.e) (v2 := .slice A1 r1.m.length c1) (by omega) a1.size)
 generalize ((w2.setCell ⟨w.heap.size, 0, none⟩ (.int .i64 r1.n)).setCell ⟨w.heap.size, 1, none⟩ (.bool r1.e)).setCell ⟨w.heap.size, 2, none⟩ (.slice A1 r1.m.length c1) = w3 at *
 have f0 := laterE (show w3.cell? ⟨w.heap.size, 0, none⟩ = some (.int .i64 r1.n) from p4.cell 0)
 have f1 := laterE (show w3.cell? ⟨w.heap.size, 1, none⟩ = some (.bool r1.e) from p4.cell 1)
 have f2 := laterE (show w3.cell? ⟨w.heap.size, 2, none⟩ = some (.slice A1 r1.m.length c1) from p4.cell 2)
 have f3 := laterE (show w3.cell? ⟨w.heap.size + 1, 0, none⟩ = some (.int .i64 lo) from p7.cell 0)
 refine wp_region_flowE 6 [Sp.val (.agg #[r1.n, r1.e, .slice A1 r1.m.length c1]), Sp.val (.int .i64 (j : Int)), Sp.val (.int .i64 (i : Int)), Sp.val (.pointer (some ⟨w.heap.size + 1, 0, none⟩)), Sp.val (.int .i64 lo), Sp.val (.int .i64 nl)] (by kernel_rfl) (by kernel_rfl) ?_
 iterate 5 (refine fe_t (fun _ _ => ?_))
 refine FlowE.callFV (by rfl) (fun W hW hf => ⟨206, #[lo], by go_simp, c3.out W⟩) (fun _ _ => ?_)
 refine fe_p ?_
 refine FlowE.tail (fun W hW hf hd2 => ?_)
 replace hW : Below w3.heap.size w3 W := Ext.trans (Below.refl _ _).drew hW
 clear hf hd2 c3 f0 f1 f2 f3
 replace p4 := p4.later hW
 replace p7 := p7.later hW
 replace p8 := p8.later hW
 replace b6 := b6.later hW (Nat.le_trans hB a1.size)
 replace a1 := bup a1 hW
 clear hW
 go_wp2_with fail
 (with_reducible refine (c4.out A1 c1 W (Nat.le_trans hB a1.size) b6).mono ?_)
 rintro e_w4 w4 ⟨A2, c2, rfl, c0, b1⟩
 clear b6 c4
 replace p4 := p4.later b1
 replace p7 := p7.later b1
 replace p8 := p8.later b1
 replace a1 := bup a1 b1
 clear b1
 obtain ⟨a5, a3, a2, a4⟩ := octbox p4
 obtain ⟨b5, b3, b2, b4⟩ := octbox p8
 go_wp2
 clear a5 a3 a2 a4 b5 b3 b2 b4
 replace c0 := c0.far3 (g := w.heap.size) (v0 := .int .i64 r2.n) (v1 := .bool r2.e) (v2 := .slice A2 r2.m.length c2) (by omega) p4 (by decide)
 replace p7 := p7.far3 (g := w.heap.size) (v0 := .int .i64 r2.n) (v1 := .bool r2.e) (v2 := .slice A2 r2.m.length c2) (by omega)
 replace p8 := p8.far3 (g := w.heap.size) (v0 := .int .i64 r2.n) (v1 := .bool r2.e) (v2 := .slice A2 r2.m.length c2) (by omega)
 replace p4 := p4.set3 (v0 := .int .i64 r2.n) (v1 := .bool r2.e) (v2 := .slice A2 r2.m.length c2)
 replace a1 := a1.trans (below3 (W := w4) (g := w.heap.size) (v0 := .int .i64 r2.n) (v1 := .bool r2.e) (v2 := .slice A2 r2.m.length c2) (by omega) a1.size)
 generalize ((w4.setCell ⟨w.heap.size, 0, none⟩ (.int .i64 r2.n)).setCell ⟨w.heap.size, 1, none⟩ (.bool r2.e)).setCell ⟨w.heap.size, 2, none⟩ (.slice A2 r2.m.length c2) = w5 at *
 have q9 := p8.set3 (v0 := .int .i64 r2.n) (v1 := .bool r2.e) (v2 := .slice A2 r2.m.length c2)
 have b7 := a1.trans (below3 (W := w5) (g := w.heap.size + 1 + 1) (v0 := .int .i64 r2.n) (v1 := .bool r2.e) (v2 := .slice A2 r2.m.length c2) (by omega) a1.size)
 have b8 := c0.far3 (g := w.heap.size + 1 + 1) (v0 := .int .i64 r2.n) (v1 := .bool r2.e) (v2 := .slice A2 r2.m.length c2) (by omega) p8 (by decide)
 obtain ⟨z0, z1, z2, fz⟩ := octbox q9
 refine bodyPost_ret (v := .agg #[r2.n, r2.e, .slice A2 r2.m.length c2]) (by simp [results, Tryz.results237, go_sem, z0, z1, z2]) rfl ?_
 rw [HR.out]
 exact ⟨_, _, rfl, b8, b7⟩
theorem tpair_ok (n : Int) (o : O) (ok : OkO n o) (i j : Nat) (hi_ : (i : Int) < 2 * n) (hj_ : (j : Int) < 2 * n) (r : Rg) (ilo : I64 r.lo) (A : Option Addr) (cap : Nat) (w : World) (B : Nat) (hB : B ≤ w.heap.size) (sx : Sx w B A o.m) (hm : o.m.length ≤ 17592186044416) :
  Calls Tryz.prog 237 #[.agg #[o.n, o.e, .slice A o.m.length cap], (i : Int), (j : Int), r.val] w (SxRes w B (pairO o i j r)) := by
 obtain ⟨lo, hi, hl, hh⟩ := r
 cases hl <;> cases hh
 ·exact tpair_ff n o ok i j hi_ hj_ lo hi ilo A cap w B hB sx hm
 ·exact tpair_ft n o ok i j hi_ hj_ lo hi ilo A cap w B hB sx hm
 ·exact tpair_tf n o ok i j hi_ hj_ lo hi ilo A cap w B hB sx hm
 ·exact tpair_tt n o ok i j hi_ hj_ lo hi ilo A cap w B hB sx hm
end
end Go.Proofs.YtnmpgijiimglcaaGreat
