import Derived.Test.YtnmpgijiimglcaaGreatBSe24
import Derived.Test.YtnmpgijiimglcaaGreatBSe13
import Derived.Test.YtnmpgijiimglcaaGreatBSe11
namespace Go.Proofs.YtnmpgijiimglcaaGreat
open Go.RowKit
set_option maxRecDepth 100000
set_option maxHeartbeats 8000000
attribute [local go_sem ↓] Go.wp_at_zero Go.wp_at_succ
attribute [local go_sem ↓] zdr zdR
theorem zau (a b c : Bool) (w : World) :
  Calls Tryz.prog 130 #[a, b, c] w fun e w' => e = .returned (.bool (bif a then b else c)) ∧ w = w' := by
 cases a <;> (go_enter Tryz.func130, Tryz.ntmps130; go_wp2; go_ret; exact ⟨rfl, rfl⟩)
theorem zfc (v m n : Int) (w : World) :
  Calls Tryz.prog 131 #[.agg #[v, m], n] w fun e w' => e = .returned (.bool (opdOk n v m)) ∧ Below w.heap.size w w' := by
 have n0 := new1 w (.cells #[v, m] 26)
 go_enter Tryz.func131, Tryz.ntmps131
 cases t1 : (v == -1)
 ·have h1 := beq_eq_false_iff_ne.1 t1
  cases t2 : decide (0 ≤ v)
  ·have h2 := of_decide_eq_false t2
   have HR := hid (show opdOk n v m = false by unfold opdOk; rw [decide_eq_false_iff_not]; omega)
   clear h1 h2
   go_wp2; go_ret; exact ⟨retb HR.out.symm, n0⟩
  ·have h2 := of_decide_eq_true t2
   cases t3 : decide (v < n)
   ·have h3 := of_decide_eq_false t3
    have HR := hid (show opdOk n v m = false by unfold opdOk; rw [decide_eq_false_iff_not]; omega)
    clear h1 h2 h3
    go_wp2; go_ret; exact ⟨retb HR.out.symm, n0⟩
   ·have h3 := of_decide_eq_true t3
    have HR := hid (show opdOk n v m = (m == 0) by unfold opdOk; rw [Bool.eq_iff_iff]; simp; omega)
    clear h1 h2 h3
    go_wp2; go_ret; exact ⟨retb HR.out.symm, n0⟩
 ·have h1 := beq_iff_eq.1 t1
  have HR := hid (show opdOk n v m = true by unfold opdOk; rw [decide_eq_true_eq]; omega)
  clear h1
  go_wp2; go_ret; exact ⟨retb HR.out.symm, n0⟩
theorem ziU (w : World) : Calls Tryz.prog 129 #[.int .i64 2] w fun e w' => e = .returned (.agg #[true, false, false, true, false]) ∧ Below w.heap.size w w' := by
 go_enter Tryz.func129, Tryz.ntmps129
 go_wp2
 refine bodyPost_ret (v := .agg #[true, false, false, true, false]) (by simp [results, Tryz.results129, go_sem]) rfl (And.intro rfl ?_)
 exact zbc
theorem zjM (w : World) : Calls Tryz.prog 129 #[.int .i64 3] w fun e w' => e = .returned (.agg #[true, false, false, true, false]) ∧ Below w.heap.size w w' := by
 go_enter Tryz.func129, Tryz.ntmps129
 go_wp2
 refine bodyPost_ret (v := .agg #[true, false, false, true, false]) (by simp [results, Tryz.results129, go_sem]) rfl (And.intro rfl ?_)
 exact zbc
theorem zj3 (w : World) : Calls Tryz.prog 129 #[.int .i64 4] w fun e w' => e = .returned (.agg #[true, false, false, true, true]) ∧ Below w.heap.size w w' := by
 go_enter Tryz.func129, Tryz.ntmps129
 go_wp2
 refine bodyPost_ret (v := .agg #[true, false, false, true, true]) (by simp [results, Tryz.results129, go_sem]) rfl (And.intro rfl ?_)
 exact zbc
theorem zi3 (w : World) : Calls Tryz.prog 129 #[.int .i64 5] w fun e w' => e = .returned (.agg #[true, false, false, true, true]) ∧ Below w.heap.size w w' := by
 go_enter Tryz.func129, Tryz.ntmps129
 go_wp2
 refine bodyPost_ret (v := .agg #[true, false, false, true, true]) (by simp [results, Tryz.results129, go_sem]) rfl (And.intro rfl ?_)
 exact zbc
theorem zjV (w : World) : Calls Tryz.prog 129 #[.int .i64 6] w fun e w' => e = .returned (.agg #[true, false, false, true, true]) ∧ Below w.heap.size w w' := by
 go_enter Tryz.func129, Tryz.ntmps129
 go_wp2
 refine bodyPost_ret (v := .agg #[true, false, false, true, true]) (by simp [results, Tryz.results129, go_sem]) rfl (And.intro rfl ?_)
 exact zbc
theorem zjz (w : World) : Calls Tryz.prog 129 #[.int .i64 7] w fun e w' => e = .returned (.agg #[true, false, false, true, true]) ∧ Below w.heap.size w w' := by
 go_enter Tryz.func129, Tryz.ntmps129
 go_wp2
 refine bodyPost_ret (v := .agg #[true, false, false, true, true]) (by simp [results, Tryz.results129, go_sem]) rfl (And.intro rfl ?_)
 exact zbc
theorem zjZ (w : World) : Calls Tryz.prog 129 #[.int .i64 8] w fun e w' => e = .returned (.agg #[true, false, false, true, true]) ∧ Below w.heap.size w w' := by
 go_enter Tryz.func129, Tryz.ntmps129
 go_wp2
 refine bodyPost_ret (v := .agg #[true, false, false, true, true]) (by simp [results, Tryz.results129, go_sem]) rfl (And.intro rfl ?_)
 exact zbc
theorem zj8 (w : World) : Calls Tryz.prog 129 #[.int .i64 9] w fun e w' => e = .returned (.agg #[true, false, false, false, false]) ∧ Below w.heap.size w w' := by
 go_enter Tryz.func129, Tryz.ntmps129
 go_wp2
 refine bodyPost_ret (v := .agg #[true, false, false, false, false]) (by simp [results, Tryz.results129, go_sem]) rfl (And.intro rfl ?_)
 exact zbc
theorem zh0 (w : World) : Calls Tryz.prog 129 #[.int .i64 10] w fun e w' => e = .returned (.agg #[true, true, false, true, false]) ∧ Below w.heap.size w w' := by
 go_enter Tryz.func129, Tryz.ntmps129
 go_wp2
 refine bodyPost_ret (v := .agg #[true, true, false, true, false]) (by simp [results, Tryz.results129, go_sem]) rfl (And.intro rfl ?_)
 exact zbc
theorem ziu (w : World) : Calls Tryz.prog 129 #[.int .i64 11] w fun e w' => e = .returned (.agg #[false, true, false, true, true]) ∧ Below w.heap.size w w' := by
 go_enter Tryz.func129, Tryz.ntmps129
 go_wp2
 refine bodyPost_ret (v := .agg #[false, true, false, true, true]) (by simp [results, Tryz.results129, go_sem]) rfl (And.intro rfl ?_)
 exact zbc
theorem zhq (w : World) : Calls Tryz.prog 129 #[.int .i64 12] w fun e w' => e = .returned (.agg #[false, false, true, true, true]) ∧ Below w.heap.size w w' := by
 go_enter Tryz.func129, Tryz.ntmps129
 go_wp2
 refine bodyPost_ret (v := .agg #[false, false, true, true, true]) (by simp [results, Tryz.results129, go_sem]) rfl (And.intro rfl ?_)
 exact zbc
theorem zg1 (k : Int) (h : ¬ (2 ≤ k ∧ k ≤ 12)) (w : World) : Calls Tryz.prog 129 #[k] w fun e w' => e = .returned (.agg #[false, false, false, false, false]) ∧ Below w.heap.size w w' := by
 have h2 : (k == 2) = false := by rw [beq_eq_false_iff_ne]; omega
 have h3 : (k == 3) = false := by rw [beq_eq_false_iff_ne]; omega
 have h4 : (k == 4) = false := by rw [beq_eq_false_iff_ne]; omega
 have h5 : (k == 5) = false := by rw [beq_eq_false_iff_ne]; omega
 have h6 : (k == 6) = false := by rw [beq_eq_false_iff_ne]; omega
 have h7 : (k == 7) = false := by rw [beq_eq_false_iff_ne]; omega
 have h8 : (k == 8) = false := by rw [beq_eq_false_iff_ne]; omega
 have h9 : (k == 9) = false := by rw [beq_eq_false_iff_ne]; omega
 have h10 : (k == 10) = false := by rw [beq_eq_false_iff_ne]; omega
 have h11 : (k == 11) = false := by rw [beq_eq_false_iff_ne]; omega
 have h12 : (k == 12) = false := by rw [beq_eq_false_iff_ne]; omega
 clear h
 go_enter Tryz.func129, Tryz.ntmps129
 go_wp2
 refine bodyPost_ret (v := .agg #[false, false, false, false, false]) (by simp [results, Tryz.results129, go_sem]) rfl (And.intro rfl ?_)
 exact zbc
theorem zgO (k : Int) (w : World) :
  Calls Tryz.prog 129 #[k] w fun e w' => e = .returned (.agg #[.bool (wDst k), .bool (wArr k), .bool (wOp k), .bool (wA k), .bool (wB k)]) ∧ Below w.heap.size w w' := by
 by_cases h : 2 ≤ k ∧ k ≤ 12
 ·have : k = 2 ∨ k = 3 ∨ k = 4 ∨ k = 5 ∨ k = 6 ∨ k = 7 ∨ k = 8 ∨ k = 9 ∨ k = 10 ∨ k = 11 ∨ k = 12 := by omega
  rcases this with rfl | rfl | rfl | rfl | rfl | rfl | rfl | rfl | rfl | rfl | rfl
  ·exact ziU w
  ·exact zjM w
  ·exact zj3 w
  ·exact zi3 w
  ·exact zjV w
  ·exact zjz w
  ·exact zjZ w
  ·exact zj8 w
  ·exact zh0 w
  ·exact ziu w
  ·exact zhq w
 ·have := zg1 k h w
  rw [show wDst k = false from decide_eq_false (by omega), show wArr k = false from decide_eq_false (by omega), show wOp k = false from decide_eq_false (by omega), show wA k = false from decide_eq_false (by omega), show wB k = false from decide_eq_false (by omega)]
  exact this
theorem zgp (n : Int) (e : Edg) (w : World) :
  Calls Tryz.prog 67 #[e.val, n] w fun r w' => r = .returned (.bool (rightT n e)) ∧ Below w.heap.size w w' := by
 obtain ⟨fr, te, kd, dst, arr, op, av, an, bv, bn⟩ := e
 have HA : ∀ W, Calls Tryz.prog 131 #[.agg #[av, an], n] W fun e w' => e = .returned (.bool (opdOk n av an)) ∧ Below W.heap.size W w' := fun W => zfc av an n W
 have HB : ∀ W, Calls Tryz.prog 131 #[.agg #[bv, bn], n] W fun e w' => e = .returned (.bool (opdOk n bv bn)) ∧ Below W.heap.size W w' := fun W => zfc bv bn n W
 have HW : ∀ W, Calls Tryz.prog 129 #[kd] W fun e w' => e = .returned (.agg #[.bool (wDst kd), .bool (wArr kd), .bool (wOp kd), .bool (wA kd), .bool (wB kd)]) ∧ Below W.heap.size W w' := zgO kd
 have HR := hid (zih n fr te kd dst arr op av an bv bn)
 unfold Edg.val at *
 dsimp only at *
 obtain ⟨k1, n0, -⟩ := zak w #[fr, te, kd, dst, arr, op, av, an, bv, bn] 44
 replace HA := hid HA
 replace HB := hid HB
 replace HW := hid HW
 generalize hq3 : opdOk n av an = q3 at HA HR
 generalize hq4 : opdOk n bv bn = q4 at HB HR
 clear hq3 hq4
 go_enter Tryz.func67, Tryz.ntmps67
 have x2 := k1.cell 2
 by_cases l1 : kd < 1
 ·have HX := hid l1
  have t1 : decide (kd < 1) = true := decide_eq_true l1
  clear l1
  go_wp2; go_ret; exact ⟨retb (by rw [HR.out, show decide (1 ≤ kd ∧ kd ≤ 14) = false from decide_eq_false (by have := HX.out; omega)]; simp), n0⟩
 have t1 : decide (kd < 1) = false := decide_eq_false l1
 by_cases l2 : 14 < kd
 ·have HX := hid l2
  have t2 : decide (14 < kd) = true := decide_eq_true l2
  clear l2 l1
  go_wp2; go_ret; exact ⟨retb (by rw [HR.out, show decide (1 ≤ kd ∧ kd ≤ 14) = false from decide_eq_false (by have := HX.out; omega)]; simp), n0⟩
 have t2 : decide (14 < kd) = false := decide_eq_false l2
 have HK : Hid (decide (1 ≤ kd ∧ kd ≤ 14) = true) := hid (decide_eq_true (by omega))
 rw [HK.out] at HR
 clear l1 l2
 go_wp2_with fail
 generalize w.alloc (.cells #[fr, te, kd, dst, arr, op, av, an, bv, bn] 44) = w1 at *
 refine (HW.out _).mono ?_
 clear HW x2 HK t1 t2
 rintro e4 w4 ⟨rfl, a1⟩
 replace n0 := bup n0 a1
 replace k1 := k1.later a1
 clear a1
 obtain ⟨k5, k6, a2, -⟩ := zal w4 #[.bool (wDst kd), .bool (wArr kd), .bool (wOp kd), .bool (wA kd), .bool (wB kd)] #[.int .i64 (-1), .int .i64 0] 156 26
 replace n0 := bup n0 a2
 replace k1 := k1.later a2
 clear a2
 go_upto_region 4 with fail
 generalize ((w4.alloc (.cells #[.bool (wDst kd), .bool (wArr kd), .bool (wOp kd), .bool (wA kd), .bool (wB kd)] 156)).alloc (.cells #[.int .i64 (-1), .int .i64 0] 26)) = w5 at *
 generalize w4.heap.size = g4 at *
 have d3 := later (k1.cell 3)
 have d4 := later (k1.cell 4)
 have d5 := later (k1.cell 5)
 have d6 := later (k1.cell 6)
 have d7 := later (k1.cell 7)
 have d8 := later (k1.cell 8)
 have d9 := later (k1.cell 9)
 have g0 := later (k5.cell 0)
 have g1 := later (k5.cell 1)
 have g2 := later (k5.cell 2)
 have g3 := later (k5.cell 3)
 have g4' := later (k5.cell 4)
 have m0 := later (k6.cell 0)
 have m1 := later (k6.cell 1)
 clear k1 k5 k6
 refine zdT 66 (fun W => Below w5.heap.size w5 W) (by kernel_rfl) (by kernel_rfl) (Below.refl _ _).drew ?_
 cases o0 : decide (0 ≤ dst)
 ·rw [o0, Bool.false_and] at HR
  refine fl_a ?_
  cases c1 : (bif wDst kd then (false) else (dst == -1))
  ·(refine fl_c 130 #[.bool (wDst kd), .bool (false), .bool (dst == -1)] (.bool false) (fun X hX => ((zau _ _ _ _).mono fun e w' ⟨he, hb⟩ => ⟨he.trans (retb c1), hb ▸ hX⟩)) ?_)
   refine fl_a ?_
   intro w6 a0
   go_wp2
   go_ret
   exact ⟨retb (by rw [HR.out, c1]; rfl), bup n0 a0⟩
  ·(refine fl_c 130 #[.bool (wDst kd), .bool (false), .bool (dst == -1)] (.bool true) (fun X hX => ((zau _ _ _ _).mono fun e w' ⟨he, hb⟩ => ⟨he.trans (retb c1), hb ▸ hX⟩)) ?_)
   refine fl_a ?_
   cases c2 : (bif wArr kd then decide (0 ≤ arr) else (arr == -1))
   ·(refine fl_c 130 #[.bool (wArr kd), .bool (decide (0 ≤ arr)), .bool (arr == -1)] (.bool false) (fun X hX => ((zau _ _ _ _).mono fun e w' ⟨he, hb⟩ => ⟨he.trans (retb c2), hb ▸ hX⟩)) ?_)
    refine fl_a ?_
    intro w6 a0
    go_wp2
    go_ret
    exact ⟨retb (by rw [HR.out, c1, c2]; rfl), bup n0 a0⟩
   ·(refine fl_c 130 #[.bool (wArr kd), .bool (decide (0 ≤ arr)), .bool (arr == -1)] (.bool true) (fun X hX => ((zau _ _ _ _).mono fun e w' ⟨he, hb⟩ => ⟨he.trans (retb c2), hb ▸ hX⟩)) ?_)
    cases o1 : decide (1 ≤ op)
    ·rw [o1, Bool.false_and] at HR
     refine fl_a ?_
     cases c3 : (bif wOp kd then (false) else (op == 0))
     ·(refine fl_c 130 #[.bool (wOp kd), .bool (false), .bool (op == 0)] (.bool false) (fun X hX => ((zau _ _ _ _).mono fun e w' ⟨he, hb⟩ => ⟨he.trans (retb c3), hb ▸ hX⟩)) ?_)
      refine fl_a ?_
      intro w6 a0
      go_wp2
      go_ret
      exact ⟨retb (by rw [HR.out, c1, c2, c3]; rfl), bup n0 a0⟩
     ·(refine fl_c 130 #[.bool (wOp kd), .bool (false), .bool (op == 0)] (.bool true) (fun X hX => ((zau _ _ _ _).mono fun e w' ⟨he, hb⟩ => ⟨he.trans (retb c3), hb ▸ hX⟩)) ?_)
      refine fl_a ?_
      (refine fl_c 131 #[.agg #[av, an], n] (.bool q3) (fun X hX => ((HA.out _).mono fun e w' ⟨he, hb⟩ => ⟨he, zaI hX hX.size hb⟩)) ?_)
      refine fl_a ?_
      cases c4 : (bif wA kd then q3 else opEq av an (-1) 0)
      ·(refine fl_c 130 #[.bool (wA kd), q3, .bool (opEq av an (-1) 0)] (.bool false) (fun X hX => ((zau _ _ _ _).mono fun e w' ⟨he, hb⟩ => ⟨he.trans (retb c4), hb ▸ hX⟩)) ?_)
       refine fl_a ?_
       intro w6 a0
       go_wp2
       go_ret
       exact ⟨retb (by rw [HR.out, c1, c2, c3, c4]; rfl), bup n0 a0⟩
      ·(refine fl_c 130 #[.bool (wA kd), q3, .bool (opEq av an (-1) 0)] (.bool true) (fun X hX => ((zau _ _ _ _).mono fun e w' ⟨he, hb⟩ => ⟨he.trans (retb c4), hb ▸ hX⟩)) ?_)
       refine fl_a ?_
       (refine fl_c 131 #[.agg #[bv, bn], n] (.bool q4) (fun X hX => ((HB.out _).mono fun e w' ⟨he, hb⟩ => ⟨he, zaI hX hX.size hb⟩)) ?_)
       refine fl_a ?_
       intro w6 a0
       go_wp2_with fail
       refine (zau _ _ _ _).mono ?_
       rintro e7 w7 ⟨rfl, rfl⟩
       go_wp2; go_ret
       exact ⟨retb (by rw [HR.out, c1, c2, c3, c4]; rfl), bup n0 a0⟩
    ·rw [o1, show (true && decide (op ≤ 6)) = decide (op ≤ 6) from Bool.true_and _] at HR
     refine fl_a ?_
     cases c3 : (bif wOp kd then (decide (op ≤ 6)) else (op == 0))
     ·(refine fl_c 130 #[.bool (wOp kd), .bool (decide (op ≤ 6)), .bool (op == 0)] (.bool false) (fun X hX => ((zau _ _ _ _).mono fun e w' ⟨he, hb⟩ => ⟨he.trans (retb c3), hb ▸ hX⟩)) ?_)
      refine fl_a ?_
      intro w6 a0
      go_wp2
      go_ret
      exact ⟨retb (by rw [HR.out, c1, c2, c3]; rfl), bup n0 a0⟩
     ·(refine fl_c 130 #[.bool (wOp kd), .bool (decide (op ≤ 6)), .bool (op == 0)] (.bool true) (fun X hX => ((zau _ _ _ _).mono fun e w' ⟨he, hb⟩ => ⟨he.trans (retb c3), hb ▸ hX⟩)) ?_)
      refine fl_a ?_
      (refine fl_c 131 #[.agg #[av, an], n] (.bool q3) (fun X hX => ((HA.out _).mono fun e w' ⟨he, hb⟩ => ⟨he, zaI hX hX.size hb⟩)) ?_)
      refine fl_a ?_
      cases c4 : (bif wA kd then q3 else opEq av an (-1) 0)
      ·(refine fl_c 130 #[.bool (wA kd), q3, .bool (opEq av an (-1) 0)] (.bool false) (fun X hX => ((zau _ _ _ _).mono fun e w' ⟨he, hb⟩ => ⟨he.trans (retb c4), hb ▸ hX⟩)) ?_)
       refine fl_a ?_
       intro w6 a0
       go_wp2
       go_ret
       exact ⟨retb (by rw [HR.out, c1, c2, c3, c4]; rfl), bup n0 a0⟩
      ·(refine fl_c 130 #[.bool (wA kd), q3, .bool (opEq av an (-1) 0)] (.bool true) (fun X hX => ((zau _ _ _ _).mono fun e w' ⟨he, hb⟩ => ⟨he.trans (retb c4), hb ▸ hX⟩)) ?_)
       refine fl_a ?_
       (refine fl_c 131 #[.agg #[bv, bn], n] (.bool q4) (fun X hX => ((HB.out _).mono fun e w' ⟨he, hb⟩ => ⟨he, zaI hX hX.size hb⟩)) ?_)
       refine fl_a ?_
       intro w6 a0
       go_wp2_with fail
       refine (zau _ _ _ _).mono ?_
       rintro e7 w7 ⟨rfl, rfl⟩
       go_wp2; go_ret
       exact ⟨retb (by rw [HR.out, c1, c2, c3, c4]; rfl), bup n0 a0⟩
 ·rw [o0, show (true && decide (dst < n)) = decide (dst < n) from Bool.true_and _] at HR
  refine fl_a ?_
  cases c1 : (bif wDst kd then (decide (dst < n)) else (dst == -1))
  ·(refine fl_c 130 #[.bool (wDst kd), .bool (decide (dst < n)), .bool (dst == -1)] (.bool false) (fun X hX => ((zau _ _ _ _).mono fun e w' ⟨he, hb⟩ => ⟨he.trans (retb c1), hb ▸ hX⟩)) ?_)
   refine fl_a ?_
   intro w6 a0
   go_wp2
   go_ret
   exact ⟨retb (by rw [HR.out, c1]; rfl), bup n0 a0⟩
  ·(refine fl_c 130 #[.bool (wDst kd), .bool (decide (dst < n)), .bool (dst == -1)] (.bool true) (fun X hX => ((zau _ _ _ _).mono fun e w' ⟨he, hb⟩ => ⟨he.trans (retb c1), hb ▸ hX⟩)) ?_)
   refine fl_a ?_
   cases c2 : (bif wArr kd then decide (0 ≤ arr) else (arr == -1))
   ·(refine fl_c 130 #[.bool (wArr kd), .bool (decide (0 ≤ arr)), .bool (arr == -1)] (.bool false) (fun X hX => ((zau _ _ _ _).mono fun e w' ⟨he, hb⟩ => ⟨he.trans (retb c2), hb ▸ hX⟩)) ?_)
    refine fl_a ?_
    intro w6 a0
    go_wp2
    go_ret
    exact ⟨retb (by rw [HR.out, c1, c2]; rfl), bup n0 a0⟩
   ·(refine fl_c 130 #[.bool (wArr kd), .bool (decide (0 ≤ arr)), .bool (arr == -1)] (.bool true) (fun X hX => ((zau _ _ _ _).mono fun e w' ⟨he, hb⟩ => ⟨he.trans (retb c2), hb ▸ hX⟩)) ?_)
    cases o1 : decide (1 ≤ op)
    ·rw [o1, Bool.false_and] at HR
     refine fl_a ?_
     cases c3 : (bif wOp kd then (false) else (op == 0))
     ·(refine fl_c 130 #[.bool (wOp kd), .bool (false), .bool (op == 0)] (.bool false) (fun X hX => ((zau _ _ _ _).mono fun e w' ⟨he, hb⟩ => ⟨he.trans (retb c3), hb ▸ hX⟩)) ?_)
      refine fl_a ?_
      intro w6 a0
      go_wp2
      go_ret
      exact ⟨retb (by rw [HR.out, c1, c2, c3]; rfl), bup n0 a0⟩
     ·(refine fl_c 130 #[.bool (wOp kd), .bool (false), .bool (op == 0)] (.bool true) (fun X hX => ((zau _ _ _ _).mono fun e w' ⟨he, hb⟩ => ⟨he.trans (retb c3), hb ▸ hX⟩)) ?_)
      refine fl_a ?_
      (refine fl_c 131 #[.agg #[av, an], n] (.bool q3) (fun X hX => ((HA.out _).mono fun e w' ⟨he, hb⟩ => ⟨he, zaI hX hX.size hb⟩)) ?_)
      refine fl_a ?_
      cases c4 : (bif wA kd then q3 else opEq av an (-1) 0)
      ·(refine fl_c 130 #[.bool (wA kd), q3, .bool (opEq av an (-1) 0)] (.bool false) (fun X hX => ((zau _ _ _ _).mono fun e w' ⟨he, hb⟩ => ⟨he.trans (retb c4), hb ▸ hX⟩)) ?_)
       refine fl_a ?_
       intro w6 a0
       go_wp2
       go_ret
       exact ⟨retb (by rw [HR.out, c1, c2, c3, c4]; rfl), bup n0 a0⟩
      ·(refine fl_c 130 #[.bool (wA kd), q3, .bool (opEq av an (-1) 0)] (.bool true) (fun X hX => ((zau _ _ _ _).mono fun e w' ⟨he, hb⟩ => ⟨he.trans (retb c4), hb ▸ hX⟩)) ?_)
       refine fl_a ?_
       (refine fl_c 131 #[.agg #[bv, bn], n] (.bool q4) (fun X hX => ((HB.out _).mono fun e w' ⟨he, hb⟩ => ⟨he, zaI hX hX.size hb⟩)) ?_)
       refine fl_a ?_
       intro w6 a0
       go_wp2_with fail
       refine (zau _ _ _ _).mono ?_
       rintro e7 w7 ⟨rfl, rfl⟩
       go_wp2; go_ret
       exact ⟨retb (by rw [HR.out, c1, c2, c3, c4]; rfl), bup n0 a0⟩
    ·rw [o1, show (true && decide (op ≤ 6)) = decide (op ≤ 6) from Bool.true_and _] at HR
     refine fl_a ?_
     cases c3 : (bif wOp kd then (decide (op ≤ 6)) else (op == 0))
     ·(refine fl_c 130 #[.bool (wOp kd), .bool (decide (op ≤ 6)), .bool (op == 0)] (.bool false) (fun X hX => ((zau _ _ _ _).mono fun e w' ⟨he, hb⟩ => ⟨he.trans (retb c3), hb ▸ hX⟩)) ?_)
      refine fl_a ?_
      intro w6 a0
      go_wp2
      go_ret
      exact ⟨retb (by rw [HR.out, c1, c2, c3]; rfl), bup n0 a0⟩
     ·(refine fl_c 130 #[.bool (wOp kd), .bool (decide (op ≤ 6)), .bool (op == 0)] (.bool true) (fun X hX => ((zau _ _ _ _).mono fun e w' ⟨he, hb⟩ => ⟨he.trans (retb c3), hb ▸ hX⟩)) ?_)
      refine fl_a ?_
      (refine fl_c 131 #[.agg #[av, an], n] (.bool q3) (fun X hX => ((HA.out _).mono fun e w' ⟨he, hb⟩ => ⟨he, zaI hX hX.size hb⟩)) ?_)
      refine fl_a ?_
      cases c4 : (bif wA kd then q3 else opEq av an (-1) 0)
      ·(refine fl_c 130 #[.bool (wA kd), q3, .bool (opEq av an (-1) 0)] (.bool false) (fun X hX => ((zau _ _ _ _).mono fun e w' ⟨he, hb⟩ => ⟨he.trans (retb c4), hb ▸ hX⟩)) ?_)
       refine fl_a ?_
       intro w6 a0
       go_wp2
       go_ret
       exact ⟨retb (by rw [HR.out, c1, c2, c3, c4]; rfl), bup n0 a0⟩
      ·(refine fl_c 130 #[.bool (wA kd), q3, .bool (opEq av an (-1) 0)] (.bool true) (fun X hX => ((zau _ _ _ _).mono fun e w' ⟨he, hb⟩ => ⟨he.trans (retb c4), hb ▸ hX⟩)) ?_)
       refine fl_a ?_
       (refine fl_c 131 #[.agg #[bv, bn], n] (.bool q4) (fun X hX => ((HB.out _).mono fun e w' ⟨he, hb⟩ => ⟨he, zaI hX hX.size hb⟩)) ?_)
       refine fl_a ?_
       intro w6 a0
       go_wp2_with fail
       refine (zau _ _ _ _).mono ?_
       rintro e7 w7 ⟨rfl, rfl⟩
       go_wp2; go_ret
       exact ⟨retb (by rw [HR.out, c1, c2, c3, c4]; rfl), bup n0 a0⟩
end Go.Proofs.YtnmpgijiimglcaaGreat
