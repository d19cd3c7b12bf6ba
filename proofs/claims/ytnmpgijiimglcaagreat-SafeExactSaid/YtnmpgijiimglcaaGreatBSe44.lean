import Derived.Test.YtnmpgijiimglcaaGreatBSe42
import Derived.Test.YtnmpgijiimglcaaGreatBSe29
namespace Go.Proofs.YtnmpgijiimglcaaGreat
open Go.RowKit
set_option maxRecDepth 100000
set_option maxHeartbeats 8000000
attribute [local go_sem ↓] Go.wp_at_zero Go.wp_at_succ
theorem zjW (a b : Rg) (ib : I64 b.lo) (w : World) : Calls Tryz.prog 235 #[a.val, b.val] w (zam (remR a b).val w) := by
 have hp := zet b
 have ik := zfA ib
 have HE : Hid (remR a b = if oneOf b = 0 then rg0
  else ⟨if a.hl && decide (0 ≤ a.lo) then 0 else 1 - oneOf b,
   if a.hh && decide (a.hi ≤ 0) then 0 else if a.hh && (a.hl && decide (0 ≤ a.lo)) then min (oneOf b - 1) a.hi else oneOf b - 1, true, true⟩) := hid rfl
 have H1 := hid (fun W => (show Calls Tryz.prog 248 #[b.val] W (fun e w' => e = .returned (.int .i64 (oneOf b)) ∧ Below W.heap.size W w') from zfV b.lo b.hi b.hl b.hh W))
 generalize remR a b = R at *
 generalize oneOf b = k at *
 obtain ⟨alo, ahi, ahl, ahh⟩ := a
 obtain ⟨lo, hi, hl, hh⟩ := b
 dsimp only at ib HE
 have hw1 : wrap64 (1 - k) = 1 - k := IntWalk.wrap64_in _ (by unfold I64 at ik; omega)
 have hw2 : wrap64 (k - 1) = k - 1 := IntWalk.wrap64_in _ (by unfold I64 at ik; omega)
 have HA := hid (fun n W => zcZ n W)
 unfold Rg.val at H1 ⊢
 dsimp only at H1 ⊢
 clear ib ik
 obtain ⟨p2, p3, p4, a2, hsz⟩ := zaj w #[alo, ahi, ahl, ahh] #[lo, hi, hl, hh] #[.int .i64 0, .int .i64 0, false, false] 49 49 49
 clear hsz
 go_enter Tryz.func235, Tryz.ntmps235
 have c7 := zag p3
 go_wp2_with fail
 clear c7
 generalize ((w.alloc (Obj.cells #[alo, ahi, ahl, ahh] 49)).alloc (Obj.cells #[lo, hi, hl, hh] 49)).alloc (Obj.cells #[.int .i64 0, .int .i64 0, false, false] 49) = w1 at *
 (with_reducible refine (H1.out w1).mono ?_)
 rintro e_w2 w2 ⟨rfl, b7⟩
 replace p2 := p2.later b7
 replace p3 := p3.later b7
 replace p4 := p4.later b7
 replace a2 := bup a2 b7
 clear b7 H1 p3
 by_cases hk0 : k = 0
 ·subst hk0
  have hR : R = rg0 := by rw [HE.out]; rfl
  subst hR
  clear hp
  have y0 := zag p4
  go_wp2
  clear y0
  have q9 := (((p4.set_ 0 (.int .i64 0)).set_ 1 (.int .i64 0)).set_ 2 (.bool false)).set_ 3 (.bool false)
  have b5 := a2.trans (zav (W := w2) (g := w.heap.size + 1 + 1) (v0 := .int .i64 0) (v1 := .int .i64 0) (v2 := .bool false) (v3 := .bool false) (by omega) a2.size)
  obtain ⟨z0, z1, z2, z3, fz⟩ := zag (show Blk _ _ _ #[.int .i64 0, .int .i64 0, false, false] from q9)
  refine bodyPost_ret (v := .agg #[.int .i64 0, .int .i64 0, false, false]) (by simp [results, Tryz.results235, go_sem, z0, z1, z2, z3]) rfl (And.intro ?_ b5)
  rfl
 ·have t1 : (k == 0) = false := by rw [beq_eq_false_iff_ne]; exact hk0
  have HK := hid hk0
  clear hp hk0
  go_wp2_with fail
  (with_reducible refine (HA.out (1 - k) w2).mono ?_)
  rintro e_w3 w3 ⟨rfl, b9⟩
  replace p2 := p2.later b9
  replace p4 := p4.later b9
  replace a2 := bup a2 b9
  clear b9
  go_wp2_with fail
  (with_reducible refine (HA.out (k - 1) w3).mono ?_)
  rintro e_w4 w4 ⟨rfl, b8⟩
  replace p2 := p2.later b8
  replace p4 := p4.later b8
  replace a2 := bup a2 b8
  clear b8
  have hl4 := p4.lt
  have hl2 := p2.lt
  obtain ⟨p6, p7, c5, -⟩ := zal w4 #[.int .i64 (1 - k), true] #[.int .i64 (k - 1), true] 185 185
  replace p2 := p2.later c5
  replace p4 := p4.later c5
  replace a2 := bup a2 c5
  cases ahl with
  | false =>
   cases ahh with
   | false =>
    have hR : R = ⟨1 - k, k - 1, true, true⟩ := by
     rw [HE.out, if_neg HK.out]
     simp []
    subst hR
    clear HE HK
    have b0 := zag p2
    obtain ⟨a9, a6, a8⟩ := zai p6
    obtain ⟨b4, b1, a4⟩ := zai p7
    go_wp2_with fail
    clear b0 a9 a6 a8 b4 b1 a4
    generalize (w4.alloc (Obj.cells #[.int .i64 (1 - k), true] 185)).alloc (Obj.cells #[.int .i64 (k - 1), true] 185) = w5 at *
    (with_reducible refine (zbb (1 - k) (k - 1) w5).mono ?_)
    rintro b6 w6 ⟨rfl, a0⟩
    replace p2 := p2.later a0
    replace p4 := p4.later a0
    replace p6 := p6.later a0
    replace p7 := p7.later a0
    replace a2 := bup a2 a0
    clear a0
    have y0 := zag p4
    go_wp2
    clear y0
    have q9 := (((p4.set_ 0 (.int .i64 (1 - k))).set_ 1 (.int .i64 (k - 1))).set_ 2 (.bool true)).set_ 3 (.bool true)
    have b5 := a2.trans (zav (W := w6) (g := w.heap.size + 1 + 1) (v0 := .int .i64 (1 - k)) (v1 := .int .i64 (k - 1)) (v2 := .bool true) (v3 := .bool true) (by omega) a2.size)
    obtain ⟨z0, z1, z2, z3, fz⟩ := zag (show Blk _ _ _ #[.int .i64 (1 - k), .int .i64 (k - 1), true, true] from q9)
    refine bodyPost_ret (v := .agg #[.int .i64 (1 - k), .int .i64 (k - 1), true, true]) (by simp [results, Tryz.results235, go_sem, z0, z1, z2, z3]) rfl (And.intro ?_ b5)
    rfl
   | true =>
    cases t9 : decide (ahi ≤ 0) with
    | true =>
     have e9 : ahi ≤ 0 := of_decide_eq_true t9
     have hR : R = ⟨1 - k, 0, true, true⟩ := by
      rw [HE.out, if_neg HK.out]
      simp [e9]
     subst hR
     clear HE HK
     have b0 := zag p2
     obtain ⟨a9, a6, a8⟩ := zai p6
     obtain ⟨b4, b1, a4⟩ := zai p7
     go_wp2_with fail
     clear b0 a9 a6 a8 b4 b1 a4
     generalize (w4.alloc (Obj.cells #[.int .i64 (1 - k), true] 185)).alloc (Obj.cells #[.int .i64 (k - 1), true] 185) = w5 at *
     (with_reducible refine (HA.out 0 w5).mono ?_)
     rintro b6 w6 ⟨rfl, a0⟩
     replace p2 := p2.later a0
     replace p4 := p4.later a0
     replace p6 := p6.later a0
     replace p7 := p7.later a0
     replace a2 := bup a2 a0
     clear a0
     have b0 := zag p2
     obtain ⟨a9, a6, a8⟩ := zai p6
     obtain ⟨b4, b1, a4⟩ := zai p7
     go_wp2_with fail
     clear b0 a9 a6 a8 b4 b1 a4
     replace p2 := p2.far2 (g := w4.heap.size + 1) (v0 := .int .i64 0) (v1 := .bool true) (by omega)
     replace p4 := p4.far2 (g := w4.heap.size + 1) (v0 := .int .i64 0) (v1 := .bool true) (by omega)
     replace p6 := p6.far2 (g := w4.heap.size + 1) (v0 := .int .i64 0) (v1 := .bool true) (by omega)
     replace p7 := p7.set2 (v0 := .int .i64 0) (v1 := .bool true)
     replace a2 := a2.trans (zba (W := w6) (g := w4.heap.size + 1) (v0 := .int .i64 0) (v1 := .bool true) (by omega) a2.size)
     generalize (w6.setCell ⟨w4.heap.size + 1, 0, none⟩ (.int .i64 0)).setCell ⟨w4.heap.size + 1, 1, none⟩ (.bool true) = w7 at *
     (with_reducible refine (zbb (1 - k) (0) w7).mono ?_)
     rintro c0 w8 ⟨rfl, a1⟩
     replace p2 := p2.later a1
     replace p4 := p4.later a1
     replace p6 := p6.later a1
     replace p7 := p7.later a1
     replace a2 := bup a2 a1
     clear a1
     have y0 := zag p4
     go_wp2
     clear y0
     have q9 := (((p4.set_ 0 (.int .i64 (1 - k))).set_ 1 (.int .i64 (0))).set_ 2 (.bool true)).set_ 3 (.bool true)
     have b5 := a2.trans (zav (W := w8) (g := w.heap.size + 1 + 1) (v0 := .int .i64 (1 - k)) (v1 := .int .i64 (0)) (v2 := .bool true) (v3 := .bool true) (by omega) a2.size)
     obtain ⟨z0, z1, z2, z3, fz⟩ := zag (show Blk _ _ _ #[.int .i64 (1 - k), .int .i64 (0), true, true] from q9)
     refine bodyPost_ret (v := .agg #[.int .i64 (1 - k), .int .i64 (0), true, true]) (by simp [results, Tryz.results235, go_sem, z0, z1, z2, z3]) rfl (And.intro ?_ b5)
     rfl
    | false =>
     have e9 : ¬ ahi ≤ 0 := of_decide_eq_false t9
     have hR : R = ⟨1 - k, k - 1, true, true⟩ := by
      rw [HE.out, if_neg HK.out]
      simp [e9]
     subst hR
     clear HE HK
     have b0 := zag p2
     obtain ⟨a9, a6, a8⟩ := zai p6
     obtain ⟨b4, b1, a4⟩ := zai p7
     go_wp2_with fail
     clear b0 a9 a6 a8 b4 b1 a4
     generalize (w4.alloc (Obj.cells #[.int .i64 (1 - k), true] 185)).alloc (Obj.cells #[.int .i64 (k - 1), true] 185) = w5 at *
     (with_reducible refine (zbb (1 - k) (k - 1) w5).mono ?_)
     rintro b6 w6 ⟨rfl, a0⟩
     replace p2 := p2.later a0
     replace p4 := p4.later a0
     replace p6 := p6.later a0
     replace p7 := p7.later a0
     replace a2 := bup a2 a0
     clear a0
     have y0 := zag p4
     go_wp2
     clear y0
     have q9 := (((p4.set_ 0 (.int .i64 (1 - k))).set_ 1 (.int .i64 (k - 1))).set_ 2 (.bool true)).set_ 3 (.bool true)
     have b5 := a2.trans (zav (W := w6) (g := w.heap.size + 1 + 1) (v0 := .int .i64 (1 - k)) (v1 := .int .i64 (k - 1)) (v2 := .bool true) (v3 := .bool true) (by omega) a2.size)
     obtain ⟨z0, z1, z2, z3, fz⟩ := zag (show Blk _ _ _ #[.int .i64 (1 - k), .int .i64 (k - 1), true, true] from q9)
     refine bodyPost_ret (v := .agg #[.int .i64 (1 - k), .int .i64 (k - 1), true, true]) (by simp [results, Tryz.results235, go_sem, z0, z1, z2, z3]) rfl (And.intro ?_ b5)
     rfl
  | true =>
   cases t8 : decide (0 ≤ alo) with
   | false =>
    have e8 : ¬ 0 ≤ alo := of_decide_eq_false t8
    cases ahh with
    | false =>
     have hR : R = ⟨1 - k, k - 1, true, true⟩ := by
      rw [HE.out, if_neg HK.out]
      simp [e8]
     subst hR
     clear HE HK
     have b0 := zag p2
     obtain ⟨a9, a6, a8⟩ := zai p6
     obtain ⟨b4, b1, a4⟩ := zai p7
     go_wp2_with fail
     clear b0 a9 a6 a8 b4 b1 a4
     generalize (w4.alloc (Obj.cells #[.int .i64 (1 - k), true] 185)).alloc (Obj.cells #[.int .i64 (k - 1), true] 185) = w5 at *
     (with_reducible refine (zbb (1 - k) (k - 1) w5).mono ?_)
     rintro b6 w6 ⟨rfl, a0⟩
     replace p2 := p2.later a0
     replace p4 := p4.later a0
     replace p6 := p6.later a0
     replace p7 := p7.later a0
     replace a2 := bup a2 a0
     clear a0
     have y0 := zag p4
     go_wp2
     clear y0
     have q9 := (((p4.set_ 0 (.int .i64 (1 - k))).set_ 1 (.int .i64 (k - 1))).set_ 2 (.bool true)).set_ 3 (.bool true)
     have b5 := a2.trans (zav (W := w6) (g := w.heap.size + 1 + 1) (v0 := .int .i64 (1 - k)) (v1 := .int .i64 (k - 1)) (v2 := .bool true) (v3 := .bool true) (by omega) a2.size)
     obtain ⟨z0, z1, z2, z3, fz⟩ := zag (show Blk _ _ _ #[.int .i64 (1 - k), .int .i64 (k - 1), true, true] from q9)
     refine bodyPost_ret (v := .agg #[.int .i64 (1 - k), .int .i64 (k - 1), true, true]) (by simp [results, Tryz.results235, go_sem, z0, z1, z2, z3]) rfl (And.intro ?_ b5)
     rfl
    | true =>
     cases t9 : decide (ahi ≤ 0) with
     | true =>
      have e9 : ahi ≤ 0 := of_decide_eq_true t9
      have hR : R = ⟨1 - k, 0, true, true⟩ := by
       rw [HE.out, if_neg HK.out]
       simp [e8, e9]
      subst hR
      clear HE HK
      have b0 := zag p2
      obtain ⟨a9, a6, a8⟩ := zai p6
      obtain ⟨b4, b1, a4⟩ := zai p7
      go_wp2_with fail
      clear b0 a9 a6 a8 b4 b1 a4
      generalize (w4.alloc (Obj.cells #[.int .i64 (1 - k), true] 185)).alloc (Obj.cells #[.int .i64 (k - 1), true] 185) = w5 at *
      (with_reducible refine (HA.out 0 w5).mono ?_)
      rintro b6 w6 ⟨rfl, a0⟩
      replace p2 := p2.later a0
      replace p4 := p4.later a0
      replace p6 := p6.later a0
      replace p7 := p7.later a0
      replace a2 := bup a2 a0
      clear a0
      have b0 := zag p2
      obtain ⟨a9, a6, a8⟩ := zai p6
      obtain ⟨b4, b1, a4⟩ := zai p7
      go_wp2_with fail
      clear b0 a9 a6 a8 b4 b1 a4
      replace p2 := p2.far2 (g := w4.heap.size + 1) (v0 := .int .i64 0) (v1 := .bool true) (by omega)
      replace p4 := p4.far2 (g := w4.heap.size + 1) (v0 := .int .i64 0) (v1 := .bool true) (by omega)
      replace p6 := p6.far2 (g := w4.heap.size + 1) (v0 := .int .i64 0) (v1 := .bool true) (by omega)
      replace p7 := p7.set2 (v0 := .int .i64 0) (v1 := .bool true)
      replace a2 := a2.trans (zba (W := w6) (g := w4.heap.size + 1) (v0 := .int .i64 0) (v1 := .bool true) (by omega) a2.size)
      generalize (w6.setCell ⟨w4.heap.size + 1, 0, none⟩ (.int .i64 0)).setCell ⟨w4.heap.size + 1, 1, none⟩ (.bool true) = w7 at *
      (with_reducible refine (zbb (1 - k) (0) w7).mono ?_)
      rintro c0 w8 ⟨rfl, a1⟩
      replace p2 := p2.later a1
      replace p4 := p4.later a1
      replace p6 := p6.later a1
      replace p7 := p7.later a1
      replace a2 := bup a2 a1
      clear a1
      have y0 := zag p4
      go_wp2
      clear y0
      have q9 := (((p4.set_ 0 (.int .i64 (1 - k))).set_ 1 (.int .i64 (0))).set_ 2 (.bool true)).set_ 3 (.bool true)
      have b5 := a2.trans (zav (W := w8) (g := w.heap.size + 1 + 1) (v0 := .int .i64 (1 - k)) (v1 := .int .i64 (0)) (v2 := .bool true) (v3 := .bool true) (by omega) a2.size)
      obtain ⟨z0, z1, z2, z3, fz⟩ := zag (show Blk _ _ _ #[.int .i64 (1 - k), .int .i64 (0), true, true] from q9)
      refine bodyPost_ret (v := .agg #[.int .i64 (1 - k), .int .i64 (0), true, true]) (by simp [results, Tryz.results235, go_sem, z0, z1, z2, z3]) rfl (And.intro ?_ b5)
      rfl
     | false =>
      have e9 : ¬ ahi ≤ 0 := of_decide_eq_false t9
      have hR : R = ⟨1 - k, k - 1, true, true⟩ := by
       rw [HE.out, if_neg HK.out]
       simp [e8, e9]
      subst hR
      clear HE HK
      have b0 := zag p2
      obtain ⟨a9, a6, a8⟩ := zai p6
      obtain ⟨b4, b1, a4⟩ := zai p7
      go_wp2_with fail
      clear b0 a9 a6 a8 b4 b1 a4
      generalize (w4.alloc (Obj.cells #[.int .i64 (1 - k), true] 185)).alloc (Obj.cells #[.int .i64 (k - 1), true] 185) = w5 at *
      (with_reducible refine (zbb (1 - k) (k - 1) w5).mono ?_)
      rintro b6 w6 ⟨rfl, a0⟩
      replace p2 := p2.later a0
      replace p4 := p4.later a0
      replace p6 := p6.later a0
      replace p7 := p7.later a0
      replace a2 := bup a2 a0
      clear a0
      have y0 := zag p4
      go_wp2
      clear y0
      have q9 := (((p4.set_ 0 (.int .i64 (1 - k))).set_ 1 (.int .i64 (k - 1))).set_ 2 (.bool true)).set_ 3 (.bool true)
      have b5 := a2.trans (zav (W := w6) (g := w.heap.size + 1 + 1) (v0 := .int .i64 (1 - k)) (v1 := .int .i64 (k - 1)) (v2 := .bool true) (v3 := .bool true) (by omega) a2.size)
      obtain ⟨z0, z1, z2, z3, fz⟩ := zag (show Blk _ _ _ #[.int .i64 (1 - k), .int .i64 (k - 1), true, true] from q9)
      refine bodyPost_ret (v := .agg #[.int .i64 (1 - k), .int .i64 (k - 1), true, true]) (by simp [results, Tryz.results235, go_sem, z0, z1, z2, z3]) rfl (And.intro ?_ b5)
      rfl
   | true =>
    have e8 : 0 ≤ alo := of_decide_eq_true t8
    cases ahh with
    | false =>
     have hR : R = ⟨0, k - 1, true, true⟩ := by
      rw [HE.out, if_neg HK.out]
      simp [e8]
     subst hR
     clear HE HK
     have b0 := zag p2
     obtain ⟨a9, a6, a8⟩ := zai p6
     obtain ⟨b4, b1, a4⟩ := zai p7
     go_wp2_with fail
     clear b0 a9 a6 a8 b4 b1 a4
     generalize (w4.alloc (Obj.cells #[.int .i64 (1 - k), true] 185)).alloc (Obj.cells #[.int .i64 (k - 1), true] 185) = w5 at *
     (with_reducible refine (HA.out 0 w5).mono ?_)
     rintro b6 w6 ⟨rfl, a0⟩
     replace p2 := p2.later a0
     replace p4 := p4.later a0
     replace p6 := p6.later a0
     replace p7 := p7.later a0
     replace a2 := bup a2 a0
     clear a0
     have b0 := zag p2
     obtain ⟨a9, a6, a8⟩ := zai p6
     obtain ⟨b4, b1, a4⟩ := zai p7
     go_wp2_with fail
     clear b0 a9 a6 a8 b4 b1 a4
     replace p2 := p2.far2 (g := w4.heap.size) (v0 := .int .i64 0) (v1 := .bool true) (by omega)
     replace p4 := p4.far2 (g := w4.heap.size) (v0 := .int .i64 0) (v1 := .bool true) (by omega)
     replace p7 := p7.far2 (g := w4.heap.size) (v0 := .int .i64 0) (v1 := .bool true) (by omega)
     replace p6 := p6.set2 (v0 := .int .i64 0) (v1 := .bool true)
     replace a2 := a2.trans (zba (W := w6) (g := w4.heap.size) (v0 := .int .i64 0) (v1 := .bool true) (by omega) a2.size)
     generalize (w6.setCell ⟨w4.heap.size, 0, none⟩ (.int .i64 0)).setCell ⟨w4.heap.size, 1, none⟩ (.bool true) = w7 at *
     (with_reducible refine (zbb (0) (k - 1) w7).mono ?_)
     rintro c0 w8 ⟨rfl, a1⟩
     replace p2 := p2.later a1
     replace p4 := p4.later a1
     replace p6 := p6.later a1
     replace p7 := p7.later a1
     replace a2 := bup a2 a1
     clear a1
     have y0 := zag p4
     go_wp2
     clear y0
     have q9 := (((p4.set_ 0 (.int .i64 (0))).set_ 1 (.int .i64 (k - 1))).set_ 2 (.bool true)).set_ 3 (.bool true)
     have b5 := a2.trans (zav (W := w8) (g := w.heap.size + 1 + 1) (v0 := .int .i64 (0)) (v1 := .int .i64 (k - 1)) (v2 := .bool true) (v3 := .bool true) (by omega) a2.size)
     obtain ⟨z0, z1, z2, z3, fz⟩ := zag (show Blk _ _ _ #[.int .i64 (0), .int .i64 (k - 1), true, true] from q9)
     refine bodyPost_ret (v := .agg #[.int .i64 (0), .int .i64 (k - 1), true, true]) (by simp [results, Tryz.results235, go_sem, z0, z1, z2, z3]) rfl (And.intro ?_ b5)
     rfl
    | true =>
     cases t9 : decide (ahi ≤ 0) with
     | true =>
      have e9 : ahi ≤ 0 := of_decide_eq_true t9
      have hR : R = ⟨0, 0, true, true⟩ := by
       rw [HE.out, if_neg HK.out]
       simp [e8, e9]
      subst hR
      clear HE HK
      have b0 := zag p2
      obtain ⟨a9, a6, a8⟩ := zai p6
      obtain ⟨b4, b1, a4⟩ := zai p7
      go_wp2_with fail
      clear b0 a9 a6 a8 b4 b1 a4
      generalize (w4.alloc (Obj.cells #[.int .i64 (1 - k), true] 185)).alloc (Obj.cells #[.int .i64 (k - 1), true] 185) = w5 at *
      (with_reducible refine (HA.out 0 w5).mono ?_)
      rintro b6 w6 ⟨rfl, a0⟩
      replace p2 := p2.later a0
      replace p4 := p4.later a0
      replace p6 := p6.later a0
      replace p7 := p7.later a0
      replace a2 := bup a2 a0
      clear a0
      have b0 := zag p2
      obtain ⟨a9, a6, a8⟩ := zai p6
      obtain ⟨b4, b1, a4⟩ := zai p7
      go_wp2_with fail
      clear b0 a9 a6 a8 b4 b1 a4
      replace p2 := p2.far2 (g := w4.heap.size) (v0 := .int .i64 0) (v1 := .bool true) (by omega)
      replace p4 := p4.far2 (g := w4.heap.size) (v0 := .int .i64 0) (v1 := .bool true) (by omega)
      replace p7 := p7.far2 (g := w4.heap.size) (v0 := .int .i64 0) (v1 := .bool true) (by omega)
      replace p6 := p6.set2 (v0 := .int .i64 0) (v1 := .bool true)
      replace a2 := a2.trans (zba (W := w6) (g := w4.heap.size) (v0 := .int .i64 0) (v1 := .bool true) (by omega) a2.size)
      generalize (w6.setCell ⟨w4.heap.size, 0, none⟩ (.int .i64 0)).setCell ⟨w4.heap.size, 1, none⟩ (.bool true) = w7 at *
      (with_reducible refine (HA.out 0 w7).mono ?_)
      rintro c0 w8 ⟨rfl, a1⟩
      replace p2 := p2.later a1
      replace p4 := p4.later a1
      replace p6 := p6.later a1
      replace p7 := p7.later a1
      replace a2 := bup a2 a1
      clear a1
      have b0 := zag p2
      obtain ⟨a9, a6, a8⟩ := zai p6
      obtain ⟨b4, b1, a4⟩ := zai p7
      go_wp2_with fail
      clear b0 a9 a6 a8 b4 b1 a4
      replace p2 := p2.far2 (g := w4.heap.size + 1) (v0 := .int .i64 0) (v1 := .bool true) (by omega)
      replace p4 := p4.far2 (g := w4.heap.size + 1) (v0 := .int .i64 0) (v1 := .bool true) (by omega)
      replace p6 := p6.far2 (g := w4.heap.size + 1) (v0 := .int .i64 0) (v1 := .bool true) (by omega)
      replace p7 := p7.set2 (v0 := .int .i64 0) (v1 := .bool true)
      replace a2 := a2.trans (zba (W := w8) (g := w4.heap.size + 1) (v0 := .int .i64 0) (v1 := .bool true) (by omega) a2.size)
      generalize (w8.setCell ⟨w4.heap.size + 1, 0, none⟩ (.int .i64 0)).setCell ⟨w4.heap.size + 1, 1, none⟩ (.bool true) = w9 at *
      (with_reducible refine (zbb (0) (0) w9).mono ?_)
      rintro c1 w10 ⟨rfl, a3⟩
      replace p2 := p2.later a3
      replace p4 := p4.later a3
      replace p6 := p6.later a3
      replace p7 := p7.later a3
      replace a2 := bup a2 a3
      clear a3
      have y0 := zag p4
      go_wp2
      clear y0
      have q9 := (((p4.set_ 0 (.int .i64 (0))).set_ 1 (.int .i64 (0))).set_ 2 (.bool true)).set_ 3 (.bool true)
      have b5 := a2.trans (zav (W := w10) (g := w.heap.size + 1 + 1) (v0 := .int .i64 (0)) (v1 := .int .i64 (0)) (v2 := .bool true) (v3 := .bool true) (by omega) a2.size)
      obtain ⟨z0, z1, z2, z3, fz⟩ := zag (show Blk _ _ _ #[.int .i64 (0), .int .i64 (0), true, true] from q9)
      refine bodyPost_ret (v := .agg #[.int .i64 (0), .int .i64 (0), true, true]) (by simp [results, Tryz.results235, go_sem, z0, z1, z2, z3]) rfl (And.intro ?_ b5)
      rfl
     | false =>
      have e9 : ¬ ahi ≤ 0 := of_decide_eq_false t9
      by_cases hm : k - 1 ≤ ahi
      ·have hR : R = ⟨0, k - 1, true, true⟩ := by
        rw [HE.out, if_neg HK.out]
        simp [e8, e9, Int.min_eq_left hm]
       subst hR
       clear HE HK
       have b0 := zag p2
       obtain ⟨a9, a6, a8⟩ := zai p6
       obtain ⟨b4, b1, a4⟩ := zai p7
       go_wp2_with fail
       clear b0 a9 a6 a8 b4 b1 a4
       generalize (w4.alloc (Obj.cells #[.int .i64 (1 - k), true] 185)).alloc (Obj.cells #[.int .i64 (k - 1), true] 185) = w5 at *
       (with_reducible refine (HA.out 0 w5).mono ?_)
       rintro b6 w6 ⟨rfl, a0⟩
       replace p2 := p2.later a0
       replace p4 := p4.later a0
       replace p6 := p6.later a0
       replace p7 := p7.later a0
       replace a2 := bup a2 a0
       clear a0
       have b0 := zag p2
       obtain ⟨a9, a6, a8⟩ := zai p6
       obtain ⟨b4, b1, a4⟩ := zai p7
       go_wp2_with fail
       clear b0 a9 a6 a8 b4 b1 a4
       replace p2 := p2.far2 (g := w4.heap.size) (v0 := .int .i64 0) (v1 := .bool true) (by omega)
       replace p4 := p4.far2 (g := w4.heap.size) (v0 := .int .i64 0) (v1 := .bool true) (by omega)
       replace p7 := p7.far2 (g := w4.heap.size) (v0 := .int .i64 0) (v1 := .bool true) (by omega)
       replace p6 := p6.set2 (v0 := .int .i64 0) (v1 := .bool true)
       replace a2 := a2.trans (zba (W := w6) (g := w4.heap.size) (v0 := .int .i64 0) (v1 := .bool true) (by omega) a2.size)
       generalize (w6.setCell ⟨w4.heap.size, 0, none⟩ (.int .i64 0)).setCell ⟨w4.heap.size, 1, none⟩ (.bool true) = w7 at *
       (with_reducible refine (HA.out (k - 1) w7).mono ?_)
       rintro c0 w8 ⟨rfl, a1⟩
       replace p2 := p2.later a1
       replace p4 := p4.later a1
       replace p6 := p6.later a1
       replace p7 := p7.later a1
       replace a2 := bup a2 a1
       clear a1
       have b0 := zag p2
       obtain ⟨a9, a6, a8⟩ := zai p6
       obtain ⟨b4, b1, a4⟩ := zai p7
       go_wp2_with fail
       clear b0 a9 a6 a8 b4 b1 a4
       replace p2 := p2.far2 (g := w4.heap.size + 1) (v0 := .int .i64 (k - 1)) (v1 := .bool true) (by omega)
       replace p4 := p4.far2 (g := w4.heap.size + 1) (v0 := .int .i64 (k - 1)) (v1 := .bool true) (by omega)
       replace p6 := p6.far2 (g := w4.heap.size + 1) (v0 := .int .i64 (k - 1)) (v1 := .bool true) (by omega)
       replace p7 := p7.set2 (v0 := .int .i64 (k - 1)) (v1 := .bool true)
       replace a2 := a2.trans (zba (W := w8) (g := w4.heap.size + 1) (v0 := .int .i64 (k - 1)) (v1 := .bool true) (by omega) a2.size)
       generalize (w8.setCell ⟨w4.heap.size + 1, 0, none⟩ (.int .i64 (k - 1))).setCell ⟨w4.heap.size + 1, 1, none⟩ (.bool true) = w9 at *
       (with_reducible refine (zbb (0) (k - 1) w9).mono ?_)
       rintro c1 w10 ⟨rfl, a3⟩
       replace p2 := p2.later a3
       replace p4 := p4.later a3
       replace p6 := p6.later a3
       replace p7 := p7.later a3
       replace a2 := bup a2 a3
       clear a3
       have y0 := zag p4
       go_wp2
       clear y0
       have q9 := (((p4.set_ 0 (.int .i64 (0))).set_ 1 (.int .i64 (k - 1))).set_ 2 (.bool true)).set_ 3 (.bool true)
       have b5 := a2.trans (zav (W := w10) (g := w.heap.size + 1 + 1) (v0 := .int .i64 (0)) (v1 := .int .i64 (k - 1)) (v2 := .bool true) (v3 := .bool true) (by omega) a2.size)
       obtain ⟨z0, z1, z2, z3, fz⟩ := zag (show Blk _ _ _ #[.int .i64 (0), .int .i64 (k - 1), true, true] from q9)
       refine bodyPost_ret (v := .agg #[.int .i64 (0), .int .i64 (k - 1), true, true]) (by simp [results, Tryz.results235, go_sem, z0, z1, z2, z3]) rfl (And.intro ?_ b5)
       rfl
      ·have hR : R = ⟨0, ahi, true, true⟩ := by
        rw [HE.out, if_neg HK.out]
        simp [e8, e9, Int.min_eq_right (Int.le_of_lt (Int.not_le.1 hm))]
       subst hR
       clear HE HK
       have b0 := zag p2
       obtain ⟨a9, a6, a8⟩ := zai p6
       obtain ⟨b4, b1, a4⟩ := zai p7
       go_wp2_with fail
       clear b0 a9 a6 a8 b4 b1 a4
       generalize (w4.alloc (Obj.cells #[.int .i64 (1 - k), true] 185)).alloc (Obj.cells #[.int .i64 (k - 1), true] 185) = w5 at *
       (with_reducible refine (HA.out 0 w5).mono ?_)
       rintro b6 w6 ⟨rfl, a0⟩
       replace p2 := p2.later a0
       replace p4 := p4.later a0
       replace p6 := p6.later a0
       replace p7 := p7.later a0
       replace a2 := bup a2 a0
       clear a0
       have b0 := zag p2
       obtain ⟨a9, a6, a8⟩ := zai p6
       obtain ⟨b4, b1, a4⟩ := zai p7
       go_wp2_with fail
       clear b0 a9 a6 a8 b4 b1 a4
       replace p2 := p2.far2 (g := w4.heap.size) (v0 := .int .i64 0) (v1 := .bool true) (by omega)
       replace p4 := p4.far2 (g := w4.heap.size) (v0 := .int .i64 0) (v1 := .bool true) (by omega)
       replace p7 := p7.far2 (g := w4.heap.size) (v0 := .int .i64 0) (v1 := .bool true) (by omega)
       replace p6 := p6.set2 (v0 := .int .i64 0) (v1 := .bool true)
       replace a2 := a2.trans (zba (W := w6) (g := w4.heap.size) (v0 := .int .i64 0) (v1 := .bool true) (by omega) a2.size)
       generalize (w6.setCell ⟨w4.heap.size, 0, none⟩ (.int .i64 0)).setCell ⟨w4.heap.size, 1, none⟩ (.bool true) = w7 at *
       (with_reducible refine (HA.out (ahi) w7).mono ?_)
       rintro c0 w8 ⟨rfl, a1⟩
       replace p2 := p2.later a1
       replace p4 := p4.later a1
       replace p6 := p6.later a1
       replace p7 := p7.later a1
       replace a2 := bup a2 a1
       clear a1
       have b0 := zag p2
       obtain ⟨a9, a6, a8⟩ := zai p6
       obtain ⟨b4, b1, a4⟩ := zai p7
       go_wp2_with fail
       clear b0 a9 a6 a8 b4 b1 a4
       replace p2 := p2.far2 (g := w4.heap.size + 1) (v0 := .int .i64 (ahi)) (v1 := .bool true) (by omega)
       replace p4 := p4.far2 (g := w4.heap.size + 1) (v0 := .int .i64 (ahi)) (v1 := .bool true) (by omega)
       replace p6 := p6.far2 (g := w4.heap.size + 1) (v0 := .int .i64 (ahi)) (v1 := .bool true) (by omega)
       replace p7 := p7.set2 (v0 := .int .i64 (ahi)) (v1 := .bool true)
       replace a2 := a2.trans (zba (W := w8) (g := w4.heap.size + 1) (v0 := .int .i64 (ahi)) (v1 := .bool true) (by omega) a2.size)
       generalize (w8.setCell ⟨w4.heap.size + 1, 0, none⟩ (.int .i64 (ahi))).setCell ⟨w4.heap.size + 1, 1, none⟩ (.bool true) = w9 at *
       (with_reducible refine (zbb (0) (ahi) w9).mono ?_)
       rintro c1 w10 ⟨rfl, a3⟩
       replace p2 := p2.later a3
       replace p4 := p4.later a3
       replace p6 := p6.later a3
       replace p7 := p7.later a3
       replace a2 := bup a2 a3
       clear a3
       have y0 := zag p4
       go_wp2
       clear y0
       have q9 := (((p4.set_ 0 (.int .i64 (0))).set_ 1 (.int .i64 (ahi))).set_ 2 (.bool true)).set_ 3 (.bool true)
       have b5 := a2.trans (zav (W := w10) (g := w.heap.size + 1 + 1) (v0 := .int .i64 (0)) (v1 := .int .i64 (ahi)) (v2 := .bool true) (v3 := .bool true) (by omega) a2.size)
       obtain ⟨z0, z1, z2, z3, fz⟩ := zag (show Blk _ _ _ #[.int .i64 (0), .int .i64 (ahi), true, true] from q9)
       refine bodyPost_ret (v := .agg #[.int .i64 (0), .int .i64 (ahi), true, true]) (by simp [results, Tryz.results235, go_sem, z0, z1, z2, z3]) rfl (And.intro ?_ b5)
       rfl
end Go.Proofs.YtnmpgijiimglcaaGreat
