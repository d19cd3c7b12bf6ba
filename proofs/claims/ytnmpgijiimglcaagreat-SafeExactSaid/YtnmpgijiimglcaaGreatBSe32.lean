import Derived.Test.YtnmpgijiimglcaaGreatBSe26
namespace Go.Proofs.YtnmpgijiimglcaaGreat
open Go.RowKit
set_option maxRecDepth 100000
set_option maxHeartbeats 8000000
attribute [local go_sem ↓] Go.wp_at_zero Go.wp_at_succ
theorem kdf {kd k : Int} (h : kd = k) (c : Int) : (kd == c) = (k == c) := by rw [h]
theorem zen (kd : Int) (hk : kd = 1 ∨ kd = 11 ∨ kd = 13) (n : Int) (m : List Int) (fr te dst arr op av an bv bn : Int) (_ia : I64 an) (_ib : I64 bn) (A : Option Addr) (cap : Nat) (w : World) (B : Nat) (hB : B ≤ w.heap.size) (hx : Sx w B A m) :
  Calls Tryz.prog 68 #[.agg #[n, false, .slice A m.length cap], .agg #[fr, te, kd, dst, arr, op, av, an, bv, bn]] w (zar w B ⟨n, false, m⟩) := by
 have b2 := hx
 rcases hk with h | h | h
 all_goals
  have k1 := kdf h 1
  have k2 := kdf h 2
  have k3 := kdf h 3
  have k4 := kdf h 4
  have k5 := kdf h 5
  have k6 := kdf h 6
  have k7 := kdf h 7
  have k8 := kdf h 8
  have k9 := kdf h 9
  have k10 := kdf h 10
  have k11 := kdf h 11
  have k12 := kdf h 12
  have k13 := kdf h 13
  have k14 := kdf h 14
  clear h
  cases ta : decide (av < 0) <;> cases tb : decide (bv < 0)
  all_goals
   obtain ⟨p0, p1, p2, a1, a7⟩ := zaj w #[n, false, .slice A m.length cap] #[fr, te, kd, dst, arr, op, av, an, bv, bn] #[.int .i64 0, false, .slice none 0 0] 24 44 24
   replace hx := hx.later a1 hB
   clear a7
   have x0 := zaa p0
   have y0 := zae p1
   have v0 := zaa p2
   go_enter Tryz.func68, Tryz.ntmps68
   go_wp2
   clear x0 y0 v0
   have b4 : ∀ W, Below w.heap.size w W → zar w B ⟨n, false, m⟩ (.returned (.agg #[n, false, .slice A m.length cap])) W := fun W hW => ⟨A, cap, rfl, b2.later hW hB, hW⟩
   refine bodyPost_ret (v := .agg #[n, false, .slice A m.length cap]) (by simp [results, Tryz.results68, go_sem]) rfl (b4 _ ?_)
   exact zbc
theorem zf1 (kd : Int) (hk : kd = 9 ∨ kd = 10) (n : Int) (m : List Int) (fr te dst arr op av an bv bn : Int) (_ia : I64 an) (_ib : I64 bn) (A : Option Addr) (cap : Nat) (w : World) (B : Nat) (hB : B ≤ w.heap.size) (hx : Sx w B A m) (R : O)
  (P : ∀ W, B ≤ W.heap.size → Sx W B A m → Calls Tryz.prog 132 #[.agg #[n, false, .slice A m.length cap], dst] W (zar W B R)) :
  Calls Tryz.prog 68 #[.agg #[n, false, .slice A m.length cap], .agg #[fr, te, kd, dst, arr, op, av, an, bv, bn]] w (zar w B R) := by
 have HP := hid P
 clear P
 have b2 := hx
 rcases hk with h | h
 all_goals
  have k1 := kdf h 1
  have k2 := kdf h 2
  have k3 := kdf h 3
  have k4 := kdf h 4
  have k5 := kdf h 5
  have k6 := kdf h 6
  have k7 := kdf h 7
  have k8 := kdf h 8
  have k9 := kdf h 9
  have k10 := kdf h 10
  have k11 := kdf h 11
  have k12 := kdf h 12
  have k13 := kdf h 13
  have k14 := kdf h 14
  clear h
  cases ta : decide (av < 0) <;> cases tb : decide (bv < 0)
  all_goals
   obtain ⟨p0, p1, p2, a1, a7⟩ := zaj w #[n, false, .slice A m.length cap] #[fr, te, kd, dst, arr, op, av, an, bv, bn] #[.int .i64 0, false, .slice none 0 0] 24 44 24
   replace hx := hx.later a1 hB
   clear a7
   have x0 := zaa p0
   have y0 := zae p1
   go_enter Tryz.func68, Tryz.ntmps68
   go_wp2_with fail
   clear x0 y0
   generalize ((w.alloc (Obj.cells #[n, false, .slice A m.length cap] 24)).alloc (Obj.cells #[fr, te, kd, dst, arr, op, av, an, bv, bn] 44)).alloc (Obj.cells #[.int .i64 0, false, .slice none 0 0] 24) = w1 at *
   have hB1 := Nat.le_trans hB a1.size
   (with_reducible refine (HP.out w1 hB1 hx).mono ?_)
   rintro b0 w2 ⟨A2, c2, rfl, a8, a0⟩
   replace p0 := p0.later a0
   replace p1 := p1.later a0
   replace p2 := p2.later a0
   replace hx := hx.later a0 (Nat.le_trans hB a1.size)
   replace a1 := bup a1 a0
   have a5 := zaa p2
   go_wp2
   clear a5
   have hBz := a1.size
   have s9 := a8.far3 (g := w.heap.size + 1 + 1) (v0 := .int .i64 R.n) (v1 := .bool R.e) (v2 := .slice A2 R.m.length c2) (by omega) p2 (by decide)
   have q9 := p2.set3 (v0 := .int .i64 R.n) (v1 := .bool R.e) (v2 := .slice A2 R.m.length c2)
   have a9 := a1.trans (zah (W := w2) (g := w.heap.size + 1 + 1) (v0 := .int .i64 R.n) (v1 := .bool R.e) (v2 := .slice A2 R.m.length c2) (by omega) a1.size)
   obtain ⟨z0, z1, z2, fz⟩ := zaa q9
   refine bodyPost_ret (v := .agg #[R.n, R.e, .slice A2 R.m.length c2]) (by simp [results, Tryz.results68, go_sem, z0, z1, z2]) rfl ?_
   exact ⟨_, _, rfl, s9, a9⟩
theorem zcF (kd : Int) (hk : kd = 4 ∨ kd = 5 ∨ kd = 6 ∨ kd = 7 ∨ kd = 8) (n : Int) (m : List Int) (fr te dst arr op av an bv bn : Int) (_ia : I64 an) (_ib : I64 bn) (h0 : av < 0) (h1 : bv < 0) (A : Option Addr) (cap : Nat) (w : World) (B : Nat) (hB : B ≤ w.heap.size) (hx : Sx w B A m) (R : O)
  (P : ∀ W, B ≤ W.heap.size → Sx W B A m → Calls Tryz.prog 136 #[.agg #[n, false, .slice A m.length cap], .agg #[fr, te, kd, dst, arr, op, av, an, bv, bn]] W (zar W B R)) :
  Calls Tryz.prog 68 #[.agg #[n, false, .slice A m.length cap], .agg #[fr, te, kd, dst, arr, op, av, an, bv, bn]] w (zar w B R) := by
 have t_1 : decide (av < 0) = true := by rw [decide_eq_true_eq]; omega
 have t_2 : decide (bv < 0) = true := by rw [decide_eq_true_eq]; omega
 have HP := hid P
 clear P
 have b2 := hx
 rcases hk with h | h | h | h | h
 all_goals
  have k1 := kdf h 1
  have k2 := kdf h 2
  have k3 := kdf h 3
  have k4 := kdf h 4
  have k5 := kdf h 5
  have k6 := kdf h 6
  have k7 := kdf h 7
  have k8 := kdf h 8
  have k9 := kdf h 9
  have k10 := kdf h 10
  have k11 := kdf h 11
  have k12 := kdf h 12
  have k13 := kdf h 13
  have k14 := kdf h 14
  clear h
  obtain ⟨p0, p1, p2, a1, a7⟩ := zaj w #[n, false, .slice A m.length cap] #[fr, te, kd, dst, arr, op, av, an, bv, bn] #[.int .i64 0, false, .slice none 0 0] 24 44 24
  replace hx := hx.later a1 hB
  clear a7
  have x0 := zaa p0
  have y0 := zae p1
  go_enter Tryz.func68, Tryz.ntmps68
  go_wp2_with fail
  clear x0 y0
  generalize ((w.alloc (Obj.cells #[n, false, .slice A m.length cap] 24)).alloc (Obj.cells #[fr, te, kd, dst, arr, op, av, an, bv, bn] 44)).alloc (Obj.cells #[.int .i64 0, false, .slice none 0 0] 24) = w1 at *
  have hB1 := Nat.le_trans hB a1.size
  (with_reducible refine (HP.out w1 hB1 hx).mono ?_)
  rintro b0 w2 ⟨A2, c2, rfl, a8, a0⟩
  replace p0 := p0.later a0
  replace p1 := p1.later a0
  replace p2 := p2.later a0
  replace hx := hx.later a0 (Nat.le_trans hB a1.size)
  replace a1 := bup a1 a0
  have a5 := zaa p2
  go_wp2
  clear a5
  have hBz := a1.size
  have s9 := a8.far3 (g := w.heap.size + 1 + 1) (v0 := .int .i64 R.n) (v1 := .bool R.e) (v2 := .slice A2 R.m.length c2) (by omega) p2 (by decide)
  have q9 := p2.set3 (v0 := .int .i64 R.n) (v1 := .bool R.e) (v2 := .slice A2 R.m.length c2)
  have a9 := a1.trans (zah (W := w2) (g := w.heap.size + 1 + 1) (v0 := .int .i64 R.n) (v1 := .bool R.e) (v2 := .slice A2 R.m.length c2) (by omega) a1.size)
  obtain ⟨z0, z1, z2, fz⟩ := zaa q9
  refine bodyPost_ret (v := .agg #[R.n, R.e, .slice A2 R.m.length c2]) (by simp [results, Tryz.results68, go_sem, z0, z1, z2]) rfl ?_
  exact ⟨_, _, rfl, s9, a9⟩
theorem zeJ (kd : Int) (hk : kd = 6 ∨ kd = 7 ∨ kd = 8) (n : Int) (m : List Int) (fr te dst arr op av an bv bn : Int) (_ia : I64 an) (_ib : I64 bn) (h0 : 0 ≤ av) (A : Option Addr) (cap : Nat) (w : World) (B : Nat) (hB : B ≤ w.heap.size) (hx : Sx w B A m) (R : O)
  (P : ∀ W, B ≤ W.heap.size → Sx W B A m → Calls Tryz.prog 140 #[.agg #[n, false, .slice A m.length cap], .agg #[fr, te, kd, dst, arr, op, av, an, bv, bn]] W (zar W B R)) :
  Calls Tryz.prog 68 #[.agg #[n, false, .slice A m.length cap], .agg #[fr, te, kd, dst, arr, op, av, an, bv, bn]] w (zar w B R) := by
 have t_3 : decide (av < 0) = false := by rw [decide_eq_false_iff_not]; omega
 have HP := hid P
 clear P
 have b2 := hx
 rcases hk with h | h | h
 all_goals
  have k1 := kdf h 1
  have k2 := kdf h 2
  have k3 := kdf h 3
  have k4 := kdf h 4
  have k5 := kdf h 5
  have k6 := kdf h 6
  have k7 := kdf h 7
  have k8 := kdf h 8
  have k9 := kdf h 9
  have k10 := kdf h 10
  have k11 := kdf h 11
  have k12 := kdf h 12
  have k13 := kdf h 13
  have k14 := kdf h 14
  clear h
  cases tb : decide (bv < 0)
  all_goals
   obtain ⟨p0, p1, p2, a1, a7⟩ := zaj w #[n, false, .slice A m.length cap] #[fr, te, kd, dst, arr, op, av, an, bv, bn] #[.int .i64 0, false, .slice none 0 0] 24 44 24
   replace hx := hx.later a1 hB
   clear a7
   have x0 := zaa p0
   have y0 := zae p1
   go_enter Tryz.func68, Tryz.ntmps68
   go_wp2_with fail
   clear x0 y0
   generalize ((w.alloc (Obj.cells #[n, false, .slice A m.length cap] 24)).alloc (Obj.cells #[fr, te, kd, dst, arr, op, av, an, bv, bn] 44)).alloc (Obj.cells #[.int .i64 0, false, .slice none 0 0] 24) = w1 at *
   have hB1 := Nat.le_trans hB a1.size
   (with_reducible refine (HP.out w1 hB1 hx).mono ?_)
   rintro b0 w2 ⟨A2, c2, rfl, a8, a0⟩
   replace p0 := p0.later a0
   replace p1 := p1.later a0
   replace p2 := p2.later a0
   replace hx := hx.later a0 (Nat.le_trans hB a1.size)
   replace a1 := bup a1 a0
   have a5 := zaa p2
   go_wp2
   clear a5
   have hBz := a1.size
   have s9 := a8.far3 (g := w.heap.size + 1 + 1) (v0 := .int .i64 R.n) (v1 := .bool R.e) (v2 := .slice A2 R.m.length c2) (by omega) p2 (by decide)
   have q9 := p2.set3 (v0 := .int .i64 R.n) (v1 := .bool R.e) (v2 := .slice A2 R.m.length c2)
   have a9 := a1.trans (zah (W := w2) (g := w.heap.size + 1 + 1) (v0 := .int .i64 R.n) (v1 := .bool R.e) (v2 := .slice A2 R.m.length c2) (by omega) a1.size)
   obtain ⟨z0, z1, z2, fz⟩ := zaa q9
   refine bodyPost_ret (v := .agg #[R.n, R.e, .slice A2 R.m.length c2]) (by simp [results, Tryz.results68, go_sem, z0, z1, z2]) rfl ?_
   exact ⟨_, _, rfl, s9, a9⟩
theorem zew (kd : Int) (hk : kd = 6 ∨ kd = 7 ∨ kd = 8) (n : Int) (m : List Int) (fr te dst arr op av an bv bn : Int) (_ia : I64 an) (_ib : I64 bn) (h0 : av < 0) (h1 : 0 ≤ bv) (A : Option Addr) (cap : Nat) (w : World) (B : Nat) (hB : B ≤ w.heap.size) (hx : Sx w B A m) (R : O)
  (P : ∀ W, B ≤ W.heap.size → Sx W B A m → Calls Tryz.prog 140 #[.agg #[n, false, .slice A m.length cap], .agg #[fr, te, kd, dst, arr, op, av, an, bv, bn]] W (zar W B R)) :
  Calls Tryz.prog 68 #[.agg #[n, false, .slice A m.length cap], .agg #[fr, te, kd, dst, arr, op, av, an, bv, bn]] w (zar w B R) := by
 have t_4 : decide (av < 0) = true := by rw [decide_eq_true_eq]; omega
 have t_5 : decide (bv < 0) = false := by rw [decide_eq_false_iff_not]; omega
 have HP := hid P
 clear P
 have b2 := hx
 rcases hk with h | h | h
 all_goals
  have k1 := kdf h 1
  have k2 := kdf h 2
  have k3 := kdf h 3
  have k4 := kdf h 4
  have k5 := kdf h 5
  have k6 := kdf h 6
  have k7 := kdf h 7
  have k8 := kdf h 8
  have k9 := kdf h 9
  have k10 := kdf h 10
  have k11 := kdf h 11
  have k12 := kdf h 12
  have k13 := kdf h 13
  have k14 := kdf h 14
  clear h
  obtain ⟨p0, p1, p2, a1, a7⟩ := zaj w #[n, false, .slice A m.length cap] #[fr, te, kd, dst, arr, op, av, an, bv, bn] #[.int .i64 0, false, .slice none 0 0] 24 44 24
  replace hx := hx.later a1 hB
  clear a7
  have x0 := zaa p0
  have y0 := zae p1
  go_enter Tryz.func68, Tryz.ntmps68
  go_wp2_with fail
  clear x0 y0
  generalize ((w.alloc (Obj.cells #[n, false, .slice A m.length cap] 24)).alloc (Obj.cells #[fr, te, kd, dst, arr, op, av, an, bv, bn] 44)).alloc (Obj.cells #[.int .i64 0, false, .slice none 0 0] 24) = w1 at *
  have hB1 := Nat.le_trans hB a1.size
  (with_reducible refine (HP.out w1 hB1 hx).mono ?_)
  rintro b0 w2 ⟨A2, c2, rfl, a8, a0⟩
  replace p0 := p0.later a0
  replace p1 := p1.later a0
  replace p2 := p2.later a0
  replace hx := hx.later a0 (Nat.le_trans hB a1.size)
  replace a1 := bup a1 a0
  have a5 := zaa p2
  go_wp2
  clear a5
  have hBz := a1.size
  have s9 := a8.far3 (g := w.heap.size + 1 + 1) (v0 := .int .i64 R.n) (v1 := .bool R.e) (v2 := .slice A2 R.m.length c2) (by omega) p2 (by decide)
  have q9 := p2.set3 (v0 := .int .i64 R.n) (v1 := .bool R.e) (v2 := .slice A2 R.m.length c2)
  have a9 := a1.trans (zah (W := w2) (g := w.heap.size + 1 + 1) (v0 := .int .i64 R.n) (v1 := .bool R.e) (v2 := .slice A2 R.m.length c2) (by omega) a1.size)
  obtain ⟨z0, z1, z2, fz⟩ := zaa q9
  refine bodyPost_ret (v := .agg #[R.n, R.e, .slice A2 R.m.length c2]) (by simp [results, Tryz.results68, go_sem, z0, z1, z2]) rfl ?_
  exact ⟨_, _, rfl, s9, a9⟩
theorem zdo (kd : Int) (hk : kd = 4 ∨ kd = 5) (n : Int) (m : List Int) (fr te dst arr op av an bv bn : Int) (_ia : I64 an) (_ib : I64 bn) (h0 : 0 ≤ av) (A : Option Addr) (cap : Nat) (w : World) (B : Nat) (hB : B ≤ w.heap.size) (hx : Sx w B A m) (R : O)
  (P : ∀ W, B ≤ W.heap.size → Sx W B A m → Calls Tryz.prog 139 #[.agg #[n, false, .slice A m.length cap], .agg #[fr, te, kd, dst, arr, op, av, an, bv, bn]] W (zar W B R)) :
  Calls Tryz.prog 68 #[.agg #[n, false, .slice A m.length cap], .agg #[fr, te, kd, dst, arr, op, av, an, bv, bn]] w (zar w B R) := by
 have t_3 : decide (av < 0) = false := by rw [decide_eq_false_iff_not]; omega
 have HP := hid P
 clear P
 have b2 := hx
 rcases hk with h | h
 all_goals
  have k1 := kdf h 1
  have k2 := kdf h 2
  have k3 := kdf h 3
  have k4 := kdf h 4
  have k5 := kdf h 5
  have k6 := kdf h 6
  have k7 := kdf h 7
  have k8 := kdf h 8
  have k9 := kdf h 9
  have k10 := kdf h 10
  have k11 := kdf h 11
  have k12 := kdf h 12
  have k13 := kdf h 13
  have k14 := kdf h 14
  clear h
  cases tb : decide (bv < 0)
  all_goals
   obtain ⟨p0, p1, p2, a1, a7⟩ := zaj w #[n, false, .slice A m.length cap] #[fr, te, kd, dst, arr, op, av, an, bv, bn] #[.int .i64 0, false, .slice none 0 0] 24 44 24
   replace hx := hx.later a1 hB
   clear a7
   have x0 := zaa p0
   have y0 := zae p1
   go_enter Tryz.func68, Tryz.ntmps68
   go_wp2_with fail
   clear x0 y0
   generalize ((w.alloc (Obj.cells #[n, false, .slice A m.length cap] 24)).alloc (Obj.cells #[fr, te, kd, dst, arr, op, av, an, bv, bn] 44)).alloc (Obj.cells #[.int .i64 0, false, .slice none 0 0] 24) = w1 at *
   have hB1 := Nat.le_trans hB a1.size
   (with_reducible refine (HP.out w1 hB1 hx).mono ?_)
   rintro b0 w2 ⟨A2, c2, rfl, a8, a0⟩
   replace p0 := p0.later a0
   replace p1 := p1.later a0
   replace p2 := p2.later a0
   replace hx := hx.later a0 (Nat.le_trans hB a1.size)
   replace a1 := bup a1 a0
   have a5 := zaa p2
   go_wp2
   clear a5
   have hBz := a1.size
   have s9 := a8.far3 (g := w.heap.size + 1 + 1) (v0 := .int .i64 R.n) (v1 := .bool R.e) (v2 := .slice A2 R.m.length c2) (by omega) p2 (by decide)
   have q9 := p2.set3 (v0 := .int .i64 R.n) (v1 := .bool R.e) (v2 := .slice A2 R.m.length c2)
   have a9 := a1.trans (zah (W := w2) (g := w.heap.size + 1 + 1) (v0 := .int .i64 R.n) (v1 := .bool R.e) (v2 := .slice A2 R.m.length c2) (by omega) a1.size)
   obtain ⟨z0, z1, z2, fz⟩ := zaa q9
   refine bodyPost_ret (v := .agg #[R.n, R.e, .slice A2 R.m.length c2]) (by simp [results, Tryz.results68, go_sem, z0, z1, z2]) rfl ?_
   exact ⟨_, _, rfl, s9, a9⟩
theorem zfR (kd : Int) (hk : kd = 4 ∨ kd = 5) (n : Int) (m : List Int) (fr te dst arr op av an bv bn : Int) (_ia : I64 an) (_ib : I64 bn) (h0 : av < 0) (h1 : 0 ≤ bv) (A : Option Addr) (cap : Nat) (w : World) (B : Nat) (hB : B ≤ w.heap.size) (hx : Sx w B A m) (R : O)
  (P : ∀ W, B ≤ W.heap.size → Sx W B A m → Calls Tryz.prog 139 #[.agg #[n, false, .slice A m.length cap], .agg #[fr, te, kd, dst, arr, op, av, an, bv, bn]] W (zar W B R)) :
  Calls Tryz.prog 68 #[.agg #[n, false, .slice A m.length cap], .agg #[fr, te, kd, dst, arr, op, av, an, bv, bn]] w (zar w B R) := by
 have t_4 : decide (av < 0) = true := by rw [decide_eq_true_eq]; omega
 have t_5 : decide (bv < 0) = false := by rw [decide_eq_false_iff_not]; omega
 have HP := hid P
 clear P
 have b2 := hx
 rcases hk with h | h
 all_goals
  have k1 := kdf h 1
  have k2 := kdf h 2
  have k3 := kdf h 3
  have k4 := kdf h 4
  have k5 := kdf h 5
  have k6 := kdf h 6
  have k7 := kdf h 7
  have k8 := kdf h 8
  have k9 := kdf h 9
  have k10 := kdf h 10
  have k11 := kdf h 11
  have k12 := kdf h 12
  have k13 := kdf h 13
  have k14 := kdf h 14
  clear h
  obtain ⟨p0, p1, p2, a1, a7⟩ := zaj w #[n, false, .slice A m.length cap] #[fr, te, kd, dst, arr, op, av, an, bv, bn] #[.int .i64 0, false, .slice none 0 0] 24 44 24
  replace hx := hx.later a1 hB
  clear a7
  have x0 := zaa p0
  have y0 := zae p1
  go_enter Tryz.func68, Tryz.ntmps68
  go_wp2_with fail
  clear x0 y0
  generalize ((w.alloc (Obj.cells #[n, false, .slice A m.length cap] 24)).alloc (Obj.cells #[fr, te, kd, dst, arr, op, av, an, bv, bn] 44)).alloc (Obj.cells #[.int .i64 0, false, .slice none 0 0] 24) = w1 at *
  have hB1 := Nat.le_trans hB a1.size
  (with_reducible refine (HP.out w1 hB1 hx).mono ?_)
  rintro b0 w2 ⟨A2, c2, rfl, a8, a0⟩
  replace p0 := p0.later a0
  replace p1 := p1.later a0
  replace p2 := p2.later a0
  replace hx := hx.later a0 (Nat.le_trans hB a1.size)
  replace a1 := bup a1 a0
  have a5 := zaa p2
  go_wp2
  clear a5
  have hBz := a1.size
  have s9 := a8.far3 (g := w.heap.size + 1 + 1) (v0 := .int .i64 R.n) (v1 := .bool R.e) (v2 := .slice A2 R.m.length c2) (by omega) p2 (by decide)
  have q9 := p2.set3 (v0 := .int .i64 R.n) (v1 := .bool R.e) (v2 := .slice A2 R.m.length c2)
  have a9 := a1.trans (zah (W := w2) (g := w.heap.size + 1 + 1) (v0 := .int .i64 R.n) (v1 := .bool R.e) (v2 := .slice A2 R.m.length c2) (by omega) a1.size)
  obtain ⟨z0, z1, z2, fz⟩ := zaa q9
  refine bodyPost_ret (v := .agg #[R.n, R.e, .slice A2 R.m.length c2]) (by simp [results, Tryz.results68, go_sem, z0, z1, z2]) rfl ?_
  exact ⟨_, _, rfl, s9, a9⟩
theorem zjL (n : Int) (m : List Int) (fr te dst arr op av an bv bn : Int) (_ia : I64 an) (_ib : I64 bn) (A : Option Addr) (cap : Nat) (w : World) (B : Nat) (hB : B ≤ w.heap.size) (hx : Sx w B A m) (R : O)
  (P : ∀ W, B ≤ W.heap.size → Sx W B A m → Calls Tryz.prog 122 #[n] W (zar W B R)) :
  Calls Tryz.prog 68 #[.agg #[n, false, .slice A m.length cap], .agg #[fr, te, .int .i64 14, dst, arr, op, av, an, bv, bn]] w (zar w B R) := by
 have HP := hid P
 clear P
 have b2 := hx
 cases ta : decide (av < 0) <;> cases tb : decide (bv < 0)
 all_goals
  obtain ⟨p0, p1, p2, a1, a7⟩ := zaj w #[n, false, .slice A m.length cap] #[fr, te, .int .i64 14, dst, arr, op, av, an, bv, bn] #[.int .i64 0, false, .slice none 0 0] 24 44 24
  replace hx := hx.later a1 hB
  clear a7
  have x0 := zaa p0
  have y0 := zae p1
  go_enter Tryz.func68, Tryz.ntmps68
  go_wp2_with fail
  clear x0 y0
  generalize ((w.alloc (Obj.cells #[n, false, .slice A m.length cap] 24)).alloc (Obj.cells #[fr, te, .int .i64 14, dst, arr, op, av, an, bv, bn] 44)).alloc (Obj.cells #[.int .i64 0, false, .slice none 0 0] 24) = w1 at *
  have hB1 := Nat.le_trans hB a1.size
  (with_reducible refine (HP.out w1 hB1 hx).mono ?_)
  rintro b0 w2 ⟨A2, c2, rfl, a8, a0⟩
  replace p0 := p0.later a0
  replace p1 := p1.later a0
  replace p2 := p2.later a0
  replace hx := hx.later a0 (Nat.le_trans hB a1.size)
  replace a1 := bup a1 a0
  have a5 := zaa p2
  go_wp2
  clear a5
  have hBz := a1.size
  have s9 := a8.far3 (g := w.heap.size + 1 + 1) (v0 := .int .i64 R.n) (v1 := .bool R.e) (v2 := .slice A2 R.m.length c2) (by omega) p2 (by decide)
  have q9 := p2.set3 (v0 := .int .i64 R.n) (v1 := .bool R.e) (v2 := .slice A2 R.m.length c2)
  have a9 := a1.trans (zah (W := w2) (g := w.heap.size + 1 + 1) (v0 := .int .i64 R.n) (v1 := .bool R.e) (v2 := .slice A2 R.m.length c2) (by omega) a1.size)
  obtain ⟨z0, z1, z2, fz⟩ := zaa q9
  refine bodyPost_ret (v := .agg #[R.n, R.e, .slice A2 R.m.length c2]) (by simp [results, Tryz.results68, go_sem, z0, z1, z2]) rfl ?_
  exact ⟨_, _, rfl, s9, a9⟩
theorem ziR (n : Int) (m : List Int) (fr te dst arr op av an bv bn : Int) (_ia : I64 an) (_ib : I64 bn) (A : Option Addr) (cap : Nat) (w : World) (B : Nat) (hB : B ≤ w.heap.size) (hx : Sx w B A m) (R : O)
  (P : ∀ W, B ≤ W.heap.size → Sx W B A m → Calls Tryz.prog 59 #[.agg #[n, false, .slice A m.length cap], op, .agg #[av, an], .agg #[bv, bn]] W (zar W B R)) :
  Calls Tryz.prog 68 #[.agg #[n, false, .slice A m.length cap], .agg #[fr, te, .int .i64 12, dst, arr, op, av, an, bv, bn]] w (zar w B R) := by
 have HP := hid P
 clear P
 have b2 := hx
 cases ta : decide (av < 0) <;> cases tb : decide (bv < 0)
 all_goals
  obtain ⟨p0, p1, p2, a1, a7⟩ := zaj w #[n, false, .slice A m.length cap] #[fr, te, .int .i64 12, dst, arr, op, av, an, bv, bn] #[.int .i64 0, false, .slice none 0 0] 24 44 24
  replace hx := hx.later a1 hB
  clear a7
  have x0 := zaa p0
  have y0 := zae p1
  go_enter Tryz.func68, Tryz.ntmps68
  go_wp2_with fail
  clear x0 y0
  generalize ((w.alloc (Obj.cells #[n, false, .slice A m.length cap] 24)).alloc (Obj.cells #[fr, te, .int .i64 12, dst, arr, op, av, an, bv, bn] 44)).alloc (Obj.cells #[.int .i64 0, false, .slice none 0 0] 24) = w1 at *
  have hB1 := Nat.le_trans hB a1.size
  (with_reducible refine (HP.out w1 hB1 hx).mono ?_)
  rintro b0 w2 ⟨A2, c2, rfl, a8, a0⟩
  replace p0 := p0.later a0
  replace p1 := p1.later a0
  replace p2 := p2.later a0
  replace hx := hx.later a0 (Nat.le_trans hB a1.size)
  replace a1 := bup a1 a0
  have a5 := zaa p2
  go_wp2
  clear a5
  have hBz := a1.size
  have s9 := a8.far3 (g := w.heap.size + 1 + 1) (v0 := .int .i64 R.n) (v1 := .bool R.e) (v2 := .slice A2 R.m.length c2) (by omega) p2 (by decide)
  have q9 := p2.set3 (v0 := .int .i64 R.n) (v1 := .bool R.e) (v2 := .slice A2 R.m.length c2)
  have a9 := a1.trans (zah (W := w2) (g := w.heap.size + 1 + 1) (v0 := .int .i64 R.n) (v1 := .bool R.e) (v2 := .slice A2 R.m.length c2) (by omega) a1.size)
  obtain ⟨z0, z1, z2, fz⟩ := zaa q9
  refine bodyPost_ret (v := .agg #[R.n, R.e, .slice A2 R.m.length c2]) (by simp [results, Tryz.results68, go_sem, z0, z1, z2]) rfl ?_
  exact ⟨_, _, rfl, s9, a9⟩
theorem zjK (n : Int) (m : List Int) (fr te dst arr op an bv bn : Int) (_ia : I64 an) (_ib : I64 bn) (A : Option Addr) (cap : Nat) (w : World) (B : Nat) (hB : B ≤ w.heap.size) (hx : Sx w B A m) (R : O)
  (P : ∀ W, B ≤ W.heap.size → Sx W B A m → Calls Tryz.prog 75 #[.agg #[n, false, .slice A m.length cap], dst, (oneR an).val] W (zar W B R)) :
  Calls Tryz.prog 68 #[.agg #[n, false, .slice A m.length cap], .agg #[fr, te, .int .i64 2, dst, arr, op, .int .i64 (-1), an, bv, bn]] w (zar w B R) := by
 have HP := hid P
 clear P
 have b2 := hx
 cases tb : decide (bv < 0)
 all_goals
  obtain ⟨p0, p1, p2, a1, a7⟩ := zaj w #[n, false, .slice A m.length cap] #[fr, te, .int .i64 2, dst, arr, op, .int .i64 (-1), an, bv, bn] #[.int .i64 0, false, .slice none 0 0] 24 44 24
  replace hx := hx.later a1 hB
  clear a7
  have x0 := zaa p0
  have y0 := zae p1
  go_enter Tryz.func68, Tryz.ntmps68
  go_upto_region 13 with fail
  clear x0 y0
  generalize ((w.alloc (Obj.cells #[n, false, .slice A m.length cap] 24)).alloc (Obj.cells #[fr, te, .int .i64 2, dst, arr, op, .int .i64 (-1), an, bv, bn] 44)).alloc (Obj.cells #[.int .i64 0, false, .slice none 0 0] 24) = w1 at *
  have f0 := later (show w1.cell? ⟨w.heap.size, 0, none⟩ = some (.int .i64 n) from p0.cell 0)
  have f1 := later (show w1.cell? ⟨w.heap.size, 1, none⟩ = some (.bool false) from p0.cell 1)
  have f2 := later (show w1.cell? ⟨w.heap.size, 2, none⟩ = some (.slice A m.length cap) from p0.cell 2)
  have g3 := later (show w1.cell? ⟨w.heap.size + 1, 3, none⟩ = some (.int .i64 dst) from p1.cell 3)
  have g6 := later (show w1.cell? ⟨w.heap.size + 1, 6, none⟩ = some (.int .i64 (-1)) from p1.cell 6)
  have g7 := later (show w1.cell? ⟨w.heap.size + 1, 7, none⟩ = some (.int .i64 an) from p1.cell 7)
  refine zad 7 (fun X => Below w1.heap.size w1 X) (by kernel_rfl) (by kernel_rfl) (Below.refl _ _).drew ?_
  refine fl_a ?_
  (refine fl_c 133 #[an] ((oneR an).val) (fun X hX => (ziN an _).mono fun e' w' ⟨he, hb'⟩ => ⟨he, zaI hX hX.size hb'⟩) ?_)
  intro w2 b1
  clear f0 f1 f2 g3 g6 g7
  have hBf := Nat.le_trans hB a1.size
  replace p0 := p0.later b1
  replace p1 := p1.later b1
  replace p2 := p2.later b1
  replace hx := hx.later b1 (Nat.le_trans hB a1.size)
  replace a1 := bup a1 b1
  clear hBf
  go_wp2_with fail
  have hB1 := Nat.le_trans hB a1.size
  (with_reducible refine (HP.out w2 hB1 hx).mono ?_)
  rintro b3 w3 ⟨A2, c2, rfl, a8, a2⟩
  replace p0 := p0.later a2
  replace p1 := p1.later a2
  replace p2 := p2.later a2
  replace hx := hx.later a2 (Nat.le_trans hB a1.size)
  replace a1 := bup a1 a2
  have a5 := zaa p2
  go_wp2
  clear a5
  have hBz := a1.size
  have s9 := a8.far3 (g := w.heap.size + 1 + 1) (v0 := .int .i64 R.n) (v1 := .bool R.e) (v2 := .slice A2 R.m.length c2) (by omega) p2 (by decide)
  have q9 := p2.set3 (v0 := .int .i64 R.n) (v1 := .bool R.e) (v2 := .slice A2 R.m.length c2)
  have a9 := a1.trans (zah (W := w3) (g := w.heap.size + 1 + 1) (v0 := .int .i64 R.n) (v1 := .bool R.e) (v2 := .slice A2 R.m.length c2) (by omega) a1.size)
  obtain ⟨z0, z1, z2, fz⟩ := zaa q9
  refine bodyPost_ret (v := .agg #[R.n, R.e, .slice A2 R.m.length c2]) (by simp [results, Tryz.results68, go_sem, z0, z1, z2]) rfl ?_
  exact ⟨_, _, rfl, s9, a9⟩
theorem zj5 (n : Int) (m : List Int) (fr te arr op av an bv bn : Int) (_ia : I64 an) (_ib : I64 bn) (h0 : 0 ≤ av) (A : Option Addr) (cap : Nat) (w : World) (B : Nat) (hB : B ≤ w.heap.size) (hx : Sx w B A m) :
  Calls Tryz.prog 68 #[.agg #[n, false, .slice A m.length cap], .agg #[fr, te, .int .i64 2, av, arr, op, av, an, bv, bn]] w (zar w B ⟨n, false, m⟩) := by
 have t_6 : decide (av < 0) = false := by rw [decide_eq_false_iff_not]; omega
 have t_7 : (av == -1) = false := by rw [beq_eq_false_iff_ne]; omega
 have t_d : (av == av) = true := by simp
 have b2 := hx
 cases tb : decide (bv < 0)
 all_goals
  obtain ⟨p0, p1, p2, a1, a7⟩ := zaj w #[n, false, .slice A m.length cap] #[fr, te, .int .i64 2, av, arr, op, av, an, bv, bn] #[.int .i64 0, false, .slice none 0 0] 24 44 24
  replace hx := hx.later a1 hB
  clear a7
  have x0 := zaa p0
  have y0 := zae p1
  have v0 := zaa p2
  go_enter Tryz.func68, Tryz.ntmps68
  go_wp2
  clear x0 y0 v0
  have b4 : ∀ W, Below w.heap.size w W → zar w B ⟨n, false, m⟩ (.returned (.agg #[n, false, .slice A m.length cap])) W := fun W hW => ⟨A, cap, rfl, b2.later hW hB, hW⟩
  refine bodyPost_ret (v := .agg #[n, false, .slice A m.length cap]) (by simp [results, Tryz.results68, go_sem]) rfl (b4 _ ?_)
  exact zbc
theorem zje (n : Int) (m : List Int) (fr te dst arr op an bv bn : Int) (_ia : I64 an) (_ib : I64 bn) (v : Nat) (hv : v ≤ 1000) (h1 : (v : Int) ≠ dst) (A : Option Addr) (cap : Nat) (w : World) (B : Nat) (hB : B ≤ w.heap.size) (hx : Sx w B A m) (R : O)
  (P : ∀ W, B ≤ W.heap.size → Sx W B A m → Calls Tryz.prog 134 #[.agg #[n, false, .slice A m.length cap], dst, .int .i64 (2 * (v : Int))] W (zar W B R)) :
  Calls Tryz.prog 68 #[.agg #[n, false, .slice A m.length cap], .agg #[fr, te, .int .i64 2, dst, arr, op, (v : Int), an, bv, bn]] w (zar w B R) := by
 have t_8 : decide ((v : Int) < 0) = false := by rw [decide_eq_false_iff_not]; omega
 have t_9 : ((v : Int) == -1) = false := by rw [beq_eq_false_iff_ne]; omega
 have t_10 : ((v : Int) == dst) = false := by rw [beq_eq_false_iff_ne]; omega
 have HH1 := hid h1
 clear h1
 have HP := hid P
 clear P
 have b2 := hx
 cases tb : decide (bv < 0)
 all_goals
  obtain ⟨p0, p1, p2, a1, a7⟩ := zaj w #[n, false, .slice A m.length cap] #[fr, te, .int .i64 2, dst, arr, op, (v : Int), an, bv, bn] #[.int .i64 0, false, .slice none 0 0] 24 44 24
  replace hx := hx.later a1 hB
  clear a7
  have x0 := zaa p0
  have y0 := zae p1
  go_enter Tryz.func68, Tryz.ntmps68
  go_upto_region 16 with fail
  clear x0 y0
  generalize ((w.alloc (Obj.cells #[n, false, .slice A m.length cap] 24)).alloc (Obj.cells #[fr, te, .int .i64 2, dst, arr, op, (v : Int), an, bv, bn] 44)).alloc (Obj.cells #[.int .i64 0, false, .slice none 0 0] 24) = w1 at *
  have f0 := later (show w1.cell? ⟨w.heap.size, 0, none⟩ = some (.int .i64 n) from p0.cell 0)
  have f1 := later (show w1.cell? ⟨w.heap.size, 1, none⟩ = some (.bool false) from p0.cell 1)
  have f2 := later (show w1.cell? ⟨w.heap.size, 2, none⟩ = some (.slice A m.length cap) from p0.cell 2)
  have g3 := later (show w1.cell? ⟨w.heap.size + 1, 3, none⟩ = some (.int .i64 dst) from p1.cell 3)
  have g6 := later (show w1.cell? ⟨w.heap.size + 1, 6, none⟩ = some (.int .i64 (v : Int)) from p1.cell 6)
  have g7 := later (show w1.cell? ⟨w.heap.size + 1, 7, none⟩ = some (.int .i64 an) from p1.cell 7)
  refine zad 7 (fun X => Below w1.heap.size w1 X) (by kernel_rfl) (by kernel_rfl) (Below.refl _ _).drew ?_
  refine fl_a ?_
  (refine fl_c 135 #[(v : Int)] (.int .i64 (2 * (v : Int))) (fun X hX => (zaJ v hv _).mono fun e' w' ⟨he, hw⟩ => ⟨by rw [he]; simp, hw ▸ hX⟩) ?_)
  intro w2 b1
  clear f0 f1 f2 g3 g6 g7
  have hBf := Nat.le_trans hB a1.size
  replace p0 := p0.later b1
  replace p1 := p1.later b1
  replace p2 := p2.later b1
  replace hx := hx.later b1 (Nat.le_trans hB a1.size)
  replace a1 := bup a1 b1
  clear hBf
  go_wp2_with fail
  have hB1 := Nat.le_trans hB a1.size
  (with_reducible refine (HP.out w2 hB1 hx).mono ?_)
  rintro b3 w3 ⟨A2, c2, rfl, a8, a2⟩
  replace p0 := p0.later a2
  replace p1 := p1.later a2
  replace p2 := p2.later a2
  replace hx := hx.later a2 (Nat.le_trans hB a1.size)
  replace a1 := bup a1 a2
  have a5 := zaa p2
  go_wp2
  clear a5
  have hBz := a1.size
  have s9 := a8.far3 (g := w.heap.size + 1 + 1) (v0 := .int .i64 R.n) (v1 := .bool R.e) (v2 := .slice A2 R.m.length c2) (by omega) p2 (by decide)
  have q9 := p2.set3 (v0 := .int .i64 R.n) (v1 := .bool R.e) (v2 := .slice A2 R.m.length c2)
  have a9 := a1.trans (zah (W := w3) (g := w.heap.size + 1 + 1) (v0 := .int .i64 R.n) (v1 := .bool R.e) (v2 := .slice A2 R.m.length c2) (by omega) a1.size)
  obtain ⟨z0, z1, z2, fz⟩ := zaa q9
  refine bodyPost_ret (v := .agg #[R.n, R.e, .slice A2 R.m.length c2]) (by simp [results, Tryz.results68, go_sem, z0, z1, z2]) rfl ?_
  exact ⟨_, _, rfl, s9, a9⟩
theorem zjC (n : Int) (m : List Int) (fr te arr op av an bv bn : Int) (_ia : I64 an) (_ib : I64 bn) (h0 : 0 ≤ av) (A : Option Addr) (cap : Nat) (w : World) (B : Nat) (hB : B ≤ w.heap.size) (hx : Sx w B A m) (R : O)
  (P : ∀ W, B ≤ W.heap.size → Sx W B A m → Calls Tryz.prog 137 #[.agg #[n, false, .slice A m.length cap], av] W (zar W B R)) :
  Calls Tryz.prog 68 #[.agg #[n, false, .slice A m.length cap], .agg #[fr, te, .int .i64 3, av, arr, op, av, an, bv, bn]] w (zar w B R) := by
 have t_11 : decide (av < 0) = false := by rw [decide_eq_false_iff_not]; omega
 have t_12 : (av == -1) = false := by rw [beq_eq_false_iff_ne]; omega
 have t_d : (av == av) = true := by simp
 have HP := hid P
 clear P
 have b2 := hx
 cases tb : decide (bv < 0)
 all_goals
  obtain ⟨p0, p1, p2, a1, a7⟩ := zaj w #[n, false, .slice A m.length cap] #[fr, te, .int .i64 3, av, arr, op, av, an, bv, bn] #[.int .i64 0, false, .slice none 0 0] 24 44 24
  replace hx := hx.later a1 hB
  clear a7
  have x0 := zaa p0
  have y0 := zae p1
  go_enter Tryz.func68, Tryz.ntmps68
  go_wp2_with fail
  clear x0 y0
  generalize ((w.alloc (Obj.cells #[n, false, .slice A m.length cap] 24)).alloc (Obj.cells #[fr, te, .int .i64 3, av, arr, op, av, an, bv, bn] 44)).alloc (Obj.cells #[.int .i64 0, false, .slice none 0 0] 24) = w1 at *
  have hB1 := Nat.le_trans hB a1.size
  (with_reducible refine (HP.out w1 hB1 hx).mono ?_)
  rintro b0 w2 ⟨A2, c2, rfl, a8, a0⟩
  replace p0 := p0.later a0
  replace p1 := p1.later a0
  replace p2 := p2.later a0
  replace hx := hx.later a0 (Nat.le_trans hB a1.size)
  replace a1 := bup a1 a0
  have a5 := zaa p2
  go_wp2
  clear a5
  have hBz := a1.size
  have s9 := a8.far3 (g := w.heap.size + 1 + 1) (v0 := .int .i64 R.n) (v1 := .bool R.e) (v2 := .slice A2 R.m.length c2) (by omega) p2 (by decide)
  have q9 := p2.set3 (v0 := .int .i64 R.n) (v1 := .bool R.e) (v2 := .slice A2 R.m.length c2)
  have a9 := a1.trans (zah (W := w2) (g := w.heap.size + 1 + 1) (v0 := .int .i64 R.n) (v1 := .bool R.e) (v2 := .slice A2 R.m.length c2) (by omega) a1.size)
  obtain ⟨z0, z1, z2, fz⟩ := zaa q9
  refine bodyPost_ret (v := .agg #[R.n, R.e, .slice A2 R.m.length c2]) (by simp [results, Tryz.results68, go_sem, z0, z1, z2]) rfl ?_
  exact ⟨_, _, rfl, s9, a9⟩
theorem zj1 (n : Int) (m : List Int) (fr te dst arr op an bv bn : Int) (_ia : I64 an) (_ib : I64 bn) (v : Nat) (hv : v ≤ 1000) (h1 : (v : Int) ≠ dst) (A : Option Addr) (cap : Nat) (w : World) (B : Nat) (hB : B ≤ w.heap.size) (hx : Sx w B A m) (R : O)
  (P : ∀ W, B ≤ W.heap.size → Sx W B A m → Calls Tryz.prog 134 #[.agg #[n, false, .slice A m.length cap], dst, .int .i64 (2 * (v : Int) + 1)] W (zar W B R)) :
  Calls Tryz.prog 68 #[.agg #[n, false, .slice A m.length cap], .agg #[fr, te, .int .i64 3, dst, arr, op, (v : Int), an, bv, bn]] w (zar w B R) := by
 have t_13 : decide ((v : Int) < 0) = false := by rw [decide_eq_false_iff_not]; omega
 have t_14 : ((v : Int) == -1) = false := by rw [beq_eq_false_iff_ne]; omega
 have t_15 : ((v : Int) == dst) = false := by rw [beq_eq_false_iff_ne]; omega
 have HH1 := hid h1
 clear h1
 have HP := hid P
 clear P
 have b2 := hx
 cases tb : decide (bv < 0)
 all_goals
  obtain ⟨p0, p1, p2, a1, a7⟩ := zaj w #[n, false, .slice A m.length cap] #[fr, te, .int .i64 3, dst, arr, op, (v : Int), an, bv, bn] #[.int .i64 0, false, .slice none 0 0] 24 44 24
  replace hx := hx.later a1 hB
  clear a7
  have x0 := zaa p0
  have y0 := zae p1
  go_enter Tryz.func68, Tryz.ntmps68
  go_upto_region 23 with fail
  clear x0 y0
  generalize ((w.alloc (Obj.cells #[n, false, .slice A m.length cap] 24)).alloc (Obj.cells #[fr, te, .int .i64 3, dst, arr, op, (v : Int), an, bv, bn] 44)).alloc (Obj.cells #[.int .i64 0, false, .slice none 0 0] 24) = w1 at *
  have f0 := later (show w1.cell? ⟨w.heap.size, 0, none⟩ = some (.int .i64 n) from p0.cell 0)
  have f1 := later (show w1.cell? ⟨w.heap.size, 1, none⟩ = some (.bool false) from p0.cell 1)
  have f2 := later (show w1.cell? ⟨w.heap.size, 2, none⟩ = some (.slice A m.length cap) from p0.cell 2)
  have g3 := later (show w1.cell? ⟨w.heap.size + 1, 3, none⟩ = some (.int .i64 dst) from p1.cell 3)
  have g6 := later (show w1.cell? ⟨w.heap.size + 1, 6, none⟩ = some (.int .i64 (v : Int)) from p1.cell 6)
  have g7 := later (show w1.cell? ⟨w.heap.size + 1, 7, none⟩ = some (.int .i64 an) from p1.cell 7)
  refine zad 7 (fun X => Below w1.heap.size w1 X) (by kernel_rfl) (by kernel_rfl) (Below.refl _ _).drew ?_
  refine fl_a ?_
  (refine fl_c 138 #[(v : Int)] (.int .i64 (2 * (v : Int) + 1)) (fun X hX => (zco v hv _).mono fun e' w' ⟨he, hw⟩ => ⟨by rw [he]; simp, hw ▸ hX⟩) ?_)
  intro w2 b1
  clear f0 f1 f2 g3 g6 g7
  have hBf := Nat.le_trans hB a1.size
  replace p0 := p0.later b1
  replace p1 := p1.later b1
  replace p2 := p2.later b1
  replace hx := hx.later b1 (Nat.le_trans hB a1.size)
  replace a1 := bup a1 b1
  clear hBf
  go_wp2_with fail
  have hB1 := Nat.le_trans hB a1.size
  (with_reducible refine (HP.out w2 hB1 hx).mono ?_)
  rintro b3 w3 ⟨A2, c2, rfl, a8, a2⟩
  replace p0 := p0.later a2
  replace p1 := p1.later a2
  replace p2 := p2.later a2
  replace hx := hx.later a2 (Nat.le_trans hB a1.size)
  replace a1 := bup a1 a2
  have a5 := zaa p2
  go_wp2
  clear a5
  have hBz := a1.size
  have s9 := a8.far3 (g := w.heap.size + 1 + 1) (v0 := .int .i64 R.n) (v1 := .bool R.e) (v2 := .slice A2 R.m.length c2) (by omega) p2 (by decide)
  have q9 := p2.set3 (v0 := .int .i64 R.n) (v1 := .bool R.e) (v2 := .slice A2 R.m.length c2)
  have a9 := a1.trans (zah (W := w3) (g := w.heap.size + 1 + 1) (v0 := .int .i64 R.n) (v1 := .bool R.e) (v2 := .slice A2 R.m.length c2) (by omega) a1.size)
  obtain ⟨z0, z1, z2, fz⟩ := zaa q9
  refine bodyPost_ret (v := .agg #[R.n, R.e, .slice A2 R.m.length c2]) (by simp [results, Tryz.results68, go_sem, z0, z1, z2]) rfl ?_
  exact ⟨_, _, rfl, s9, a9⟩
theorem zjN (n : Int) (m : List Int) (fr te dst arr op an bv bn : Int) (_ia : I64 an) (_ib : I64 bn) (A : Option Addr) (cap : Nat) (w : World) (B : Nat) (hB : B ≤ w.heap.size) (hx : Sx w B A m) (R : O)
  (P : ∀ W, B ≤ W.heap.size → Sx W B A m → Calls Tryz.prog 136 #[.agg #[n, false, .slice A m.length cap], .agg #[fr, te, .int .i64 3, dst, arr, op, .int .i64 (-1), an, bv, bn]] W (zar W B R)) :
  Calls Tryz.prog 68 #[.agg #[n, false, .slice A m.length cap], .agg #[fr, te, .int .i64 3, dst, arr, op, .int .i64 (-1), an, bv, bn]] w (zar w B R) := by
 have HP := hid P
 clear P
 have b2 := hx
 cases tb : decide (bv < 0)
 all_goals
  obtain ⟨p0, p1, p2, a1, a7⟩ := zaj w #[n, false, .slice A m.length cap] #[fr, te, .int .i64 3, dst, arr, op, .int .i64 (-1), an, bv, bn] #[.int .i64 0, false, .slice none 0 0] 24 44 24
  replace hx := hx.later a1 hB
  clear a7
  have x0 := zaa p0
  have y0 := zae p1
  go_enter Tryz.func68, Tryz.ntmps68
  go_wp2_with fail
  clear x0 y0
  generalize ((w.alloc (Obj.cells #[n, false, .slice A m.length cap] 24)).alloc (Obj.cells #[fr, te, .int .i64 3, dst, arr, op, .int .i64 (-1), an, bv, bn] 44)).alloc (Obj.cells #[.int .i64 0, false, .slice none 0 0] 24) = w1 at *
  have hB1 := Nat.le_trans hB a1.size
  (with_reducible refine (HP.out w1 hB1 hx).mono ?_)
  rintro b0 w2 ⟨A2, c2, rfl, a8, a0⟩
  replace p0 := p0.later a0
  replace p1 := p1.later a0
  replace p2 := p2.later a0
  replace hx := hx.later a0 (Nat.le_trans hB a1.size)
  replace a1 := bup a1 a0
  have a5 := zaa p2
  go_wp2
  clear a5
  have hBz := a1.size
  have s9 := a8.far3 (g := w.heap.size + 1 + 1) (v0 := .int .i64 R.n) (v1 := .bool R.e) (v2 := .slice A2 R.m.length c2) (by omega) p2 (by decide)
  have q9 := p2.set3 (v0 := .int .i64 R.n) (v1 := .bool R.e) (v2 := .slice A2 R.m.length c2)
  have a9 := a1.trans (zah (W := w2) (g := w.heap.size + 1 + 1) (v0 := .int .i64 R.n) (v1 := .bool R.e) (v2 := .slice A2 R.m.length c2) (by omega) a1.size)
  obtain ⟨z0, z1, z2, fz⟩ := zaa q9
  refine bodyPost_ret (v := .agg #[R.n, R.e, .slice A2 R.m.length c2]) (by simp [results, Tryz.results68, go_sem, z0, z1, z2]) rfl ?_
  exact ⟨_, _, rfl, s9, a9⟩
end Go.Proofs.YtnmpgijiimglcaaGreat
