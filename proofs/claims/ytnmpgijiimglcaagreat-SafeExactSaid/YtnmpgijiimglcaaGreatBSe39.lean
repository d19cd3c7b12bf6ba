import Derived.Test.YtnmpgijiimglcaaGreatBSe26
import Derived.Test.YtnmpgijiimglcaaGreatBSe27
namespace Go.Proofs.YtnmpgijiimglcaaGreat
open Go.RowKit
set_option maxRecDepth 100000
set_option maxHeartbeats 8000000
attribute [local go_sem ↓] Go.wp_at_zero Go.wp_at_succ
theorem zh1 (n : Int) (m : List Int) (fr te dst arr op av an bv bn : Int) (_ia : I64 an) (_ib : I64 bn) (h0 : 0 ≤ av) (h1 : 0 ≤ bv) (A : Option Addr) (cap : Nat) (w : World) (B : Nat) (hB : B ≤ w.heap.size) (hx : Sx w B A m) (R : O)
  (P : ∀ W, B ≤ W.heap.size → Sx W B A m → Calls Tryz.prog 195 #[.agg #[n, false, .slice A m.length cap], dst, av, bv, false] W (zar W B R)) :
  Calls Tryz.prog 139 #[.agg #[n, false, .slice A m.length cap], .agg #[fr, te, .int .i64 4, dst, arr, op, av, an, bv, bn]] w (zar w B R) := by
 have t1 : decide (0 ≤ av) = true := by rw [decide_eq_true_eq]; omega
 have t2 : decide (0 ≤ bv) = true := by rw [decide_eq_true_eq]; omega
 have t3 : decide (av < 0) = false := by rw [decide_eq_false_iff_not]; omega
 have HP := hid P
 clear P
 obtain ⟨p0, p1, p2, a1, c9⟩ := zaj w #[n, false, .slice A m.length cap] #[fr, te, .int .i64 4, dst, arr, op, av, an, bv, bn] #[.int .i64 0, false, .slice none 0 0] 24 44 24
 replace hx := hx.later a1 hB
 have d6 := hid c9
 have b4 := zaa p0
 have a9 := zae p1
 go_enter Tryz.func139, Tryz.ntmps139
 go_upto_region 2 with fail
 clear b4 a9
 generalize ((w.alloc (Obj.cells #[n, false, .slice A m.length cap] 24)).alloc (Obj.cells #[fr, te, .int .i64 4, dst, arr, op, av, an, bv, bn] 44)).alloc (Obj.cells #[.int .i64 0, false, .slice none 0 0] 24) = w1 at *
 go_cut [6, 7] (fun s6 s7 W => ∃ g6 g7 : Nat, s6 = .pointer (some ⟨g6, 0, none⟩) ∧ s7 = .pointer (some ⟨g7, 0, none⟩) ∧ Blk W g6 26 #[av, an] ∧ Blk W g7 26 #[bv, bn] ∧ Below w1.heap.size w1 W)
 case first =>
  have a9 := zae p1
  go_region_held3 (fun W => W.cell? ⟨w.heap.size + 1, 6, none⟩ = some (.int .i64 av) ∧ W.cell? ⟨w.heap.size + 1, 7, none⟩ = some (.int .i64 an) ∧ W.cell? ⟨w.heap.size + 1, 8, none⟩ = some (.int .i64 bv) ∧ W.cell? ⟨w.heap.size + 1, 9, none⟩ = some (.int .i64 bn)) (go_keep) (fail)
  all_goals (go_wp2_with fail; go_meet)
  ·obtain ⟨q1, q2, q3⟩ := za6 w1 c9 #[av, an] #[bv, bn] 26 26
   exact ⟨_, _, rfl, rfl, q1, q2, q3⟩
  ·obtain ⟨q1, q2, q3⟩ := za6 w1 c9 #[bv, bn] #[av, an] 26 26
   exact ⟨_, _, rfl, rfl, q2, q1, q3⟩
 case rest =>
  obtain ⟨g6, g7, rfl, rfl, b6, b7, b9⟩ := hcut
  have hB0 := Nat.le_trans hB a1.size
  replace p0 := p0.later b9
  replace p1 := p1.later b9
  replace p2 := p2.later b9
  replace hx := hx.later b9 (Nat.le_trans hB a1.size)
  replace a1 := bup a1 b9
  have b4 := zaa p0
  have a9 := zae p1
  obtain ⟨c4, c6, c3⟩ := zai b6
  obtain ⟨c1, c5, c0⟩ := zai b7
  go_wp2_with fail
  clear b4 a9 c4 c6 c3 c1 c5 c0
  have hB1 := Nat.le_trans hB a1.size
  (with_reducible refine (HP.out wc hB1 hx).mono ?_)
  rintro d2 w2 ⟨A2, c2, rfl, d3, a0⟩
  replace p0 := p0.later a0
  replace p1 := p1.later a0
  replace p2 := p2.later a0
  replace b6 := b6.later a0
  replace b7 := b7.later a0
  replace hx := hx.later a0 (Nat.le_trans hB a1.size)
  replace a1 := bup a1 a0
  have d0 := zaa p2
  go_wp2
  clear d0
  have hBz := a1.size
  have s9 := d3.far3 (g := w.heap.size + 1 + 1) (v0 := .int .i64 R.n) (v1 := .bool R.e) (v2 := .slice A2 R.m.length c2) (by omega) p2 (by decide)
  have q9 := p2.set3 (v0 := .int .i64 R.n) (v1 := .bool R.e) (v2 := .slice A2 R.m.length c2)
  have d4 := a1.trans (zah (W := w2) (g := w.heap.size + 1 + 1) (v0 := .int .i64 R.n) (v1 := .bool R.e) (v2 := .slice A2 R.m.length c2) (by omega) a1.size)
  obtain ⟨z0, z1, z2, fz⟩ := zaa q9
  refine bodyPost_ret (v := .agg #[R.n, R.e, .slice A2 R.m.length c2]) (by simp [results, Tryz.results139, go_sem, z0, z1, z2]) rfl ?_
  exact ⟨_, _, rfl, s9, d4⟩
theorem zg4 (n : Int) (m : List Int) (fr te dst arr op av an bv bn : Int) (_ia : I64 an) (_ib : I64 bn) (h0 : 0 ≤ av) (h1 : 0 ≤ bv) (A : Option Addr) (cap : Nat) (w : World) (B : Nat) (hB : B ≤ w.heap.size) (hx : Sx w B A m) (R : O)
  (P : ∀ W, B ≤ W.heap.size → Sx W B A m → Calls Tryz.prog 195 #[.agg #[n, false, .slice A m.length cap], dst, av, bv, true] W (zar W B R)) :
  Calls Tryz.prog 139 #[.agg #[n, false, .slice A m.length cap], .agg #[fr, te, .int .i64 5, dst, arr, op, av, an, bv, bn]] w (zar w B R) := by
 have t1 : decide (0 ≤ av) = true := by rw [decide_eq_true_eq]; omega
 have t2 : decide (0 ≤ bv) = true := by rw [decide_eq_true_eq]; omega
 have t3 : decide (av < 0) = false := by rw [decide_eq_false_iff_not]; omega
 have HP := hid P
 clear P
 obtain ⟨p0, p1, p2, a1, c9⟩ := zaj w #[n, false, .slice A m.length cap] #[fr, te, .int .i64 5, dst, arr, op, av, an, bv, bn] #[.int .i64 0, false, .slice none 0 0] 24 44 24
 replace hx := hx.later a1 hB
 have d6 := hid c9
 have b4 := zaa p0
 have a9 := zae p1
 go_enter Tryz.func139, Tryz.ntmps139
 go_upto_region 2 with fail
 clear b4 a9
 generalize ((w.alloc (Obj.cells #[n, false, .slice A m.length cap] 24)).alloc (Obj.cells #[fr, te, .int .i64 5, dst, arr, op, av, an, bv, bn] 44)).alloc (Obj.cells #[.int .i64 0, false, .slice none 0 0] 24) = w1 at *
 go_cut [6, 7] (fun s6 s7 W => ∃ g6 g7 : Nat, s6 = .pointer (some ⟨g6, 0, none⟩) ∧ s7 = .pointer (some ⟨g7, 0, none⟩) ∧ Blk W g6 26 #[av, an] ∧ Blk W g7 26 #[bv, bn] ∧ Below w1.heap.size w1 W)
 case first =>
  have a9 := zae p1
  go_region_held3 (fun W => W.cell? ⟨w.heap.size + 1, 6, none⟩ = some (.int .i64 av) ∧ W.cell? ⟨w.heap.size + 1, 7, none⟩ = some (.int .i64 an) ∧ W.cell? ⟨w.heap.size + 1, 8, none⟩ = some (.int .i64 bv) ∧ W.cell? ⟨w.heap.size + 1, 9, none⟩ = some (.int .i64 bn)) (go_keep) (fail)
  all_goals (go_wp2_with fail; go_meet)
  ·obtain ⟨q1, q2, q3⟩ := za6 w1 c9 #[av, an] #[bv, bn] 26 26
   exact ⟨_, _, rfl, rfl, q1, q2, q3⟩
  ·obtain ⟨q1, q2, q3⟩ := za6 w1 c9 #[bv, bn] #[av, an] 26 26
   exact ⟨_, _, rfl, rfl, q2, q1, q3⟩
 case rest =>
  obtain ⟨g6, g7, rfl, rfl, b6, b7, b9⟩ := hcut
  have hB0 := Nat.le_trans hB a1.size
  replace p0 := p0.later b9
  replace p1 := p1.later b9
  replace p2 := p2.later b9
  replace hx := hx.later b9 (Nat.le_trans hB a1.size)
  replace a1 := bup a1 b9
  have b4 := zaa p0
  have a9 := zae p1
  obtain ⟨c4, c6, c3⟩ := zai b6
  obtain ⟨c1, c5, c0⟩ := zai b7
  go_wp2_with fail
  clear b4 a9 c4 c6 c3 c1 c5 c0
  have hB1 := Nat.le_trans hB a1.size
  (with_reducible refine (HP.out wc hB1 hx).mono ?_)
  rintro d2 w2 ⟨A2, c2, rfl, d3, a0⟩
  replace p0 := p0.later a0
  replace p1 := p1.later a0
  replace p2 := p2.later a0
  replace b6 := b6.later a0
  replace b7 := b7.later a0
  replace hx := hx.later a0 (Nat.le_trans hB a1.size)
  replace a1 := bup a1 a0
  have d0 := zaa p2
  go_wp2
  clear d0
  have hBz := a1.size
  have s9 := d3.far3 (g := w.heap.size + 1 + 1) (v0 := .int .i64 R.n) (v1 := .bool R.e) (v2 := .slice A2 R.m.length c2) (by omega) p2 (by decide)
  have q9 := p2.set3 (v0 := .int .i64 R.n) (v1 := .bool R.e) (v2 := .slice A2 R.m.length c2)
  have d4 := a1.trans (zah (W := w2) (g := w.heap.size + 1 + 1) (v0 := .int .i64 R.n) (v1 := .bool R.e) (v2 := .slice A2 R.m.length c2) (by omega) a1.size)
  obtain ⟨z0, z1, z2, fz⟩ := zaa q9
  refine bodyPost_ret (v := .agg #[R.n, R.e, .slice A2 R.m.length c2]) (by simp [results, Tryz.results139, go_sem, z0, z1, z2]) rfl ?_
  exact ⟨_, _, rfl, s9, d4⟩
theorem zg7 (n : Int) (m : List Int) (fr te dst arr op av an bv bn : Int) (_ia : I64 an) (_ib : I64 bn) (h0 : av < 0) (h1 : 0 ≤ bv) (A : Option Addr) (cap : Nat) (w : World) (B : Nat) (hB : B ≤ w.heap.size) (hx : Sx w B A m) (R : O)
  (P : ∀ W, B ≤ W.heap.size → Sx W B A m → Calls Tryz.prog 197 #[.agg #[n, false, .slice A m.length cap], dst, bv, an] W (zar W B R)) :
  Calls Tryz.prog 139 #[.agg #[n, false, .slice A m.length cap], .agg #[fr, te, .int .i64 4, dst, arr, op, av, an, bv, bn]] w (zar w B R) := by
 have t1 : decide (0 ≤ av) = false := by rw [decide_eq_false_iff_not]; omega
 have t2 : decide (0 ≤ bv) = true := by rw [decide_eq_true_eq]; omega
 have t3 : decide (av < 0) = true := by rw [decide_eq_true_eq]; omega
 have HP := hid P
 clear P
 obtain ⟨p0, p1, p2, a1, c9⟩ := zaj w #[n, false, .slice A m.length cap] #[fr, te, .int .i64 4, dst, arr, op, av, an, bv, bn] #[.int .i64 0, false, .slice none 0 0] 24 44 24
 replace hx := hx.later a1 hB
 have d6 := hid c9
 have b4 := zaa p0
 have a9 := zae p1
 go_enter Tryz.func139, Tryz.ntmps139
 go_upto_region 2 with fail
 clear b4 a9
 generalize ((w.alloc (Obj.cells #[n, false, .slice A m.length cap] 24)).alloc (Obj.cells #[fr, te, .int .i64 4, dst, arr, op, av, an, bv, bn] 44)).alloc (Obj.cells #[.int .i64 0, false, .slice none 0 0] 24) = w1 at *
 go_cut [6, 7] (fun s6 s7 W => ∃ g6 g7 : Nat, s6 = .pointer (some ⟨g6, 0, none⟩) ∧ s7 = .pointer (some ⟨g7, 0, none⟩) ∧ Blk W g6 26 #[av, an] ∧ Blk W g7 26 #[bv, bn] ∧ Below w1.heap.size w1 W)
 case first =>
  have a9 := zae p1
  go_region_held3 (fun W => W.cell? ⟨w.heap.size + 1, 6, none⟩ = some (.int .i64 av) ∧ W.cell? ⟨w.heap.size + 1, 7, none⟩ = some (.int .i64 an) ∧ W.cell? ⟨w.heap.size + 1, 8, none⟩ = some (.int .i64 bv) ∧ W.cell? ⟨w.heap.size + 1, 9, none⟩ = some (.int .i64 bn)) (go_keep) (fail)
  all_goals (go_wp2_with fail; go_meet)
  ·obtain ⟨q1, q2, q3⟩ := za6 w1 c9 #[av, an] #[bv, bn] 26 26
   exact ⟨_, _, rfl, rfl, q1, q2, q3⟩
  ·obtain ⟨q1, q2, q3⟩ := za6 w1 c9 #[bv, bn] #[av, an] 26 26
   exact ⟨_, _, rfl, rfl, q2, q1, q3⟩
 case rest =>
  obtain ⟨g6, g7, rfl, rfl, b6, b7, b9⟩ := hcut
  have hB0 := Nat.le_trans hB a1.size
  replace p0 := p0.later b9
  replace p1 := p1.later b9
  replace p2 := p2.later b9
  replace hx := hx.later b9 (Nat.le_trans hB a1.size)
  replace a1 := bup a1 b9
  have b4 := zaa p0
  have a9 := zae p1
  obtain ⟨c4, c6, c3⟩ := zai b6
  obtain ⟨c1, c5, c0⟩ := zai b7
  go_wp2_with fail
  clear b4 a9 c4 c6 c3 c1 c5 c0
  have hB1 := Nat.le_trans hB a1.size
  (with_reducible refine (HP.out wc hB1 hx).mono ?_)
  rintro d2 w2 ⟨A2, c2, rfl, d3, a0⟩
  replace p0 := p0.later a0
  replace p1 := p1.later a0
  replace p2 := p2.later a0
  replace b6 := b6.later a0
  replace b7 := b7.later a0
  replace hx := hx.later a0 (Nat.le_trans hB a1.size)
  replace a1 := bup a1 a0
  have d0 := zaa p2
  go_wp2
  clear d0
  have hBz := a1.size
  have s9 := d3.far3 (g := w.heap.size + 1 + 1) (v0 := .int .i64 R.n) (v1 := .bool R.e) (v2 := .slice A2 R.m.length c2) (by omega) p2 (by decide)
  have q9 := p2.set3 (v0 := .int .i64 R.n) (v1 := .bool R.e) (v2 := .slice A2 R.m.length c2)
  have d4 := a1.trans (zah (W := w2) (g := w.heap.size + 1 + 1) (v0 := .int .i64 R.n) (v1 := .bool R.e) (v2 := .slice A2 R.m.length c2) (by omega) a1.size)
  obtain ⟨z0, z1, z2, fz⟩ := zaa q9
  refine bodyPost_ret (v := .agg #[R.n, R.e, .slice A2 R.m.length c2]) (by simp [results, Tryz.results139, go_sem, z0, z1, z2]) rfl ?_
  exact ⟨_, _, rfl, s9, d4⟩
theorem zi1 (n : Int) (m : List Int) (fr te dst arr op av an bv bn : Int) (_ia : I64 an) (ib : I64 bn) (h0 : 0 ≤ av) (h1 : bv < 0) (hbn : bn = -9223372036854775808) (A : Option Addr) (cap : Nat) (w : World) (B : Nat) (hB : B ≤ w.heap.size) (hx : Sx w B A m) (R : O)
  (P : ∀ W, B ≤ W.heap.size → Sx W B A m → Calls Tryz.prog 75 #[.agg #[n, false, .slice A m.length cap], dst, .agg #[.int .i64 0, .int .i64 0, false, false]] W (zar W B R)) :
  Calls Tryz.prog 139 #[.agg #[n, false, .slice A m.length cap], .agg #[fr, te, .int .i64 5, dst, arr, op, av, an, bv, bn]] w (zar w B R) := by
 have t1 : decide (0 ≤ av) = true := by rw [decide_eq_true_eq]; omega
 have t2 : decide (0 ≤ bv) = false := by rw [decide_eq_false_iff_not]; omega
 have t3 : decide (av < 0) = false := by rw [decide_eq_false_iff_not]; omega
 have HBN := hid hbn
 clear hbn
 have HP := hid P
 clear P
 obtain ⟨p0, p1, p2, a1, c9⟩ := zaj w #[n, false, .slice A m.length cap] #[fr, te, .int .i64 5, dst, arr, op, av, an, bv, bn] #[.int .i64 0, false, .slice none 0 0] 24 44 24
 replace hx := hx.later a1 hB
 have d6 := hid c9
 have b4 := zaa p0
 have a9 := zae p1
 go_enter Tryz.func139, Tryz.ntmps139
 go_upto_region 2 with fail
 clear b4 a9
 generalize ((w.alloc (Obj.cells #[n, false, .slice A m.length cap] 24)).alloc (Obj.cells #[fr, te, .int .i64 5, dst, arr, op, av, an, bv, bn] 44)).alloc (Obj.cells #[.int .i64 0, false, .slice none 0 0] 24) = w1 at *
 go_cut [6, 7] (fun s6 s7 W => ∃ g6 g7 : Nat, s6 = .pointer (some ⟨g6, 0, none⟩) ∧ s7 = .pointer (some ⟨g7, 0, none⟩) ∧ Blk W g6 26 #[av, an] ∧ Blk W g7 26 #[bv, bn] ∧ Below w1.heap.size w1 W)
 case first =>
  have a9 := zae p1
  go_region_held3 (fun W => W.cell? ⟨w.heap.size + 1, 6, none⟩ = some (.int .i64 av) ∧ W.cell? ⟨w.heap.size + 1, 7, none⟩ = some (.int .i64 an) ∧ W.cell? ⟨w.heap.size + 1, 8, none⟩ = some (.int .i64 bv) ∧ W.cell? ⟨w.heap.size + 1, 9, none⟩ = some (.int .i64 bn)) (go_keep) (fail)
  all_goals (go_wp2_with fail; go_meet)
  ·obtain ⟨q1, q2, q3⟩ := za6 w1 c9 #[av, an] #[bv, bn] 26 26
   exact ⟨_, _, rfl, rfl, q1, q2, q3⟩
  ·obtain ⟨q1, q2, q3⟩ := za6 w1 c9 #[bv, bn] #[av, an] 26 26
   exact ⟨_, _, rfl, rfl, q2, q1, q3⟩
 case rest =>
  obtain ⟨g6, g7, rfl, rfl, b6, b7, b9⟩ := hcut
  have hB0 := Nat.le_trans hB a1.size
  replace p0 := p0.later b9
  replace p1 := p1.later b9
  replace p2 := p2.later b9
  replace hx := hx.later b9 (Nat.le_trans hB a1.size)
  replace a1 := bup a1 b9
  have b4 := zaa p0
  have a9 := zae p1
  obtain ⟨c4, c6, c3⟩ := zai b6
  obtain ⟨c1, c5, c0⟩ := zai b7
  go_wp2_with fail
  clear b4 a9 c4 c6 c3 c1 c5 c0
  have HNG := hid (show Calls Tryz.prog 198 #[bn] wc (fun e w' => e = .returned (.tuple #[.int .i64 0, .int .i64 1]) ∧ wc = w') from by
   have h := zeE bn wc ib
   have e : negW bn = (0, 1) := by unfold negW; rw [HBN.out]; exact zbt (by omega)
   rw [e] at h
   exact h)
  (with_reducible refine HNG.out.mono ?_)
  clear HNG
  rintro e_ng w_ng ⟨rfl, hw⟩
  subst w_ng
  have b4 := zaa p0
  have a9 := zae p1
  obtain ⟨c4, c6, c3⟩ := zai b6
  obtain ⟨c1, c5, c0⟩ := zai b7
  go_wp2_with fail
  clear b4 a9 c4 c6 c3 c1 c5 c0
  have hB1 := Nat.le_trans hB a1.size
  (with_reducible refine (HP.out wc hB1 hx).mono ?_)
  rintro d2 w2 ⟨A2, c2, rfl, d3, a0⟩
  replace p0 := p0.later a0
  replace p1 := p1.later a0
  replace p2 := p2.later a0
  replace b6 := b6.later a0
  replace b7 := b7.later a0
  replace hx := hx.later a0 (Nat.le_trans hB a1.size)
  replace a1 := bup a1 a0
  have d0 := zaa p2
  go_wp2
  clear d0
  have hBz := a1.size
  have s9 := d3.far3 (g := w.heap.size + 1 + 1) (v0 := .int .i64 R.n) (v1 := .bool R.e) (v2 := .slice A2 R.m.length c2) (by omega) p2 (by decide)
  have q9 := p2.set3 (v0 := .int .i64 R.n) (v1 := .bool R.e) (v2 := .slice A2 R.m.length c2)
  have d4 := a1.trans (zah (W := w2) (g := w.heap.size + 1 + 1) (v0 := .int .i64 R.n) (v1 := .bool R.e) (v2 := .slice A2 R.m.length c2) (by omega) a1.size)
  obtain ⟨z0, z1, z2, fz⟩ := zaa q9
  refine bodyPost_ret (v := .agg #[R.n, R.e, .slice A2 R.m.length c2]) (by simp [results, Tryz.results139, go_sem, z0, z1, z2]) rfl ?_
  exact ⟨_, _, rfl, s9, d4⟩
theorem zh4 (n : Int) (m : List Int) (fr te dst arr op av an bv bn : Int) (ia : I64 an) (_ib : I64 bn) (v : Nat) (hbv : bv = (v : Int)) (N : Nat) (hN : (N : Int) = 2 * n) (hn : N ≤ 128) (hc : Cells N m) (hv : 2 * v + 1 < N) (h0 : av < 0) (hm : m.length ≤ 17592186044416) (A : Option Addr) (cap : Nat) (w : World) (B : Nat) (hB : B ≤ w.heap.size) (hx : Sx w B A m) (R : O)
  (P : ∀ W, B ≤ W.heap.size → Sx W B A m → Calls Tryz.prog 75 #[.agg #[n, false, .slice A m.length cap], dst, (restR an (varR N m v)).val] W (zar W B R)) :
  Calls Tryz.prog 139 #[.agg #[n, false, .slice A m.length cap], .agg #[fr, te, .int .i64 5, dst, arr, op, av, an, bv, bn]] w (zar w B R) := by
 have t1 : decide (0 ≤ av) = false := by rw [decide_eq_false_iff_not]; omega
 have h1 : 0 ≤ bv := by omega
 have t2 : decide (0 ≤ bv) = true := by rw [decide_eq_true_eq]; omega
 have t3 : decide (av < 0) = true := by rw [decide_eq_true_eq]; omega
 have HV := hid (fun W (hW : B ≤ W.heap.size) (h : Sx W B A m) => zdL n m N v A cap W hN hn hc hv (h.rd hW) hm)
 have d5 := hid (fun W => zkO an (varR N m v) ia (zda v) W)
 subst hbv
 clear hm hN hn hc hv
 generalize restR an (varR N m v) = rr at *
 generalize varR N m v = rq at *
 rw [Rg.val_eq] at HV d5 P
 rw [Rg.val_eq] at d5
 have HP := hid P
 clear P
 obtain ⟨p0, p1, p2, a1, c9⟩ := zaj w #[n, false, .slice A m.length cap] #[fr, te, .int .i64 5, dst, arr, op, av, an, (v : Int), bn] #[.int .i64 0, false, .slice none 0 0] 24 44 24
 replace hx := hx.later a1 hB
 have d6 := hid c9
 have b4 := zaa p0
 have a9 := zae p1
 go_enter Tryz.func139, Tryz.ntmps139
 go_upto_region 2 with fail
 clear b4 a9
 generalize ((w.alloc (Obj.cells #[n, false, .slice A m.length cap] 24)).alloc (Obj.cells #[fr, te, .int .i64 5, dst, arr, op, av, an, (v : Int), bn] 44)).alloc (Obj.cells #[.int .i64 0, false, .slice none 0 0] 24) = w1 at *
 go_cut [6, 7] (fun s6 s7 W => ∃ g6 g7 : Nat, s6 = .pointer (some ⟨g6, 0, none⟩) ∧ s7 = .pointer (some ⟨g7, 0, none⟩) ∧ Blk W g6 26 #[av, an] ∧ Blk W g7 26 #[(v : Int), bn] ∧ Below w1.heap.size w1 W)
 case first =>
  have a9 := zae p1
  go_region_held3 (fun W => W.cell? ⟨w.heap.size + 1, 6, none⟩ = some (.int .i64 av) ∧ W.cell? ⟨w.heap.size + 1, 7, none⟩ = some (.int .i64 an) ∧ W.cell? ⟨w.heap.size + 1, 8, none⟩ = some (.int .i64 (v : Int)) ∧ W.cell? ⟨w.heap.size + 1, 9, none⟩ = some (.int .i64 bn)) (go_keep) (fail)
  all_goals (go_wp2_with fail; go_meet)
  ·obtain ⟨q1, q2, q3⟩ := za6 w1 c9 #[av, an] #[(v : Int), bn] 26 26
   exact ⟨_, _, rfl, rfl, q1, q2, q3⟩
  ·obtain ⟨q1, q2, q3⟩ := za6 w1 c9 #[(v : Int), bn] #[av, an] 26 26
   exact ⟨_, _, rfl, rfl, q2, q1, q3⟩
 case rest =>
  obtain ⟨g6, g7, rfl, rfl, b6, b7, b9⟩ := hcut
  have hB0 := Nat.le_trans hB a1.size
  replace p0 := p0.later b9
  replace p1 := p1.later b9
  replace p2 := p2.later b9
  replace hx := hx.later b9 (Nat.le_trans hB a1.size)
  replace a1 := bup a1 b9
  have b4 := zaa p0
  have a9 := zae p1
  obtain ⟨c4, c6, c3⟩ := zai b6
  obtain ⟨c1, c5, c0⟩ := zai b7
  go_upto_region 6 with fail
  clear b4 a9 c4 c6 c3 c1 c5 c0
  have f0 := zab (show wc.cell? ⟨w.heap.size, 0, none⟩ = some (.int .i64 n) from p0.cell 0)
  have f1 := zab (show wc.cell? ⟨w.heap.size, 1, none⟩ = some (.bool false) from p0.cell 1)
  have f2 := zab (show wc.cell? ⟨w.heap.size, 2, none⟩ = some (.slice A m.length cap) from p0.cell 2)
  have f3 := zab (show wc.cell? ⟨w.heap.size + 1, 3, none⟩ = some (.int .i64 dst) from p1.cell 3)
  have f4 := zab (show wc.cell? ⟨g6, 1, none⟩ = some (.int .i64 an) from b6.cell 1)
  have f5 := zab (show wc.cell? ⟨g7, 0, none⟩ = some (.int .i64 (v : Int)) from b7.cell 0)
  refine zac 11 [Sp.val (.agg #[n, false, .slice A m.length cap]), Sp.val (.pointer (some ⟨w.heap.size + 1, 3, none⟩)), Sp.val (.int .i64 dst), Sp.val (.pointer (some ⟨g6, 1, none⟩)), Sp.val (.int .i64 an), Sp.val (.agg #[n, false, .slice A m.length cap]), Sp.val (.agg #[n, false, .slice A m.length cap]), Sp.val (.pointer (some ⟨g7, 0, none⟩)), Sp.val (.int .i64 (v : Int)), Sp.val (.agg #[rq.lo, rq.hi, rq.hl, rq.hh]), Sp.val (.agg #[rr.lo, rr.hi, rr.hl, rr.hh])] (by kernel_rfl) (by kernel_rfl) ?_
  iterate 9 (refine fe_t (fun _ _ => ?_))
  refine zaf.callFV (by rfl) (fun W hW hf => ⟨171, #[.agg #[n, false, .slice A m.length cap], (v : Int)], by go_simp, HV.out W (Nat.le_trans (Nat.le_trans hB a1.size) (Ext.trans (Below.refl _ _).drew hW : Below wc.heap.size wc W).size) (hx.later (Ext.trans (Below.refl _ _).drew hW) (Nat.le_trans hB a1.size))⟩) (fun _ _ => ?_)
  refine fe_p ?_
  refine zaf.callFV (by rfl) (fun W hW hf => ⟨196, #[an, .agg #[rq.lo, rq.hi, rq.hl, rq.hh]], by go_simp, d5.out W⟩) (fun _ _ => ?_)
  refine fe_p ?_
  refine zaf.tail (fun W hW hf hd2 => ?_)
  replace hW : Below wc.heap.size wc W := Ext.trans (Below.refl _ _).drew hW
  clear hf hd2 HV d5 f0 f1 f2 f3 f4 f5
  replace p2 := p2.later hW
  replace hx := hx.later hW (Nat.le_trans hB a1.size)
  replace a1 := bup a1 hW
  clear hW p0 p1 b6 b7
  go_wp2_with fail
  have hB1 := Nat.le_trans hB a1.size
  (with_reducible refine (HP.out W hB1 hx).mono ?_)
  rintro d2 w2 ⟨A2, c2, rfl, d3, a0⟩
  replace p2 := p2.later a0
  replace hx := hx.later a0 (Nat.le_trans hB a1.size)
  replace a1 := bup a1 a0
  have d0 := zaa p2
  go_wp2
  clear d0
  have hBz := a1.size
  have s9 := d3.far3 (g := w.heap.size + 1 + 1) (v0 := .int .i64 R.n) (v1 := .bool R.e) (v2 := .slice A2 R.m.length c2) (by omega) p2 (by decide)
  have q9 := p2.set3 (v0 := .int .i64 R.n) (v1 := .bool R.e) (v2 := .slice A2 R.m.length c2)
  have d4 := a1.trans (zah (W := w2) (g := w.heap.size + 1 + 1) (v0 := .int .i64 R.n) (v1 := .bool R.e) (v2 := .slice A2 R.m.length c2) (by omega) a1.size)
  obtain ⟨z0, z1, z2, fz⟩ := zaa q9
  refine bodyPost_ret (v := .agg #[R.n, R.e, .slice A2 R.m.length c2]) (by simp [results, Tryz.results139, go_sem, z0, z1, z2]) rfl ?_
  exact ⟨_, _, rfl, s9, d4⟩
end Go.Proofs.YtnmpgijiimglcaaGreat
