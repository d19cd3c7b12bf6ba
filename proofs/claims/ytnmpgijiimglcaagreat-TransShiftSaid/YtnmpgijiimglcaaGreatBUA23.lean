/-
  trans.adds: what it answers, of what the functions that it calls answer.
  trans.edge: what it answers, of what the functions that it calls answer.
  trans.Edge: what it answers, of what trans.edge answers.
-/
import Derived.Test.YtnmpgijiimglcaaGreatBUA21
import Derived.Test.YtnmpgijiimglcaaGreatTRight
import Derived.Test.YtnmpgijiimglcaaGreatBUA12
namespace Go.Proofs.YtnmpgijiimglcaaGreat
section
open Go.RowKit
attribute [local go_sem ↓] Go.wp_at_zero Go.wp_at_succ

theorem edgbox {w : World} {g : Nat} {t : TypeId} {a0 a1 a2 a3 a4 a5 a6 a7 a8 a9 : Value} (h : Blk w g t #[a0, a1, a2, a3, a4, a5, a6, a7, a8, a9]) :
    w.cell? ⟨g, 0, none⟩ = some a0 ∧ w.cell? ⟨g, 1, none⟩ = some a1 ∧ w.cell? ⟨g, 2, none⟩ = some a2 ∧ w.cell? ⟨g, 3, none⟩ = some a3 ∧ w.cell? ⟨g, 4, none⟩ = some a4 ∧ w.cell? ⟨g, 5, none⟩ = some a5 ∧ w.cell? ⟨g, 6, none⟩ = some a6 ∧ w.cell? ⟨g, 7, none⟩ = some a7 ∧ w.cell? ⟨g, 8, none⟩ = some a8 ∧ w.cell? ⟨g, 9, none⟩ = some a9 ∧ ∀ j, w.frozen? ⟨g, j, none⟩ = false :=
  ⟨h.cell 0, h.cell 1, h.cell 2, h.cell 3, h.cell 4, h.cell 5, h.cell 6, h.cell 7, h.cell 8, h.cell 9, fun j => h.fr j⟩
theorem two_drew (w : World) {s : Nat} (hs : w.heap.size = s) (cs0 cs1 : Array Value) (t0 t1 : TypeId) : Blk ((w.alloc (.cells cs0 t0)).alloc (.cells cs1 t1)).drew s t0 cs0 ∧ Blk ((w.alloc (.cells cs0 t0)).alloc (.cells cs1 t1)).drew (s + 1) t1 cs1 ∧ Below w.heap.size w ((w.alloc (.cells cs0 t0)).alloc (.cells cs1 t1)).drew := by
  subst hs
  obtain ⟨a, b, c, _⟩ := new_two w cs0 cs1 t0 t1
  exact ⟨a, b, c.drew⟩

set_option maxRecDepth 8000 in
set_option maxHeartbeats 4000000 in
theorem tadds_4 (n : Int) (m : List Int) (fr te dst arr op av an bv bn : Int) (_ia : I64 an) (_ib : I64 bn) (h0 : 0 ≤ av) (h1 : bv < 0) (A : Option Addr) (cap : Nat) (w : World) (B : Nat) (hB : B ≤ w.heap.size) (hx : Sx w B A m) (R : O)
    (P : ∀ W, B ≤ W.heap.size → Sx W B A m → Calls Tryz.prog 197 #[.agg #[.int .i64 n, .bool false, .slice A m.length cap], .int .i64 dst, .int .i64 av, .int .i64 bn] W (SxRes W B R)) :
    Calls Tryz.prog 139 #[.agg #[.int .i64 n, .bool false, .slice A m.length cap], .agg #[.int .i64 fr, .int .i64 te, .int .i64 4, .int .i64 dst, .int .i64 arr, .int .i64 op, .int .i64 av, .int .i64 an, .int .i64 bv, .int .i64 bn]] w (SxRes w B R) := by
  have t1 : decide (0 ≤ av) = true := by rw [decide_eq_true_eq]; omega
  have t2 : decide (0 ≤ bv) = false := by rw [decide_eq_false_iff_not]; omega
  have t3 : decide (av < 0) = false := by rw [decide_eq_false_iff_not]; omega
  have HP := hid P
  clear P
  obtain ⟨p0, p1, p2, hb0, hsz⟩ := new_three w #[.int .i64 n, .bool false, .slice A m.length cap] #[.int .i64 fr, .int .i64 te, .int .i64 4, .int .i64 dst, .int .i64 arr, .int .i64 op, .int .i64 av, .int .i64 an, .int .i64 bv, .int .i64 bn] #[.int .i64 0, .bool false, .slice none 0 0] 24 44 24
  replace hx := hx.later hb0 hB
  have HSZ := hid hsz
  obtain ⟨p0_0, p0_1, p0_2, p0_f⟩ := octbox p0
  obtain ⟨p1_0, p1_1, p1_2, p1_3, p1_4, p1_5, p1_6, p1_7, p1_8, p1_9, p1_f⟩ := edgbox p1
  go_enter Tryz.func139, Tryz.ntmps139
  go_upto_region 2 with fail
  clear p0_0 p0_1 p0_2 p0_f p1_0 p1_1 p1_2 p1_3 p1_4 p1_5 p1_6 p1_7 p1_8 p1_9 p1_f
  generalize ((w.alloc (Obj.cells #[.int .i64 n, .bool false, .slice A m.length cap] 24)).alloc (Obj.cells #[.int .i64 fr, .int .i64 te, .int .i64 4, .int .i64 dst, .int .i64 arr, .int .i64 op, .int .i64 av, .int .i64 an, .int .i64 bv, .int .i64 bn] 44)).alloc (Obj.cells #[.int .i64 0, .bool false, .slice none 0 0] 24) = w1 at *
  go_cut [6, 7] (fun s6 s7 W => ∃ g6 g7 : Nat, s6 = .pointer (some ⟨g6, 0, none⟩) ∧ s7 = .pointer (some ⟨g7, 0, none⟩) ∧ Blk W g6 26 #[.int .i64 av, .int .i64 an] ∧ Blk W g7 26 #[.int .i64 bv, .int .i64 bn] ∧ Below w1.heap.size w1 W)
  case first =>
    obtain ⟨p1_0, p1_1, p1_2, p1_3, p1_4, p1_5, p1_6, p1_7, p1_8, p1_9, p1_f⟩ := edgbox p1
    go_region_held3 (fun W => W.cell? ⟨w.heap.size + 1, 6, none⟩ = some (.int .i64 av) ∧ W.cell? ⟨w.heap.size + 1, 7, none⟩ = some (.int .i64 an) ∧ W.cell? ⟨w.heap.size + 1, 8, none⟩ = some (.int .i64 bv) ∧ W.cell? ⟨w.heap.size + 1, 9, none⟩ = some (.int .i64 bn)) (go_keep) (fail)
    all_goals (go_wp2_with fail; go_meet)
    · obtain ⟨q1, q2, q3⟩ := two_drew w1 hsz #[.int .i64 av, .int .i64 an] #[.int .i64 bv, .int .i64 bn] 26 26
      exact ⟨_, _, rfl, rfl, q1, q2, q3⟩
    · obtain ⟨q1, q2, q3⟩ := two_drew w1 hsz #[.int .i64 bv, .int .i64 bn] #[.int .i64 av, .int .i64 an] 26 26
      exact ⟨_, _, rfl, rfl, q2, q1, q3⟩
  case rest =>
    obtain ⟨g6, g7, rfl, rfl, b6, b7, hbc⟩ := hcut
    have hB0 := Nat.le_trans hB hb0.size
    replace p0 := p0.later hbc
    replace p1 := p1.later hbc
    replace p2 := p2.later hbc
    replace hx := hx.later hbc (Nat.le_trans hB hb0.size)
    replace hb0 := bup hb0 hbc
    obtain ⟨p0_0, p0_1, p0_2, p0_f⟩ := octbox p0
    obtain ⟨p1_0, p1_1, p1_2, p1_3, p1_4, p1_5, p1_6, p1_7, p1_8, p1_9, p1_f⟩ := edgbox p1
    obtain ⟨b6_0, b6_1, b6_f⟩ := opbox b6
    obtain ⟨b7_0, b7_1, b7_f⟩ := opbox b7
    go_wp2_with fail
    clear p0_0 p0_1 p0_2 p0_f p1_0 p1_1 p1_2 p1_3 p1_4 p1_5 p1_6 p1_7 p1_8 p1_9 p1_f b6_0 b6_1 b6_f b7_0 b7_1 b7_f
    have hB1 := Nat.le_trans hB hb0.size
    (with_reducible refine (HP.out wc hB1 hx).mono ?_)
    rintro e_w2 w2 ⟨A2, c2, rfl, sx2, hb_w2⟩
    replace p0 := p0.later hb_w2
    replace p1 := p1.later hb_w2
    replace p2 := p2.later hb_w2
    replace b6 := b6.later hb_w2
    replace b7 := b7.later hb_w2
    replace hx := hx.later hb_w2 (Nat.le_trans hB hb0.size)
    replace hb0 := bup hb0 hb_w2
    obtain ⟨p2_0, p2_1, p2_2, p2_f⟩ := octbox p2
    go_wp2
    clear p2_0 p2_1 p2_2 p2_f
    have hBz := hb0.size
    have s9 := sx2.far3 (g := w.heap.size + 1 + 1) (v0 := .int .i64 R.n) (v1 := .bool R.e) (v2 := .slice A2 R.m.length c2) (by omega) p2 (by decide)
    have q9 := p2.set3 (v0 := .int .i64 R.n) (v1 := .bool R.e) (v2 := .slice A2 R.m.length c2)
    have hb9 := hb0.trans (below3 (W := w2) (g := w.heap.size + 1 + 1) (v0 := .int .i64 R.n) (v1 := .bool R.e) (v2 := .slice A2 R.m.length c2) (by omega) hb0.size)
    obtain ⟨z0, z1, z2, fz⟩ := octbox q9
    refine bodyPost_ret (v := .agg #[.int .i64 R.n, .bool R.e, .slice A2 R.m.length c2]) (by simp [results, Tryz.results139, go_sem, z0, z1, z2]) rfl ?_
    exact ⟨_, _, rfl, s9, hb9⟩

set_option maxRecDepth 8000 in
set_option maxHeartbeats 4000000 in
theorem tadds_5 (n : Int) (m : List Int) (fr te dst arr op av an bv bn : Int) (_ia : I64 an) (ib : I64 bn) (h0 : 0 ≤ av) (h1 : bv < 0) (hbn : bn ≠ -9223372036854775808) (A : Option Addr) (cap : Nat) (w : World) (B : Nat) (hB : B ≤ w.heap.size) (hx : Sx w B A m) (R : O)
    (P : ∀ W, B ≤ W.heap.size → Sx W B A m → Calls Tryz.prog 197 #[.agg #[.int .i64 n, .bool false, .slice A m.length cap], .int .i64 dst, .int .i64 av, .int .i64 (-bn)] W (SxRes W B R)) :
    Calls Tryz.prog 139 #[.agg #[.int .i64 n, .bool false, .slice A m.length cap], .agg #[.int .i64 fr, .int .i64 te, .int .i64 5, .int .i64 dst, .int .i64 arr, .int .i64 op, .int .i64 av, .int .i64 an, .int .i64 bv, .int .i64 bn]] w (SxRes w B R) := by
  have t1 : decide (0 ≤ av) = true := by rw [decide_eq_true_eq]; omega
  have t2 : decide (0 ≤ bv) = false := by rw [decide_eq_false_iff_not]; omega
  have t3 : decide (av < 0) = false := by rw [decide_eq_false_iff_not]; omega
  have HP := hid P
  clear P
  obtain ⟨p0, p1, p2, hb0, hsz⟩ := new_three w #[.int .i64 n, .bool false, .slice A m.length cap] #[.int .i64 fr, .int .i64 te, .int .i64 5, .int .i64 dst, .int .i64 arr, .int .i64 op, .int .i64 av, .int .i64 an, .int .i64 bv, .int .i64 bn] #[.int .i64 0, .bool false, .slice none 0 0] 24 44 24
  replace hx := hx.later hb0 hB
  have HSZ := hid hsz
  obtain ⟨p0_0, p0_1, p0_2, p0_f⟩ := octbox p0
  obtain ⟨p1_0, p1_1, p1_2, p1_3, p1_4, p1_5, p1_6, p1_7, p1_8, p1_9, p1_f⟩ := edgbox p1
  go_enter Tryz.func139, Tryz.ntmps139
  go_upto_region 2 with fail
  clear p0_0 p0_1 p0_2 p0_f p1_0 p1_1 p1_2 p1_3 p1_4 p1_5 p1_6 p1_7 p1_8 p1_9 p1_f
  generalize ((w.alloc (Obj.cells #[.int .i64 n, .bool false, .slice A m.length cap] 24)).alloc (Obj.cells #[.int .i64 fr, .int .i64 te, .int .i64 5, .int .i64 dst, .int .i64 arr, .int .i64 op, .int .i64 av, .int .i64 an, .int .i64 bv, .int .i64 bn] 44)).alloc (Obj.cells #[.int .i64 0, .bool false, .slice none 0 0] 24) = w1 at *
  go_cut [6, 7] (fun s6 s7 W => ∃ g6 g7 : Nat, s6 = .pointer (some ⟨g6, 0, none⟩) ∧ s7 = .pointer (some ⟨g7, 0, none⟩) ∧ Blk W g6 26 #[.int .i64 av, .int .i64 an] ∧ Blk W g7 26 #[.int .i64 bv, .int .i64 bn] ∧ Below w1.heap.size w1 W)
  case first =>
    obtain ⟨p1_0, p1_1, p1_2, p1_3, p1_4, p1_5, p1_6, p1_7, p1_8, p1_9, p1_f⟩ := edgbox p1
    go_region_held3 (fun W => W.cell? ⟨w.heap.size + 1, 6, none⟩ = some (.int .i64 av) ∧ W.cell? ⟨w.heap.size + 1, 7, none⟩ = some (.int .i64 an) ∧ W.cell? ⟨w.heap.size + 1, 8, none⟩ = some (.int .i64 bv) ∧ W.cell? ⟨w.heap.size + 1, 9, none⟩ = some (.int .i64 bn)) (go_keep) (fail)
    all_goals (go_wp2_with fail; go_meet)
    · obtain ⟨q1, q2, q3⟩ := two_drew w1 hsz #[.int .i64 av, .int .i64 an] #[.int .i64 bv, .int .i64 bn] 26 26
      exact ⟨_, _, rfl, rfl, q1, q2, q3⟩
    · obtain ⟨q1, q2, q3⟩ := two_drew w1 hsz #[.int .i64 bv, .int .i64 bn] #[.int .i64 av, .int .i64 an] 26 26
      exact ⟨_, _, rfl, rfl, q2, q1, q3⟩
  case rest =>
    obtain ⟨g6, g7, rfl, rfl, b6, b7, hbc⟩ := hcut
    have hB0 := Nat.le_trans hB hb0.size
    replace p0 := p0.later hbc
    replace p1 := p1.later hbc
    replace p2 := p2.later hbc
    replace hx := hx.later hbc (Nat.le_trans hB hb0.size)
    replace hb0 := bup hb0 hbc
    obtain ⟨p0_0, p0_1, p0_2, p0_f⟩ := octbox p0
    obtain ⟨p1_0, p1_1, p1_2, p1_3, p1_4, p1_5, p1_6, p1_7, p1_8, p1_9, p1_f⟩ := edgbox p1
    obtain ⟨b6_0, b6_1, b6_f⟩ := opbox b6
    obtain ⟨b7_0, b7_1, b7_f⟩ := opbox b7
    go_wp2_with fail
    clear p0_0 p0_1 p0_2 p0_f p1_0 p1_1 p1_2 p1_3 p1_4 p1_5 p1_6 p1_7 p1_8 p1_9 p1_f b6_0 b6_1 b6_f b7_0 b7_1 b7_f
    have HNG := hid (show Calls Tryz.prog 198 #[.int .i64 bn] wc (fun e w' => e = .returned (.tuple #[.int .i64 (-bn), .int .i64 0]) ∧ wc = w') from by
      have h := nneg_any bn wc ib
      have e : negW bn = (-bn, 0) := by unfold negW; unfold I64 at ib; exact fit_in (by omega)
      rw [e] at h
      exact h)
    (with_reducible refine HNG.out.mono ?_)
    clear HNG
    rintro e_ng w_ng ⟨rfl, hw⟩
    subst w_ng
    obtain ⟨p0_0, p0_1, p0_2, p0_f⟩ := octbox p0
    obtain ⟨p1_0, p1_1, p1_2, p1_3, p1_4, p1_5, p1_6, p1_7, p1_8, p1_9, p1_f⟩ := edgbox p1
    obtain ⟨b6_0, b6_1, b6_f⟩ := opbox b6
    obtain ⟨b7_0, b7_1, b7_f⟩ := opbox b7
    go_wp2_with fail
    clear p0_0 p0_1 p0_2 p0_f p1_0 p1_1 p1_2 p1_3 p1_4 p1_5 p1_6 p1_7 p1_8 p1_9 p1_f b6_0 b6_1 b6_f b7_0 b7_1 b7_f
    have hB1 := Nat.le_trans hB hb0.size
    (with_reducible refine (HP.out wc hB1 hx).mono ?_)
    rintro e_w2 w2 ⟨A2, c2, rfl, sx2, hb_w2⟩
    replace p0 := p0.later hb_w2
    replace p1 := p1.later hb_w2
    replace p2 := p2.later hb_w2
    replace b6 := b6.later hb_w2
    replace b7 := b7.later hb_w2
    replace hx := hx.later hb_w2 (Nat.le_trans hB hb0.size)
    replace hb0 := bup hb0 hb_w2
    obtain ⟨p2_0, p2_1, p2_2, p2_f⟩ := octbox p2
    go_wp2
    clear p2_0 p2_1 p2_2 p2_f
    have hBz := hb0.size
    have s9 := sx2.far3 (g := w.heap.size + 1 + 1) (v0 := .int .i64 R.n) (v1 := .bool R.e) (v2 := .slice A2 R.m.length c2) (by omega) p2 (by decide)
    have q9 := p2.set3 (v0 := .int .i64 R.n) (v1 := .bool R.e) (v2 := .slice A2 R.m.length c2)
    have hb9 := hb0.trans (below3 (W := w2) (g := w.heap.size + 1 + 1) (v0 := .int .i64 R.n) (v1 := .bool R.e) (v2 := .slice A2 R.m.length c2) (by omega) hb0.size)
    obtain ⟨z0, z1, z2, fz⟩ := octbox q9
    refine bodyPost_ret (v := .agg #[.int .i64 R.n, .bool R.e, .slice A2 R.m.length c2]) (by simp [results, Tryz.results139, go_sem, z0, z1, z2]) rfl ?_
    exact ⟨_, _, rfl, s9, hb9⟩
end
section
open Go.RowKit
attribute [local go_sem ↓] Go.wp_at_zero Go.wp_at_succ

set_option maxRecDepth 8000 in
set_option maxHeartbeats 4000000 in
theorem tedge_11 (n : Int) (m : List Int) (fr te dst arr op av an bv bn : Int) (_ia : I64 an) (_ib : I64 bn)  (A : Option Addr) (cap : Nat) (w : World) (B : Nat) (hB : B ≤ w.heap.size) (hx : Sx w B A m) 
     :
    Calls Tryz.prog 68 #[.agg #[.int .i64 n, .bool false, .slice A m.length cap], .agg #[.int .i64 fr, .int .i64 te, .int .i64 11, .int .i64 dst, .int .i64 arr, .int .i64 op, .int .i64 av, .int .i64 an, .int .i64 bv, .int .i64 bn]] w (SxRes w B ⟨n, false, m⟩) := by
  have hx0 := hx
  cases ta : decide (av < 0) <;> cases tb : decide (bv < 0)
  all_goals
    obtain ⟨p0, p1, p2, hb0, hsz⟩ := new_three w #[.int .i64 n, .bool false, .slice A m.length cap] #[.int .i64 fr, .int .i64 te, .int .i64 11, .int .i64 dst, .int .i64 arr, .int .i64 op, .int .i64 av, .int .i64 an, .int .i64 bv, .int .i64 bn] #[.int .i64 0, .bool false, .slice none 0 0] 24 44 24
    replace hx := hx.later hb0 hB
    clear hsz
    obtain ⟨x0, x1, x2, fx⟩ := octbox p0
    obtain ⟨y0, y1, y2, y3, y4, y5, y6, y7, y8, y9, fy⟩ := edgbox p1
    obtain ⟨v0, v1, v2, fv⟩ := octbox p2
    go_enter Tryz.func68, Tryz.ntmps68
    go_wp2
    clear x0 x1 x2 fx y0 y1 y2 y3 y4 y5 y6 y7 y8 y9 fy v0 v1 v2 fv
    have hbX : ∀ W, Below w.heap.size w W → SxRes w B ⟨n, false, m⟩ (.returned (.agg #[.int .i64 n, .bool false, .slice A m.length cap])) W := fun W hW => ⟨A, cap, rfl, hx0.later hW hB, hW⟩
    refine bodyPost_ret (v := .agg #[.int .i64 n, .bool false, .slice A m.length cap]) (by simp [results, Tryz.results68, go_sem]) rfl (hbX _ ?_)
    repeat (first | exact Below.refl _ _ | refine Below.setCell ?_ (by simp; try omega) _ | refine Below.alloc ?_ (by simp; try omega) _)

set_option maxRecDepth 8000 in
set_option maxHeartbeats 4000000 in
theorem tedge_10 (n : Int) (m : List Int) (fr te dst arr op av an bv bn : Int) (_ia : I64 an) (_ib : I64 bn)  (A : Option Addr) (cap : Nat) (w : World) (B : Nat) (hB : B ≤ w.heap.size) (hx : Sx w B A m) (R : O)
    (P : ∀ W, B ≤ W.heap.size → Sx W B A m → Calls Tryz.prog 132 #[.agg #[.int .i64 n, .bool false, .slice A m.length cap], .int .i64 dst] W (SxRes W B R)) :
    Calls Tryz.prog 68 #[.agg #[.int .i64 n, .bool false, .slice A m.length cap], .agg #[.int .i64 fr, .int .i64 te, .int .i64 10, .int .i64 dst, .int .i64 arr, .int .i64 op, .int .i64 av, .int .i64 an, .int .i64 bv, .int .i64 bn]] w (SxRes w B R) := by
  have HP := hid P
  clear P
  have hx0 := hx
  cases ta : decide (av < 0) <;> cases tb : decide (bv < 0)
  all_goals
    obtain ⟨p0, p1, p2, hb0, hsz⟩ := new_three w #[.int .i64 n, .bool false, .slice A m.length cap] #[.int .i64 fr, .int .i64 te, .int .i64 10, .int .i64 dst, .int .i64 arr, .int .i64 op, .int .i64 av, .int .i64 an, .int .i64 bv, .int .i64 bn] #[.int .i64 0, .bool false, .slice none 0 0] 24 44 24
    replace hx := hx.later hb0 hB
    clear hsz
    obtain ⟨x0, x1, x2, fx⟩ := octbox p0
    obtain ⟨y0, y1, y2, y3, y4, y5, y6, y7, y8, y9, fy⟩ := edgbox p1
    go_enter Tryz.func68, Tryz.ntmps68
    go_wp2_with fail
    clear x0 x1 x2 fx y0 y1 y2 y3 y4 y5 y6 y7 y8 y9 fy
    generalize ((w.alloc (Obj.cells #[.int .i64 n, .bool false, .slice A m.length cap] 24)).alloc (Obj.cells #[.int .i64 fr, .int .i64 te, .int .i64 10, .int .i64 dst, .int .i64 arr, .int .i64 op, .int .i64 av, .int .i64 an, .int .i64 bv, .int .i64 bn] 44)).alloc (Obj.cells #[.int .i64 0, .bool false, .slice none 0 0] 24) = w1 at *
    have hB1 := Nat.le_trans hB hb0.size
    (with_reducible refine (HP.out w1 hB1 hx).mono ?_)
    rintro e_w2 w2 ⟨A2, c2, rfl, sx2, hb_w2⟩
    replace p0 := p0.later hb_w2
    replace p1 := p1.later hb_w2
    replace p2 := p2.later hb_w2
    replace hx := hx.later hb_w2 (Nat.le_trans hB hb0.size)
    replace hb0 := bup hb0 hb_w2
    obtain ⟨p2_0, p2_1, p2_2, p2_f⟩ := octbox p2
    go_wp2
    clear p2_0 p2_1 p2_2 p2_f
    have hBz := hb0.size
    have s9 := sx2.far3 (g := w.heap.size + 1 + 1) (v0 := .int .i64 R.n) (v1 := .bool R.e) (v2 := .slice A2 R.m.length c2) (by omega) p2 (by decide)
    have q9 := p2.set3 (v0 := .int .i64 R.n) (v1 := .bool R.e) (v2 := .slice A2 R.m.length c2)
    have hb9 := hb0.trans (below3 (W := w2) (g := w.heap.size + 1 + 1) (v0 := .int .i64 R.n) (v1 := .bool R.e) (v2 := .slice A2 R.m.length c2) (by omega) hb0.size)
    obtain ⟨z0, z1, z2, fz⟩ := octbox q9
    refine bodyPost_ret (v := .agg #[.int .i64 R.n, .bool R.e, .slice A2 R.m.length c2]) (by simp [results, Tryz.results68, go_sem, z0, z1, z2]) rfl ?_
    exact ⟨_, _, rfl, s9, hb9⟩

set_option maxRecDepth 8000 in
set_option maxHeartbeats 4000000 in
theorem tedge_2v (n : Int) (m : List Int) (fr te dst arr op an bv bn : Int) (_ia : I64 an) (_ib : I64 bn) (v : Nat) (hv : v ≤ 1000) (h1 : (v : Int) ≠ dst) (A : Option Addr) (cap : Nat) (w : World) (B : Nat) (hB : B ≤ w.heap.size) (hx : Sx w B A m) (R : O)
    (P : ∀ W, B ≤ W.heap.size → Sx W B A m → Calls Tryz.prog 134 #[.agg #[.int .i64 n, .bool false, .slice A m.length cap], .int .i64 dst, .int .i64 (2 * (v : Int))] W (SxRes W B R)) :
    Calls Tryz.prog 68 #[.agg #[.int .i64 n, .bool false, .slice A m.length cap], .agg #[.int .i64 fr, .int .i64 te, .int .i64 2, .int .i64 dst, .int .i64 arr, .int .i64 op, .int .i64 (v : Int), .int .i64 an, .int .i64 bv, .int .i64 bn]] w (SxRes w B R) := by
  have t_8 : decide ((v : Int) < 0) = false := by rw [decide_eq_false_iff_not]; omega
  have t_9 : ((v : Int) == -1) = false := by rw [beq_eq_false_iff_ne]; omega
  have t_10 : ((v : Int) == dst) = false := by rw [beq_eq_false_iff_ne]; omega
  have HH1 := hid h1
  clear h1
  have HP := hid P
  clear P
  have hx0 := hx
  cases tb : decide (bv < 0)
  all_goals
    obtain ⟨p0, p1, p2, hb0, hsz⟩ := new_three w #[.int .i64 n, .bool false, .slice A m.length cap] #[.int .i64 fr, .int .i64 te, .int .i64 2, .int .i64 dst, .int .i64 arr, .int .i64 op, .int .i64 (v : Int), .int .i64 an, .int .i64 bv, .int .i64 bn] #[.int .i64 0, .bool false, .slice none 0 0] 24 44 24
    replace hx := hx.later hb0 hB
    clear hsz
    obtain ⟨x0, x1, x2, fx⟩ := octbox p0
    obtain ⟨y0, y1, y2, y3, y4, y5, y6, y7, y8, y9, fy⟩ := edgbox p1
    go_enter Tryz.func68, Tryz.ntmps68
    go_upto_region 16 with fail
    clear x0 x1 x2 fx y0 y1 y2 y3 y4 y5 y6 y7 y8 y9 fy
    generalize ((w.alloc (Obj.cells #[.int .i64 n, .bool false, .slice A m.length cap] 24)).alloc (Obj.cells #[.int .i64 fr, .int .i64 te, .int .i64 2, .int .i64 dst, .int .i64 arr, .int .i64 op, .int .i64 (v : Int), .int .i64 an, .int .i64 bv, .int .i64 bn] 44)).alloc (Obj.cells #[.int .i64 0, .bool false, .slice none 0 0] 24) = w1 at *
    have f0 := later (show w1.cell? ⟨w.heap.size, 0, none⟩ = some (.int .i64 n) from p0.cell 0)
    have f1 := later (show w1.cell? ⟨w.heap.size, 1, none⟩ = some (.bool false) from p0.cell 1)
    have f2 := later (show w1.cell? ⟨w.heap.size, 2, none⟩ = some (.slice A m.length cap) from p0.cell 2)
    have g3 := later (show w1.cell? ⟨w.heap.size + 1, 3, none⟩ = some (.int .i64 dst) from p1.cell 3)
    have g6 := later (show w1.cell? ⟨w.heap.size + 1, 6, none⟩ = some (.int .i64 (v : Int)) from p1.cell 6)
    have g7 := later (show w1.cell? ⟨w.heap.size + 1, 7, none⟩ = some (.int .i64 an) from p1.cell 7)
    refine wp_region_flow 7 (fun X => Below w1.heap.size w1 X) (by kernel_rfl) (by kernel_rfl) (Below.refl _ _).drew ?_
    (repeat (first | (refine Flow.skip (by rfl) ?_; simp only [Act.put, List.setIfInBounds_toArray, List.set_cons_zero, List.set_cons_succ]) | (refine' Flow.take _ (by rfl) (fun W hW R hR => ?_) ?_; rotate_left; (go_simp; (try go_bits); with_reducible exact hR); simp only [Act.put, List.setIfInBounds_toArray, List.set_cons_zero, List.set_cons_succ])))
    (refine Flow.call 135 #[.int .i64 (v : Int)] (.int .i64 (2 * (v : Int))) (by rfl) (fun X hX => by go_simp) (fun X hX => (plus_ok v hv _).mono fun e' w' ⟨he, hw⟩ => ⟨by rw [he]; simp, hw ▸ hX⟩) ?_; simp only [Act.put, List.setIfInBounds_toArray, List.set_cons_zero, List.set_cons_succ])
    intro w2 hbf
    clear f0 f1 f2 g3 g6 g7
    have hBf := Nat.le_trans hB hb0.size
    replace p0 := p0.later hbf
    replace p1 := p1.later hbf
    replace p2 := p2.later hbf
    replace hx := hx.later hbf (Nat.le_trans hB hb0.size)
    replace hb0 := bup hb0 hbf
    clear hBf
    go_wp2_with fail
    have hB1 := Nat.le_trans hB hb0.size
    (with_reducible refine (HP.out w2 hB1 hx).mono ?_)
    rintro e_w3 w3 ⟨A2, c2, rfl, sx2, hb_w3⟩
    replace p0 := p0.later hb_w3
    replace p1 := p1.later hb_w3
    replace p2 := p2.later hb_w3
    replace hx := hx.later hb_w3 (Nat.le_trans hB hb0.size)
    replace hb0 := bup hb0 hb_w3
    obtain ⟨p2_0, p2_1, p2_2, p2_f⟩ := octbox p2
    go_wp2
    clear p2_0 p2_1 p2_2 p2_f
    have hBz := hb0.size
    have s9 := sx2.far3 (g := w.heap.size + 1 + 1) (v0 := .int .i64 R.n) (v1 := .bool R.e) (v2 := .slice A2 R.m.length c2) (by omega) p2 (by decide)
    have q9 := p2.set3 (v0 := .int .i64 R.n) (v1 := .bool R.e) (v2 := .slice A2 R.m.length c2)
    have hb9 := hb0.trans (below3 (W := w3) (g := w.heap.size + 1 + 1) (v0 := .int .i64 R.n) (v1 := .bool R.e) (v2 := .slice A2 R.m.length c2) (by omega) hb0.size)
    obtain ⟨z0, z1, z2, fz⟩ := octbox q9
    refine bodyPost_ret (v := .agg #[.int .i64 R.n, .bool R.e, .slice A2 R.m.length c2]) (by simp [results, Tryz.results68, go_sem, z0, z1, z2]) rfl ?_
    exact ⟨_, _, rfl, s9, hb9⟩

set_option maxRecDepth 8000 in
set_option maxHeartbeats 4000000 in
theorem tedge_4vn (n : Int) (m : List Int) (fr te dst arr op av an bv bn : Int) (_ia : I64 an) (_ib : I64 bn) (h0 : 0 ≤ av) (A : Option Addr) (cap : Nat) (w : World) (B : Nat) (hB : B ≤ w.heap.size) (hx : Sx w B A m) (R : O)
    (P : ∀ W, B ≤ W.heap.size → Sx W B A m → Calls Tryz.prog 139 #[.agg #[.int .i64 n, .bool false, .slice A m.length cap], .agg #[.int .i64 fr, .int .i64 te, .int .i64 4, .int .i64 dst, .int .i64 arr, .int .i64 op, .int .i64 av, .int .i64 an, .int .i64 bv, .int .i64 bn]] W (SxRes W B R)) :
    Calls Tryz.prog 68 #[.agg #[.int .i64 n, .bool false, .slice A m.length cap], .agg #[.int .i64 fr, .int .i64 te, .int .i64 4, .int .i64 dst, .int .i64 arr, .int .i64 op, .int .i64 av, .int .i64 an, .int .i64 bv, .int .i64 bn]] w (SxRes w B R) := by
  have t_3 : decide (av < 0) = false := by rw [decide_eq_false_iff_not]; omega
  have HP := hid P
  clear P
  have hx0 := hx
  cases tb : decide (bv < 0)
  all_goals
    obtain ⟨p0, p1, p2, hb0, hsz⟩ := new_three w #[.int .i64 n, .bool false, .slice A m.length cap] #[.int .i64 fr, .int .i64 te, .int .i64 4, .int .i64 dst, .int .i64 arr, .int .i64 op, .int .i64 av, .int .i64 an, .int .i64 bv, .int .i64 bn] #[.int .i64 0, .bool false, .slice none 0 0] 24 44 24
    replace hx := hx.later hb0 hB
    clear hsz
    obtain ⟨x0, x1, x2, fx⟩ := octbox p0
    obtain ⟨y0, y1, y2, y3, y4, y5, y6, y7, y8, y9, fy⟩ := edgbox p1
    go_enter Tryz.func68, Tryz.ntmps68
    go_wp2_with fail
    clear x0 x1 x2 fx y0 y1 y2 y3 y4 y5 y6 y7 y8 y9 fy
    generalize ((w.alloc (Obj.cells #[.int .i64 n, .bool false, .slice A m.length cap] 24)).alloc (Obj.cells #[.int .i64 fr, .int .i64 te, .int .i64 4, .int .i64 dst, .int .i64 arr, .int .i64 op, .int .i64 av, .int .i64 an, .int .i64 bv, .int .i64 bn] 44)).alloc (Obj.cells #[.int .i64 0, .bool false, .slice none 0 0] 24) = w1 at *
    have hB1 := Nat.le_trans hB hb0.size
    (with_reducible refine (HP.out w1 hB1 hx).mono ?_)
    rintro e_w2 w2 ⟨A2, c2, rfl, sx2, hb_w2⟩
    replace p0 := p0.later hb_w2
    replace p1 := p1.later hb_w2
    replace p2 := p2.later hb_w2
    replace hx := hx.later hb_w2 (Nat.le_trans hB hb0.size)
    replace hb0 := bup hb0 hb_w2
    obtain ⟨p2_0, p2_1, p2_2, p2_f⟩ := octbox p2
    go_wp2
    clear p2_0 p2_1 p2_2 p2_f
    have hBz := hb0.size
    have s9 := sx2.far3 (g := w.heap.size + 1 + 1) (v0 := .int .i64 R.n) (v1 := .bool R.e) (v2 := .slice A2 R.m.length c2) (by omega) p2 (by decide)
    have q9 := p2.set3 (v0 := .int .i64 R.n) (v1 := .bool R.e) (v2 := .slice A2 R.m.length c2)
    have hb9 := hb0.trans (below3 (W := w2) (g := w.heap.size + 1 + 1) (v0 := .int .i64 R.n) (v1 := .bool R.e) (v2 := .slice A2 R.m.length c2) (by omega) hb0.size)
    obtain ⟨z0, z1, z2, fz⟩ := octbox q9
    refine bodyPost_ret (v := .agg #[.int .i64 R.n, .bool R.e, .slice A2 R.m.length c2]) (by simp [results, Tryz.results68, go_sem, z0, z1, z2]) rfl ?_
    exact ⟨_, _, rfl, s9, hb9⟩

set_option maxRecDepth 8000 in
set_option maxHeartbeats 4000000 in
theorem tedge_5vn (n : Int) (m : List Int) (fr te dst arr op av an bv bn : Int) (_ia : I64 an) (_ib : I64 bn) (h0 : 0 ≤ av) (A : Option Addr) (cap : Nat) (w : World) (B : Nat) (hB : B ≤ w.heap.size) (hx : Sx w B A m) (R : O)
    (P : ∀ W, B ≤ W.heap.size → Sx W B A m → Calls Tryz.prog 139 #[.agg #[.int .i64 n, .bool false, .slice A m.length cap], .agg #[.int .i64 fr, .int .i64 te, .int .i64 5, .int .i64 dst, .int .i64 arr, .int .i64 op, .int .i64 av, .int .i64 an, .int .i64 bv, .int .i64 bn]] W (SxRes W B R)) :
    Calls Tryz.prog 68 #[.agg #[.int .i64 n, .bool false, .slice A m.length cap], .agg #[.int .i64 fr, .int .i64 te, .int .i64 5, .int .i64 dst, .int .i64 arr, .int .i64 op, .int .i64 av, .int .i64 an, .int .i64 bv, .int .i64 bn]] w (SxRes w B R) := by
  have t_3 : decide (av < 0) = false := by rw [decide_eq_false_iff_not]; omega
  have HP := hid P
  clear P
  have hx0 := hx
  cases tb : decide (bv < 0)
  all_goals
    obtain ⟨p0, p1, p2, hb0, hsz⟩ := new_three w #[.int .i64 n, .bool false, .slice A m.length cap] #[.int .i64 fr, .int .i64 te, .int .i64 5, .int .i64 dst, .int .i64 arr, .int .i64 op, .int .i64 av, .int .i64 an, .int .i64 bv, .int .i64 bn] #[.int .i64 0, .bool false, .slice none 0 0] 24 44 24
    replace hx := hx.later hb0 hB
    clear hsz
    obtain ⟨x0, x1, x2, fx⟩ := octbox p0
    obtain ⟨y0, y1, y2, y3, y4, y5, y6, y7, y8, y9, fy⟩ := edgbox p1
    go_enter Tryz.func68, Tryz.ntmps68
    go_wp2_with fail
    clear x0 x1 x2 fx y0 y1 y2 y3 y4 y5 y6 y7 y8 y9 fy
    generalize ((w.alloc (Obj.cells #[.int .i64 n, .bool false, .slice A m.length cap] 24)).alloc (Obj.cells #[.int .i64 fr, .int .i64 te, .int .i64 5, .int .i64 dst, .int .i64 arr, .int .i64 op, .int .i64 av, .int .i64 an, .int .i64 bv, .int .i64 bn] 44)).alloc (Obj.cells #[.int .i64 0, .bool false, .slice none 0 0] 24) = w1 at *
    have hB1 := Nat.le_trans hB hb0.size
    (with_reducible refine (HP.out w1 hB1 hx).mono ?_)
    rintro e_w2 w2 ⟨A2, c2, rfl, sx2, hb_w2⟩
    replace p0 := p0.later hb_w2
    replace p1 := p1.later hb_w2
    replace p2 := p2.later hb_w2
    replace hx := hx.later hb_w2 (Nat.le_trans hB hb0.size)
    replace hb0 := bup hb0 hb_w2
    obtain ⟨p2_0, p2_1, p2_2, p2_f⟩ := octbox p2
    go_wp2
    clear p2_0 p2_1 p2_2 p2_f
    have hBz := hb0.size
    have s9 := sx2.far3 (g := w.heap.size + 1 + 1) (v0 := .int .i64 R.n) (v1 := .bool R.e) (v2 := .slice A2 R.m.length c2) (by omega) p2 (by decide)
    have q9 := p2.set3 (v0 := .int .i64 R.n) (v1 := .bool R.e) (v2 := .slice A2 R.m.length c2)
    have hb9 := hb0.trans (below3 (W := w2) (g := w.heap.size + 1 + 1) (v0 := .int .i64 R.n) (v1 := .bool R.e) (v2 := .slice A2 R.m.length c2) (by omega) hb0.size)
    obtain ⟨z0, z1, z2, fz⟩ := octbox q9
    refine bodyPost_ret (v := .agg #[.int .i64 R.n, .bool R.e, .slice A2 R.m.length c2]) (by simp [results, Tryz.results68, go_sem, z0, z1, z2]) rfl ?_
    exact ⟨_, _, rfl, s9, hb9⟩
end
section
open Go.RowKit
attribute [local go_sem ↓] Go.wp_at_zero Go.wp_at_succ

set_option maxRecDepth 8000 in
set_option maxHeartbeats 4000000 in
theorem tEdge_any (o : O) (fr te kd dst arr op av an bv bn : Int) (A : Option Addr) (cap : Nat) (w : World) (hx : Rd w w.heap.size A o.m) (hm : o.m.length ≤ 17592186044416) (B : Nat) (hB : B ≤ w.heap.size)
    (P : transErr o ⟨fr, te, kd, dst, arr, op, av, an, bv, bn⟩ = 0 → ∀ (N : Nat) (cm : List Int) (Ac : Option Addr) (cc : Nat) (W : World), (N : Int) = 2 * o.n → N ≤ 128 → Cells N cm → closeO o = ⟨o.n, false, cm⟩ → B ≤ W.heap.size → Sx W B Ac cm → cm.length ≤ 17592186044416 → Calls Tryz.prog 68 #[.agg #[.int .i64 o.n, .bool false, .slice Ac cm.length cc], .agg #[.int .i64 fr, .int .i64 te, .int .i64 kd, .int .i64 dst, .int .i64 arr, .int .i64 op, .int .i64 av, .int .i64 an, .int .i64 bv, .int .i64 bn]] W (SxRes W B (edgeO ⟨o.n, false, cm⟩ ⟨fr, te, kd, dst, arr, op, av, an, bv, bn⟩))) :
    Calls Tryz.prog 28 #[.agg #[.int .i64 o.n, .bool o.e, .slice A o.m.length cap], .agg #[.int .i64 fr, .int .i64 te, .int .i64 kd, .int .i64 dst, .int .i64 arr, .int .i64 op, .int .i64 av, .int .i64 an, .int .i64 bv, .int .i64 bn]] w (ErrSx w B (transAns o ⟨fr, te, kd, dst, arr, op, av, an, bv, bn⟩) (transErr o ⟨fr, te, kd, dst, arr, op, av, an, bv, bn⟩)) := by
  have HE : Hid (transErr o ⟨fr, te, kd, dst, arr, op, av, an, bv, bn⟩ = if check o ≠ 0 then check o else if rightT o.n ⟨fr, te, kd, dst, arr, op, av, an, bv, bn⟩ then 0 else 160) := hid rfl
  have HR : Hid (transAns o ⟨fr, te, kd, dst, arr, op, av, an, bv, bn⟩ = if transErr o ⟨fr, te, kd, dst, arr, op, av, an, bv, bn⟩ = 0 then transO o ⟨fr, te, kd, dst, arr, op, av, an, bv, bn⟩ else ⟨0, false, []⟩) := hid rfl
  have HP := hid P
  clear P
  have HRT : Hid (∀ W, Calls Tryz.prog 67 #[.agg #[.int .i64 fr, .int .i64 te, .int .i64 kd, .int .i64 dst, .int .i64 arr, .int .i64 op, .int .i64 av, .int .i64 an, .int .i64 bv, .int .i64 bn], .int .i64 o.n] W fun r w' => r = .returned (.bool (rightT o.n ⟨fr, te, kd, dst, arr, op, av, an, bv, bn⟩)) ∧ Below W.heap.size W w') := hid (fun W => tright_any o.n ⟨fr, te, kd, dst, arr, op, av, an, bv, bn⟩ W)
  have HTO : Hid (transO o ⟨fr, te, kd, dst, arr, op, av, an, bv, bn⟩ = if (closeO o).e then closeO o else edgeO (closeO o) ⟨fr, te, kd, dst, arr, op, av, an, bv, bn⟩) := hid rfl
  generalize transO o ⟨fr, te, kd, dst, arr, op, av, an, bv, bn⟩ = TO at *
  generalize transAns o ⟨fr, te, kd, dst, arr, op, av, an, bv, bn⟩ = R at *
  generalize transErr o ⟨fr, te, kd, dst, arr, op, av, an, bv, bn⟩ = E at *
  generalize hrb : rightT o.n ⟨fr, te, kd, dst, arr, op, av, an, bv, bn⟩ = rb at *
  clear hrb
  have HCK := hid (fun W (h : Rd W W.heap.size A o.m) => check_any o A cap W h (by omega))
  have HK : Hid (∃ k, k = check o) := hid ⟨_, rfl⟩
  obtain ⟨k, hk⟩ := HK.out
  rw [← hk] at HCK HE
  clear HK
  obtain ⟨p0, p1, p3, hb0, hsz⟩ := new_three w #[.int .i64 o.n, .bool o.e, .slice A o.m.length cap] #[.int .i64 fr, .int .i64 te, .int .i64 kd, .int .i64 dst, .int .i64 arr, .int .i64 op, .int .i64 av, .int .i64 an, .int .i64 bv, .int .i64 bn] #[.int .i64 0, .bool false, .slice none 0 0] 24 44 24
  replace hx := hx.up hb0
  have HSZ := hid hsz
  clear hsz
  have HKK := hid hk
  clear hk
  obtain ⟨p0_0, p0_1, p0_2, p0_f⟩ := octbox p0
  go_enter Tryz.func28, Tryz.ntmps28
  go_wp2_with fail
  clear p0_0 p0_1 p0_2 p0_f
  generalize ((w.alloc (Obj.cells #[.int .i64 o.n, .bool o.e, .slice A o.m.length cap] 24)).alloc (Obj.cells #[.int .i64 fr, .int .i64 te, .int .i64 kd, .int .i64 dst, .int .i64 arr, .int .i64 op, .int .i64 av, .int .i64 an, .int .i64 bv, .int .i64 bn] 44)).alloc (Obj.cells #[.int .i64 0, .bool false, .slice none 0 0] 24) = w1 at *
  (with_reducible refine (HCK.out w1 hx).mono ?_)
  rintro e_w2 w2 ⟨rfl, hb_w2⟩
  replace p0 := p0.later hb_w2
  replace p1 := p1.later hb_w2
  replace p3 := p3.later hb_w2
  replace hx := hx.up hb_w2
  replace hb0 := bup hb0 hb_w2
  cases t1 : (k != 0)
  rotate_left
  · have hk0 : k ≠ 0 := by simpa using t1
    have e1 : E = k := by rw [HE.out, if_pos hk0]
    have e2 : R = ⟨0, false, []⟩ := by rw [HR.out, e1, if_neg hk0]
    subst e2
    clear HR HE hk0
    subst e1
    obtain ⟨p3_0, p3_1, p3_2, p3_f⟩ := octbox p3
    go_wp2
    clear p3_0 p3_1 p3_2 p3_f
    have hBz := hb0.size
    have q9 := p3.set3 (v0 := .int .i64 0) (v1 := .bool false) (v2 := .slice none 0 0)
    have hb9 := hb0.trans (below3 (W := w2) (g := w.heap.size + 1 + 1) (v0 := .int .i64 0) (v1 := .bool false) (v2 := .slice none 0 0) (by omega) hb0.size)
    obtain ⟨z0, z1, z2, fz⟩ := octbox q9
    refine bodyPost_ret (v := .tuple #[.agg #[.int .i64 0, .bool false, .slice none 0 0], .int .i64 E]) (by simp [results, Tryz.results28, go_sem, z0, z1, z2]) rfl ?_
    exact ⟨none, 0, rfl, sx_nil _ _, hb9⟩
  · have hk0 : k = 0 := by simpa using t1
    subst hk0
    have hck : check o = 0 := HKK.out.symm
    have HCK0 := hid hck
    clear hck t1
    replace HE : Hid (E = if rb then 0 else 160) := hid (by rw [HE.out, if_neg (by simp)])
    obtain ⟨p0_0, p0_1, p0_2, p0_f⟩ := octbox p0
    obtain ⟨p1_0, p1_1, p1_2, p1_3, p1_4, p1_5, p1_6, p1_7, p1_8, p1_9, p1_f⟩ := edgbox p1
    go_wp2_with fail
    clear p0_0 p0_1 p0_2 p0_f p1_0 p1_1 p1_2 p1_3 p1_4 p1_5 p1_6 p1_7 p1_8 p1_9 p1_f
    (with_reducible refine (HRT.out w2).mono ?_)
    rintro e_w3 w3 ⟨rfl, hb_w3⟩
    replace p0 := p0.later hb_w3
    replace p1 := p1.later hb_w3
    replace p3 := p3.later hb_w3
    replace hx := hx.up hb_w3
    replace hb0 := bup hb0 hb_w3
    cases rb
    · have e1 : E = 160 := by rw [HE.out]; rfl
      have e2 : R = ⟨0, false, []⟩ := by rw [HR.out, e1, if_neg (by omega)]
      subst e2
      clear HR HE HP
      subst e1
      obtain ⟨p3_0, p3_1, p3_2, p3_f⟩ := octbox p3
      go_wp2
      clear p3_0 p3_1 p3_2 p3_f
      have hBz := hb0.size
      have q9 := p3.set3 (v0 := .int .i64 0) (v1 := .bool false) (v2 := .slice none 0 0)
      have hb9 := hb0.trans (below3 (W := w3) (g := w.heap.size + 1 + 1) (v0 := .int .i64 0) (v1 := .bool false) (v2 := .slice none 0 0) (by omega) hb0.size)
      obtain ⟨z0, z1, z2, fz⟩ := octbox q9
      refine bodyPost_ret (v := .tuple #[.agg #[.int .i64 0, .bool false, .slice none 0 0], .int .i64 160]) (by simp [results, Tryz.results28, go_sem, z0, z1, z2]) rfl ?_
      exact ⟨none, 0, rfl, sx_nil _ _, hb9⟩
    · have e1 : E = 0 := by rw [HE.out]; rfl
      replace HR : Hid (R = if (closeO o).e then closeO o else edgeO (closeO o) ⟨fr, te, kd, dst, arr, op, av, an, bv, bn⟩) := hid (by rw [HR.out, e1, if_pos rfl, HTO.out])
      clear HE HTO
      subst e1
      obtain ⟨p0_0, p0_1, p0_2, p0_f⟩ := octbox p0
      go_wp2_with fail
      clear p0_0 p0_1 p0_2 p0_f
      have hle : w.heap.size ≤ w3.heap.size := hb0.size
      have hBc := Nat.le_trans hB hle
      (with_reducible refine (tclosed_ok o HCK0.out A cap w3 hx hm).mono ?_)
      rintro e_w4 w4 ⟨Ac, cc, rfl, ownc, hb_w4⟩
      have sxc := Sx.of_own ownc hBc
      replace p0 := p0.later hb_w4
      replace p1 := p1.later hb_w4
      replace p3 := p3.later hb_w4
      replace hx := hx.up hb_w4
      replace hb0 := bup hb0 hb_w4
      have okc : OkO o.n (closeO o) := OkO.close ⟨rfl, HCK0.out⟩
      have hmc := OkO.small okc
      rcases okc.form with hE | ⟨N, cm, hN, hn, hE, hc⟩
      · replace HR : Hid (R = emptyO o.n) := hid (by rw [HR.out, hE]; rfl)
        rw [hE] at sxc ⊢
        unfold emptyO at *
        dsimp only at *
        replace sxc : Sx w4 B Ac [] := sxc
        clear hE hmc okc HP
        simp only [List.length_nil]
        obtain ⟨p5, hbn, -⟩ := new_one w4 #[.int .i64 o.n, .bool true, .slice Ac 0 cc] 24
        replace p0 := p0.later hbn
        replace p1 := p1.later hbn
        replace p3 := p3.later hbn
        replace sxc := sxc.later hbn (Nat.le_trans hB hb0.size)
        replace hx := hx.up hbn
        replace hb0 := bup hb0 hbn
        obtain ⟨p5_0, p5_1, p5_2, p5_f⟩ := octbox p5
        obtain ⟨p3_0, p3_1, p3_2, p3_f⟩ := octbox p3
        go_wp2
        clear p5_0 p5_1 p5_2 p5_f p3_0 p3_1 p3_2 p3_f
        generalize w4.alloc (Obj.cells #[.int .i64 o.n, .bool true, .slice Ac 0 cc] 24) = w5 at *
        have hBz := hb0.size
        have s9 := sxc.far3 (g := w.heap.size + 1 + 1) (v0 := .int .i64 o.n) (v1 := .bool true) (v2 := .slice Ac 0 cc) (by omega) p3 (by decide)
        rw [HR.out]
        have q9 := p3.set3 (v0 := .int .i64 o.n) (v1 := .bool true) (v2 := .slice Ac 0 cc)
        have hb9 := hb0.trans (below3 (W := w5) (g := w.heap.size + 1 + 1) (v0 := .int .i64 o.n) (v1 := .bool true) (v2 := .slice Ac 0 cc) (by omega) hb0.size)
        obtain ⟨z0, z1, z2, fz⟩ := octbox q9
        refine bodyPost_ret (v := .tuple #[.agg #[.int .i64 o.n, .bool true, .slice Ac 0 cc], .int .i64 0]) (by simp [results, Tryz.results28, go_sem, z0, z1, z2]) rfl ?_
        exact ⟨_, _, rfl, s9, hb9⟩
      · replace HR : Hid (R = edgeO ⟨o.n, false, cm⟩ ⟨fr, te, kd, dst, arr, op, av, an, bv, bn⟩) := hid (by rw [HR.out, hE]; rfl)
        rw [hE] at sxc hmc ⊢
        dsimp only at *
        have HP2 := hid (fun W h1 h2 => HP.out (by first | rfl | trivial) N cm Ac cc W hN hn hc hE h1 h2 hmc)
        clear hE okc HP
        obtain ⟨p5, hbn, -⟩ := new_one w4 #[.int .i64 o.n, .bool false, .slice Ac cm.length cc] 24
        replace p0 := p0.later hbn
        replace p1 := p1.later hbn
        replace p3 := p3.later hbn
        replace sxc := sxc.later hbn (Nat.le_trans hB hb0.size)
        replace hx := hx.up hbn
        replace hb0 := bup hb0 hbn
        obtain ⟨p5_0, p5_1, p5_2, p5_f⟩ := octbox p5
        obtain ⟨p1_0, p1_1, p1_2, p1_3, p1_4, p1_5, p1_6, p1_7, p1_8, p1_9, p1_f⟩ := edgbox p1
        go_wp2_with fail
        clear p5_0 p5_1 p5_2 p5_f p1_0 p1_1 p1_2 p1_3 p1_4 p1_5 p1_6 p1_7 p1_8 p1_9 p1_f
        generalize w4.alloc (Obj.cells #[.int .i64 o.n, .bool false, .slice Ac cm.length cc] 24) = w5 at *
        have hBd := Nat.le_trans hB hb0.size
        (with_reducible refine (HP2.out w5 hBd sxc).mono ?_)
        rintro e_w6 w6 ⟨A2, c2, rfl, sx2, hb_w6⟩
        replace p0 := p0.later hb_w6
        replace p1 := p1.later hb_w6
        replace p3 := p3.later hb_w6
        replace p5 := p5.later hb_w6
        replace sxc := sxc.later hb_w6 (Nat.le_trans hB hb0.size)
        replace hx := hx.up hb_w6
        replace hb0 := bup hb0 hb_w6
        rw [← HR.out] at sx2 ⊢
        obtain ⟨p3_0, p3_1, p3_2, p3_f⟩ := octbox p3
        go_wp2
        clear p3_0 p3_1 p3_2 p3_f
        have hBz := hb0.size
        have s9 := sx2.far3 (g := w.heap.size + 1 + 1) (v0 := .int .i64 R.n) (v1 := .bool R.e) (v2 := .slice A2 R.m.length c2) (by omega) p3 (by decide)
        have q9 := p3.set3 (v0 := .int .i64 R.n) (v1 := .bool R.e) (v2 := .slice A2 R.m.length c2)
        have hb9 := hb0.trans (below3 (W := w6) (g := w.heap.size + 1 + 1) (v0 := .int .i64 R.n) (v1 := .bool R.e) (v2 := .slice A2 R.m.length c2) (by omega) hb0.size)
        obtain ⟨z0, z1, z2, fz⟩ := octbox q9
        refine bodyPost_ret (v := .tuple #[.agg #[.int .i64 R.n, .bool R.e, .slice A2 R.m.length c2], .int .i64 0]) (by simp [results, Tryz.results28, go_sem, z0, z1, z2]) rfl ?_
        exact ⟨_, _, rfl, s9, hb9⟩
end
end Go.Proofs.YtnmpgijiimglcaaGreat
