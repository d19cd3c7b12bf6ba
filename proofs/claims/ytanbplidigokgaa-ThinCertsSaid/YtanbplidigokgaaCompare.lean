/-
  cmp.Compare at int, slices.Compare at []int, dbm.cell.ahead: what each answers.
-/
import Derived.Test.YtanbplidigokgaaEqual
namespace Go.Proofs.Ytanbplidigokgaa
open Go.RowKit
attribute [local go_sem ↓] Go.wp_at_zero Go.wp_at_succ

def cmpI (a b : Int) : Int := if a < b then -1 else if b < a then 1 else 0
set_option maxHeartbeats 400000 in
theorem isnan_any (a : Int) (w : World) : Calls Try.prog 103 #[.int .i64 a] w fun e w' => e = .returned (.bool false) ∧ w = w' := by
  have t : (a != a) = false := by simp
  go_enter Try.func103, Try.ntmps103
  go_wp2
  go_ret
  exact ⟨rfl, rfl⟩
set_option maxHeartbeats 1000000 in
theorem cmpint_any (a b : Int) (w : World) : Calls Try.prog 100 #[.int .i64 a, .int .i64 b] w fun e w' => e = .returned (.int .i64 (cmpI a b)) ∧ w = w' := by
  unfold cmpI
  go_enter Try.func100, Try.ntmps100
  go_wp2_with fail
  refine (isnan_any a _).mono ?_
  rintro e1 w1 ⟨rfl, rfl⟩
  go_wp2_with fail
  refine (isnan_any b _).mono ?_
  rintro e1 w1 ⟨rfl, rfl⟩
  go_wp2
  all_goals (go_ret; exact ⟨by (repeat' split) <;> first | rfl | (exfalso; omega), rfl⟩)

/-- Two pairs held against each other. -/
def lex2 (a b c d : Int) : Int := if cmpI a c ≠ 0 then cmpI a c else cmpI b d
set_option maxHeartbeats 2000000 in
theorem slcmp2_any (a b c d : Int) (g g' cap cap' : Nat) (w : World) (h0 : w.cell? ⟨g, 0, none⟩ = some (.int .i64 a)) (h1 : w.cell? ⟨g, 1, none⟩ = some (.int .i64 b)) (k0 : w.cell? ⟨g', 0, none⟩ = some (.int .i64 c)) (k1 : w.cell? ⟨g', 1, none⟩ = some (.int .i64 d)) :
    Calls Try.prog 92 #[.slice (some ⟨g, 0, none⟩) 2 cap, .slice (some ⟨g', 0, none⟩) 2 cap'] w fun e w' => e = .returned (.int .i64 (lex2 a b c d)) ∧ w = w' := by
  by_cases h : cmpI a c = 0
  · have t : (cmpI a c != 0) = false := by rw [h]; rfl
    have hl : lex2 a b c d = cmpI b d := by unfold lex2; rw [if_neg (by simpa using h)]
    rw [hl]
    have H := hid h
    clear h hl
    by_cases h2 : cmpI b d = 0
    · have t2 : (cmpI b d != 0) = false := by rw [h2]; rfl
      rw [h2]
      have H2 := hid h2
      clear h2
      go_enter Try.func92, Try.ntmps92
      go_wp2
      refine wp_loop_rounds 3 ?_
      rw [rounds_succ]
      go_wp2_with (go_at_call 100; refine (cmpint_any a c _).mono ?_; rintro e1 w1 ⟨rfl, rfl⟩)
      rw [rounds_succ]
      go_wp2_with (go_at_call 100; refine (cmpint_any b d _).mono ?_; rintro e1 w1 ⟨rfl, rfl⟩)
      rw [rounds_succ]
      go_wp2
      go_ret
      exact ⟨rfl, rfl⟩
    · have t2 : (cmpI b d != 0) = true := by simpa using h2
      have H2 := hid h2
      clear h2
      go_enter Try.func92, Try.ntmps92
      go_wp2
      refine wp_loop_rounds 2 ?_
      rw [rounds_succ]
      go_wp2_with (go_at_call 100; refine (cmpint_any a c _).mono ?_; rintro e1 w1 ⟨rfl, rfl⟩)
      rw [rounds_succ]
      go_wp2_with (go_at_call 100; refine (cmpint_any b d _).mono ?_; rintro e1 w1 ⟨rfl, rfl⟩)
      go_ret
      exact ⟨rfl, rfl⟩
  · have t : (cmpI a c != 0) = true := by simpa using h
    have hl : lex2 a b c d = cmpI a c := by unfold lex2; rw [if_pos h]
    rw [hl]
    have H := hid h
    clear h hl
    go_enter Try.func92, Try.ntmps92
    go_wp2
    refine wp_loop_rounds 1 ?_
    rw [rounds_succ]
    go_wp2_with (go_at_call 100; refine (cmpint_any a c _).mono ?_; rintro e1 w1 ⟨rfl, rfl⟩)
    go_ret
    exact ⟨rfl, rfl⟩

def ltB (a b c d : Int) : Bool := decide (lex2 a b c d < 0)
set_option maxHeartbeats 1000000 in
theorem ahead_any (a b c d : Int) (w : World) :
    Calls Try.prog 73 #[.agg #[.int .i64 a, .int .i64 b], .agg #[.int .i64 c, .int .i64 d]] w (SomeB (ltB a b c d) w) := by
  have hb0 : Below w.heap.size w ((w.alloc (Obj.cells #[.int .i64 a, .int .i64 b] 93)).alloc (Obj.cells #[.int .i64 c, .int .i64 d] 93)) := ((Below.refl _ _).alloc (Nat.le_refl _) _).alloc (by simp) _
  obtain ⟨p0, p1⟩ := blk_two (w := w) (Below.refl _ ((w.alloc (Obj.cells #[.int .i64 a, .int .i64 b] 93)).alloc (Obj.cells #[.int .i64 c, .int .i64 d] 93)))
  go_enter Try.func73, Try.ntmps73
  go_wp2
  refine wp_region_flow 2 (fun W => Below w.heap.size w W ∧ W.cell? ⟨w.heap.size, 0, none⟩ = some (.int .i64 a) ∧ W.cell? ⟨w.heap.size, 1, none⟩ = some (.int .i64 b) ∧ W.cell? ⟨w.heap.size + 1, 0, none⟩ = some (.int .i64 c) ∧ W.cell? ⟨w.heap.size + 1, 1, none⟩ = some (.int .i64 d)) (by kernel_rfl) (by kernel_rfl) ⟨hb0.drew, p0.cell 0, p0.cell 1, p1.cell 0, p1.cell 1⟩ ?_
  (repeat (first | (refine Flow.skip (by rfl) ?_; simp only [Act.put, List.setIfInBounds_toArray, List.set_cons_zero, List.set_cons_succ]) | (refine' Flow.take _ (by rfl) (fun W hW R hR => ?_) ?_; rotate_left; (go_simp; (try go_bits); with_reducible exact hR); simp only [Act.put, List.setIfInBounds_toArray, List.set_cons_zero, List.set_cons_succ])))
  rintro W ⟨hb, h0, h1, k0, k1⟩
  obtain ⟨x, hx⟩ : ∃ x, x = lex2 a b c d := ⟨_, rfl⟩
  have HX := hid hx
  go_wp2_with fail
  refine (slcmp2_any a b c d _ _ _ _ W h0 h1 k0 k1).mono ?_
  rintro e1 w1 ⟨rfl, rfl⟩
  rw [← hx]
  clear hx
  go_wp2
  go_ret
  exact ⟨retb (by unfold ltB; rw [← HX.out]), hb⟩

theorem ltB_iff (a b c d : Int) : ltB a b c d = true ↔ a < c ∨ (a = c ∧ b < d) := by
  unfold ltB lex2 cmpI
  rw [decide_eq_true_eq]
  (repeat' split) <;> omega
/-- Is (i, j) not behind the cell across? -/
def firstB (i j : Nat) : Bool := decide (i < nx j ∨ (i = nx j ∧ j ≤ nx i))
theorem firstB_ahead (i j : Nat) : ltB ((nx j : Nat) : Int) ((nx i : Nat) : Int) (i : Int) (j : Int) = !firstB i j := by
  rw [Bool.eq_iff_iff, ltB_iff, Bool.not_eq_true', firstB, decide_eq_false_iff_not]
  omega
end Go.Proofs.Ytanbplidigokgaa
