/-
  dbm.Check, whatever the octagon (its slice below 2^48 long).
  widen.right, order.right: what is wrong with two octagons.
  The reference's bounds (gnomonref11): what each call answers; no condition.
  widen.above, its two functions, the two closures of Widen and Narrow; the reference's step.
  widen.Widen, widen.Narrow: what each call answers.
-/
import Derived.Test.YtkncebcekhfnfaaGreatCheck
import Derived.Test.YtkncebcekhfnfaaGreatBWE02
import Derived.Test.YtkncebcekhfnfaaGreatBWE00
import Derived.Test.YtkncebcekhfnfaaGreatBWE04
namespace Go.Proofs.YtkncebcekhfnfaaGreat
section
open Go.RowKit

theorem check_n {o : O} (h : ¬ (0 ≤ o.n ∧ o.n ≤ 64)) : check o = 120 := by
  unfold check sizeBad; rw [decide_eq_false h]; rfl
theorem check_e1 {n : Int} {m : List Int} (h : 0 < m.length) : check ⟨n, true, m⟩ = 120 := by
  unfold check sizeBad; simp [h]
theorem check_e0 {n : Int} (h : 0 ≤ n ∧ n ≤ 64) : check ⟨n, true, []⟩ = 0 := by
  unfold check sizeBad; rw [decide_eq_true h]; rfl
theorem check_l {n : Int} {m : List Int} (h : ¬ (m.length : Int) = 4 * n * n) : check ⟨n, false, m⟩ = 120 := by
  unfold check sizeBad; simp [h]

set_option maxHeartbeats 1000000 in
theorem check_any (o : O) (A : Option Addr) (cap : Nat) (w : World) (hr : Rd w w.heap.size A o.m) (hm : o.m.length ≤ 281474976710656) :
    Calls Tryz.prog 48 #[.agg #[.int .i64 o.n, .bool o.e, .slice A o.m.length cap]] w fun e w' => e = .returned (.int .i64 (check o)) ∧ Below w.heap.size w w' := by
  obtain ⟨n, e, m⟩ := o
  dsimp only at *
  by_cases hn : 0 ≤ n ∧ n ≤ 64
  · have tn := decide_eq_true hn
    cases e
    · by_cases hl : (m.length : Int) = 4 * n * n
      · exact check_loops n m A cap w hr hm hn.1 hn.2 hl
      · have tl : ((m.length : Int) != 4 * n * n) = true := by simpa using hl
        obtain ⟨hn1, hn2⟩ := hn
        have tq : 0 ≤ 4 * n * n := Int.mul_nonneg (by omega) hn1
        have tq' : 4 * n * n ≤ 4 * 64 * 64 := Int.mul_le_mul (by omega) (by omega) hn1 (by omega)
        go_enter Tryz.func48, Tryz.ntmps48
        go_wp2_with (go_at_call 61; refine (dright_any _ _).mono ?_; rintro e w' ⟨rfl, rfl⟩)
        go_ret
        exact ⟨ret64 (check_l hl).symm, (Below.refl _ _).alloc (Nat.le_refl _) _⟩
    · by_cases hl : 0 < m.length
      · have tl : (0 : Int) < (m.length : Int) := by omega
        clear hn
        go_enter Tryz.func48, Tryz.ntmps48
        go_wp2_with (go_at_call 61; refine (dright_any _ _).mono ?_; rintro e w' ⟨rfl, rfl⟩)
        go_ret
        exact ⟨ret64 (check_e1 hl).symm, (Below.refl _ _).alloc (Nat.le_refl _) _⟩
      · have hl0 : m.length = 0 := by omega
        obtain rfl : m = [] := List.eq_nil_of_length_eq_zero hl0
        clear hl hl0
        go_enter Tryz.func48, Tryz.ntmps48
        go_wp2_with (go_at_call 61; refine (dright_any _ _).mono ?_; rintro e w' ⟨rfl, rfl⟩)
        go_ret
        exact ⟨ret64 (check_e0 hn).symm, (Below.refl _ _).alloc (Nat.le_refl _) _⟩
  · have tn := decide_eq_false hn
    go_enter Tryz.func48, Tryz.ntmps48
    go_wp2_with (go_at_call 61; refine (dright_any _ _).mono ?_; rintro e w' ⟨rfl, rfl⟩)
    go_ret
    exact ⟨ret64 (check_n hn).symm, (Below.refl _ _).alloc (Nat.le_refl _) _⟩
end
section

end
section
open Go.RowKit

set_option maxHeartbeats 400000 in
theorem ris_any (a : Int) (w : World) :
    Calls Tryz.prog 93 #[.int .i64 a] w fun e w' => e = .returned (.bool (isBound a)) ∧ w = w' := by
  go_enter Tryz.func93, Tryz.ntmps93
  go_wp2
  all_goals (go_ret; exact ⟨retb (by unfold isBound; rw [Bool.eq_iff_iff]; simp [*]; try omega), rfl⟩)
end
section

end
section
open Go.RowKit

theorem check_ok {o : O} (h : check o = 0) : 0 ≤ o.n ∧ o.n ≤ 64 ∧ (o.e = true → o.m = []) ∧ (o.e = false → (o.m.length : Int) = 4 * o.n * o.n) := by
  by_cases hs : sizeBad o = true
  · unfold check at h; rw [if_pos hs] at h; omega
  · unfold sizeBad at hs
    simp at hs
    obtain ⟨⟨⟨h1, h2⟩, h3⟩, h4⟩ := hs
    exact ⟨h1, h2, h3, h4⟩
end
end Go.Proofs.YtkncebcekhfnfaaGreat
