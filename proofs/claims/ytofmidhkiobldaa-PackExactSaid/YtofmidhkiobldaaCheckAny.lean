/-
  dbm.Check, whatever the octagon (its slice below 2^48 long).
-/
import Derived.Test.YtofmidhkiobldaaCheck
namespace Go.Proofs.Ytofmidhkiobldaa
open Go.RowKit

theorem check_n {o : O} (h : ¬ (0 ≤ o.n ∧ o.n ≤ 64)) : check o = 120 := by
  unfold check sizeBad; rw [decide_eq_false h]; rfl
theorem check_e1 {n : Int} {m : List Int} (h : 0 < m.length) : check ⟨n, true, m⟩ = 120 := by
  unfold check sizeBad; simp [h]
theorem check_e0 {n : Int} (h : 0 ≤ n ∧ n ≤ 64) : check ⟨n, true, []⟩ = 0 := by
  unfold check sizeBad; rw [decide_eq_true h]; rfl
theorem check_l {n : Int} {m : List Int} (h : ¬ (m.length : Int) = 4 * n * n) : check ⟨n, false, m⟩ = 120 := by
  unfold check sizeBad; simp [h]

set_option maxHeartbeats 1000000 in
theorem check_any (o : O) (A : Option Addr) (cap : Nat) (w : World) (hr : Rd w w.heap.size A o.m) (hm : o.m.length ≤ 281474976710656) :
    Calls Try.prog 34 #[.agg #[.int .i64 o.n, .bool o.e, .slice A o.m.length cap]] w fun e w' => e = .returned (.int .i64 (check o)) ∧ Below w.heap.size w w' := by
  obtain ⟨n, e, m⟩ := o
  dsimp only at *
  by_cases hn : 0 ≤ n ∧ n ≤ 64
  · have tn := decide_eq_true hn
    cases e
    · by_cases hl : (m.length : Int) = 4 * n * n
      · exact check_loops n m A cap w hr hm hn.1 hn.2 hl
      · have tl : ((m.length : Int) != 4 * n * n) = true := by simpa using hl
        obtain ⟨hn1, hn2⟩ := hn
        have tq : 0 ≤ 4 * n * n := Int.mul_nonneg (by omega) hn1
        have tq' : 4 * n * n ≤ 4 * 64 * 64 := Int.mul_le_mul (by omega) (by omega) hn1 (by omega)
        go_enter Try.func34, Try.ntmps34
        go_wp2_with (go_at_call 60; refine (dright_any _ _).mono ?_; rintro e w' ⟨rfl, rfl⟩)
        go_ret
        exact ⟨ret64 (check_l hl).symm, (Below.refl _ _).alloc (Nat.le_refl _) _⟩
    · by_cases hl : 0 < m.length
      · have tl : (0 : Int) < (m.length : Int) := by omega
        clear hn
        go_enter Try.func34, Try.ntmps34
        go_wp2_with (go_at_call 60; refine (dright_any _ _).mono ?_; rintro e w' ⟨rfl, rfl⟩)
        go_ret
        exact ⟨ret64 (check_e1 hl).symm, (Below.refl _ _).alloc (Nat.le_refl _) _⟩
      · have hl0 : m.length = 0 := by omega
        obtain rfl : m = [] := List.eq_nil_of_length_eq_zero hl0
        clear hl hl0
        go_enter Try.func34, Try.ntmps34
        go_wp2_with (go_at_call 60; refine (dright_any _ _).mono ?_; rintro e w' ⟨rfl, rfl⟩)
        go_ret
        exact ⟨ret64 (check_e0 hn).symm, (Below.refl _ _).alloc (Nat.le_refl _) _⟩
  · have tn := decide_eq_false hn
    go_enter Try.func34, Try.ntmps34
    go_wp2_with (go_at_call 60; refine (dright_any _ _).mono ?_; rintro e w' ⟨rfl, rfl⟩)
    go_ret
    exact ⟨ret64 (check_n hn).symm, (Below.refl _ _).alloc (Nat.le_refl _) _⟩
end Go.Proofs.Ytofmidhkiobldaa
