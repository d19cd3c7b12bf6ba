/-
  order.Entails: what it answers.
-/
import Derived.Test.YtofmidhkiobldaaCloseLaw
namespace Go.Proofs.Ytofmidhkiobldaa
open Go.RowKit

def aboveB (xs ys : List Int) (k : Nat) : Bool := (List.range k).all fun i => decide (gI xs i ≤ gI ys i)
theorem aboveB_succ (xs ys : List Int) (k : Nat) : aboveB xs ys (k + 1) = (aboveB xs ys k && decide (gI xs k ≤ gI ys k)) := by
  unfold aboveB; rw [List.range_succ, List.all_append]; simp
theorem aboveB_no {xs ys : List Int} {k n : Nat} (hk : k < n) (h : gI ys k < gI xs k) : aboveB xs ys n = false := by
  unfold aboveB
  rw [List.all_eq_false]
  exact ⟨k, List.mem_range.2 hk, by simpa using h⟩
theorem aboveB_iff {xs ys : List Int} {n : Nat} : aboveB xs ys n = true ↔ ∀ k : Nat, k < n → gI xs k ≤ gI ys k := by
  unfold aboveB
  rw [List.all_eq_true]
  exact ⟨fun h k hk => by simpa using h k (List.mem_range.2 hk), fun h k hk => by simpa using h k (List.mem_range.1 hk)⟩
/-- Of octagons that may be, of one size. -/
def entailsF (a b : O) : Bool := if (closeO a).e || b.e then (closeO a).e else aboveB (closeO a).m b.m (closeO a).m.length
def entAns (a b : O) : Bool × Int := if pairErr a b = 0 then (entailsF a b, 0) else (false, pairErr a b)

theorem cells_pair {a b : O} (h : pairErr a b = 0) (hc : (closeO a).e = false) (hb : b.e = false) : (closeO a).m.length = b.m.length := by
  obtain ⟨k1, k2, k3⟩ := pair_ok h
  obtain ⟨h1, h2⟩ := closeO_len k1 hc
  obtain ⟨_, _, _, l1⟩ := check_ok k1
  obtain ⟨_, _, _, l2⟩ := check_ok k2
  have := l1 h2
  have := l2 hb
  rw [k3] at *
  omega

end Go.Proofs.Ytofmidhkiobldaa
