/-
  The plain law of a row of widenings: no cell goes down, none is below what came, each changes at most as often as there are steps, and once more.
-/
import Derived.Test.YtanbplidigokgaaRefWiden
namespace Go.Proofs.Ytanbplidigokgaa
open Go.RowKit

theorem countP_up {x x' : Int} (h : x < x') : ∀ (l : List Int), (l.countP fun u => decide (u ≤ x)) ≤ l.countP (fun u => decide (u ≤ x')) ∧ (x' ∈ l → (l.countP fun u => decide (u ≤ x)) + 1 ≤ l.countP (fun u => decide (u ≤ x')))
  | [] => ⟨by simp, fun hm => by simp at hm⟩
  | a :: t => by
    obtain ⟨i1, i2⟩ := countP_up h t
    simp only [List.countP_cons, decide_eq_true_eq]
    refine ⟨by split <;> split <;> omega, fun hm => ?_⟩
    rcases List.mem_cons.1 hm with rfl | hm
    · rw [if_neg (by omega), if_pos (Int.le_refl _)]; omega
    · have := i2 hm
      split <;> split <;> omega
def cnt (f : Int → Int) (steps : List Int) (v : Int) : Int := (((steps.map f ++ [9223372036854775807]).countP fun u => decide (u ≤ v) : Nat) : Int)
theorem cnt_le (f : Int → Int) (steps : List Int) (v : Int) : cnt f steps v ≤ (steps.length : Int) + 1 := by
  have := List.countP_le_length (p := fun u => decide (u ≤ v)) (l := steps.map f ++ [9223372036854775807])
  rw [List.length_append, List.length_map, List.length_singleton] at this
  unfold cnt
  omega
theorem cnt_nonneg (f : Int → Int) (steps : List Int) (v : Int) : 0 ≤ cnt f steps v := by unfold cnt; omega
theorem cnt_up {f : Int → Int} {steps : List Int} {x x' : Int} (h : x < x') (hm : x' ∈ steps.map f ++ [9223372036854775807]) : cnt f steps x + 1 ≤ cnt f steps x' := by
  have := (countP_up h _).2 hm
  unfold cnt
  omega
theorem aboveGo_fold (f : Int → Int) (y : Int) : ∀ (steps : List Int) (out : Int), y ≤ out → y ≤ steps.foldl (aboveGo f y) out ∧ (steps.foldl (aboveGo f y) out = out ∨ steps.foldl (aboveGo f y) out ∈ steps.map f)
  | [], out, h => ⟨h, .inl rfl⟩
  | s :: t, out, h => by
    simp only [List.foldl_cons, List.map_cons, List.mem_cons]
    have hg : y ≤ aboveGo f y out s ∧ (aboveGo f y out s = out ∨ aboveGo f y out s = f s) := by
      unfold aboveGo
      split
      · refine ⟨by omega, ?_⟩
        rcases Int.le_total out (f s) with q | q
        · exact .inl (Int.min_eq_left q)
        · exact .inr (Int.min_eq_right q)
      · exact ⟨h, .inl rfl⟩
    obtain ⟨h1, h2⟩ := aboveGo_fold f y t _ hg.1
    refine ⟨h1, ?_⟩
    rcases h2 with h2 | h2
    · rw [h2]
      rcases hg.2 with h3 | h3
      · exact .inl h3
      · exact .inr (.inl h3)
    · exact .inr (.inr h2)
theorem widenF_row {steps : List Int} {x y : Int} (s : Bool) (hy : y ≤ 9223372036854775807) :
    x ≤ widenF steps x y s ∧ y ≤ widenF steps x y s ∧ (widenF steps x y s = x ∨ cnt (fOf s) steps x + 1 ≤ cnt (fOf s) steps (widenF steps x y s)) := by
  by_cases h : y ≤ x
  · rw [widenF_le h]; exact ⟨Int.le_refl _, h, .inl rfl⟩
  · rw [widenF_gt h]
    obtain ⟨h1, h2⟩ := aboveGo_fold (fOf s) y steps 9223372036854775807 hy
    have e : aboveF (fOf s) steps y = steps.foldl (aboveGo (fOf s) y) 9223372036854775807 := by unfold aboveF; rfl
    rw [← e] at h1 h2
    refine ⟨by omega, h1, .inr (cnt_up (by omega) ?_)⟩
    rcases h2 with h2 | h2
    · rw [h2]; simp
    · exact List.mem_append_left _ h2
end Go.Proofs.Ytanbplidigokgaa
