/-
  gnomonref22.Widen: what a call answers, of octagons that may be.
-/
import Derived.Test.YtofmidhkiobldaaRefNarrow
namespace Go.Proofs.Ytofmidhkiobldaa
open Go.RowKit
attribute [local go_sem ↓] Go.wp_at_zero Go.wp_at_succ

theorem fOf_true : fOf true = fun s => plus s s := by funext s; unfold fOf; rw [if_pos rfl]
theorem fOf_false : fOf false = near := by funext s; unfold fOf; rw [if_neg (by simp)]
theorem widenF_gt {steps : List Int} {x y : Int} {s : Bool} (h : ¬ y ≤ x) : widenF steps x y s = aboveF (fOf s) steps y := by
  unfold widenF; rw [if_neg h]
  cases s
  · rw [if_neg (by simp), fOf_false]
  · rw [if_pos rfl, fOf_true]
theorem widenF_le {steps : List Int} {x y : Int} {s : Bool} (h : y ≤ x) : widenF steps x y s = x := by unfold widenF; rw [if_pos h]

end Go.Proofs.Ytofmidhkiobldaa
