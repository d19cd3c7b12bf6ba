/-
  widen.above, its two functions, the two closures of Widen and Narrow; the reference's step.
-/
import Derived.Test.YtofmidhkiobldaaOwn
import Derived.Test.YtofmidhkiobldaaRefBound
namespace Go.Proofs.Ytofmidhkiobldaa
open Go.RowKit

def fOf (tw : Bool) (s : Int) : Int := if tw then plus s s else near s
def aboveGo (f : Int → Int) (y : Int) (out : Int) (s : Int) : Int := if y ≤ f s then min out (f s) else out
def aboveF (f : Int → Int) (steps : List Int) (y : Int) : Int := steps.foldl (aboveGo f y) 9223372036854775807
theorem aboveF_take (f : Int → Int) (steps : List Int) (y : Int) {k : Nat} (h : k < steps.length) : aboveF f (steps.take (k + 1)) y = aboveGo f y (aboveF f (steps.take k) y) (gI steps k) := by
  unfold aboveF
  rw [show steps.take (k + 1) = steps.take k ++ [gI steps k] by rw [List.take_succ_eq_append_getElem h]; unfold gI; simp [h], List.foldl_append]; rfl

def widenF (steps : List Int) (x y : Int) (s : Bool) : Int := if y ≤ x then x else if s then aboveF (fun s => plus s s) steps y else aboveF near steps y

end Go.Proofs.Ytofmidhkiobldaa
