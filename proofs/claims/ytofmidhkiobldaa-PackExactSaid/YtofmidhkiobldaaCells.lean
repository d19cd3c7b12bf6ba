/-
  widen.cells: the cells of two octagons put together by a function that only reckons.
-/
import Derived.Test.YtofmidhkiobldaaCopy
import Derived.Deep.DeepCutAuto
namespace Go.Proofs.Ytofmidhkiobldaa
open Go.RowKit
attribute [local go_sem ↓] Go.wp_at_zero Go.wp_at_succ

def single (n k : Int) : Bool := (k / (2 * n)) == xor1 (k % (2 * n))
def cellsF (F : Int → Int → Bool → Int) (n : Int) (xs ys : List Int) : List Int := (List.range xs.length).map fun (k : Nat) => F (gI xs k) (gI ys k) (single n k)
def cellsUpTo (F : Int → Int → Bool → Int) (n : Int) (xs ys : List Int) (k : Nat) : List Int := ((List.range k).map fun (k : Nat) => F (gI xs k) (gI ys k) (single n k)) ++ List.replicate (xs.length - k) 0
theorem cellsUpTo_len (F : Int → Int → Bool → Int) (n : Int) (xs ys : List Int) {k : Nat} (h : k ≤ xs.length) : (cellsUpTo F n xs ys k).length = xs.length := by unfold cellsUpTo; simp; omega
theorem cellsUpTo_succ (F : Int → Int → Bool → Int) (n : Int) (xs ys : List Int) {k : Nat} (h : k < xs.length) : (cellsUpTo F n xs ys k).set k (F (gI xs k) (gI ys k) (single n k)) = cellsUpTo F n xs ys (k + 1) := by
  unfold cellsUpTo
  rw [List.set_append_right _ _ (by simp), List.range_succ, List.map_append]
  simp only [List.length_map, List.length_range, Nat.sub_self, List.map_cons, List.map_nil, List.append_assoc, List.singleton_append]
  congr 1
  rw [show xs.length - k = (xs.length - (k + 1)) + 1 by omega, List.replicate_succ, List.set_cons_zero]
theorem cellsUpTo_all (F : Int → Int → Bool → Int) (n : Int) (xs ys : List Int) : cellsUpTo F n xs ys xs.length = cellsF F n xs ys := by unfold cellsUpTo cellsF; simp

end Go.Proofs.Ytofmidhkiobldaa
