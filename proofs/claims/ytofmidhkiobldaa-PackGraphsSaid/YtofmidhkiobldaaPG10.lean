/-
  Copies of slices and octagons: slices.Clone, widen.copied, gnomonref12.Copy, gnomonhelp.CopyOct.
  widen.cells: the cells of two octagons put together by a function that only reckons.
-/
import Derived.Test.YtofmidhkiobldaaOwn
import Derived.Deep.DeepCutAuto
namespace Go.Proofs.Ytofmidhkiobldaa
section
open Go.RowKit
attribute [local go_sem ↓] Go.wp_at_zero Go.wp_at_succ

set_option maxHeartbeats 400000 in
theorem clone_any (m : List Int) (A : Option Addr) (cap : Nat) (w : World) (hr : Rd w w.heap.size A m) (hm : m.length ≤ 17592186044416) :
    Calls Try.prog 44 #[.slice A m.length cap] w fun e w' => ∃ A' cap', e = .returned (.slice A' m.length cap') ∧ Own w' w.heap.size A' cap' m ∧ Below w.heap.size w w' := by
  have q := fun w => Lib.run_eql_slice_nil (P := Try.prog) w 37 2 A m.length cap 0 0 Try.underlying37
  go_enter Try.func44, Try.ntmps44
  go_wp2_with (at_builtin; go_loud (refine wpList_append_ints _ _ _ rfl rfl Try.underlying37 w.heap.size (some ⟨w.heap.size, 0, none⟩) 0 [] rfl (own_empty w (Nat.le_refl _)) w.heap.size A cap m m rfl (hr.below ((Below.refl _ _).alloc (Nat.le_refl _) _)) rfl hm (by simp) ?_); intro A1 c1 w1 hown1 hg1 _; have hb1 := below_grown (B := w.heap.size) hg1 (by simp [Value.ownBlock]) (by simp); clear hg1)
  · go_ret
    have hA : A = none := by simpa using (‹A.isNone = true› : _)
    subst hA
    obtain rfl : m = [] := hr.nil
    exact ⟨none, 0, rfl, own_nil _ _, Below.refl _ _⟩
  · go_ret
    exact ⟨A1, c1, rfl, hown1, ((Below.refl _ _).alloc (Nat.le_refl _) _).trans hb1⟩
end
section
open Go.RowKit
attribute [local go_sem ↓] Go.wp_at_zero Go.wp_at_succ

def single (n k : Int) : Bool := (k / (2 * n)) == xor1 (k % (2 * n))
def cellsF (F : Int → Int → Bool → Int) (n : Int) (xs ys : List Int) : List Int := (List.range xs.length).map fun (k : Nat) => F (gI xs k) (gI ys k) (single n k)
def cellsUpTo (F : Int → Int → Bool → Int) (n : Int) (xs ys : List Int) (k : Nat) : List Int := ((List.range k).map fun (k : Nat) => F (gI xs k) (gI ys k) (single n k)) ++ List.replicate (xs.length - k) 0
theorem cellsUpTo_len (F : Int → Int → Bool → Int) (n : Int) (xs ys : List Int) {k : Nat} (h : k ≤ xs.length) : (cellsUpTo F n xs ys k).length = xs.length := by unfold cellsUpTo; simp; omega
theorem cellsUpTo_succ (F : Int → Int → Bool → Int) (n : Int) (xs ys : List Int) {k : Nat} (h : k < xs.length) : (cellsUpTo F n xs ys k).set k (F (gI xs k) (gI ys k) (single n k)) = cellsUpTo F n xs ys (k + 1) := by
  unfold cellsUpTo
  rw [List.set_append_right _ _ (by simp), List.range_succ, List.map_append]
  simp only [List.length_map, List.length_range, Nat.sub_self, List.map_cons, List.map_nil, List.append_assoc, List.singleton_append]
  congr 1
  rw [show xs.length - k = (xs.length - (k + 1)) + 1 by omega, List.replicate_succ, List.set_cons_zero]
theorem cellsUpTo_all (F : Int → Int → Bool → Int) (n : Int) (xs ys : List Int) : cellsUpTo F n xs ys xs.length = cellsF F n xs ys := by unfold cellsUpTo cellsF; simp
end
end Go.Proofs.Ytofmidhkiobldaa
