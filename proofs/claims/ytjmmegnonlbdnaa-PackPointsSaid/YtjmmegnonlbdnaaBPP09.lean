/-
  gnomonref23.Check: what it answers: packErr.
  Copies of slices and octagons: slices.Clone, widen.copied, gnomonref12.Copy, gnomonhelp.CopyOct.
  widen.cells: the cells of two octagons put together by a function that only reckons.
-/
import Derived.Test.YtjmmegnonlbdnaaPacks
import Derived.Test.YtjmmegnonlbdnaaOwn
import Derived.Deep.DeepCutAuto
namespace Go.Proofs.Ytjmmegnonlbdnaa
section

end
section
open Go.RowKit
attribute [local go_sem ↓] Go.wp_at_zero Go.wp_at_succ

set_option maxHeartbeats 400000 in
theorem clone_any (m : List Int) (A : Option Addr) (cap : Nat) (w : World) (hr : Rd w w.heap.size A m) (hm : m.length ≤ 17592186044416) :
    Calls Try.prog 44 #[.slice A m.length cap] w fun e w' => ∃ A' cap', e = .returned (.slice A' m.length cap') ∧ Own w' w.heap.size A' cap' m ∧ Below w.heap.size w w' := by
  have q := fun w => Lib.run_eql_slice_nil (P := Try.prog) w 37 2 A m.length cap 0 0 Try.underlying37
  go_enter Try.func44, Try.ntmps44
  go_wp2_with (at_builtin; go_loud (refine wpList_append_ints _ _ _ rfl rfl Try.underlying37 w.heap.size (some ⟨w.heap.size, 0, none⟩) 0 [] rfl (own_empty w (Nat.le_refl _)) w.heap.size A cap m m rfl (hr.below ((Below.refl _ _).alloc (Nat.le_refl _) _)) rfl hm (by simp) ?_); intro A1 c1 w1 hown1 hg1 _; have hb1 := below_grown (B := w.heap.size) hg1 (by simp [Value.ownBlock]) (by simp); clear hg1)
  · go_ret
    have hA : A = none := by simpa using (‹A.isNone = true› : _)
    subst hA
    obtain rfl : m = [] := hr.nil
    exact ⟨none, 0, rfl, own_nil _ _, Below.refl _ _⟩
  · go_ret
    exact ⟨A1, c1, rfl, hown1, ((Below.refl _ _).alloc (Nat.le_refl _) _).trans hb1⟩
end
section

end
end Go.Proofs.Ytjmmegnonlbdnaa
