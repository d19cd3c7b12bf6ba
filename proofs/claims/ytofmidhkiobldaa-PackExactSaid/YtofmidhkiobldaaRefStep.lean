/-
  gnomonref22.step, Widen, Narrow; gnomonref12.Empty; gnomonref14.Pair: what each call answers: the same as widen tells.
-/
import Derived.Test.YtofmidhkiobldaaWiden
import Derived.Test.YtofmidhkiobldaaRefCheck
namespace Go.Proofs.Ytofmidhkiobldaa
open Go.RowKit
attribute [local go_sem ↓] Go.wp_at_zero Go.wp_at_succ

theorem fOf_t (s : Int) : fOf true s = plus (near s) (near s) := by unfold fOf; rw [if_pos rfl, plus_near]
theorem fOf_f (s : Int) : fOf false s = near s := by unfold fOf; rw [if_neg (by simp)]

set_option maxHeartbeats 400000 in
theorem rempty_any (n : Int) (w : World) :
    Calls Try.prog 63 #[.int .i64 n] w fun e w' => e = .returned (.agg #[.int .i64 n, .bool true, .slice none 0 0]) ∧ Below w.heap.size w w' := by
  go_enter Try.func63, Try.ntmps63
  go_wp2
  refine bodyPost_ret (v := .agg #[.int .i64 n, .bool true, .slice none 0 0]) (by simp [results, Try.results63, go_sem]) rfl ⟨rfl, ?_⟩
  exact (Below.refl _ _).alloc (Nat.le_refl _) _

theorem pairErr_1 {o p : O} (h : ¬ check o = 0) : pairErr o p = check o := by unfold pairErr; rw [if_pos h]
theorem pairErr_2 {o p : O} (h : check o = 0) (h' : ¬ check p = 0) : pairErr o p = check p := by unfold pairErr; rw [if_neg (by simpa using h), if_pos h']
theorem pairErr_3 {o p : O} (h : check o = 0) (h' : check p = 0) (h3 : ¬ o.n = p.n) : pairErr o p = 140 := by unfold pairErr; rw [if_neg (by simpa using h), if_neg (by simpa using h'), if_pos h3]
theorem pairErr_0 {o p : O} (h : check o = 0) (h' : check p = 0) (h3 : o.n = p.n) : pairErr o p = 0 := by unfold pairErr; rw [if_neg (by simpa using h), if_neg (by simpa using h'), if_neg (by simpa using h3)]

end Go.Proofs.Ytofmidhkiobldaa
