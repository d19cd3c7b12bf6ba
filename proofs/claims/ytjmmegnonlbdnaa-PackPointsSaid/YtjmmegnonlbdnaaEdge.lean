/-
  When an edge is right (cfg.right, gnomonref9.Right): what each call answers.
-/
import Derived.Test.YtjmmegnonlbdnaaGrSmall
namespace Go.Proofs.Ytjmmegnonlbdnaa
open Go.RowKit
attribute [local go_sem ↓] Go.wp_at_zero Go.wp_at_succ
attribute [local go_sem ↓] run_opeq run_opeq2

set_option maxRecDepth 8000 in
set_option maxHeartbeats 1000000 in
theorem goper_any (g : Gr) (V D E : Option Addr) (cv cd ce : Nat) (v m : Int) (w : World) (h0 : 0 ≤ g.tm) (h1 : g.tm ≤ 64) (hv : g.nv ≤ 64) :
    Calls Try.prog 81 #[grV g V D E cv cd ce, opV v m] w fun e w' => e = .returned (.bool (opdOk g.all v m)) ∧ Below w.heap.size w w' := by
  unfold opV
  have HC : Hid (∀ W, Calls Try.prog 79 #[grV g V D E cv cd ce, .int .i64 v] W fun e w' => e = .returned (.bool (decide (0 ≤ v ∧ v < g.all))) ∧ Below W.heap.size W w') := hid fun W => gvar_any g V D E cv cd ce v W h0 h1 hv
  unfold grV at *
  have n0 : Below w.heap.size w ((w.alloc (.cells #[.slice V g.nv cv, .int .i64 g.tm, .slice D g.sz.length cd, .int .i64 g.pts, .int .i64 g.ex, .slice E g.es.length ce] 98)).alloc (.cells #[.int .i64 v, .int .i64 m] 54)) := ((Below.refl _ _).alloc (Nat.le_refl _) _).alloc (by simp) _
  obtain ⟨k0, k1⟩ := blk_two (w := w) (Below.refl _ ((w.alloc (.cells #[.slice V g.nv cv, .int .i64 g.tm, .slice D g.sz.length cd, .int .i64 g.pts, .int .i64 g.ex, .slice E g.es.length ce] 98)).alloc (.cells #[.int .i64 v, .int .i64 m] 54)))
  clear h0 h1 hv
  go_enter Try.func81, Try.ntmps81
  cases t1 : (v == -1)
  · cases t2 : decide (0 ≤ v ∧ v < g.all)
    · go_wp2_with fail
      generalize ((w.alloc (.cells #[.slice V g.nv cv, .int .i64 g.tm, .slice D g.sz.length cd, .int .i64 g.pts, .int .i64 g.ex, .slice E g.es.length ce] 98)).alloc (.cells #[.int .i64 v, .int .i64 m] 54)) = w1 at *
      refine (HC.out _).mono ?_
      rw [t2]
      rintro e2 w2 ⟨rfl, hb2⟩
      replace k1 := k1.later hb2
      have x0 := k1.cell 0
      have x1 := k1.cell 1
      go_wp2
      go_ret
      exact ⟨retb (by unfold opdOk; rw [Bool.eq_iff_iff]; have := beq_eq_false_iff_ne.1 t1; have := of_decide_eq_false t2; simp; omega), bup n0 hb2⟩
    · go_wp2_with fail
      generalize ((w.alloc (.cells #[.slice V g.nv cv, .int .i64 g.tm, .slice D g.sz.length cd, .int .i64 g.pts, .int .i64 g.ex, .slice E g.es.length ce] 98)).alloc (.cells #[.int .i64 v, .int .i64 m] 54)) = w1 at *
      refine (HC.out _).mono ?_
      rw [t2]
      rintro e2 w2 ⟨rfl, hb2⟩
      replace k1 := k1.later hb2
      have x0 := k1.cell 0
      have x1 := k1.cell 1
      go_wp2
      go_ret
      exact ⟨retb (by unfold opdOk; rw [Bool.eq_iff_iff]; have := beq_eq_false_iff_ne.1 t1; have := of_decide_eq_true t2; simp; omega), bup n0 hb2⟩
  · go_wp2; go_ret; exact ⟨retb (by unfold opdOk; rw [Bool.eq_iff_iff]; simp; have := beq_iff_eq.1 t1; omega), n0⟩
end Go.Proofs.Ytjmmegnonlbdnaa
