/-
  The small functions on edges and operands (gnomon/cfg, gnomonref9): what each call answers.
  When an edge is right for trans, in the order of trans.right.
-/
import Derived.Test.YtnmpgijiimglcaaGreatBTS16
import Derived.ChangeKeysEq
import Derived.Deep.DeepCutAuto
import Derived.Test.YtnmpgijiimglcaaGreatFlowE
namespace Go.Proofs.YtnmpgijiimglcaaGreat
section
open Go.RowKit
attribute [local go_sem ↓] Go.wp_at_zero Go.wp_at_succ

/-! ### '==' at operands -/
theorem isagg_int' (w : World) : (isAgg 3).run Tryz.prog w = .ok false w := by kernel_rfl
theorem isagg_i64 (w : World) : (isAgg 2).run Tryz.prog w = .ok false w := by kernel_rfl
theorem run_eqi (d : Nat) (a c : Int) (w : World) : (Op.equalIn (d + 1) 3 (.int .i64 a) (.int .i64 c)).run Tryz.prog w = .ok (a == c) w := by
  simp [Op.equalIn, run_underlying Tryz.underlying3]
theorem run_eqi64 (d : Nat) (a c : Int) (w : World) : (Op.equalIn (d + 1) 2 (.int .i64 a) (.int .i64 c)).run Tryz.prog w = .ok (a == c) w := by
  simp [Op.equalIn, run_underlying Tryz.underlying2]
theorem part_0 (x y : Value) (w : World) : (Go.part 3 #[x, y] 0).run Tryz.prog w = .ok x w := by simp [Go.part, isagg_int']
theorem part_1 (x y : Value) (w : World) : (Go.part 2 #[x, y] 1).run Tryz.prog w = .ok y w := by simp [Go.part, isagg_i64]
theorem stood (w : World) : Tryz.prog.stoodInHeld 26 = false := by kernel_rfl
theorem run_equalIn_opd (d : Nat) (a b c e : Int) (w : World) : (Op.equalIn (d + 2) 26 (.agg #[.int .i64 a, .int .i64 b]) (.agg #[.int .i64 c, .int .i64 e])).run Tryz.prog w = .ok (a == c && b == e) w := by
  rw [Op.equalIn]
  simp only [Sem.run_bind, run_underlying Tryz.underlying26, Result.andThen_ok]
  simp [stood, part_0, part_1, run_eqi, run_eqi64]
  by_cases h : a = c <;> by_cases h2 : b = e <;> simp [h, h2]
def opEq (a b c e : Int) : Bool := a == c && b == e
theorem run_opeq (a b c e : Int) (w : World) : (Op.equal 26 (.agg #[.int .i64 a, .int .i64 b]) (.agg #[.int .i64 c, .int .i64 e])).run Tryz.prog w = .ok (opEq a b c e) w := run_equalIn_opd 9998 a b c e w
theorem run_opeq2 (a b c e : Int) (w : World) : (Op.equalIn 10000 26 (.agg #[.int .i64 a, .int .i64 b]) (.agg #[.int .i64 c, .int .i64 e])).run Tryz.prog w = .ok (opEq a b c e) w := run_opeq a b c e w
end
section
open Go.RowKit

theorem rightT_eq (n fr te kd dst arr op av an bv bn : Int) : rightT n ⟨fr, te, kd, dst, arr, op, av, an, bv, bn⟩ = (decide (1 ≤ kd ∧ kd ≤ 14) && ((bif wDst kd then (decide (0 ≤ dst) && decide (dst < n)) else (dst == -1)) && ((bif wArr kd then decide (0 ≤ arr) else (arr == -1)) && ((bif wOp kd then (decide (1 ≤ op) && decide (op ≤ 6)) else (op == 0)) && ((bif wA kd then opdOk n av an else opEq av an (-1) 0) && (bif wB kd then opdOk n bv bn else opEq bv bn (-1) 0)))))) := by
  unfold rightT rightE opdNo opEq
  dsimp only
  generalize opdOk n av an = x1
  generalize opdOk n bv bn = x2
  have e1 : ∀ x y : Int, (x == y) = decide (x = y) := fun x y => by rw [Bool.eq_iff_iff]; simp
  simp only [e1, ← Bool.decide_and]
  by_cases h : 0 ≤ arr
  · rw [if_pos h, if_pos h]
    rw [show decide ((0 : Int) ≤ 0 ∧ (0 : Int) < 1) = true from rfl, show decide ((0 : Int) = -1) = false from rfl, show decide (0 ≤ arr) = true from decide_eq_true h, show decide (arr = -1) = false from decide_eq_false (by omega)]
    simp only [Bool.and_assoc]
  · rw [if_neg h, if_neg h]
    rw [show decide (0 ≤ arr ∧ arr < 0) = false from decide_eq_false (by omega), show decide (0 ≤ arr) = false from decide_eq_false h]
    simp only [Bool.and_assoc]
end
end Go.Proofs.YtnmpgijiimglcaaGreat
