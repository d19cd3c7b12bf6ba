/-
  '==' and '!=' at dbm.cell.
-/
import Derived.Test.YtanbplidigokgaaCompare
import Derived.ChangeKeysEq
namespace Go.Proofs.Ytanbplidigokgaa
open Go.RowKit

theorem int_info : (Try.prog.info? 3).map (fun i => (i.zero, i.size, i.bytes)) = some (some (.int .i64 0), 1, 8) := by kernel_rfl
theorem cells_int : Try.prog.cellsOf 3 = 1 := by kernel_rfl
theorem isagg_int (w : World) : (isAgg 3).run Try.prog w = .ok false w := by kernel_rfl
theorem run_equalIn_int (d : Nat) (a c : Int) (w : World) : (Op.equalIn (d + 1) 3 (.int .i64 a) (.int .i64 c)).run Try.prog w = .ok (a == c) w := by
  simp [Op.equalIn, run_underlying Try.underlying3]
theorem run_eq99 (a c : Int) (w : World) : (Op.equalIn 9999 3 (.int .i64 a) (.int .i64 c)).run Try.prog w = .ok (a == c) w := run_equalIn_int 9998 a c w
theorem part0 (x y : Value) (w : World) : (Go.part 3 #[x, y] 0).run Try.prog w = .ok x w := by simp [Go.part, isagg_int]
theorem part1 (x y : Value) (w : World) : (Go.part 3 #[x, y] 1).run Try.prog w = .ok y w := by simp [Go.part, isagg_int]
theorem run_equal_cell (a b c d : Int) (w : World) : (Op.equal 93 (.agg #[.int .i64 a, .int .i64 b]) (.agg #[.int .i64 c, .int .i64 d])).run Try.prog w = .ok (a == c && b == d) w := by
  obtain ⟨i0, hi, _⟩ := info_parts int_info
  refine (run_equalIn_array w 9999 _ _ Try.underlying93 hi).trans ?_
  rw [cells_int]
  rw [show List.range 2 = [0, 1] from rfl]
  simp only [Op.eqItems, Sem.run_bind, Nat.mul_one, part0, part1, Result.andThen_ok, run_eq99]
  cases h : (a == c) <;> cases h2 : (b == d) <;> simp [part1, run_eq99, h2]
theorem run_neq_cell (a b c d : Int) (w : World) : (binOp .neq 93 (.agg #[.int .i64 a, .int .i64 b]) (.agg #[.int .i64 c, .int .i64 d])).run Try.prog w = .ok (.bool (!(a == c && b == d))) w := by
  simp only [binOp]
  simp [run_equal_cell]
theorem run_equalIn_cell2 (a b c d : Int) (w : World) : (Op.equalIn 10000 93 (.agg #[.int .i64 a, .int .i64 b]) (.agg #[.int .i64 c, .int .i64 d])).run Try.prog w = .ok (a == c && b == d) w := run_equal_cell a b c d w
end Go.Proofs.Ytanbplidigokgaa
