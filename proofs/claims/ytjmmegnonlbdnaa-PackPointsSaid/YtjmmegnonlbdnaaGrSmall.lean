/-
  The small functions on edges and operands (gnomon/cfg, gnomonref9): what each call answers.
-/
import Derived.Test.YtjmmegnonlbdnaaGraph
import Derived.ChangeKeysEq
import Derived.Deep.DeepCutAuto
import Derived.Test.YtjmmegnonlbdnaaBPP20
namespace Go.Proofs.Ytjmmegnonlbdnaa
open Go.RowKit
attribute [local go_sem ↓] Go.wp_at_zero Go.wp_at_succ

/-- A graph as a value. -/
def grV (g : Gr) (V D E : Option Addr) (cv cd ce : Nat) : Value := .agg #[.slice V g.nv cv, .int .i64 g.tm, .slice D g.sz.length cd, .int .i64 g.pts, .int .i64 g.ex, .slice E g.es.length ce]
def opV (v n : Int) : Value := .agg #[.int .i64 v, .int .i64 n]
theorem blk6 {w : World} {g : Nat} {t : TypeId} {a b c d e f : Value} (h : Blk w g t #[a, b, c, d, e, f]) :
    w.cell? ⟨g, 0, none⟩ = some a ∧ w.cell? ⟨g, 1, none⟩ = some b ∧ w.cell? ⟨g, 2, none⟩ = some c ∧ w.cell? ⟨g, 3, none⟩ = some d ∧ w.cell? ⟨g, 4, none⟩ = some e ∧ w.cell? ⟨g, 5, none⟩ = some f ∧ ∀ j, w.frozen? ⟨g, j, none⟩ = false :=
  ⟨h.cell 0, h.cell 1, h.cell 2, h.cell 3, h.cell 4, h.cell 5, h.fr⟩

theorem idx7 {op : Int} (h : 1 ≤ op) (h' : op ≤ 6) (W : World) : (Instr.index 144 (.agg #[.int .i64 0, .int .i64 6, .int .i64 5, .int .i64 4, .int .i64 3, .int .i64 2, .int .i64 1]) (.int .i64 op)).run Try.prog W = .ok (.int .i64 (notOp op)) W := by
  have : op = 1 ∨ op = 2 ∨ op = 3 ∨ op = 4 ∨ op = 5 ∨ op = 6 := by omega
  rcases this with rfl | rfl | rfl | rfl | rfl | rfl <;> simp [Instr.index, run_underlying Try.underlying144, asIntOf, go_sem, notOp]
set_option maxRecDepth 8000 in
set_option maxHeartbeats 1000000 in
theorem dnot_any (op : Int) (w : World) :
    Calls Try.prog 83 #[.int .i64 op] w fun e w' => e = .returned (.int .i64 (notOp op)) ∧ w = w' := by
  go_enter Try.func83, Try.ntmps83
  by_cases hlt : op < 1
  · have HN : Hid (notOp op = 0) := hid (by unfold notOp; simp only [show op ≠ 1 by omega, show op ≠ 2 by omega, show op ≠ 3 by omega, show op ≠ 4 by omega, show op ≠ 5 by omega, show op ≠ 6 by omega, if_false])
    go_wp2; go_ret; exact ⟨ret64 HN.out.symm, rfl⟩
  · by_cases hgt : 6 < op
    · have HN : Hid (notOp op = 0) := hid (by unfold notOp; simp only [show op ≠ 1 by omega, show op ≠ 2 by omega, show op ≠ 3 by omega, show op ≠ 4 by omega, show op ≠ 5 by omega, show op ≠ 6 by omega, if_false])
      go_wp2; go_ret; exact ⟨ret64 HN.out.symm, rfl⟩
    · have hix := idx7 (op := op) (by omega) (by omega)
      go_wp2; go_ret; exact ⟨rfl, rfl⟩
set_option maxRecDepth 8000 in
set_option maxHeartbeats 1000000 in
theorem wants_any (k : Int) (w : World) :
    Calls Try.prog 77 #[.int .i64 k] w fun e w' => e = .returned (.agg #[.bool (wDst k), .bool (wArr k), .bool (wOp k), .bool (wA k), .bool (wB k)]) ∧ Below w.heap.size w w' := by
  by_cases h : 2 ≤ k ∧ k ≤ 12
  · have : k = 2 ∨ k = 3 ∨ k = 4 ∨ k = 5 ∨ k = 6 ∨ k = 7 ∨ k = 8 ∨ k = 9 ∨ k = 10 ∨ k = 11 ∨ k = 12 := by omega
    rcases this with rfl | rfl | rfl | rfl | rfl | rfl | rfl | rfl | rfl | rfl | rfl
    all_goals
      go_enter Try.func77, Try.ntmps77
      go_wp2
    · exact bodyPost_ret (v := .agg #[.bool true, .bool false, .bool false, .bool true, .bool false]) (by simp [results, Try.results77, go_sem]) rfl ⟨rfl, ((Below.refl _ _).alloc (Nat.le_refl _) _).alloc (by simp) _⟩
    · exact bodyPost_ret (v := .agg #[.bool true, .bool false, .bool false, .bool true, .bool false]) (by simp [results, Try.results77, go_sem]) rfl ⟨rfl, ((Below.refl _ _).alloc (Nat.le_refl _) _).alloc (by simp) _⟩
    · exact bodyPost_ret (v := .agg #[.bool true, .bool false, .bool false, .bool true, .bool true]) (by simp [results, Try.results77, go_sem]) rfl ⟨rfl, ((Below.refl _ _).alloc (Nat.le_refl _) _).alloc (by simp) _⟩
    · exact bodyPost_ret (v := .agg #[.bool true, .bool false, .bool false, .bool true, .bool true]) (by simp [results, Try.results77, go_sem]) rfl ⟨rfl, ((Below.refl _ _).alloc (Nat.le_refl _) _).alloc (by simp) _⟩
    · exact bodyPost_ret (v := .agg #[.bool true, .bool false, .bool false, .bool true, .bool true]) (by simp [results, Try.results77, go_sem]) rfl ⟨rfl, ((Below.refl _ _).alloc (Nat.le_refl _) _).alloc (by simp) _⟩
    · exact bodyPost_ret (v := .agg #[.bool true, .bool false, .bool false, .bool true, .bool true]) (by simp [results, Try.results77, go_sem]) rfl ⟨rfl, ((Below.refl _ _).alloc (Nat.le_refl _) _).alloc (by simp) _⟩
    · exact bodyPost_ret (v := .agg #[.bool true, .bool false, .bool false, .bool true, .bool true]) (by simp [results, Try.results77, go_sem]) rfl ⟨rfl, ((Below.refl _ _).alloc (Nat.le_refl _) _).alloc (by simp) _⟩
    · exact bodyPost_ret (v := .agg #[.bool true, .bool false, .bool false, .bool false, .bool false]) (by simp [results, Try.results77, go_sem]) rfl ⟨rfl, ((Below.refl _ _).alloc (Nat.le_refl _) _).alloc (by simp) _⟩
    · exact bodyPost_ret (v := .agg #[.bool true, .bool true, .bool false, .bool true, .bool false]) (by simp [results, Try.results77, go_sem]) rfl ⟨rfl, ((Below.refl _ _).alloc (Nat.le_refl _) _).alloc (by simp) _⟩
    · exact bodyPost_ret (v := .agg #[.bool false, .bool true, .bool false, .bool true, .bool true]) (by simp [results, Try.results77, go_sem]) rfl ⟨rfl, ((Below.refl _ _).alloc (Nat.le_refl _) _).alloc (by simp) _⟩
    · exact bodyPost_ret (v := .agg #[.bool false, .bool false, .bool true, .bool true, .bool true]) (by simp [results, Try.results77, go_sem]) rfl ⟨rfl, ((Below.refl _ _).alloc (Nat.le_refl _) _).alloc (by simp) _⟩
  · have h2 : (k == 2) = false := by rw [beq_eq_false_iff_ne]; omega
    have h3 : (k == 3) = false := by rw [beq_eq_false_iff_ne]; omega
    have h4 : (k == 4) = false := by rw [beq_eq_false_iff_ne]; omega
    have h5 : (k == 5) = false := by rw [beq_eq_false_iff_ne]; omega
    have h6 : (k == 6) = false := by rw [beq_eq_false_iff_ne]; omega
    have h7 : (k == 7) = false := by rw [beq_eq_false_iff_ne]; omega
    have h8 : (k == 8) = false := by rw [beq_eq_false_iff_ne]; omega
    have h9 : (k == 9) = false := by rw [beq_eq_false_iff_ne]; omega
    have h10 : (k == 10) = false := by rw [beq_eq_false_iff_ne]; omega
    have h11 : (k == 11) = false := by rw [beq_eq_false_iff_ne]; omega
    have h12 : (k == 12) = false := by rw [beq_eq_false_iff_ne]; omega
    have HN : Hid (wDst k = false ∧ wArr k = false ∧ wOp k = false ∧ wA k = false ∧ wB k = false) := hid ⟨decide_eq_false (by omega), decide_eq_false (by omega), decide_eq_false (by omega), decide_eq_false (by omega), decide_eq_false (by omega)⟩
    clear h
    go_enter Try.func77, Try.ntmps77
    go_wp2
    exact bodyPost_ret (v := .agg #[.bool false, .bool false, .bool false, .bool false, .bool false]) (by simp [results, Try.results77, go_sem]) rfl ⟨by rw [HN.out.1, HN.out.2.1, HN.out.2.2.1, HN.out.2.2.2.1, HN.out.2.2.2.2], ((Below.refl _ _).alloc (Nat.le_refl _) _).alloc (by simp) _⟩
set_option maxRecDepth 8000 in
set_option maxHeartbeats 1000000 in
theorem has_any (a b c : Bool) (w : World) :
    Calls Try.prog 78 #[.bool a, .bool b, .bool c] w fun e w' => e = .returned (.bool (bif a then b else c)) ∧ w = w' := by
  cases a <;> (go_enter Try.func78, Try.ntmps78; go_wp2; go_ret; exact ⟨rfl, rfl⟩)
set_option maxRecDepth 8000 in
set_option maxHeartbeats 1000000 in
theorem gpoint_any (g : Gr) (V D E : Option Addr) (cv cd ce : Nat) (p : Int) (w : World) :
    Calls Try.prog 51 #[grV g V D E cv cd ce, .int .i64 p] w fun e w' => e = .returned (.bool (decide (0 ≤ p ∧ p < g.pts))) ∧ Below w.heap.size w w' := by
  unfold grV
  go_enter Try.func51, Try.ntmps51
  by_cases h : 0 ≤ p
  · by_cases h2 : p < g.pts
    · go_wp2; go_ret; exact ⟨retb (by first | exact (decide_eq_true (by omega)).symm | exact (decide_eq_false (by omega)).symm), new1 _ _⟩
    · go_wp2; go_ret; exact ⟨retb (by first | exact (decide_eq_true (by omega)).symm | exact (decide_eq_false (by omega)).symm), new1 _ _⟩
  · go_wp2; go_ret; exact ⟨retb (by rw [Bool.eq_iff_iff]; simp; try omega), new1 _ _⟩
set_option maxRecDepth 8000 in
set_option maxHeartbeats 1000000 in
theorem gvar_any (g : Gr) (V D E : Option Addr) (cv cd ce : Nat) (p : Int) (w : World) (h0 : 0 ≤ g.tm) (h1 : g.tm ≤ 64) (hv : g.nv ≤ 64) :
    Calls Try.prog 79 #[grV g V D E cv cd ce, .int .i64 p] w fun e w' => e = .returned (.bool (decide (0 ≤ p ∧ p < g.all))) ∧ Below w.heap.size w w' := by
  unfold grV Gr.all
  go_enter Try.func79, Try.ntmps79
  by_cases h : 0 ≤ p
  · by_cases h2 : p < (g.nv : Int) + g.tm
    · go_wp2; go_ret; exact ⟨retb (by first | exact (decide_eq_true (by omega)).symm | exact (decide_eq_false (by omega)).symm), new1 _ _⟩
    · go_wp2; go_ret; exact ⟨retb (by first | exact (decide_eq_true (by omega)).symm | exact (decide_eq_false (by omega)).symm), new1 _ _⟩
  · go_wp2; go_ret; exact ⟨retb (by rw [Bool.eq_iff_iff]; simp; try omega), new1 _ _⟩
set_option maxRecDepth 8000 in
set_option maxHeartbeats 1000000 in
theorem garr_any (g : Gr) (V D E : Option Addr) (cv cd ce : Nat) (p : Int) (w : World) :
    Calls Try.prog 80 #[grV g V D E cv cd ce, .int .i64 p] w fun e w' => e = .returned (.bool (decide (0 ≤ p ∧ p < g.sz.length))) ∧ Below w.heap.size w w' := by
  unfold grV
  go_enter Try.func80, Try.ntmps80
  by_cases h : 0 ≤ p
  · by_cases h2 : p < (g.sz.length : Int)
    · go_wp2; go_ret; exact ⟨retb (by first | exact (decide_eq_true (by omega)).symm | exact (decide_eq_false (by omega)).symm), new1 _ _⟩
    · go_wp2; go_ret; exact ⟨retb (by first | exact (decide_eq_true (by omega)).symm | exact (decide_eq_false (by omega)).symm), new1 _ _⟩
  · go_wp2; go_ret; exact ⟨retb (by rw [Bool.eq_iff_iff]; simp; try omega), new1 _ _⟩
set_option maxRecDepth 8000 in
set_option maxHeartbeats 1000000 in
theorem nothing_any (w : World) :
    Calls Try.prog 82 #[] w fun e w' => e = .returned (opV (-1) 0) ∧ Below w.heap.size w w' := by
  unfold opV
  go_enter Try.func82, Try.ntmps82
  go_wp2
  exact bodyPost_ret (v := .agg #[.int .i64 (-1), .int .i64 0]) (by simp [results, Try.results82, go_sem]) rfl ⟨rfl, new1 _ _⟩
/-! ### '==' at operands -/
theorem isagg_int' (w : World) : (isAgg 3).run Try.prog w = .ok false w := by kernel_rfl
theorem isagg_i64 (w : World) : (isAgg 2).run Try.prog w = .ok false w := by kernel_rfl
theorem run_eqi (d : Nat) (a c : Int) (w : World) : (Op.equalIn (d + 1) 3 (.int .i64 a) (.int .i64 c)).run Try.prog w = .ok (a == c) w := by
  simp [Op.equalIn, run_underlying Try.underlying3]
theorem run_eqi64 (d : Nat) (a c : Int) (w : World) : (Op.equalIn (d + 1) 2 (.int .i64 a) (.int .i64 c)).run Try.prog w = .ok (a == c) w := by
  simp [Op.equalIn, run_underlying Try.underlying2]
theorem part_0 (x y : Value) (w : World) : (Go.part 3 #[x, y] 0).run Try.prog w = .ok x w := by simp [Go.part]
theorem part_1 (x y : Value) (w : World) : (Go.part 2 #[x, y] 1).run Try.prog w = .ok y w := by simp [Go.part]
theorem stood (_w : World) : Try.prog.stoodInHeld 54 = false := by kernel_rfl
theorem run_equalIn_opd (d : Nat) (a b c e : Int) (w : World) : (Op.equalIn (d + 2) 54 (.agg #[.int .i64 a, .int .i64 b]) (.agg #[.int .i64 c, .int .i64 e])).run Try.prog w = .ok (a == c && b == e) w := by
  rw [Op.equalIn]
  simp only [Sem.run_bind, run_underlying Try.underlying54, Result.andThen_ok]
  simp [part_0, part_1, run_eqi, run_eqi64]
  by_cases h : a = c <;> by_cases h2 : b = e <;> simp [h, h2]
def opEq (a b c e : Int) : Bool := a == c && b == e
theorem run_opeq (a b c e : Int) (w : World) : (Op.equal 54 (.agg #[.int .i64 a, .int .i64 b]) (.agg #[.int .i64 c, .int .i64 e])).run Try.prog w = .ok (opEq a b c e) w := run_equalIn_opd 9998 a b c e w
theorem run_opeq2 (a b c e : Int) (w : World) : (Op.equalIn 10000 54 (.agg #[.int .i64 a, .int .i64 b]) (.agg #[.int .i64 c, .int .i64 e])).run Try.prog w = .ok (opEq a b c e) w := run_opeq a b c e w
end Go.Proofs.Ytjmmegnonlbdnaa
