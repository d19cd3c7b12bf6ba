/-
  The small functions on edges and operands (gnomon/cfg, gnomonref9): what each call answers.
  When an edge is right for trans, in the order of trans.right.
  When an edge is right for trans (trans.right): what each call answers.
  trans.adds: what it answers, of what the functions that it calls answer.
  trans.number: what it answers.
  trans.turned, trans.rest: what they answer.
  trans.pair: what it answers.
  A block of four cells stored whole; octagons that read so, by the callees of trans.
  When an edge is right (cfg.right, gnomonref9.Right): what each call answers.
-/
import Derived.Test.YtkncebcekhfnfaaGreatBWT12
import Derived.ChangeKeysEq
import Derived.Deep.DeepCutAuto
import Derived.Test.YtkncebcekhfnfaaGreatBWT14
import Derived.Test.YtkncebcekhfnfaaGreatBWT13
import Derived.Test.YtkncebcekhfnfaaGreatBWT15
import Derived.Test.YtkncebcekhfnfaaGreatBWT03
namespace Go.Proofs.YtkncebcekhfnfaaGreat
section
open Go.RowKit
attribute [local go_sem ↓] Go.wp_at_zero Go.wp_at_succ

/-- A graph as a value. -/
def grV (g : Gr) (V D E : Option Addr) (cv cd ce : Nat) : Value := .agg #[.slice V g.nv cv, .int .i64 g.tm, .slice D g.sz.length cd, .int .i64 g.pts, .int .i64 g.ex, .slice E g.es.length ce]
def opV (v n : Int) : Value := .agg #[.int .i64 v, .int .i64 n]
theorem blk6 {w : World} {g : Nat} {t : TypeId} {a b c d e f : Value} (h : Blk w g t #[a, b, c, d, e, f]) :
    w.cell? ⟨g, 0, none⟩ = some a ∧ w.cell? ⟨g, 1, none⟩ = some b ∧ w.cell? ⟨g, 2, none⟩ = some c ∧ w.cell? ⟨g, 3, none⟩ = some d ∧ w.cell? ⟨g, 4, none⟩ = some e ∧ w.cell? ⟨g, 5, none⟩ = some f ∧ ∀ j, w.frozen? ⟨g, j, none⟩ = false :=
  ⟨h.cell 0, h.cell 1, h.cell 2, h.cell 3, h.cell 4, h.cell 5, h.fr⟩

theorem idx7 {op : Int} (h : 1 ≤ op) (h' : op ≤ 6) (W : World) : (Instr.index 175 (.agg #[.int .i64 0, .int .i64 6, .int .i64 5, .int .i64 4, .int .i64 3, .int .i64 2, .int .i64 1]) (.int .i64 op)).run Tryz.prog W = .ok (.int .i64 (notOp op)) W := by
  have : op = 1 ∨ op = 2 ∨ op = 3 ∨ op = 4 ∨ op = 5 ∨ op = 6 := by omega
  rcases this with rfl | rfl | rfl | rfl | rfl | rfl <;> simp [Instr.index, run_underlying Tryz.underlying175, asIntOf, go_sem, notOp]
set_option maxRecDepth 8000 in
set_option maxHeartbeats 1000000 in
theorem dnot_any (op : Int) (w : World) :
    Calls Tryz.prog 79 #[.int .i64 op] w fun e w' => e = .returned (.int .i64 (notOp op)) ∧ w = w' := by
  go_enter Tryz.func79, Tryz.ntmps79
  by_cases hlt : op < 1
  · have HN : Hid (notOp op = 0) := hid (by unfold notOp; simp only [show op ≠ 1 by omega, show op ≠ 2 by omega, show op ≠ 3 by omega, show op ≠ 4 by omega, show op ≠ 5 by omega, show op ≠ 6 by omega, if_false])
    go_wp2; go_ret; exact ⟨ret64 HN.out.symm, rfl⟩
  · by_cases hgt : 6 < op
    · have HN : Hid (notOp op = 0) := hid (by unfold notOp; simp only [show op ≠ 1 by omega, show op ≠ 2 by omega, show op ≠ 3 by omega, show op ≠ 4 by omega, show op ≠ 5 by omega, show op ≠ 6 by omega, if_false])
      go_wp2; go_ret; exact ⟨ret64 HN.out.symm, rfl⟩
    · have hix := idx7 (op := op) (by omega) (by omega)
      go_wp2; go_ret; exact ⟨rfl, rfl⟩
set_option maxRecDepth 8000 in
set_option maxHeartbeats 1000000 in
theorem rnot_any (op : Int) (w : World) :
    Calls Tryz.prog 44 #[.int .i64 op] w fun e w' => e = .returned (.int .i64 (notOp op)) ∧ w = w' := by
  by_cases h : 1 ≤ op ∧ op ≤ 6
  · have : op = 1 ∨ op = 2 ∨ op = 3 ∨ op = 4 ∨ op = 5 ∨ op = 6 := by omega
    rcases this with rfl | rfl | rfl | rfl | rfl | rfl <;> (go_enter Tryz.func44, Tryz.ntmps44; go_wp2; go_ret; exact ⟨rfl, rfl⟩)
  · have h1 : (op == 1) = false := by rw [beq_eq_false_iff_ne]; omega
    have h2 : (op == 2) = false := by rw [beq_eq_false_iff_ne]; omega
    have h3 : (op == 3) = false := by rw [beq_eq_false_iff_ne]; omega
    have h4 : (op == 4) = false := by rw [beq_eq_false_iff_ne]; omega
    have h5 : (op == 5) = false := by rw [beq_eq_false_iff_ne]; omega
    have h6 : (op == 6) = false := by rw [beq_eq_false_iff_ne]; omega
    have HN : Hid (notOp op = 0) := hid (by unfold notOp; simp only [show op ≠ 1 by omega, show op ≠ 2 by omega, show op ≠ 3 by omega, show op ≠ 4 by omega, show op ≠ 5 by omega, show op ≠ 6 by omega, if_false])
    clear h
    go_enter Tryz.func44, Tryz.ntmps44
    go_wp2; go_ret; exact ⟨ret64 HN.out.symm, rfl⟩
set_option maxRecDepth 8000 in
set_option maxHeartbeats 1000000 in
theorem wants_any (k : Int) (w : World) :
    Calls Tryz.prog 73 #[.int .i64 k] w fun e w' => e = .returned (.agg #[.bool (wDst k), .bool (wArr k), .bool (wOp k), .bool (wA k), .bool (wB k)]) ∧ Below w.heap.size w w' := by
  by_cases h : 2 ≤ k ∧ k ≤ 12
  · have : k = 2 ∨ k = 3 ∨ k = 4 ∨ k = 5 ∨ k = 6 ∨ k = 7 ∨ k = 8 ∨ k = 9 ∨ k = 10 ∨ k = 11 ∨ k = 12 := by omega
    rcases this with rfl | rfl | rfl | rfl | rfl | rfl | rfl | rfl | rfl | rfl | rfl
    all_goals
      go_enter Tryz.func73, Tryz.ntmps73
      go_wp2
    · exact bodyPost_ret (v := .agg #[.bool true, .bool false, .bool false, .bool true, .bool false]) (by simp [results, Tryz.results73, go_sem]) rfl ⟨rfl, ((Below.refl _ _).alloc (Nat.le_refl _) _).alloc (by simp) _⟩
    · exact bodyPost_ret (v := .agg #[.bool true, .bool false, .bool false, .bool true, .bool false]) (by simp [results, Tryz.results73, go_sem]) rfl ⟨rfl, ((Below.refl _ _).alloc (Nat.le_refl _) _).alloc (by simp) _⟩
    · exact bodyPost_ret (v := .agg #[.bool true, .bool false, .bool false, .bool true, .bool true]) (by simp [results, Tryz.results73, go_sem]) rfl ⟨rfl, ((Below.refl _ _).alloc (Nat.le_refl _) _).alloc (by simp) _⟩
    · exact bodyPost_ret (v := .agg #[.bool true, .bool false, .bool false, .bool true, .bool true]) (by simp [results, Tryz.results73, go_sem]) rfl ⟨rfl, ((Below.refl _ _).alloc (Nat.le_refl _) _).alloc (by simp) _⟩
    · exact bodyPost_ret (v := .agg #[.bool true, .bool false, .bool false, .bool true, .bool true]) (by simp [results, Tryz.results73, go_sem]) rfl ⟨rfl, ((Below.refl _ _).alloc (Nat.le_refl _) _).alloc (by simp) _⟩
    · exact bodyPost_ret (v := .agg #[.bool true, .bool false, .bool false, .bool true, .bool true]) (by simp [results, Tryz.results73, go_sem]) rfl ⟨rfl, ((Below.refl _ _).alloc (Nat.le_refl _) _).alloc (by simp) _⟩
    · exact bodyPost_ret (v := .agg #[.bool true, .bool false, .bool false, .bool true, .bool true]) (by simp [results, Tryz.results73, go_sem]) rfl ⟨rfl, ((Below.refl _ _).alloc (Nat.le_refl _) _).alloc (by simp) _⟩
    · exact bodyPost_ret (v := .agg #[.bool true, .bool false, .bool false, .bool false, .bool false]) (by simp [results, Tryz.results73, go_sem]) rfl ⟨rfl, ((Below.refl _ _).alloc (Nat.le_refl _) _).alloc (by simp) _⟩
    · exact bodyPost_ret (v := .agg #[.bool true, .bool true, .bool false, .bool true, .bool false]) (by simp [results, Tryz.results73, go_sem]) rfl ⟨rfl, ((Below.refl _ _).alloc (Nat.le_refl _) _).alloc (by simp) _⟩
    · exact bodyPost_ret (v := .agg #[.bool false, .bool true, .bool false, .bool true, .bool true]) (by simp [results, Tryz.results73, go_sem]) rfl ⟨rfl, ((Below.refl _ _).alloc (Nat.le_refl _) _).alloc (by simp) _⟩
    · exact bodyPost_ret (v := .agg #[.bool false, .bool false, .bool true, .bool true, .bool true]) (by simp [results, Tryz.results73, go_sem]) rfl ⟨rfl, ((Below.refl _ _).alloc (Nat.le_refl _) _).alloc (by simp) _⟩
  · have h2 : (k == 2) = false := by rw [beq_eq_false_iff_ne]; omega
    have h3 : (k == 3) = false := by rw [beq_eq_false_iff_ne]; omega
    have h4 : (k == 4) = false := by rw [beq_eq_false_iff_ne]; omega
    have h5 : (k == 5) = false := by rw [beq_eq_false_iff_ne]; omega
    have h6 : (k == 6) = false := by rw [beq_eq_false_iff_ne]; omega
    have h7 : (k == 7) = false := by rw [beq_eq_false_iff_ne]; omega
    have h8 : (k == 8) = false := by rw [beq_eq_false_iff_ne]; omega
    have h9 : (k == 9) = false := by rw [beq_eq_false_iff_ne]; omega
    have h10 : (k == 10) = false := by rw [beq_eq_false_iff_ne]; omega
    have h11 : (k == 11) = false := by rw [beq_eq_false_iff_ne]; omega
    have h12 : (k == 12) = false := by rw [beq_eq_false_iff_ne]; omega
    have HN : Hid (wDst k = false ∧ wArr k = false ∧ wOp k = false ∧ wA k = false ∧ wB k = false) := hid ⟨decide_eq_false (by omega), decide_eq_false (by omega), decide_eq_false (by omega), decide_eq_false (by omega), decide_eq_false (by omega)⟩
    clear h
    go_enter Tryz.func73, Tryz.ntmps73
    go_wp2
    exact bodyPost_ret (v := .agg #[.bool false, .bool false, .bool false, .bool false, .bool false]) (by simp [results, Tryz.results73, go_sem]) rfl ⟨by rw [HN.out.1, HN.out.2.1, HN.out.2.2.1, HN.out.2.2.2.1, HN.out.2.2.2.2], ((Below.refl _ _).alloc (Nat.le_refl _) _).alloc (by simp) _⟩
set_option maxRecDepth 8000 in
set_option maxHeartbeats 1000000 in
theorem has_any (a b c : Bool) (w : World) :
    Calls Tryz.prog 74 #[.bool a, .bool b, .bool c] w fun e w' => e = .returned (.bool (bif a then b else c)) ∧ w = w' := by
  cases a <;> (go_enter Tryz.func74, Tryz.ntmps74; go_wp2; go_ret; exact ⟨rfl, rfl⟩)
set_option maxRecDepth 8000 in
set_option maxHeartbeats 1000000 in
theorem gpoint_any (g : Gr) (V D E : Option Addr) (cv cd ce : Nat) (p : Int) (w : World) :
    Calls Tryz.prog 45 #[grV g V D E cv cd ce, .int .i64 p] w fun e w' => e = .returned (.bool (decide (0 ≤ p ∧ p < g.pts))) ∧ Below w.heap.size w w' := by
  unfold grV
  go_enter Tryz.func45, Tryz.ntmps45
  by_cases h : 0 ≤ p
  · by_cases h2 : p < g.pts
    · go_wp2; go_ret; exact ⟨retb (by first | exact (decide_eq_true (by omega)).symm | exact (decide_eq_false (by omega)).symm), new1 _ _⟩
    · go_wp2; go_ret; exact ⟨retb (by first | exact (decide_eq_true (by omega)).symm | exact (decide_eq_false (by omega)).symm), new1 _ _⟩
  · go_wp2; go_ret; exact ⟨retb (by rw [Bool.eq_iff_iff]; simp; try omega), new1 _ _⟩
set_option maxRecDepth 8000 in
set_option maxHeartbeats 1000000 in
theorem gvar_any (g : Gr) (V D E : Option Addr) (cv cd ce : Nat) (p : Int) (w : World) (h0 : 0 ≤ g.tm) (h1 : g.tm ≤ 64) (hv : g.nv ≤ 64) :
    Calls Tryz.prog 75 #[grV g V D E cv cd ce, .int .i64 p] w fun e w' => e = .returned (.bool (decide (0 ≤ p ∧ p < g.all))) ∧ Below w.heap.size w w' := by
  unfold grV Gr.all
  go_enter Tryz.func75, Tryz.ntmps75
  by_cases h : 0 ≤ p
  · by_cases h2 : p < (g.nv : Int) + g.tm
    · go_wp2; go_ret; exact ⟨retb (by first | exact (decide_eq_true (by omega)).symm | exact (decide_eq_false (by omega)).symm), new1 _ _⟩
    · go_wp2; go_ret; exact ⟨retb (by first | exact (decide_eq_true (by omega)).symm | exact (decide_eq_false (by omega)).symm), new1 _ _⟩
  · go_wp2; go_ret; exact ⟨retb (by rw [Bool.eq_iff_iff]; simp; try omega), new1 _ _⟩
set_option maxRecDepth 8000 in
set_option maxHeartbeats 1000000 in
theorem garr_any (g : Gr) (V D E : Option Addr) (cv cd ce : Nat) (p : Int) (w : World) :
    Calls Tryz.prog 76 #[grV g V D E cv cd ce, .int .i64 p] w fun e w' => e = .returned (.bool (decide (0 ≤ p ∧ p < g.sz.length))) ∧ Below w.heap.size w w' := by
  unfold grV
  go_enter Tryz.func76, Tryz.ntmps76
  by_cases h : 0 ≤ p
  · by_cases h2 : p < (g.sz.length : Int)
    · go_wp2; go_ret; exact ⟨retb (by first | exact (decide_eq_true (by omega)).symm | exact (decide_eq_false (by omega)).symm), new1 _ _⟩
    · go_wp2; go_ret; exact ⟨retb (by first | exact (decide_eq_true (by omega)).symm | exact (decide_eq_false (by omega)).symm), new1 _ _⟩
  · go_wp2; go_ret; exact ⟨retb (by rw [Bool.eq_iff_iff]; simp; try omega), new1 _ _⟩
set_option maxRecDepth 8000 in
set_option maxHeartbeats 1000000 in
theorem nothing_any (w : World) :
    Calls Tryz.prog 78 #[] w fun e w' => e = .returned (opV (-1) 0) ∧ Below w.heap.size w w' := by
  unfold opV
  go_enter Tryz.func78, Tryz.ntmps78
  go_wp2
  exact bodyPost_ret (v := .agg #[.int .i64 (-1), .int .i64 0]) (by simp [results, Tryz.results78, go_sem]) rfl ⟨rfl, new1 _ _⟩
theorem none_any (w : World) :
    Calls Tryz.prog 72 #[] w fun e w' => e = .returned (opV (-1) 0) ∧ Below w.heap.size w w' := by
  unfold opV
  go_enter Tryz.func72, Tryz.ntmps72
  go_wp2
  exact bodyPost_ret (v := .agg #[.int .i64 (-1), .int .i64 0]) (by simp [results, Tryz.results72, go_sem]) rfl ⟨rfl, new1 _ _⟩
set_option maxRecDepth 8000 in
set_option maxHeartbeats 1000000 in
theorem all_any (g : Gr) (V D E : Option Addr) (cv cd ce : Nat) (w : World) (h0 : 0 ≤ g.tm) (h1 : g.tm ≤ 64) (hv : g.nv ≤ 17592186044416) :
    Calls Tryz.prog 21 #[grV g V D E cv cd ce] w fun e w' => e = .returned (.int .i64 g.all) ∧ Below w.heap.size w w' := by
  unfold grV Gr.all
  go_enter Tryz.func21, Tryz.ntmps21
  go_wp2; go_ret; exact ⟨rfl, new1 _ _⟩
/-! ### '==' at operands -/
theorem isagg_int' (w : World) : (isAgg 3).run Tryz.prog w = .ok false w := by kernel_rfl
theorem isagg_i64 (w : World) : (isAgg 2).run Tryz.prog w = .ok false w := by kernel_rfl
theorem run_eqi (d : Nat) (a c : Int) (w : World) : (Op.equalIn (d + 1) 3 (.int .i64 a) (.int .i64 c)).run Tryz.prog w = .ok (a == c) w := by
  simp [Op.equalIn, run_underlying Tryz.underlying3]
theorem run_eqi64 (d : Nat) (a c : Int) (w : World) : (Op.equalIn (d + 1) 2 (.int .i64 a) (.int .i64 c)).run Tryz.prog w = .ok (a == c) w := by
  simp [Op.equalIn, run_underlying Tryz.underlying2]
theorem part_0 (x y : Value) (w : World) : (Go.part 3 #[x, y] 0).run Tryz.prog w = .ok x w := by simp [Go.part]
theorem part_1 (x y : Value) (w : World) : (Go.part 2 #[x, y] 1).run Tryz.prog w = .ok y w := by simp [Go.part]
theorem stood (_w : World) : Tryz.prog.stoodInHeld 63 = false := by kernel_rfl
theorem run_equalIn_opd (d : Nat) (a b c e : Int) (w : World) : (Op.equalIn (d + 2) 63 (.agg #[.int .i64 a, .int .i64 b]) (.agg #[.int .i64 c, .int .i64 e])).run Tryz.prog w = .ok (a == c && b == e) w := by
  rw [Op.equalIn]
  simp only [Sem.run_bind, run_underlying Tryz.underlying63, Result.andThen_ok]
  simp [part_0, part_1, run_eqi, run_eqi64]
  by_cases h : a = c <;> by_cases h2 : b = e <;> simp [h, h2]
def opEq (a b c e : Int) : Bool := a == c && b == e
theorem run_opeq (a b c e : Int) (w : World) : (Op.equal 63 (.agg #[.int .i64 a, .int .i64 b]) (.agg #[.int .i64 c, .int .i64 e])).run Tryz.prog w = .ok (opEq a b c e) w := run_equalIn_opd 9998 a b c e w
theorem run_opeq2 (a b c e : Int) (w : World) : (Op.equalIn 10000 63 (.agg #[.int .i64 a, .int .i64 b]) (.agg #[.int .i64 c, .int .i64 e])).run Tryz.prog w = .ok (opEq a b c e) w := run_opeq a b c e w
end
section

end
section

end
section
open Go.RowKit
attribute [local go_sem ↓] Go.wp_at_zero Go.wp_at_succ

theorem edgbox {w : World} {g : Nat} {t : TypeId} {a0 a1 a2 a3 a4 a5 a6 a7 a8 a9 : Value} (h : Blk w g t #[a0, a1, a2, a3, a4, a5, a6, a7, a8, a9]) :
    w.cell? ⟨g, 0, none⟩ = some a0 ∧ w.cell? ⟨g, 1, none⟩ = some a1 ∧ w.cell? ⟨g, 2, none⟩ = some a2 ∧ w.cell? ⟨g, 3, none⟩ = some a3 ∧ w.cell? ⟨g, 4, none⟩ = some a4 ∧ w.cell? ⟨g, 5, none⟩ = some a5 ∧ w.cell? ⟨g, 6, none⟩ = some a6 ∧ w.cell? ⟨g, 7, none⟩ = some a7 ∧ w.cell? ⟨g, 8, none⟩ = some a8 ∧ w.cell? ⟨g, 9, none⟩ = some a9 ∧ ∀ j, w.frozen? ⟨g, j, none⟩ = false :=
  ⟨h.cell 0, h.cell 1, h.cell 2, h.cell 3, h.cell 4, h.cell 5, h.cell 6, h.cell 7, h.cell 8, h.cell 9, fun j => h.fr j⟩
end
section

end
section

end
section

end
section

end
section
open Go.RowKit
attribute [local go_sem ↓] Go.wp_at_zero Go.wp_at_succ
attribute [local go_sem ↓] run_opeq run_opeq2

theorem opdNo_eq (v m : Int) : opEq v m (-1) 0 = opdNo v m := by unfold opdNo opEq; rw [Bool.eq_iff_iff]; simp
set_option maxRecDepth 8000 in
set_option maxHeartbeats 1000000 in
theorem roper_no (v m : Int) (n : Int) (w : World) :
    Calls Tryz.prog 43 #[opV v m, .bool false, .int .i64 n] w fun e w' => e = .returned (.bool (opdNo v m)) ∧ Below w.heap.size w w' := by
  unfold opV
  have n0 := new1 w (.cells #[.int .i64 v, .int .i64 m] 63)
  have k0 := Blk.new w 63 #[.int .i64 v, .int .i64 m]
  go_enter Tryz.func43, Tryz.ntmps43
  go_upto_region 2 with fail
  generalize w.alloc (.cells #[.int .i64 v, .int .i64 m] 63) = w1 at *
  have f0 := later (k0.cell 0)
  have f1 := later (k0.cell 1)
  refine wp_region_flow 2 (fun W => Below w1.heap.size w1 W) (by kernel_rfl) (by kernel_rfl) (Below.refl _ _).drew ?_
  (repeat (first | (refine Flow.skip (by rfl) ?_; simp only [Act.put, List.setIfInBounds_toArray, List.set_cons_zero, List.set_cons_succ]) | (refine' Flow.take _ (by rfl) (fun W hW R hR => ?_) ?_; rotate_left; (go_simp; (try go_bits); with_reducible exact hR); simp only [Act.put, List.setIfInBounds_toArray, List.set_cons_zero, List.set_cons_succ])))
  (refine Flow.call 72 #[] (opV (-1) 0) (by rfl) (fun X hX => by go_simp) (fun X hX => (none_any _).mono fun e w' ⟨he, hb⟩ => ⟨he, bstep hX hX.size hb⟩) ?_; simp only [Act.put, List.setIfInBounds_toArray, List.set_cons_zero, List.set_cons_succ])
  unfold opV
  intro w2 hb2
  go_wp2
  go_ret
  exact ⟨retb (opdNo_eq v m), bup n0 hb2⟩
set_option maxRecDepth 8000 in
set_option maxHeartbeats 1000000 in
theorem roper_yes (v m : Int) (n : Int) (w : World) :
    Calls Tryz.prog 43 #[opV v m, .bool true, .int .i64 n] w fun e w' => e = .returned (.bool (opdOk n v m)) ∧ Below w.heap.size w w' := by
  unfold opV
  have n0 := new1 w (.cells #[.int .i64 v, .int .i64 m] 63)
  go_enter Tryz.func43, Tryz.ntmps43
  cases t1 : (v == -1)
  · by_cases h2 : 0 ≤ v
    · by_cases h3 : v < n
      · go_wp2; go_ret; exact ⟨retb (by unfold opdOk; rw [Bool.eq_iff_iff]; simp; have := beq_eq_false_iff_ne.1 t1; omega), n0⟩
      · go_wp2; go_ret; exact ⟨retb (by unfold opdOk; rw [Bool.eq_iff_iff]; simp; have := beq_eq_false_iff_ne.1 t1; omega), n0⟩
    · go_wp2; go_ret; exact ⟨retb (by unfold opdOk; rw [Bool.eq_iff_iff]; simp; have := beq_eq_false_iff_ne.1 t1; omega), n0⟩
  · go_wp2; go_ret; exact ⟨retb (by unfold opdOk; rw [Bool.eq_iff_iff]; simp; have := beq_iff_eq.1 t1; omega), n0⟩
theorem roper_any (b : Bool) (v m : Int) (n : Int) (w : World) :
    Calls Tryz.prog 43 #[opV v m, .bool b, .int .i64 n] w fun e w' => e = .returned (.bool (bif b then opdOk n v m else opdNo v m)) ∧ Below w.heap.size w w' := by
  cases b
  · exact roper_no v m n w
  · exact roper_yes v m n w
set_option maxRecDepth 8000 in
set_option maxHeartbeats 1000000 in
theorem goper_any (g : Gr) (V D E : Option Addr) (cv cd ce : Nat) (v m : Int) (w : World) (h0 : 0 ≤ g.tm) (h1 : g.tm ≤ 64) (hv : g.nv ≤ 64) :
    Calls Tryz.prog 77 #[grV g V D E cv cd ce, opV v m] w fun e w' => e = .returned (.bool (opdOk g.all v m)) ∧ Below w.heap.size w w' := by
  unfold opV
  have HC : Hid (∀ W, Calls Tryz.prog 75 #[grV g V D E cv cd ce, .int .i64 v] W fun e w' => e = .returned (.bool (decide (0 ≤ v ∧ v < g.all))) ∧ Below W.heap.size W w') := hid fun W => gvar_any g V D E cv cd ce v W h0 h1 hv
  unfold grV at *
  have n0 : Below w.heap.size w ((w.alloc (.cells #[.slice V g.nv cv, .int .i64 g.tm, .slice D g.sz.length cd, .int .i64 g.pts, .int .i64 g.ex, .slice E g.es.length ce] 91)).alloc (.cells #[.int .i64 v, .int .i64 m] 63)) := ((Below.refl _ _).alloc (Nat.le_refl _) _).alloc (by simp) _
  obtain ⟨k0, k1⟩ := blk_two (w := w) (Below.refl _ ((w.alloc (.cells #[.slice V g.nv cv, .int .i64 g.tm, .slice D g.sz.length cd, .int .i64 g.pts, .int .i64 g.ex, .slice E g.es.length ce] 91)).alloc (.cells #[.int .i64 v, .int .i64 m] 63)))
  clear h0 h1 hv
  go_enter Tryz.func77, Tryz.ntmps77
  cases t1 : (v == -1)
  · cases t2 : decide (0 ≤ v ∧ v < g.all)
    · go_wp2_with fail
      generalize ((w.alloc (.cells #[.slice V g.nv cv, .int .i64 g.tm, .slice D g.sz.length cd, .int .i64 g.pts, .int .i64 g.ex, .slice E g.es.length ce] 91)).alloc (.cells #[.int .i64 v, .int .i64 m] 63)) = w1 at *
      refine (HC.out _).mono ?_
      rw [t2]
      rintro e2 w2 ⟨rfl, hb2⟩
      replace k1 := k1.later hb2
      have x0 := k1.cell 0
      have x1 := k1.cell 1
      go_wp2
      go_ret
      exact ⟨retb (by unfold opdOk; rw [Bool.eq_iff_iff]; have := beq_eq_false_iff_ne.1 t1; have := of_decide_eq_false t2; simp; omega), bup n0 hb2⟩
    · go_wp2_with fail
      generalize ((w.alloc (.cells #[.slice V g.nv cv, .int .i64 g.tm, .slice D g.sz.length cd, .int .i64 g.pts, .int .i64 g.ex, .slice E g.es.length ce] 91)).alloc (.cells #[.int .i64 v, .int .i64 m] 63)) = w1 at *
      refine (HC.out _).mono ?_
      rw [t2]
      rintro e2 w2 ⟨rfl, hb2⟩
      replace k1 := k1.later hb2
      have x0 := k1.cell 0
      have x1 := k1.cell 1
      go_wp2
      go_ret
      exact ⟨retb (by unfold opdOk; rw [Bool.eq_iff_iff]; have := beq_eq_false_iff_ne.1 t1; have := of_decide_eq_true t2; simp; omega), bup n0 hb2⟩
  · go_wp2; go_ret; exact ⟨retb (by unfold opdOk; rw [Bool.eq_iff_iff]; simp; have := beq_iff_eq.1 t1; omega), n0⟩
end
end Go.Proofs.YtkncebcekhfnfaaGreat
