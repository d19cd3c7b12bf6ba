/-
  When an edge is right: gnomonref9.Right: what each call answers.
-/
import Derived.Test.YtkncebcekhfnfaaGreatBWT16
namespace Go.Proofs.YtkncebcekhfnfaaGreat
open Go.RowKit
attribute [local go_sem ↓] Go.wp_at_zero Go.wp_at_succ
attribute [local go_sem ↓] run_opeq run_opeq2

theorem ten {w : World} {g : Nat} {t : TypeId} {a b c d e f h i j k : Value} (x : Blk w g t #[a, b, c, d, e, f, h, i, j, k]) :
    w.cell? ⟨g, 0, none⟩ = some a ∧ w.cell? ⟨g, 1, none⟩ = some b ∧ w.cell? ⟨g, 2, none⟩ = some c ∧ w.cell? ⟨g, 3, none⟩ = some d ∧ w.cell? ⟨g, 4, none⟩ = some e ∧ w.cell? ⟨g, 5, none⟩ = some f ∧ w.cell? ⟨g, 6, none⟩ = some h ∧ w.cell? ⟨g, 7, none⟩ = some i ∧ w.cell? ⟨g, 8, none⟩ = some j ∧ w.cell? ⟨g, 9, none⟩ = some k ∧ ∀ j, w.frozen? ⟨g, j, none⟩ = false :=
  ⟨x.cell 0, x.cell 1, x.cell 2, x.cell 3, x.cell 4, x.cell 5, x.cell 6, x.cell 7, x.cell 8, x.cell 9, x.fr⟩
set_option maxRecDepth 8000 in
set_option maxHeartbeats 4000000 in
theorem rright_B (kd : Int) (hk : kd = 1 ∨ kd = 13 ∨ kd = 14) (fr te dst arr op av an bv bn : Int) (n na : Int) (w : World) :
    Calls Tryz.prog 22 #[.agg #[.int .i64 fr, .int .i64 te, .int .i64 kd, .int .i64 dst, .int .i64 arr, .int .i64 op, .int .i64 av, .int .i64 an, .int .i64 bv, .int .i64 bn], .int .i64 n, .int .i64 na] w fun r w' => r = .returned (.bool (rightE n na ⟨fr, te, kd, dst, arr, op, av, an, bv, bn⟩)) ∧ Below w.heap.size w w' := by
  have n0 := new1 w (.cells #[.int .i64 fr, .int .i64 te, .int .i64 kd, .int .i64 dst, .int .i64 arr, .int .i64 op, .int .i64 av, .int .i64 an, .int .i64 bv, .int .i64 bn] 65)
  have k0 := Blk.new w 65 #[.int .i64 fr, .int .i64 te, .int .i64 kd, .int .i64 dst, .int .i64 arr, .int .i64 op, .int .i64 av, .int .i64 an, .int .i64 bv, .int .i64 bn]
  have HA : ∀ W, Calls Tryz.prog 43 #[opV av an, .bool false, .int .i64 n] W fun e w' => e = .returned (.bool (bif false then opdOk n av an else opdNo av an)) ∧ Below W.heap.size W w' := fun W => roper_any false av an n W
  have HB : ∀ W, Calls Tryz.prog 43 #[opV bv bn, .bool false, .int .i64 n] W fun e w' => e = .returned (.bool (bif false then opdOk n bv bn else opdNo bv bn)) ∧ Below W.heap.size W w' := fun W => roper_any false bv bn n W
  unfold opV at HA HB
  replace HA := hid HA
  replace HB := hid HB
  have HR : Hid (rightE n na ⟨fr, te, kd, dst, arr, op, av, an, bv, bn⟩ = (decide ((dst = -1) ∧ (arr = -1) ∧ (op = 0)) && (bif false then opdOk n av an else opdNo av an) && (bif false then opdOk n bv bn else opdNo bv bn))) := hid (by rcases hk with rfl | rfl | rfl <;> (unfold rightE; rw [Bool.eq_iff_iff]; simp [wDst, wA, wB, wArr, wOp, and_assoc]))
  generalize hA : (bif false then opdOk n av an else opdNo av an) = oa at HA HR
  generalize hB : (bif false then opdOk n bv bn else opdNo bv bn) = ob at HB HR
  clear hA hB
  rcases hk with rfl | rfl | rfl
  all_goals
    go_enter Tryz.func22, Tryz.ntmps22
    go_wp2_with fail
    all_goals try (go_ret; refine ⟨retb ?_, n0⟩; rw [HR.out, show decide ((dst = -1) ∧ (arr = -1) ∧ (op = 0)) = false from decide_eq_false (by clear HR HA HB n0 k0; (try simp only [bne_iff_ne, ne_eq] at *); omega)]; rfl)
    refine (HA.out _).mono ?_
    clear HA
    rintro e2 w2 ⟨rfl, hb2⟩
    replace k0 := k0.later hb2
    have x8 := k0.cell 8
    have x9 := k0.cell 9
    cases oa
    · go_wp2; go_ret; exact ⟨retb (by rw [HR.out]; simp), bup n0 hb2⟩
    · go_wp2_with fail
      refine (HB.out _).mono ?_
      rintro e3 w3 ⟨rfl, hb3⟩
      go_wp2; go_ret; exact ⟨retb (by rw [HR.out]; rw [show decide ((dst = -1) ∧ (arr = -1) ∧ (op = 0)) = true from decide_eq_true (by clear HR HB n0 k0 x8 x9 hb2 hb3; (try simp only [bne_eq_false_iff_eq] at *); omega)]; simp), bup (bup n0 hb2) hb3⟩
set_option maxRecDepth 8000 in
set_option maxHeartbeats 4000000 in
theorem rright_C (kd : Int) (hk : kd = 2 ∨ kd = 3) (fr te dst arr op av an bv bn : Int) (n na : Int) (w : World) :
    Calls Tryz.prog 22 #[.agg #[.int .i64 fr, .int .i64 te, .int .i64 kd, .int .i64 dst, .int .i64 arr, .int .i64 op, .int .i64 av, .int .i64 an, .int .i64 bv, .int .i64 bn], .int .i64 n, .int .i64 na] w fun r w' => r = .returned (.bool (rightE n na ⟨fr, te, kd, dst, arr, op, av, an, bv, bn⟩)) ∧ Below w.heap.size w w' := by
  have n0 := new1 w (.cells #[.int .i64 fr, .int .i64 te, .int .i64 kd, .int .i64 dst, .int .i64 arr, .int .i64 op, .int .i64 av, .int .i64 an, .int .i64 bv, .int .i64 bn] 65)
  have k0 := Blk.new w 65 #[.int .i64 fr, .int .i64 te, .int .i64 kd, .int .i64 dst, .int .i64 arr, .int .i64 op, .int .i64 av, .int .i64 an, .int .i64 bv, .int .i64 bn]
  have HA : ∀ W, Calls Tryz.prog 43 #[opV av an, .bool true, .int .i64 n] W fun e w' => e = .returned (.bool (bif true then opdOk n av an else opdNo av an)) ∧ Below W.heap.size W w' := fun W => roper_any true av an n W
  have HB : ∀ W, Calls Tryz.prog 43 #[opV bv bn, .bool false, .int .i64 n] W fun e w' => e = .returned (.bool (bif false then opdOk n bv bn else opdNo bv bn)) ∧ Below W.heap.size W w' := fun W => roper_any false bv bn n W
  unfold opV at HA HB
  replace HA := hid HA
  replace HB := hid HB
  have HR : Hid (rightE n na ⟨fr, te, kd, dst, arr, op, av, an, bv, bn⟩ = (decide ((0 ≤ dst ∧ dst < n) ∧ (arr = -1) ∧ (op = 0)) && (bif true then opdOk n av an else opdNo av an) && (bif false then opdOk n bv bn else opdNo bv bn))) := hid (by rcases hk with rfl | rfl <;> (unfold rightE; rw [Bool.eq_iff_iff]; simp [wDst, wA, wB, wArr, wOp, and_assoc]))
  generalize hA : (bif true then opdOk n av an else opdNo av an) = oa at HA HR
  generalize hB : (bif false then opdOk n bv bn else opdNo bv bn) = ob at HB HR
  clear hA hB
  rcases hk with rfl | rfl
  all_goals
    go_enter Tryz.func22, Tryz.ntmps22
    go_wp2_with fail
    all_goals try (go_ret; refine ⟨retb ?_, n0⟩; rw [HR.out, show decide ((0 ≤ dst ∧ dst < n) ∧ (arr = -1) ∧ (op = 0)) = false from decide_eq_false (by clear HR HA HB n0 k0; (try simp only [bne_iff_ne, ne_eq] at *); omega)]; rfl)
    refine (HA.out _).mono ?_
    clear HA
    rintro e2 w2 ⟨rfl, hb2⟩
    replace k0 := k0.later hb2
    have x8 := k0.cell 8
    have x9 := k0.cell 9
    cases oa
    · go_wp2; go_ret; exact ⟨retb (by rw [HR.out]; simp), bup n0 hb2⟩
    · go_wp2_with fail
      refine (HB.out _).mono ?_
      rintro e3 w3 ⟨rfl, hb3⟩
      go_wp2; go_ret; exact ⟨retb (by rw [HR.out]; rw [show decide ((0 ≤ dst ∧ dst < n) ∧ (arr = -1) ∧ (op = 0)) = true from decide_eq_true (by clear HR HB n0 k0 x8 x9 hb2 hb3; (try simp only [bne_eq_false_iff_eq] at *); omega)]; simp), bup (bup n0 hb2) hb3⟩
set_option maxRecDepth 8000 in
set_option maxHeartbeats 4000000 in
theorem rright_A (kd : Int) (hk : kd = 4 ∨ kd = 5 ∨ kd = 6 ∨ kd = 7 ∨ kd = 8) (fr te dst arr op av an bv bn : Int) (n na : Int) (w : World) :
    Calls Tryz.prog 22 #[.agg #[.int .i64 fr, .int .i64 te, .int .i64 kd, .int .i64 dst, .int .i64 arr, .int .i64 op, .int .i64 av, .int .i64 an, .int .i64 bv, .int .i64 bn], .int .i64 n, .int .i64 na] w fun r w' => r = .returned (.bool (rightE n na ⟨fr, te, kd, dst, arr, op, av, an, bv, bn⟩)) ∧ Below w.heap.size w w' := by
  have n0 := new1 w (.cells #[.int .i64 fr, .int .i64 te, .int .i64 kd, .int .i64 dst, .int .i64 arr, .int .i64 op, .int .i64 av, .int .i64 an, .int .i64 bv, .int .i64 bn] 65)
  have k0 := Blk.new w 65 #[.int .i64 fr, .int .i64 te, .int .i64 kd, .int .i64 dst, .int .i64 arr, .int .i64 op, .int .i64 av, .int .i64 an, .int .i64 bv, .int .i64 bn]
  have HA : ∀ W, Calls Tryz.prog 43 #[opV av an, .bool true, .int .i64 n] W fun e w' => e = .returned (.bool (bif true then opdOk n av an else opdNo av an)) ∧ Below W.heap.size W w' := fun W => roper_any true av an n W
  have HB : ∀ W, Calls Tryz.prog 43 #[opV bv bn, .bool true, .int .i64 n] W fun e w' => e = .returned (.bool (bif true then opdOk n bv bn else opdNo bv bn)) ∧ Below W.heap.size W w' := fun W => roper_any true bv bn n W
  unfold opV at HA HB
  replace HA := hid HA
  replace HB := hid HB
  have HR : Hid (rightE n na ⟨fr, te, kd, dst, arr, op, av, an, bv, bn⟩ = (decide ((0 ≤ dst ∧ dst < n) ∧ (arr = -1) ∧ (op = 0)) && (bif true then opdOk n av an else opdNo av an) && (bif true then opdOk n bv bn else opdNo bv bn))) := hid (by rcases hk with rfl | rfl | rfl | rfl | rfl <;> (unfold rightE; rw [Bool.eq_iff_iff]; simp [wDst, wA, wB, wArr, wOp, and_assoc]))
  generalize hA : (bif true then opdOk n av an else opdNo av an) = oa at HA HR
  generalize hB : (bif true then opdOk n bv bn else opdNo bv bn) = ob at HB HR
  clear hA hB
  rcases hk with rfl | rfl | rfl | rfl | rfl
  all_goals
    go_enter Tryz.func22, Tryz.ntmps22
    go_wp2_with fail
    all_goals try (go_ret; refine ⟨retb ?_, n0⟩; rw [HR.out, show decide ((0 ≤ dst ∧ dst < n) ∧ (arr = -1) ∧ (op = 0)) = false from decide_eq_false (by clear HR HA HB n0 k0; (try simp only [bne_iff_ne, ne_eq] at *); omega)]; rfl)
    refine (HA.out _).mono ?_
    clear HA
    rintro e2 w2 ⟨rfl, hb2⟩
    replace k0 := k0.later hb2
    have x8 := k0.cell 8
    have x9 := k0.cell 9
    cases oa
    · go_wp2; go_ret; exact ⟨retb (by rw [HR.out]; simp), bup n0 hb2⟩
    · go_wp2_with fail
      refine (HB.out _).mono ?_
      rintro e3 w3 ⟨rfl, hb3⟩
      go_wp2; go_ret; exact ⟨retb (by rw [HR.out]; rw [show decide ((0 ≤ dst ∧ dst < n) ∧ (arr = -1) ∧ (op = 0)) = true from decide_eq_true (by clear HR HB n0 k0 x8 x9 hb2 hb3; (try simp only [bne_eq_false_iff_eq] at *); omega)]; simp), bup (bup n0 hb2) hb3⟩
set_option maxRecDepth 8000 in
set_option maxHeartbeats 4000000 in
theorem rright_9 (fr te dst arr op av an bv bn : Int) (n na : Int) (w : World) :
    Calls Tryz.prog 22 #[.agg #[.int .i64 fr, .int .i64 te, .int .i64 9, .int .i64 dst, .int .i64 arr, .int .i64 op, .int .i64 av, .int .i64 an, .int .i64 bv, .int .i64 bn], .int .i64 n, .int .i64 na] w fun r w' => r = .returned (.bool (rightE n na ⟨fr, te, 9, dst, arr, op, av, an, bv, bn⟩)) ∧ Below w.heap.size w w' := by
  have n0 := new1 w (.cells #[.int .i64 fr, .int .i64 te, .int .i64 9, .int .i64 dst, .int .i64 arr, .int .i64 op, .int .i64 av, .int .i64 an, .int .i64 bv, .int .i64 bn] 65)
  have k0 := Blk.new w 65 #[.int .i64 fr, .int .i64 te, .int .i64 9, .int .i64 dst, .int .i64 arr, .int .i64 op, .int .i64 av, .int .i64 an, .int .i64 bv, .int .i64 bn]
  have HA : ∀ W, Calls Tryz.prog 43 #[opV av an, .bool false, .int .i64 n] W fun e w' => e = .returned (.bool (bif false then opdOk n av an else opdNo av an)) ∧ Below W.heap.size W w' := fun W => roper_any false av an n W
  have HB : ∀ W, Calls Tryz.prog 43 #[opV bv bn, .bool false, .int .i64 n] W fun e w' => e = .returned (.bool (bif false then opdOk n bv bn else opdNo bv bn)) ∧ Below W.heap.size W w' := fun W => roper_any false bv bn n W
  unfold opV at HA HB
  replace HA := hid HA
  replace HB := hid HB
  have HR : Hid (rightE n na ⟨fr, te, 9, dst, arr, op, av, an, bv, bn⟩ = (decide ((0 ≤ dst ∧ dst < n) ∧ (arr = -1) ∧ (op = 0)) && (bif false then opdOk n av an else opdNo av an) && (bif false then opdOk n bv bn else opdNo bv bn))) := hid (by unfold rightE; rw [Bool.eq_iff_iff]; simp [wDst, wA, wB, wArr, wOp, and_assoc])
  generalize hA : (bif false then opdOk n av an else opdNo av an) = oa at HA HR
  generalize hB : (bif false then opdOk n bv bn else opdNo bv bn) = ob at HB HR
  clear hA hB
  go_enter Tryz.func22, Tryz.ntmps22
  go_wp2_with fail
  all_goals try (go_ret; refine ⟨retb ?_, n0⟩; rw [HR.out, show decide ((0 ≤ dst ∧ dst < n) ∧ (arr = -1) ∧ (op = 0)) = false from decide_eq_false (by clear HR HA HB n0 k0; (try simp only [bne_iff_ne, ne_eq] at *); omega)]; rfl)
  refine (HA.out _).mono ?_
  clear HA
  rintro e2 w2 ⟨rfl, hb2⟩
  replace k0 := k0.later hb2
  have x8 := k0.cell 8
  have x9 := k0.cell 9
  cases oa
  · go_wp2; go_ret; exact ⟨retb (by rw [HR.out]; simp), bup n0 hb2⟩
  · go_wp2_with fail
    refine (HB.out _).mono ?_
    rintro e3 w3 ⟨rfl, hb3⟩
    go_wp2; go_ret; exact ⟨retb (by rw [HR.out]; rw [show decide ((0 ≤ dst ∧ dst < n) ∧ (arr = -1) ∧ (op = 0)) = true from decide_eq_true (by clear HR HB n0 k0 x8 x9 hb2 hb3; (try simp only [bne_eq_false_iff_eq] at *); omega)]; simp), bup (bup n0 hb2) hb3⟩
set_option maxRecDepth 8000 in
set_option maxHeartbeats 4000000 in
theorem rright_10 (fr te dst arr op av an bv bn : Int) (n na : Int) (w : World) :
    Calls Tryz.prog 22 #[.agg #[.int .i64 fr, .int .i64 te, .int .i64 10, .int .i64 dst, .int .i64 arr, .int .i64 op, .int .i64 av, .int .i64 an, .int .i64 bv, .int .i64 bn], .int .i64 n, .int .i64 na] w fun r w' => r = .returned (.bool (rightE n na ⟨fr, te, 10, dst, arr, op, av, an, bv, bn⟩)) ∧ Below w.heap.size w w' := by
  have n0 := new1 w (.cells #[.int .i64 fr, .int .i64 te, .int .i64 10, .int .i64 dst, .int .i64 arr, .int .i64 op, .int .i64 av, .int .i64 an, .int .i64 bv, .int .i64 bn] 65)
  have k0 := Blk.new w 65 #[.int .i64 fr, .int .i64 te, .int .i64 10, .int .i64 dst, .int .i64 arr, .int .i64 op, .int .i64 av, .int .i64 an, .int .i64 bv, .int .i64 bn]
  have HA : ∀ W, Calls Tryz.prog 43 #[opV av an, .bool true, .int .i64 n] W fun e w' => e = .returned (.bool (bif true then opdOk n av an else opdNo av an)) ∧ Below W.heap.size W w' := fun W => roper_any true av an n W
  have HB : ∀ W, Calls Tryz.prog 43 #[opV bv bn, .bool false, .int .i64 n] W fun e w' => e = .returned (.bool (bif false then opdOk n bv bn else opdNo bv bn)) ∧ Below W.heap.size W w' := fun W => roper_any false bv bn n W
  unfold opV at HA HB
  replace HA := hid HA
  replace HB := hid HB
  have HR : Hid (rightE n na ⟨fr, te, 10, dst, arr, op, av, an, bv, bn⟩ = (decide ((0 ≤ dst ∧ dst < n) ∧ (0 ≤ arr ∧ arr < na) ∧ (op = 0)) && (bif true then opdOk n av an else opdNo av an) && (bif false then opdOk n bv bn else opdNo bv bn))) := hid (by unfold rightE; rw [Bool.eq_iff_iff]; simp [wDst, wA, wB, wArr, wOp, and_assoc])
  generalize hA : (bif true then opdOk n av an else opdNo av an) = oa at HA HR
  generalize hB : (bif false then opdOk n bv bn else opdNo bv bn) = ob at HB HR
  clear hA hB
  go_enter Tryz.func22, Tryz.ntmps22
  go_wp2_with fail
  all_goals try (go_ret; refine ⟨retb ?_, n0⟩; rw [HR.out, show decide ((0 ≤ dst ∧ dst < n) ∧ (0 ≤ arr ∧ arr < na) ∧ (op = 0)) = false from decide_eq_false (by clear HR HA HB n0 k0; (try simp only [bne_iff_ne, ne_eq] at *); omega)]; rfl)
  refine (HA.out _).mono ?_
  clear HA
  rintro e2 w2 ⟨rfl, hb2⟩
  replace k0 := k0.later hb2
  have x8 := k0.cell 8
  have x9 := k0.cell 9
  cases oa
  · go_wp2; go_ret; exact ⟨retb (by rw [HR.out]; simp), bup n0 hb2⟩
  · go_wp2_with fail
    refine (HB.out _).mono ?_
    rintro e3 w3 ⟨rfl, hb3⟩
    go_wp2; go_ret; exact ⟨retb (by rw [HR.out]; rw [show decide ((0 ≤ dst ∧ dst < n) ∧ (0 ≤ arr ∧ arr < na) ∧ (op = 0)) = true from decide_eq_true (by clear HR HB n0 k0 x8 x9 hb2 hb3; (try simp only [bne_eq_false_iff_eq] at *); omega)]; simp), bup (bup n0 hb2) hb3⟩
set_option maxRecDepth 8000 in
set_option maxHeartbeats 4000000 in
theorem rright_11 (fr te dst arr op av an bv bn : Int) (n na : Int) (w : World) :
    Calls Tryz.prog 22 #[.agg #[.int .i64 fr, .int .i64 te, .int .i64 11, .int .i64 dst, .int .i64 arr, .int .i64 op, .int .i64 av, .int .i64 an, .int .i64 bv, .int .i64 bn], .int .i64 n, .int .i64 na] w fun r w' => r = .returned (.bool (rightE n na ⟨fr, te, 11, dst, arr, op, av, an, bv, bn⟩)) ∧ Below w.heap.size w w' := by
  have n0 := new1 w (.cells #[.int .i64 fr, .int .i64 te, .int .i64 11, .int .i64 dst, .int .i64 arr, .int .i64 op, .int .i64 av, .int .i64 an, .int .i64 bv, .int .i64 bn] 65)
  have k0 := Blk.new w 65 #[.int .i64 fr, .int .i64 te, .int .i64 11, .int .i64 dst, .int .i64 arr, .int .i64 op, .int .i64 av, .int .i64 an, .int .i64 bv, .int .i64 bn]
  have HA : ∀ W, Calls Tryz.prog 43 #[opV av an, .bool true, .int .i64 n] W fun e w' => e = .returned (.bool (bif true then opdOk n av an else opdNo av an)) ∧ Below W.heap.size W w' := fun W => roper_any true av an n W
  have HB : ∀ W, Calls Tryz.prog 43 #[opV bv bn, .bool true, .int .i64 n] W fun e w' => e = .returned (.bool (bif true then opdOk n bv bn else opdNo bv bn)) ∧ Below W.heap.size W w' := fun W => roper_any true bv bn n W
  unfold opV at HA HB
  replace HA := hid HA
  replace HB := hid HB
  have HR : Hid (rightE n na ⟨fr, te, 11, dst, arr, op, av, an, bv, bn⟩ = (decide ((dst = -1) ∧ (0 ≤ arr ∧ arr < na) ∧ (op = 0)) && (bif true then opdOk n av an else opdNo av an) && (bif true then opdOk n bv bn else opdNo bv bn))) := hid (by unfold rightE; rw [Bool.eq_iff_iff]; simp [wDst, wA, wB, wArr, wOp, and_assoc])
  generalize hA : (bif true then opdOk n av an else opdNo av an) = oa at HA HR
  generalize hB : (bif true then opdOk n bv bn else opdNo bv bn) = ob at HB HR
  clear hA hB
  go_enter Tryz.func22, Tryz.ntmps22
  go_wp2_with fail
  all_goals try (go_ret; refine ⟨retb ?_, n0⟩; rw [HR.out, show decide ((dst = -1) ∧ (0 ≤ arr ∧ arr < na) ∧ (op = 0)) = false from decide_eq_false (by clear HR HA HB n0 k0; (try simp only [bne_iff_ne, ne_eq] at *); omega)]; rfl)
  refine (HA.out _).mono ?_
  clear HA
  rintro e2 w2 ⟨rfl, hb2⟩
  replace k0 := k0.later hb2
  have x8 := k0.cell 8
  have x9 := k0.cell 9
  cases oa
  · go_wp2; go_ret; exact ⟨retb (by rw [HR.out]; simp), bup n0 hb2⟩
  · go_wp2_with fail
    refine (HB.out _).mono ?_
    rintro e3 w3 ⟨rfl, hb3⟩
    go_wp2; go_ret; exact ⟨retb (by rw [HR.out]; rw [show decide ((dst = -1) ∧ (0 ≤ arr ∧ arr < na) ∧ (op = 0)) = true from decide_eq_true (by clear HR HB n0 k0 x8 x9 hb2 hb3; (try simp only [bne_eq_false_iff_eq] at *); omega)]; simp), bup (bup n0 hb2) hb3⟩
set_option maxRecDepth 8000 in
set_option maxHeartbeats 4000000 in
theorem rright_12 (fr te dst arr op av an bv bn : Int) (n na : Int) (w : World) :
    Calls Tryz.prog 22 #[.agg #[.int .i64 fr, .int .i64 te, .int .i64 12, .int .i64 dst, .int .i64 arr, .int .i64 op, .int .i64 av, .int .i64 an, .int .i64 bv, .int .i64 bn], .int .i64 n, .int .i64 na] w fun r w' => r = .returned (.bool (rightE n na ⟨fr, te, 12, dst, arr, op, av, an, bv, bn⟩)) ∧ Below w.heap.size w w' := by
  have n0 := new1 w (.cells #[.int .i64 fr, .int .i64 te, .int .i64 12, .int .i64 dst, .int .i64 arr, .int .i64 op, .int .i64 av, .int .i64 an, .int .i64 bv, .int .i64 bn] 65)
  have k0 := Blk.new w 65 #[.int .i64 fr, .int .i64 te, .int .i64 12, .int .i64 dst, .int .i64 arr, .int .i64 op, .int .i64 av, .int .i64 an, .int .i64 bv, .int .i64 bn]
  have HA : ∀ W, Calls Tryz.prog 43 #[opV av an, .bool true, .int .i64 n] W fun e w' => e = .returned (.bool (bif true then opdOk n av an else opdNo av an)) ∧ Below W.heap.size W w' := fun W => roper_any true av an n W
  have HB : ∀ W, Calls Tryz.prog 43 #[opV bv bn, .bool true, .int .i64 n] W fun e w' => e = .returned (.bool (bif true then opdOk n bv bn else opdNo bv bn)) ∧ Below W.heap.size W w' := fun W => roper_any true bv bn n W
  unfold opV at HA HB
  replace HA := hid HA
  replace HB := hid HB
  have HR : Hid (rightE n na ⟨fr, te, 12, dst, arr, op, av, an, bv, bn⟩ = (decide ((dst = -1) ∧ (arr = -1) ∧ (1 ≤ op ∧ op ≤ 6)) && (bif true then opdOk n av an else opdNo av an) && (bif true then opdOk n bv bn else opdNo bv bn))) := hid (by unfold rightE; rw [Bool.eq_iff_iff]; simp [wDst, wA, wB, wArr, wOp, and_assoc])
  generalize hA : (bif true then opdOk n av an else opdNo av an) = oa at HA HR
  generalize hB : (bif true then opdOk n bv bn else opdNo bv bn) = ob at HB HR
  clear hA hB
  go_enter Tryz.func22, Tryz.ntmps22
  go_wp2_with fail
  all_goals try (go_ret; refine ⟨retb ?_, n0⟩; rw [HR.out, show decide ((dst = -1) ∧ (arr = -1) ∧ (1 ≤ op ∧ op ≤ 6)) = false from decide_eq_false (by clear HR HA HB n0 k0; (try simp only [bne_iff_ne, ne_eq] at *); omega)]; rfl)
  refine (HA.out _).mono ?_
  clear HA
  rintro e2 w2 ⟨rfl, hb2⟩
  replace k0 := k0.later hb2
  have x8 := k0.cell 8
  have x9 := k0.cell 9
  cases oa
  · go_wp2; go_ret; exact ⟨retb (by rw [HR.out]; simp), bup n0 hb2⟩
  · go_wp2_with fail
    refine (HB.out _).mono ?_
    rintro e3 w3 ⟨rfl, hb3⟩
    go_wp2; go_ret; exact ⟨retb (by rw [HR.out]; rw [show decide ((dst = -1) ∧ (arr = -1) ∧ (1 ≤ op ∧ op ≤ 6)) = true from decide_eq_true (by clear HR HB n0 k0 x8 x9 hb2 hb3; (try simp only [bne_eq_false_iff_eq] at *); omega)]; simp), bup (bup n0 hb2) hb3⟩
set_option maxRecDepth 8000 in
set_option maxHeartbeats 4000000 in
theorem rright_any (e : Edg) (n na : Int) (w : World) :
    Calls Tryz.prog 22 #[e.val, .int .i64 n, .int .i64 na] w fun r w' => r = .returned (.bool (rightE n na e)) ∧ Below w.heap.size w w' := by
  obtain ⟨fr, te, kd, dst, arr, op, av, an, bv, bn⟩ := e
  unfold Edg.val
  dsimp only
  by_cases h : 1 ≤ kd ∧ kd ≤ 14
  · have : kd = 1 ∨ kd = 2 ∨ kd = 3 ∨ kd = 4 ∨ kd = 5 ∨ kd = 6 ∨ kd = 7 ∨ kd = 8 ∨ kd = 9 ∨ kd = 10 ∨ kd = 11 ∨ kd = 12 ∨ kd = 13 ∨ kd = 14 := by omega
    clear h
    rcases this with rfl | rfl | rfl | rfl | rfl | rfl | rfl | rfl | rfl | rfl | rfl | rfl | rfl | rfl
    · exact rright_B 1 (by omega) fr te dst arr op av an bv bn n na w
    · exact rright_C 2 (by omega) fr te dst arr op av an bv bn n na w
    · exact rright_C 3 (by omega) fr te dst arr op av an bv bn n na w
    · exact rright_A 4 (by omega) fr te dst arr op av an bv bn n na w
    · exact rright_A 5 (by omega) fr te dst arr op av an bv bn n na w
    · exact rright_A 6 (by omega) fr te dst arr op av an bv bn n na w
    · exact rright_A 7 (by omega) fr te dst arr op av an bv bn n na w
    · exact rright_A 8 (by omega) fr te dst arr op av an bv bn n na w
    · exact rright_9 fr te dst arr op av an bv bn n na w
    · exact rright_10 fr te dst arr op av an bv bn n na w
    · exact rright_11 fr te dst arr op av an bv bn n na w
    · exact rright_12 fr te dst arr op av an bv bn n na w
    · exact rright_B 13 (by omega) fr te dst arr op av an bv bn n na w
    · exact rright_B 14 (by omega) fr te dst arr op av an bv bn n na w
  · have n0 := new1 w (.cells #[.int .i64 fr, .int .i64 te, .int .i64 kd, .int .i64 dst, .int .i64 arr, .int .i64 op, .int .i64 av, .int .i64 an, .int .i64 bv, .int .i64 bn] 65)
    have HR : Hid (rightE n na ⟨fr, te, kd, dst, arr, op, av, an, bv, bn⟩ = false) := hid (by unfold rightE; rw [show decide (1 ≤ kd ∧ kd ≤ 14) = false from decide_eq_false h]; rfl)
    have h1 : (kd == 1) = false := by rw [beq_eq_false_iff_ne]; omega
    have h2 : (kd == 2) = false := by rw [beq_eq_false_iff_ne]; omega
    have h3 : (kd == 3) = false := by rw [beq_eq_false_iff_ne]; omega
    have h4 : (kd == 4) = false := by rw [beq_eq_false_iff_ne]; omega
    have h5 : (kd == 5) = false := by rw [beq_eq_false_iff_ne]; omega
    have h6 : (kd == 6) = false := by rw [beq_eq_false_iff_ne]; omega
    have h7 : (kd == 7) = false := by rw [beq_eq_false_iff_ne]; omega
    have h8 : (kd == 8) = false := by rw [beq_eq_false_iff_ne]; omega
    have h9 : (kd == 9) = false := by rw [beq_eq_false_iff_ne]; omega
    have h10 : (kd == 10) = false := by rw [beq_eq_false_iff_ne]; omega
    have h11 : (kd == 11) = false := by rw [beq_eq_false_iff_ne]; omega
    have h12 : (kd == 12) = false := by rw [beq_eq_false_iff_ne]; omega
    have h13 : (kd == 13) = false := by rw [beq_eq_false_iff_ne]; omega
    have h14 : (kd == 14) = false := by rw [beq_eq_false_iff_ne]; omega
    clear h
    go_enter Tryz.func22, Tryz.ntmps22
    go_wp2; go_ret; exact ⟨retb HR.out.symm, n0⟩
end Go.Proofs.YtkncebcekhfnfaaGreat
