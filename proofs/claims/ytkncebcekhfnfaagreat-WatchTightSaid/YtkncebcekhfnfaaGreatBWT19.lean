/-
  When an edge is right: (cfg.graph).right: what each call answers.
-/
import Derived.Test.YtkncebcekhfnfaaGreatBWT16
namespace Go.Proofs.YtkncebcekhfnfaaGreat
open Go.RowKit
attribute [local go_sem ↓] Go.wp_at_zero Go.wp_at_succ
attribute [local go_sem ↓] run_opeq run_opeq2

theorem cells6 {w : World} {g : Nat} {t : TypeId} {a b c d e f : Value} (x : Blk w g t #[a, b, c, d, e, f]) :
    (∀ W, Below w.heap.size w W → W.cell? ⟨g, 0, none⟩ = some a) ∧ (∀ W, Below w.heap.size w W → W.cell? ⟨g, 1, none⟩ = some b) ∧ (∀ W, Below w.heap.size w W → W.cell? ⟨g, 2, none⟩ = some c) ∧ (∀ W, Below w.heap.size w W → W.cell? ⟨g, 3, none⟩ = some d) ∧ (∀ W, Below w.heap.size w W → W.cell? ⟨g, 4, none⟩ = some e) ∧ (∀ W, Below w.heap.size w W → W.cell? ⟨g, 5, none⟩ = some f) :=
  ⟨later (x.cell 0), later (x.cell 1), later (x.cell 2), later (x.cell 3), later (x.cell 4), later (x.cell 5)⟩
set_option maxRecDepth 8000 in
set_option maxHeartbeats 8000000 in
theorem gright_any (g : Gr) (V D E : Option Addr) (cv cd ce : Nat) (e : Edg) (w : World) (h0 : 0 ≤ g.tm) (h1 : g.tm ≤ 64) (hv : g.nv ≤ 64) :
    Calls Tryz.prog 46 #[grV g V D E cv cd ce, e.val] w fun r w' => r = .returned (.bool (edgeOk g e)) ∧ Below w.heap.size w w' := by
  obtain ⟨fr, te, kd, dst, arr, op, av, an, bv, bn⟩ := e
  have HP1 : ∀ W, Calls Tryz.prog 45 #[grV g V D E cv cd ce, .int .i64 fr] W fun e w' => e = .returned (.bool (decide (0 ≤ fr ∧ fr < g.pts))) ∧ Below W.heap.size W w' := fun W => gpoint_any g V D E cv cd ce fr W
  have HP2 : ∀ W, Calls Tryz.prog 45 #[grV g V D E cv cd ce, .int .i64 te] W fun e w' => e = .returned (.bool (decide (0 ≤ te ∧ te < g.pts))) ∧ Below W.heap.size W w' := fun W => gpoint_any g V D E cv cd ce te W
  have HV : ∀ W, Calls Tryz.prog 75 #[grV g V D E cv cd ce, .int .i64 dst] W fun e w' => e = .returned (.bool (decide (0 ≤ dst ∧ dst < g.all))) ∧ Below W.heap.size W w' := fun W => gvar_any g V D E cv cd ce dst W h0 h1 hv
  have HAr : ∀ W, Calls Tryz.prog 76 #[grV g V D E cv cd ce, .int .i64 arr] W fun e w' => e = .returned (.bool (decide (0 ≤ arr ∧ arr < g.sz.length))) ∧ Below W.heap.size W w' := fun W => garr_any g V D E cv cd ce arr W
  have HA : ∀ W, Calls Tryz.prog 77 #[grV g V D E cv cd ce, opV av an] W fun e w' => e = .returned (.bool (opdOk g.all av an)) ∧ Below W.heap.size W w' := fun W => goper_any g V D E cv cd ce av an W h0 h1 hv
  have HB : ∀ W, Calls Tryz.prog 77 #[grV g V D E cv cd ce, opV bv bn] W fun e w' => e = .returned (.bool (opdOk g.all bv bn)) ∧ Below W.heap.size W w' := fun W => goper_any g V D E cv cd ce bv bn W h0 h1 hv
  have HN : ∀ W, Calls Tryz.prog 78 #[] W fun e w' => e = .returned (opV (-1) 0) ∧ Below W.heap.size W w' := nothing_any
  have HW : ∀ W, Calls Tryz.prog 73 #[.int .i64 kd] W fun e w' => e = .returned (.agg #[.bool (wDst kd), .bool (wArr kd), .bool (wOp kd), .bool (wA kd), .bool (wB kd)]) ∧ Below W.heap.size W w' := wants_any kd
  clear h0 h1 hv
  have HR : Hid (edgeOk g ⟨fr, te, kd, dst, arr, op, av, an, bv, bn⟩ = (decide (0 ≤ fr ∧ fr < g.pts) && (decide (0 ≤ te ∧ te < g.pts) && ((!(fr == g.ex)) && (decide (1 ≤ kd ∧ kd ≤ 14) && ((bif wDst kd then decide (0 ≤ dst ∧ dst < g.all) else (dst == -1)) && ((bif wArr kd then decide (0 ≤ arr ∧ arr < g.sz.length) else (arr == -1)) && ((bif wOp kd then (decide (1 ≤ op) && decide (op ≤ 6)) else (op == 0)) && ((bif wA kd then opdOk g.all av an else opEq av an (-1) 0) && (bif wB kd then opdOk g.all bv bn else opEq bv bn (-1) 0))))))))) ) := hid (by
    unfold edgeOk inE rightE opdNo opEq
    dsimp only
    generalize opdOk g.all av an = x1
    generalize opdOk g.all bv bn = x2
    cases wDst kd <;> cases wArr kd <;> cases wOp kd <;> cases wA kd <;> cases wB kd <;> (rw [Bool.eq_iff_iff]; simp; constructor <;> (intro h; simp_all)))
  unfold grV opV Edg.val at *
  dsimp only at *
  have n0 : Below w.heap.size w ((w.alloc (.cells #[.slice V g.nv cv, .int .i64 g.tm, .slice D g.sz.length cd, .int .i64 g.pts, .int .i64 g.ex, .slice E g.es.length ce] 91)).alloc (.cells #[.int .i64 fr, .int .i64 te, .int .i64 kd, .int .i64 dst, .int .i64 arr, .int .i64 op, .int .i64 av, .int .i64 an, .int .i64 bv, .int .i64 bn] 65)) := ((Below.refl _ _).alloc (Nat.le_refl _) _).alloc (by simp) _
  obtain ⟨k0, k1⟩ := blk_two (w := w) (Below.refl _ ((w.alloc (.cells #[.slice V g.nv cv, .int .i64 g.tm, .slice D g.sz.length cd, .int .i64 g.pts, .int .i64 g.ex, .slice E g.es.length ce] 91)).alloc (.cells #[.int .i64 fr, .int .i64 te, .int .i64 kd, .int .i64 dst, .int .i64 arr, .int .i64 op, .int .i64 av, .int .i64 an, .int .i64 bv, .int .i64 bn] 65)))
  replace HP1 := hid HP1
  replace HP2 := hid HP2
  replace HV := hid HV
  replace HAr := hid HAr
  replace HA := hid HA
  replace HB := hid HB
  replace HN := hid HN
  replace HW := hid HW
  generalize hp1 : decide (0 ≤ fr ∧ fr < g.pts) = p1 at HP1 HR
  generalize hp2 : decide (0 ≤ te ∧ te < g.pts) = p2 at HP2 HR
  generalize hq1 : decide (0 ≤ dst ∧ dst < g.all) = q1 at HV HR
  generalize hq2 : decide (0 ≤ arr ∧ arr < g.sz.length) = q2 at HAr HR
  generalize hq3 : opdOk g.all av an = q3 at HA HR
  generalize hq4 : opdOk g.all bv bn = q4 at HB HR
  clear hp1 hp2 hq1 hq2 hq3 hq4
  go_enter Tryz.func46, Tryz.ntmps46
  go_wp2_with fail
  generalize ((w.alloc (.cells #[.slice V g.nv cv, .int .i64 g.tm, .slice D g.sz.length cd, .int .i64 g.pts, .int .i64 g.ex, .slice E g.es.length ce] 91)).alloc (.cells #[.int .i64 fr, .int .i64 te, .int .i64 kd, .int .i64 dst, .int .i64 arr, .int .i64 op, .int .i64 av, .int .i64 an, .int .i64 bv, .int .i64 bn] 65)) = w1 at *
  refine (HP1.out _).mono ?_
  clear HP1
  rintro e2 w2 ⟨rfl, hb2⟩
  have n1 := bup n0 hb2
  replace k0 := k0.later hb2
  replace k1 := k1.later hb2
  clear hb2 n0
  cases p1
  · go_wp2; go_ret; exact ⟨retb (by rw [HR.out]; simp), n1⟩
  obtain ⟨x0, x1, x2, x3, x4, x5, fx⟩ := blk6 k0
  have y1 := k1.cell 1
  go_wp2_with fail
  clear x0 x1 x2 x3 x4 x5 fx y1
  refine (HP2.out _).mono ?_
  clear HP2
  rintro e3 w3 ⟨rfl, hb2⟩
  replace n1 := bup n1 hb2
  replace k0 := k0.later hb2
  replace k1 := k1.later hb2
  clear hb2
  cases p2
  · go_wp2; go_ret; exact ⟨retb (by rw [HR.out]; simp), n1⟩
  have x4 := k0.cell 4
  have y0 := k1.cell 0
  have y2 := k1.cell 2
  cases t1 : (fr == g.ex)
  rotate_left
  · go_wp2; go_ret; exact ⟨retb (by rw [HR.out, t1]; simp), n1⟩
  by_cases l1 : kd < 1
  · have HX := hid l1
    go_wp2; go_ret; exact ⟨retb (by rw [HR.out, show decide (1 ≤ kd ∧ kd ≤ 14) = false from decide_eq_false (by have := HX.out; omega)]; simp), n1⟩
  by_cases l2 : 14 < kd
  · have HX := hid l2
    go_wp2; go_ret; exact ⟨retb (by rw [HR.out, show decide (1 ≤ kd ∧ kd ≤ 14) = false from decide_eq_false (by have := HX.out; omega)]; simp), n1⟩
  have HK : Hid (decide (1 ≤ kd ∧ kd ≤ 14) = true) := hid (decide_eq_true (by omega))
  rw [HK.out, t1] at HR
  go_wp2_with fail
  refine (HW.out _).mono ?_
  clear HW x4 y0 y2 l1 l2 HK
  rintro e4 w4 ⟨rfl, hb2⟩
  replace n1 := bup n1 hb2
  replace k0 := k0.later hb2
  replace k1 := k1.later hb2
  clear hb2
  have n2 := new1 w4 (.cells #[.bool (wDst kd), .bool (wArr kd), .bool (wOp kd), .bool (wA kd), .bool (wB kd)] 138)
  have k2 := Blk.new w4 138 #[.bool (wDst kd), .bool (wArr kd), .bool (wOp kd), .bool (wA kd), .bool (wB kd)]
  replace n1 := bup n1 n2
  replace k0 := k0.later n2
  replace k1 := k1.later n2
  clear n2
  go_upto_region 4 with fail
  have e5 : (w4.alloc (.cells #[.bool (wDst kd), .bool (wArr kd), .bool (wOp kd), .bool (wA kd), .bool (wB kd)] 138)).heap.size = (w4.alloc (.cells #[.bool (wDst kd), .bool (wArr kd), .bool (wOp kd), .bool (wA kd), .bool (wB kd)] 138)).heap.size := rfl
  clear e5
  generalize (w4.alloc (.cells #[.bool (wDst kd), .bool (wArr kd), .bool (wOp kd), .bool (wA kd), .bool (wB kd)] 138)) = w5 at *
  obtain ⟨f0, f1, f2, f3, f4, f5⟩ := cells6 k0
  have d3 := later (k1.cell 3)
  have d4 := later (k1.cell 4)
  have d5 := later (k1.cell 5)
  have d6 := later (k1.cell 6)
  have d7 := later (k1.cell 7)
  have d8 := later (k1.cell 8)
  have d9 := later (k1.cell 9)
  have g0 := later (k2.cell 0)
  have g1 := later (k2.cell 1)
  have g2 := later (k2.cell 2)
  have g3 := later (k2.cell 3)
  have g4 := later (k2.cell 4)
  clear k0 k1 k2
  refine wp_region_flowX 62 (fun W => Below w5.heap.size w5 W) (by kernel_rfl) (by kernel_rfl) (Below.refl _ _).drew ?_
  (repeat (first | (refine Flow.skip (by rfl) ?_; simp only [Act.put, List.setIfInBounds_toArray, List.set_cons_zero, List.set_cons_succ]) | (refine' Flow.take _ (by rfl) (fun W hW R hR => ?_) ?_; rotate_left; (go_simp; (try go_bits); with_reducible exact hR); simp only [Act.put, List.setIfInBounds_toArray, List.set_cons_zero, List.set_cons_succ])))
  (refine Flow.call 75 #[.agg #[.slice V g.nv cv, .int .i64 g.tm, .slice D g.sz.length cd, .int .i64 g.pts, .int .i64 g.ex, .slice E g.es.length ce], .int .i64 dst] (.bool q1) (by rfl) (fun X hX => by go_simp) (fun X hX => ((HV.out _).mono fun e w' ⟨he, hb⟩ => ⟨he, bstep hX hX.size hb⟩)) ?_; simp only [Act.put, List.setIfInBounds_toArray, List.set_cons_zero, List.set_cons_succ])
  (repeat (first | (refine Flow.skip (by rfl) ?_; simp only [Act.put, List.setIfInBounds_toArray, List.set_cons_zero, List.set_cons_succ]) | (refine' Flow.take _ (by rfl) (fun W hW R hR => ?_) ?_; rotate_left; (go_simp; (try go_bits); with_reducible exact hR); simp only [Act.put, List.setIfInBounds_toArray, List.set_cons_zero, List.set_cons_succ])))
  cases c1 : (bif wDst kd then q1 else (dst == -1))
  · (refine Flow.call 74 #[.bool (wDst kd), .bool q1, .bool (dst == -1)] (.bool false) (by rfl) (fun X hX => by go_simp) (fun X hX => ((has_any _ _ _ _).mono fun e w' ⟨he, hb⟩ => ⟨he.trans (retb c1), hb ▸ hX⟩)) ?_; simp only [Act.put, List.setIfInBounds_toArray, List.set_cons_zero, List.set_cons_succ])
    (repeat (first | (refine Flow.skip (by rfl) ?_; simp only [Act.put, List.setIfInBounds_toArray, List.set_cons_zero, List.set_cons_succ]) | (refine' Flow.take _ (by rfl) (fun W hW R hR => ?_) ?_; rotate_left; (go_simp; (try go_bits); with_reducible exact hR); simp only [Act.put, List.setIfInBounds_toArray, List.set_cons_zero, List.set_cons_succ])))
    intro w6 hb6
    go_wp2
    go_ret
    exact ⟨retb (by rw [HR.out, c1]; rfl), bup n1 hb6⟩
  · (refine Flow.call 74 #[.bool (wDst kd), .bool q1, .bool (dst == -1)] (.bool true) (by rfl) (fun X hX => by go_simp) (fun X hX => ((has_any _ _ _ _).mono fun e w' ⟨he, hb⟩ => ⟨he.trans (retb c1), hb ▸ hX⟩)) ?_; simp only [Act.put, List.setIfInBounds_toArray, List.set_cons_zero, List.set_cons_succ])
    (repeat (first | (refine Flow.skip (by rfl) ?_; simp only [Act.put, List.setIfInBounds_toArray, List.set_cons_zero, List.set_cons_succ]) | (refine' Flow.take _ (by rfl) (fun W hW R hR => ?_) ?_; rotate_left; (go_simp; (try go_bits); with_reducible exact hR); simp only [Act.put, List.setIfInBounds_toArray, List.set_cons_zero, List.set_cons_succ])))
    (refine Flow.call 76 #[.agg #[.slice V g.nv cv, .int .i64 g.tm, .slice D g.sz.length cd, .int .i64 g.pts, .int .i64 g.ex, .slice E g.es.length ce], .int .i64 arr] (.bool q2) (by rfl) (fun X hX => by go_simp) (fun X hX => ((HAr.out _).mono fun e w' ⟨he, hb⟩ => ⟨he, bstep hX hX.size hb⟩)) ?_; simp only [Act.put, List.setIfInBounds_toArray, List.set_cons_zero, List.set_cons_succ])
    (repeat (first | (refine Flow.skip (by rfl) ?_; simp only [Act.put, List.setIfInBounds_toArray, List.set_cons_zero, List.set_cons_succ]) | (refine' Flow.take _ (by rfl) (fun W hW R hR => ?_) ?_; rotate_left; (go_simp; (try go_bits); with_reducible exact hR); simp only [Act.put, List.setIfInBounds_toArray, List.set_cons_zero, List.set_cons_succ])))
    cases c2 : (bif wArr kd then q2 else (arr == -1))
    · (refine Flow.call 74 #[.bool (wArr kd), .bool q2, .bool (arr == -1)] (.bool false) (by rfl) (fun X hX => by go_simp) (fun X hX => ((has_any _ _ _ _).mono fun e w' ⟨he, hb⟩ => ⟨he.trans (retb c2), hb ▸ hX⟩)) ?_; simp only [Act.put, List.setIfInBounds_toArray, List.set_cons_zero, List.set_cons_succ])
      (repeat (first | (refine Flow.skip (by rfl) ?_; simp only [Act.put, List.setIfInBounds_toArray, List.set_cons_zero, List.set_cons_succ]) | (refine' Flow.take _ (by rfl) (fun W hW R hR => ?_) ?_; rotate_left; (go_simp; (try go_bits); with_reducible exact hR); simp only [Act.put, List.setIfInBounds_toArray, List.set_cons_zero, List.set_cons_succ])))
      intro w6 hb6
      go_wp2
      go_ret
      exact ⟨retb (by rw [HR.out, c1, c2]; rfl), bup n1 hb6⟩
    · (refine Flow.call 74 #[.bool (wArr kd), .bool q2, .bool (arr == -1)] (.bool true) (by rfl) (fun X hX => by go_simp) (fun X hX => ((has_any _ _ _ _).mono fun e w' ⟨he, hb⟩ => ⟨he.trans (retb c2), hb ▸ hX⟩)) ?_; simp only [Act.put, List.setIfInBounds_toArray, List.set_cons_zero, List.set_cons_succ])
      cases o1 : decide (1 ≤ op)
      · rw [o1, Bool.false_and] at HR
        (repeat (first | (refine Flow.skip (by rfl) ?_; simp only [Act.put, List.setIfInBounds_toArray, List.set_cons_zero, List.set_cons_succ]) | (refine' Flow.take _ (by rfl) (fun W hW R hR => ?_) ?_; rotate_left; (go_simp; (try go_bits); with_reducible exact hR); simp only [Act.put, List.setIfInBounds_toArray, List.set_cons_zero, List.set_cons_succ])))
        cases c3 : (bif wOp kd then (false) else (op == 0))
        · (refine Flow.call 74 #[.bool (wOp kd), .bool (false), .bool (op == 0)] (.bool false) (by rfl) (fun X hX => by go_simp) (fun X hX => ((has_any _ _ _ _).mono fun e w' ⟨he, hb⟩ => ⟨he.trans (retb c3), hb ▸ hX⟩)) ?_; simp only [Act.put, List.setIfInBounds_toArray, List.set_cons_zero, List.set_cons_succ])
          (repeat (first | (refine Flow.skip (by rfl) ?_; simp only [Act.put, List.setIfInBounds_toArray, List.set_cons_zero, List.set_cons_succ]) | (refine' Flow.take _ (by rfl) (fun W hW R hR => ?_) ?_; rotate_left; (go_simp; (try go_bits); with_reducible exact hR); simp only [Act.put, List.setIfInBounds_toArray, List.set_cons_zero, List.set_cons_succ])))
          intro w6 hb6
          go_wp2
          go_ret
          exact ⟨retb (by rw [HR.out, c1, c2, c3]; rfl), bup n1 hb6⟩
        · (refine Flow.call 74 #[.bool (wOp kd), .bool (false), .bool (op == 0)] (.bool true) (by rfl) (fun X hX => by go_simp) (fun X hX => ((has_any _ _ _ _).mono fun e w' ⟨he, hb⟩ => ⟨he.trans (retb c3), hb ▸ hX⟩)) ?_; simp only [Act.put, List.setIfInBounds_toArray, List.set_cons_zero, List.set_cons_succ])
          (repeat (first | (refine Flow.skip (by rfl) ?_; simp only [Act.put, List.setIfInBounds_toArray, List.set_cons_zero, List.set_cons_succ]) | (refine' Flow.take _ (by rfl) (fun W hW R hR => ?_) ?_; rotate_left; (go_simp; (try go_bits); with_reducible exact hR); simp only [Act.put, List.setIfInBounds_toArray, List.set_cons_zero, List.set_cons_succ])))
          (refine Flow.call 77 #[.agg #[.slice V g.nv cv, .int .i64 g.tm, .slice D g.sz.length cd, .int .i64 g.pts, .int .i64 g.ex, .slice E g.es.length ce], .agg #[.int .i64 av, .int .i64 an]] (.bool q3) (by rfl) (fun X hX => by go_simp) (fun X hX => ((HA.out _).mono fun e w' ⟨he, hb⟩ => ⟨he, bstep hX hX.size hb⟩)) ?_; simp only [Act.put, List.setIfInBounds_toArray, List.set_cons_zero, List.set_cons_succ])
          (repeat (first | (refine Flow.skip (by rfl) ?_; simp only [Act.put, List.setIfInBounds_toArray, List.set_cons_zero, List.set_cons_succ]) | (refine' Flow.take _ (by rfl) (fun W hW R hR => ?_) ?_; rotate_left; (go_simp; (try go_bits); with_reducible exact hR); simp only [Act.put, List.setIfInBounds_toArray, List.set_cons_zero, List.set_cons_succ])))
          (refine Flow.call 78 #[] (.agg #[.int .i64 (-1), .int .i64 0]) (by rfl) (fun X hX => by go_simp) (fun X hX => ((HN.out _).mono fun e w' ⟨he, hb⟩ => ⟨he, bstep hX hX.size hb⟩)) ?_; simp only [Act.put, List.setIfInBounds_toArray, List.set_cons_zero, List.set_cons_succ])
          (repeat (first | (refine Flow.skip (by rfl) ?_; simp only [Act.put, List.setIfInBounds_toArray, List.set_cons_zero, List.set_cons_succ]) | (refine' Flow.take _ (by rfl) (fun W hW R hR => ?_) ?_; rotate_left; (go_simp; (try go_bits); with_reducible exact hR); simp only [Act.put, List.setIfInBounds_toArray, List.set_cons_zero, List.set_cons_succ])))
          cases c4 : (bif wA kd then q3 else opEq av an (-1) 0)
          · (refine Flow.call 74 #[.bool (wA kd), .bool q3, .bool (opEq av an (-1) 0)] (.bool false) (by rfl) (fun X hX => by go_simp) (fun X hX => ((has_any _ _ _ _).mono fun e w' ⟨he, hb⟩ => ⟨he.trans (retb c4), hb ▸ hX⟩)) ?_; simp only [Act.put, List.setIfInBounds_toArray, List.set_cons_zero, List.set_cons_succ])
            (repeat (first | (refine Flow.skip (by rfl) ?_; simp only [Act.put, List.setIfInBounds_toArray, List.set_cons_zero, List.set_cons_succ]) | (refine' Flow.take _ (by rfl) (fun W hW R hR => ?_) ?_; rotate_left; (go_simp; (try go_bits); with_reducible exact hR); simp only [Act.put, List.setIfInBounds_toArray, List.set_cons_zero, List.set_cons_succ])))
            intro w6 hb6
            go_wp2
            go_ret
            exact ⟨retb (by rw [HR.out, c1, c2, c3, c4]; rfl), bup n1 hb6⟩
          · (refine Flow.call 74 #[.bool (wA kd), .bool q3, .bool (opEq av an (-1) 0)] (.bool true) (by rfl) (fun X hX => by go_simp) (fun X hX => ((has_any _ _ _ _).mono fun e w' ⟨he, hb⟩ => ⟨he.trans (retb c4), hb ▸ hX⟩)) ?_; simp only [Act.put, List.setIfInBounds_toArray, List.set_cons_zero, List.set_cons_succ])
            (repeat (first | (refine Flow.skip (by rfl) ?_; simp only [Act.put, List.setIfInBounds_toArray, List.set_cons_zero, List.set_cons_succ]) | (refine' Flow.take _ (by rfl) (fun W hW R hR => ?_) ?_; rotate_left; (go_simp; (try go_bits); with_reducible exact hR); simp only [Act.put, List.setIfInBounds_toArray, List.set_cons_zero, List.set_cons_succ])))
            (refine Flow.call 77 #[.agg #[.slice V g.nv cv, .int .i64 g.tm, .slice D g.sz.length cd, .int .i64 g.pts, .int .i64 g.ex, .slice E g.es.length ce], .agg #[.int .i64 bv, .int .i64 bn]] (.bool q4) (by rfl) (fun X hX => by go_simp) (fun X hX => ((HB.out _).mono fun e w' ⟨he, hb⟩ => ⟨he, bstep hX hX.size hb⟩)) ?_; simp only [Act.put, List.setIfInBounds_toArray, List.set_cons_zero, List.set_cons_succ])
            (repeat (first | (refine Flow.skip (by rfl) ?_; simp only [Act.put, List.setIfInBounds_toArray, List.set_cons_zero, List.set_cons_succ]) | (refine' Flow.take _ (by rfl) (fun W hW R hR => ?_) ?_; rotate_left; (go_simp; (try go_bits); with_reducible exact hR); simp only [Act.put, List.setIfInBounds_toArray, List.set_cons_zero, List.set_cons_succ])))
            (refine Flow.call 78 #[] (.agg #[.int .i64 (-1), .int .i64 0]) (by rfl) (fun X hX => by go_simp) (fun X hX => ((HN.out _).mono fun e w' ⟨he, hb⟩ => ⟨he, bstep hX hX.size hb⟩)) ?_; simp only [Act.put, List.setIfInBounds_toArray, List.set_cons_zero, List.set_cons_succ])
            (repeat (first | (refine Flow.skip (by rfl) ?_; simp only [Act.put, List.setIfInBounds_toArray, List.set_cons_zero, List.set_cons_succ]) | (refine' Flow.take _ (by rfl) (fun W hW R hR => ?_) ?_; rotate_left; (go_simp; (try go_bits); with_reducible exact hR); simp only [Act.put, List.setIfInBounds_toArray, List.set_cons_zero, List.set_cons_succ])))
            intro w6 hb6
            go_wp2_with fail
            refine (has_any _ _ _ _).mono ?_
            rintro e7 w7 ⟨rfl, rfl⟩
            go_wp2; go_ret
            exact ⟨retb (by rw [HR.out, c1, c2, c3, c4]; rfl), bup n1 hb6⟩
      · rw [o1, show (true && decide (op ≤ 6)) = decide (op ≤ 6) from Bool.true_and _] at HR
        (repeat (first | (refine Flow.skip (by rfl) ?_; simp only [Act.put, List.setIfInBounds_toArray, List.set_cons_zero, List.set_cons_succ]) | (refine' Flow.take _ (by rfl) (fun W hW R hR => ?_) ?_; rotate_left; (go_simp; (try go_bits); with_reducible exact hR); simp only [Act.put, List.setIfInBounds_toArray, List.set_cons_zero, List.set_cons_succ])))
        cases c3 : (bif wOp kd then (decide (op ≤ 6)) else (op == 0))
        · (refine Flow.call 74 #[.bool (wOp kd), .bool (decide (op ≤ 6)), .bool (op == 0)] (.bool false) (by rfl) (fun X hX => by go_simp) (fun X hX => ((has_any _ _ _ _).mono fun e w' ⟨he, hb⟩ => ⟨he.trans (retb c3), hb ▸ hX⟩)) ?_; simp only [Act.put, List.setIfInBounds_toArray, List.set_cons_zero, List.set_cons_succ])
          (repeat (first | (refine Flow.skip (by rfl) ?_; simp only [Act.put, List.setIfInBounds_toArray, List.set_cons_zero, List.set_cons_succ]) | (refine' Flow.take _ (by rfl) (fun W hW R hR => ?_) ?_; rotate_left; (go_simp; (try go_bits); with_reducible exact hR); simp only [Act.put, List.setIfInBounds_toArray, List.set_cons_zero, List.set_cons_succ])))
          intro w6 hb6
          go_wp2
          go_ret
          exact ⟨retb (by rw [HR.out, c1, c2, c3]; rfl), bup n1 hb6⟩
        · (refine Flow.call 74 #[.bool (wOp kd), .bool (decide (op ≤ 6)), .bool (op == 0)] (.bool true) (by rfl) (fun X hX => by go_simp) (fun X hX => ((has_any _ _ _ _).mono fun e w' ⟨he, hb⟩ => ⟨he.trans (retb c3), hb ▸ hX⟩)) ?_; simp only [Act.put, List.setIfInBounds_toArray, List.set_cons_zero, List.set_cons_succ])
          (repeat (first | (refine Flow.skip (by rfl) ?_; simp only [Act.put, List.setIfInBounds_toArray, List.set_cons_zero, List.set_cons_succ]) | (refine' Flow.take _ (by rfl) (fun W hW R hR => ?_) ?_; rotate_left; (go_simp; (try go_bits); with_reducible exact hR); simp only [Act.put, List.setIfInBounds_toArray, List.set_cons_zero, List.set_cons_succ])))
          (refine Flow.call 77 #[.agg #[.slice V g.nv cv, .int .i64 g.tm, .slice D g.sz.length cd, .int .i64 g.pts, .int .i64 g.ex, .slice E g.es.length ce], .agg #[.int .i64 av, .int .i64 an]] (.bool q3) (by rfl) (fun X hX => by go_simp) (fun X hX => ((HA.out _).mono fun e w' ⟨he, hb⟩ => ⟨he, bstep hX hX.size hb⟩)) ?_; simp only [Act.put, List.setIfInBounds_toArray, List.set_cons_zero, List.set_cons_succ])
          (repeat (first | (refine Flow.skip (by rfl) ?_; simp only [Act.put, List.setIfInBounds_toArray, List.set_cons_zero, List.set_cons_succ]) | (refine' Flow.take _ (by rfl) (fun W hW R hR => ?_) ?_; rotate_left; (go_simp; (try go_bits); with_reducible exact hR); simp only [Act.put, List.setIfInBounds_toArray, List.set_cons_zero, List.set_cons_succ])))
          (refine Flow.call 78 #[] (.agg #[.int .i64 (-1), .int .i64 0]) (by rfl) (fun X hX => by go_simp) (fun X hX => ((HN.out _).mono fun e w' ⟨he, hb⟩ => ⟨he, bstep hX hX.size hb⟩)) ?_; simp only [Act.put, List.setIfInBounds_toArray, List.set_cons_zero, List.set_cons_succ])
          (repeat (first | (refine Flow.skip (by rfl) ?_; simp only [Act.put, List.setIfInBounds_toArray, List.set_cons_zero, List.set_cons_succ]) | (refine' Flow.take _ (by rfl) (fun W hW R hR => ?_) ?_; rotate_left; (go_simp; (try go_bits); with_reducible exact hR); simp only [Act.put, List.setIfInBounds_toArray, List.set_cons_zero, List.set_cons_succ])))
          cases c4 : (bif wA kd then q3 else opEq av an (-1) 0)
          · (refine Flow.call 74 #[.bool (wA kd), .bool q3, .bool (opEq av an (-1) 0)] (.bool false) (by rfl) (fun X hX => by go_simp) (fun X hX => ((has_any _ _ _ _).mono fun e w' ⟨he, hb⟩ => ⟨he.trans (retb c4), hb ▸ hX⟩)) ?_; simp only [Act.put, List.setIfInBounds_toArray, List.set_cons_zero, List.set_cons_succ])
            (repeat (first | (refine Flow.skip (by rfl) ?_; simp only [Act.put, List.setIfInBounds_toArray, List.set_cons_zero, List.set_cons_succ]) | (refine' Flow.take _ (by rfl) (fun W hW R hR => ?_) ?_; rotate_left; (go_simp; (try go_bits); with_reducible exact hR); simp only [Act.put, List.setIfInBounds_toArray, List.set_cons_zero, List.set_cons_succ])))
            intro w6 hb6
            go_wp2
            go_ret
            exact ⟨retb (by rw [HR.out, c1, c2, c3, c4]; rfl), bup n1 hb6⟩
          · (refine Flow.call 74 #[.bool (wA kd), .bool q3, .bool (opEq av an (-1) 0)] (.bool true) (by rfl) (fun X hX => by go_simp) (fun X hX => ((has_any _ _ _ _).mono fun e w' ⟨he, hb⟩ => ⟨he.trans (retb c4), hb ▸ hX⟩)) ?_; simp only [Act.put, List.setIfInBounds_toArray, List.set_cons_zero, List.set_cons_succ])
            (repeat (first | (refine Flow.skip (by rfl) ?_; simp only [Act.put, List.setIfInBounds_toArray, List.set_cons_zero, List.set_cons_succ]) | (refine' Flow.take _ (by rfl) (fun W hW R hR => ?_) ?_; rotate_left; (go_simp; (try go_bits); with_reducible exact hR); simp only [Act.put, List.setIfInBounds_toArray, List.set_cons_zero, List.set_cons_succ])))
            (refine Flow.call 77 #[.agg #[.slice V g.nv cv, .int .i64 g.tm, .slice D g.sz.length cd, .int .i64 g.pts, .int .i64 g.ex, .slice E g.es.length ce], .agg #[.int .i64 bv, .int .i64 bn]] (.bool q4) (by rfl) (fun X hX => by go_simp) (fun X hX => ((HB.out _).mono fun e w' ⟨he, hb⟩ => ⟨he, bstep hX hX.size hb⟩)) ?_; simp only [Act.put, List.setIfInBounds_toArray, List.set_cons_zero, List.set_cons_succ])
            (repeat (first | (refine Flow.skip (by rfl) ?_; simp only [Act.put, List.setIfInBounds_toArray, List.set_cons_zero, List.set_cons_succ]) | (refine' Flow.take _ (by rfl) (fun W hW R hR => ?_) ?_; rotate_left; (go_simp; (try go_bits); with_reducible exact hR); simp only [Act.put, List.setIfInBounds_toArray, List.set_cons_zero, List.set_cons_succ])))
            (refine Flow.call 78 #[] (.agg #[.int .i64 (-1), .int .i64 0]) (by rfl) (fun X hX => by go_simp) (fun X hX => ((HN.out _).mono fun e w' ⟨he, hb⟩ => ⟨he, bstep hX hX.size hb⟩)) ?_; simp only [Act.put, List.setIfInBounds_toArray, List.set_cons_zero, List.set_cons_succ])
            (repeat (first | (refine Flow.skip (by rfl) ?_; simp only [Act.put, List.setIfInBounds_toArray, List.set_cons_zero, List.set_cons_succ]) | (refine' Flow.take _ (by rfl) (fun W hW R hR => ?_) ?_; rotate_left; (go_simp; (try go_bits); with_reducible exact hR); simp only [Act.put, List.setIfInBounds_toArray, List.set_cons_zero, List.set_cons_succ])))
            intro w6 hb6
            go_wp2_with fail
            refine (has_any _ _ _ _).mono ?_
            rintro e7 w7 ⟨rfl, rfl⟩
            go_wp2; go_ret
            exact ⟨retb (by rw [HR.out, c1, c2, c3, c4]; rfl), bup n1 hb6⟩
end Go.Proofs.YtkncebcekhfnfaaGreat
