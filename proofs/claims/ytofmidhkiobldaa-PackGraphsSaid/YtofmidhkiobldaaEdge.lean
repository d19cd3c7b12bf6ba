/-
  When an edge is right (cfg.right, gnomonref9.Right): what each call answers.
-/
import Derived.Test.YtofmidhkiobldaaGrSmall
namespace Go.Proofs.Ytofmidhkiobldaa
open Go.RowKit
attribute [local go_sem ↓] Go.wp_at_zero Go.wp_at_succ
attribute [local go_sem ↓] run_opeq run_opeq2

theorem opdNo_eq (v m : Int) : opEq v m (-1) 0 = opdNo v m := by unfold opdNo opEq; rw [Bool.eq_iff_iff]; simp
set_option maxRecDepth 8000 in
set_option maxHeartbeats 1000000 in
theorem roper_no (v m : Int) (n : Int) (w : World) :
    Calls Try.prog 58 #[opV v m, .bool false, .int .i64 n] w fun e w' => e = .returned (.bool (opdNo v m)) ∧ Below w.heap.size w w' := by
  unfold opV
  have n0 := new1 w (.cells #[.int .i64 v, .int .i64 m] 54)
  have k0 := Blk.new w 54 #[.int .i64 v, .int .i64 m]
  go_enter Try.func58, Try.ntmps58
  go_upto_region 2 with fail
  generalize w.alloc (.cells #[.int .i64 v, .int .i64 m] 54) = w1 at *
  have f0 := later (k0.cell 0)
  have f1 := later (k0.cell 1)
  refine wp_region_flow 2 (fun W => Below w1.heap.size w1 W) (by kernel_rfl) (by kernel_rfl) (Below.refl _ _).drew ?_
  (repeat (first | (refine Flow.skip (by rfl) ?_; simp only [Act.put, List.setIfInBounds_toArray, List.set_cons_zero, List.set_cons_succ]) | (refine' Flow.take _ (by rfl) (fun W hW R hR => ?_) ?_; rotate_left; (go_simp; (try go_bits); with_reducible exact hR); simp only [Act.put, List.setIfInBounds_toArray, List.set_cons_zero, List.set_cons_succ])))
  (refine Flow.call 94 #[] (opV (-1) 0) (by rfl) (fun X hX => by go_simp) (fun X hX => (none_any _).mono fun e w' ⟨he, hb⟩ => ⟨he, bstep hX hX.size hb⟩) ?_; simp only [Act.put, List.setIfInBounds_toArray, List.set_cons_zero, List.set_cons_succ])
  unfold opV
  intro w2 hb2
  go_wp2
  go_ret
  exact ⟨retb (opdNo_eq v m), bup n0 hb2⟩
set_option maxRecDepth 8000 in
set_option maxHeartbeats 1000000 in
theorem roper_yes (v m : Int) (n : Int) (w : World) :
    Calls Try.prog 58 #[opV v m, .bool true, .int .i64 n] w fun e w' => e = .returned (.bool (opdOk n v m)) ∧ Below w.heap.size w w' := by
  unfold opV
  have n0 := new1 w (.cells #[.int .i64 v, .int .i64 m] 54)
  go_enter Try.func58, Try.ntmps58
  cases t1 : (v == -1)
  · by_cases h2 : 0 ≤ v
    · by_cases h3 : v < n
      · go_wp2; go_ret; exact ⟨retb (by unfold opdOk; rw [Bool.eq_iff_iff]; simp; have := beq_eq_false_iff_ne.1 t1; omega), n0⟩
      · go_wp2; go_ret; exact ⟨retb (by unfold opdOk; rw [Bool.eq_iff_iff]; simp; have := beq_eq_false_iff_ne.1 t1; omega), n0⟩
    · go_wp2; go_ret; exact ⟨retb (by unfold opdOk; rw [Bool.eq_iff_iff]; simp; have := beq_eq_false_iff_ne.1 t1; omega), n0⟩
  · go_wp2; go_ret; exact ⟨retb (by unfold opdOk; rw [Bool.eq_iff_iff]; simp; have := beq_iff_eq.1 t1; omega), n0⟩
theorem roper_any (b : Bool) (v m : Int) (n : Int) (w : World) :
    Calls Try.prog 58 #[opV v m, .bool b, .int .i64 n] w fun e w' => e = .returned (.bool (bif b then opdOk n v m else opdNo v m)) ∧ Below w.heap.size w w' := by
  cases b
  · exact roper_no v m n w
  · exact roper_yes v m n w
set_option maxRecDepth 8000 in
set_option maxHeartbeats 1000000 in
theorem goper_any (g : Gr) (V D E : Option Addr) (cv cd ce : Nat) (v m : Int) (w : World) (h0 : 0 ≤ g.tm) (h1 : g.tm ≤ 64) (hv : g.nv ≤ 64) :
    Calls Try.prog 81 #[grV g V D E cv cd ce, opV v m] w fun e w' => e = .returned (.bool (opdOk g.all v m)) ∧ Below w.heap.size w w' := by
  unfold opV
  have HC : Hid (∀ W, Calls Try.prog 79 #[grV g V D E cv cd ce, .int .i64 v] W fun e w' => e = .returned (.bool (decide (0 ≤ v ∧ v < g.all))) ∧ Below W.heap.size W w') := hid fun W => gvar_any g V D E cv cd ce v W h0 h1 hv
  unfold grV at *
  have n0 : Below w.heap.size w ((w.alloc (.cells #[.slice V g.nv cv, .int .i64 g.tm, .slice D g.sz.length cd, .int .i64 g.pts, .int .i64 g.ex, .slice E g.es.length ce] 98)).alloc (.cells #[.int .i64 v, .int .i64 m] 54)) := ((Below.refl _ _).alloc (Nat.le_refl _) _).alloc (by simp) _
  obtain ⟨k0, k1⟩ := blk_two (w := w) (Below.refl _ ((w.alloc (.cells #[.slice V g.nv cv, .int .i64 g.tm, .slice D g.sz.length cd, .int .i64 g.pts, .int .i64 g.ex, .slice E g.es.length ce] 98)).alloc (.cells #[.int .i64 v, .int .i64 m] 54)))
  clear h0 h1 hv
  go_enter Try.func81, Try.ntmps81
  cases t1 : (v == -1)
  · cases t2 : decide (0 ≤ v ∧ v < g.all)
    · go_wp2_with fail
      generalize ((w.alloc (.cells #[.slice V g.nv cv, .int .i64 g.tm, .slice D g.sz.length cd, .int .i64 g.pts, .int .i64 g.ex, .slice E g.es.length ce] 98)).alloc (.cells #[.int .i64 v, .int .i64 m] 54)) = w1 at *
      refine (HC.out _).mono ?_
      rw [t2]
      rintro e2 w2 ⟨rfl, hb2⟩
      replace k1 := k1.later hb2
      have x0 := k1.cell 0
      have x1 := k1.cell 1
      go_wp2
      go_ret
      exact ⟨retb (by unfold opdOk; rw [Bool.eq_iff_iff]; have := beq_eq_false_iff_ne.1 t1; have := of_decide_eq_false t2; simp; omega), bup n0 hb2⟩
    · go_wp2_with fail
      generalize ((w.alloc (.cells #[.slice V g.nv cv, .int .i64 g.tm, .slice D g.sz.length cd, .int .i64 g.pts, .int .i64 g.ex, .slice E g.es.length ce] 98)).alloc (.cells #[.int .i64 v, .int .i64 m] 54)) = w1 at *
      refine (HC.out _).mono ?_
      rw [t2]
      rintro e2 w2 ⟨rfl, hb2⟩
      replace k1 := k1.later hb2
      have x0 := k1.cell 0
      have x1 := k1.cell 1
      go_wp2
      go_ret
      exact ⟨retb (by unfold opdOk; rw [Bool.eq_iff_iff]; have := beq_eq_false_iff_ne.1 t1; have := of_decide_eq_true t2; simp; omega), bup n0 hb2⟩
  · go_wp2; go_ret; exact ⟨retb (by unfold opdOk; rw [Bool.eq_iff_iff]; simp; have := beq_iff_eq.1 t1; omega), n0⟩
end Go.Proofs.Ytofmidhkiobldaa
