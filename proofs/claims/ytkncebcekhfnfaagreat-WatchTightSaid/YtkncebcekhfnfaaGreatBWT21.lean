/-
  Whether edges from a point go together: gnomonref9.fork: what each call answers.
-/
import Derived.Test.YtkncebcekhfnfaaGreatBWT18
namespace Go.Proofs.YtkncebcekhfnfaaGreat
open Go.RowKit
attribute [local go_sem ↓] Go.wp_at_zero Go.wp_at_succ
attribute [local go_sem ↓] run_opeq run_opeq2
/-- The edge of a number. -/
def eAt (es : List Edg) (i : Nat) : Edg := es.getD i ⟨0, 0, 0, 0, 0, 0, 0, 0, 0, 0⟩
theorem eAt_eq {es : List Edg} {i : Nat} (h : i < es.length) : es[i] = eAt es i := by unfold eAt; simp [h]
def ints (ix : List Nat) : List Int := ix.map Int.ofNat
theorem gI_ints {ix : List Nat} {k : Nat} (h : k < ix.length) : gI (ints ix) k = (ix[k] : Int) := by unfold gI ints; simp [h]
theorem ints_len (ix : List Nat) : (ints ix).length = ix.length := by simp [ints]
theorem Rd.ix {w : World} {B : Nat} {A : Option Addr} {ix : List Nat} (h : Rd w B A (ints ix)) {k : Nat} (hk : k < ix.length) : ∃ b off, A = some ⟨b, off, none⟩ ∧ b < B ∧ w.cell? ⟨b, off + k, none⟩ = some (.int .i64 (ix[k] : Int)) := by
  obtain ⟨b, off, h1, h2, h3⟩ := h k (by rw [ints_len]; exact hk)
  rw [gI_ints hk] at h3
  exact ⟨b, off, h1, h2, h3⟩
theorem rfork_nil (g : Gr) (V D E : Option Addr) (cv cd ce : Nat) (A : Option Addr) (c : Nat) (w : World) :
    Calls Tryz.prog 23 #[grV g V D E cv cd ce, .slice A 0 c] w fun e w' => e = .returned (.bool true) ∧ Below w.heap.size w w' := by
  unfold grV
  go_enter Tryz.func23, Tryz.ntmps23
  go_wp2; go_ret; exact ⟨rfl, new1 _ _⟩
set_option maxRecDepth 8000 in
set_option maxHeartbeats 4000000 in
theorem rfork_one (g : Gr) (V D : Option Addr) (cv cd ce : Nat) (i : Nat) (b off b2 off2 c : Nat) (w : World) (hi : i < g.es.length) (hE : RdE w w.heap.size (some ⟨b, off, none⟩) g.es) (hB2 : b2 < w.heap.size) (hc : w.cell? ⟨b2, off2, none⟩ = some (.int .i64 i)) (_hl : g.es.length ≤ 17592186044416) :
    Calls Tryz.prog 23 #[grV g V D (some ⟨b, off, none⟩) cv cd ce, .slice (some ⟨b2, off2, none⟩) 1 c] w fun e w' => e = .returned (.bool (forkE [eAt g.es i])) ∧ Below w.heap.size w w' := by
  unfold grV
  have n0 := new1 w (.cells #[.slice V g.nv cv, .int .i64 g.tm, .slice D g.sz.length cd, .int .i64 g.pts, .int .i64 g.ex, .slice (some ⟨b, off, none⟩) g.es.length ce] 26)
  obtain ⟨bb, oo, e1, hB, p0, p1, p2, p3, p4, p5, p6, p7, p8, p9⟩ := hE.get hi (eAt_eq hi)
  injection e1 with e1; injection e1 with e1 e2; subst e1; subst e2
  generalize eAt g.es i = x at *
  have x5 := (Blk.new w 26 #[.slice V g.nv cv, .int .i64 g.tm, .slice D g.sz.length cd, .int .i64 g.pts, .int .i64 g.ex, .slice (some ⟨b, off, none⟩) g.es.length ce]).cell 5
  have hi0 : (0 : Int) ≤ (i : Int) := by omega
  have hi1 : (i : Int) < (g.es.length : Int) := by omega
  have HF : Hid (forkE [x] = (x.kd != 12)) := hid (by unfold forkE; rw [Bool.eq_iff_iff]; simp)
  clear hE hi
  go_enter Tryz.func23, Tryz.ntmps23
  go_upto_region 3 with fail
  go_region
  go_wp2; go_ret; exact ⟨retb HF.out.symm, ((n0.trans ((new1 _ _).mono n0.size)).drew)⟩
set_option maxRecDepth 8000 in
set_option maxHeartbeats 8000000 in
theorem rfork_more (g : Gr) (V D : Option Addr) (cv cd ce : Nat) (i j L : Nat) (b off b2 off2 c : Nat) (w : World) (hi : i < g.es.length) (hj : j < g.es.length) (hE : RdE w w.heap.size (some ⟨b, off, none⟩) g.es) (hB2 : b2 < w.heap.size) (hc : w.cell? ⟨b2, off2, none⟩ = some (.int .i64 i)) (hc2 : w.cell? ⟨b2, off2 + 1, none⟩ = some (.int .i64 j)) (_hl : g.es.length ≤ 17592186044416) (hL : 2 ≤ L) (hL2 : L ≤ 17592186044416) :
    Calls Tryz.prog 23 #[grV g V D (some ⟨b, off, none⟩) cv cd ce, .slice (some ⟨b2, off2, none⟩) L c] w fun e w' => e = .returned (.bool ((L : Int) == 2 && fork2 (eAt g.es i) (eAt g.es j))) ∧ Below w.heap.size w w' := by
  unfold grV
  have n0 := new1 w (.cells #[.slice V g.nv cv, .int .i64 g.tm, .slice D g.sz.length cd, .int .i64 g.pts, .int .i64 g.ex, .slice (some ⟨b, off, none⟩) g.es.length ce] 26)
  obtain ⟨bb, oo, e1, hB, p0, p1, p2, p3, p4, p5, p6, p7, p8, p9⟩ := hE.get hi (eAt_eq hi)
  injection e1 with e1; injection e1 with e1 e2; subst e1; subst e2
  obtain ⟨bb, oo, e1, -, q0, q1, q2, q3, q4, q5, q6, q7, q8, q9⟩ := hE.get hj (eAt_eq hj)
  injection e1 with e1; injection e1 with e1 e2; subst e1; subst e2
  have HR := hid (fork2_eq (eAt g.es i) (eAt g.es j))
  generalize eAt g.es i = x at *
  generalize eAt g.es j = y at *
  have x5 := (Blk.new w 26 #[.slice V g.nv cv, .int .i64 g.tm, .slice D g.sz.length cd, .int .i64 g.pts, .int .i64 g.ex, .slice (some ⟨b, off, none⟩) g.es.length ce]).cell 5
  have hi0 : (0 : Int) ≤ (i : Int) := by omega
  have hi1 : (i : Int) < (g.es.length : Int) := by omega
  have hj0 : (0 : Int) ≤ (j : Int) := by omega
  have hj1 : (j : Int) < (g.es.length : Int) := by omega
  have t0 : ((L : Int) == 0) = false := by rw [beq_eq_false_iff_ne]; omega
  have t1 : ((L : Int) == 1) = false := by rw [beq_eq_false_iff_ne]; omega
  have l1 : (0 : Int) < L := by omega
  have l2 : (1 : Int) < L := by omega
  clear hE hi hj
  go_enter Tryz.func23, Tryz.ntmps23
  go_upto_region 3 with fail
  go_region
  clear p0 p1 p2 p3 p4 p5 p6 p7 p8 p9 hc
  have n2 : Below w.heap.size w ((w.alloc (.cells #[.slice V g.nv cv, .int .i64 g.tm, .slice D g.sz.length cd, .int .i64 g.pts, .int .i64 g.ex, .slice (some ⟨b, off, none⟩) g.es.length ce] 26)).alloc (.cells (ecs x) 65)) := n0.trans ((new1 _ _).mono n0.size)
  obtain ⟨k0, k1⟩ := blk_two (w := w) (Below.refl _ ((w.alloc (.cells #[.slice V g.nv cv, .int .i64 g.tm, .slice D g.sz.length cd, .int .i64 g.pts, .int .i64 g.ex, .slice (some ⟨b, off, none⟩) g.es.length ce] 26)).alloc (.cells (ecs x) 65)))
  replace q0 := (n2.cell (p := ⟨b, _, none⟩) hB).trans q0
  replace q1 := (n2.cell (p := ⟨b, _, none⟩) hB).trans q1
  replace q2 := (n2.cell (p := ⟨b, _, none⟩) hB).trans q2
  replace q3 := (n2.cell (p := ⟨b, _, none⟩) hB).trans q3
  replace q4 := (n2.cell (p := ⟨b, _, none⟩) hB).trans q4
  replace q5 := (n2.cell (p := ⟨b, _, none⟩) hB).trans q5
  replace q6 := (n2.cell (p := ⟨b, _, none⟩) hB).trans q6
  replace q7 := (n2.cell (p := ⟨b, _, none⟩) hB).trans q7
  replace q8 := (n2.cell (p := ⟨b, _, none⟩) hB).trans q8
  replace q9 := (n2.cell (p := ⟨b, _, none⟩) hB).trans q9
  replace hc2 := (n2.cell (p := ⟨b2, _, none⟩) hB2).trans hc2
  have hs2 := n2.size
  replace hB : b < ((w.alloc (.cells #[.slice V g.nv cv, .int .i64 g.tm, .slice D g.sz.length cd, .int .i64 g.pts, .int .i64 g.ex, .slice (some ⟨b, off, none⟩) g.es.length ce] 26)).alloc (.cells (ecs x) 65)).heap.size := by omega
  replace hB2 : b2 < ((w.alloc (.cells #[.slice V g.nv cv, .int .i64 g.tm, .slice D g.sz.length cd, .int .i64 g.pts, .int .i64 g.ex, .slice (some ⟨b, off, none⟩) g.es.length ce] 26)).alloc (.cells (ecs x) 65)).heap.size := by omega
  clear n0 x5 hs2
  have x5 := k0.cell 5
  have hlt5 := k0.lt
  unfold ecs at *
  generalize ((w.alloc (.cells #[.slice V g.nv cv, .int .i64 g.tm, .slice D g.sz.length cd, .int .i64 g.pts, .int .i64 g.ex, .slice (some ⟨b, off, none⟩) g.es.length ce] 26)).alloc (.cells #[.int .i64 x.fr, .int .i64 x.te, .int .i64 x.kd, .int .i64 x.dst, .int .i64 x.arr, .int .i64 x.op, .int .i64 x.av, .int .i64 x.an, .int .i64 x.bv, .int .i64 x.bn] 65)) = w1 at *
  go_upto_region 6 with fail
  go_region
  clear q0 q1 q2 q3 q4 q5 q6 q7 q8 q9 hc2 x5
  have n3 := new1 w1 (.cells (ecs y) 65)
  have k2 := Blk.new w1 65 (ecs y)
  replace k1 := k1.later n3
  replace n2 := bup n2 n3
  unfold ecs at *
  clear n3 k0 hlt5 hB hB2
  go_upto_region 7 with fail
  generalize (w1.alloc (.cells _ 65)) = w2 at *
  obtain ⟨a0, a1, a2, a3, a4, a5, a6, a7, a8, a9⟩ := ecells k1
  obtain ⟨b0, b1, b2', b3, b4, b5, b6, b7, b8, b9⟩ := ecells k2
  clear k1 k2
  cases tL : ((L : Int) == 2)
  · as_aux_lemma =>
    refine wp_region_flowX 33 (fun W => Below w2.heap.size w2 W) (by kernel_rfl) (by kernel_rfl) (((Below.refl _ _).drew).drew).drew ?_
    (repeat (first | (refine Flow.skip (by rfl) ?_; simp only [Act.put, List.setIfInBounds_toArray, List.set_cons_zero, List.set_cons_succ]) | (refine' Flow.take _ (by rfl) (fun W hW R hR => ?_) ?_; rotate_left; (go_simp; (try go_bits); with_reducible exact hR); simp only [Act.put, List.setIfInBounds_toArray, List.set_cons_zero, List.set_cons_succ])))
    intro w6 hb6
    go_wp2
    go_ret
    exact ⟨rfl, bup n2 hb6⟩
  · as_aux_lemma =>
    refine wp_region_flowX 33 (fun W => Below w2.heap.size w2 W) (by kernel_rfl) (by kernel_rfl) (((Below.refl _ _).drew).drew).drew ?_
    (repeat (first | (refine Flow.skip (by rfl) ?_; simp only [Act.put, List.setIfInBounds_toArray, List.set_cons_zero, List.set_cons_succ]) | (refine' Flow.take _ (by rfl) (fun W hW R hR => ?_) ?_; rotate_left; (go_simp; (try go_bits); with_reducible exact hR); simp only [Act.put, List.setIfInBounds_toArray, List.set_cons_zero, List.set_cons_succ])))
    cases c1 : (x.kd == 12)
    · (repeat (first | (refine Flow.skip (by rfl) ?_; simp only [Act.put, List.setIfInBounds_toArray, List.set_cons_zero, List.set_cons_succ]) | (refine' Flow.take _ (by rfl) (fun W hW R hR => ?_) ?_; rotate_left; (go_simp; (try go_bits); with_reducible exact hR); simp only [Act.put, List.setIfInBounds_toArray, List.set_cons_zero, List.set_cons_succ])))
      intro w6 hb6
      go_wp2
      go_ret
      exact ⟨retb (by rw [HR.out, c1]; rfl), bup n2 hb6⟩
    · skip
      cases c2 : (y.kd == 12)
      · (repeat (first | (refine Flow.skip (by rfl) ?_; simp only [Act.put, List.setIfInBounds_toArray, List.set_cons_zero, List.set_cons_succ]) | (refine' Flow.take _ (by rfl) (fun W hW R hR => ?_) ?_; rotate_left; (go_simp; (try go_bits); with_reducible exact hR); simp only [Act.put, List.setIfInBounds_toArray, List.set_cons_zero, List.set_cons_succ])))
        intro w6 hb6
        go_wp2
        go_ret
        exact ⟨retb (by rw [HR.out, c1, c2]; rfl), bup n2 hb6⟩
      · skip
        cases c3 : opEq x.av x.an y.av y.an
        · (repeat (first | (refine Flow.skip (by rfl) ?_; simp only [Act.put, List.setIfInBounds_toArray, List.set_cons_zero, List.set_cons_succ]) | (refine' Flow.take _ (by rfl) (fun W hW R hR => ?_) ?_; rotate_left; (go_simp; (try go_bits); with_reducible exact hR); simp only [Act.put, List.setIfInBounds_toArray, List.set_cons_zero, List.set_cons_succ])))
          intro w6 hb6
          go_wp2
          go_ret
          exact ⟨retb (by rw [HR.out, c1, c2, c3]; rfl), bup n2 hb6⟩
        · skip
          cases c4 : opEq x.bv x.bn y.bv y.bn
          · (repeat (first | (refine Flow.skip (by rfl) ?_; simp only [Act.put, List.setIfInBounds_toArray, List.set_cons_zero, List.set_cons_succ]) | (refine' Flow.take _ (by rfl) (fun W hW R hR => ?_) ?_; rotate_left; (go_simp; (try go_bits); with_reducible exact hR); simp only [Act.put, List.setIfInBounds_toArray, List.set_cons_zero, List.set_cons_succ])))
            intro w6 hb6
            go_wp2
            go_ret
            exact ⟨retb (by rw [HR.out, c1, c2, c3, c4]; rfl), bup n2 hb6⟩
          · skip
            (repeat (first | (refine Flow.skip (by rfl) ?_; simp only [Act.put, List.setIfInBounds_toArray, List.set_cons_zero, List.set_cons_succ]) | (refine' Flow.take _ (by rfl) (fun W hW R hR => ?_) ?_; rotate_left; (go_simp; (try go_bits); with_reducible exact hR); simp only [Act.put, List.setIfInBounds_toArray, List.set_cons_zero, List.set_cons_succ])))
            (refine Flow.call 44 #[.int .i64 x.op] (.int .i64 (notOp x.op)) (by rfl) (fun X hX => by go_simp) (fun X hX => (rnot_any _ _).mono fun e w' ⟨he, hb⟩ => ⟨he, hb ▸ hX⟩) ?_; simp only [Act.put, List.setIfInBounds_toArray, List.set_cons_zero, List.set_cons_succ])
            (repeat (first | (refine Flow.skip (by rfl) ?_; simp only [Act.put, List.setIfInBounds_toArray, List.set_cons_zero, List.set_cons_succ]) | (refine' Flow.take _ (by rfl) (fun W hW R hR => ?_) ?_; rotate_left; (go_simp; (try go_bits); with_reducible exact hR); simp only [Act.put, List.setIfInBounds_toArray, List.set_cons_zero, List.set_cons_succ])))
            intro w6 hb6
            go_wp2
            go_ret
            exact ⟨retb (by rw [HR.out, c1, c2, c3, c4]; rfl), bup n2 hb6⟩
end Go.Proofs.YtkncebcekhfnfaaGreat
