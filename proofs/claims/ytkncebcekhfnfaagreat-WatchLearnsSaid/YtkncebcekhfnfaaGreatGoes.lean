/-
  Whether edges from a point go together: cfg.goes: what each call answers.
-/
import Derived.Test.YtkncebcekhfnfaaGreatBWL12
import Derived.Test.YtkncebcekhfnfaaGreatBWL14
namespace Go.Proofs.YtkncebcekhfnfaaGreat
open Go.RowKit
attribute [local go_sem ↓] Go.wp_at_zero Go.wp_at_succ
attribute [local go_sem ↓] run_opeq run_opeq2
theorem RdE.get {w : World} {B : Nat} {A : Option Addr} {es : List Edg} (h : RdE w B A es) {k : Nat} (hk : k < es.length) {x : Edg} (hx : es[k] = x) : ∃ b off, A = some ⟨b, off, none⟩ ∧ b < B ∧ w.cell? ⟨b, off + k * 10, none⟩ = some (.int .i64 x.fr) ∧ w.cell? ⟨b, off + k * 10 + 1, none⟩ = some (.int .i64 x.te) ∧ w.cell? ⟨b, off + k * 10 + 2, none⟩ = some (.int .i64 x.kd) ∧ w.cell? ⟨b, off + k * 10 + 3, none⟩ = some (.int .i64 x.dst) ∧ w.cell? ⟨b, off + k * 10 + 4, none⟩ = some (.int .i64 x.arr) ∧ w.cell? ⟨b, off + k * 10 + 5, none⟩ = some (.int .i64 x.op) ∧ w.cell? ⟨b, off + k * 10 + 6, none⟩ = some (.int .i64 x.av) ∧ w.cell? ⟨b, off + k * 10 + 7, none⟩ = some (.int .i64 x.an) ∧ w.cell? ⟨b, off + k * 10 + 8, none⟩ = some (.int .i64 x.bv) ∧ w.cell? ⟨b, off + k * 10 + 9, none⟩ = some (.int .i64 x.bn) := by
  obtain ⟨b, off, h1, h2, h3⟩ := h k hk
  subst hx
  exact ⟨b, off, h1, h2, h3 0 (by omega), h3 1 (by omega), h3 2 (by omega), h3 3 (by omega), h3 4 (by omega), h3 5 (by omega), h3 6 (by omega), h3 7 (by omega), h3 8 (by omega), h3 9 (by omega)⟩
def ecs (x : Edg) : Array Value := #[.int .i64 x.fr, .int .i64 x.te, .int .i64 x.kd, .int .i64 x.dst, .int .i64 x.arr, .int .i64 x.op, .int .i64 x.av, .int .i64 x.an, .int .i64 x.bv, .int .i64 x.bn]
theorem ecells {w : World} {g : Nat} {t : TypeId} {x : Edg} (h : Blk w g t (ecs x)) :
    (∀ W, Below w.heap.size w W → W.cell? ⟨g, 0, none⟩ = some (.int .i64 x.fr)) ∧ (∀ W, Below w.heap.size w W → W.cell? ⟨g, 1, none⟩ = some (.int .i64 x.te)) ∧ (∀ W, Below w.heap.size w W → W.cell? ⟨g, 2, none⟩ = some (.int .i64 x.kd)) ∧ (∀ W, Below w.heap.size w W → W.cell? ⟨g, 3, none⟩ = some (.int .i64 x.dst)) ∧ (∀ W, Below w.heap.size w W → W.cell? ⟨g, 4, none⟩ = some (.int .i64 x.arr)) ∧ (∀ W, Below w.heap.size w W → W.cell? ⟨g, 5, none⟩ = some (.int .i64 x.op)) ∧ (∀ W, Below w.heap.size w W → W.cell? ⟨g, 6, none⟩ = some (.int .i64 x.av)) ∧ (∀ W, Below w.heap.size w W → W.cell? ⟨g, 7, none⟩ = some (.int .i64 x.an)) ∧ (∀ W, Below w.heap.size w W → W.cell? ⟨g, 8, none⟩ = some (.int .i64 x.bv)) ∧ (∀ W, Below w.heap.size w W → W.cell? ⟨g, 9, none⟩ = some (.int .i64 x.bn)) :=
  ⟨later (h.cell 0), later (h.cell 1), later (h.cell 2), later (h.cell 3), later (h.cell 4), later (h.cell 5), later (h.cell 6), later (h.cell 7), later (h.cell 8), later (h.cell 9)⟩
theorem fork2_eq (x y : Edg) : fork2 x y = ((x.kd == 12) && ((y.kd == 12) && (opEq x.av x.an y.av y.an && (opEq x.bv x.bn y.bv y.bn && (y.op == notOp x.op))))) := by
  unfold fork2 opEq; rw [Bool.eq_iff_iff]; simp [and_assoc]
theorem blk_pair {w w' : World} {cs cs' : Array Value} {t : TypeId} (h : w' = (w.alloc (.cells cs t)).alloc (.cells cs' t)) : Blk w' w.heap.size t cs ∧ Blk w' (w.heap.size + 1) t cs' ∧ Below w.heap.size w w' := by
  subst h
  obtain ⟨h1, h2⟩ := blk_two (w := w) (t := t) (t' := t) (cs := cs) (cs' := cs') (Below.refl _ _)
  exact ⟨h1, h2, ((Below.refl _ _).alloc (Nat.le_refl _) _).alloc (by simp) _⟩

set_option maxRecDepth 8000 in
set_option maxHeartbeats 8000000 in
theorem goes_two (x y : Edg) (A : Option Addr) (c : Nat) (w : World) (hr : RdE w w.heap.size A [x, y]) :
    Calls Tryz.prog 47 #[.slice A 2 c] w fun e w' => e = .returned (.bool (fork2 x y)) ∧ Below w.heap.size w w' := by
  obtain ⟨b, off, rfl, hB, p0, p1, p2, p3, p4, p5, p6, p7, p8, p9⟩ := hr.get (k := 0) (by simp) rfl
  obtain ⟨b', off', e', hB', q0, q1, q2, q3, q4, q5, q6, q7, q8, q9⟩ := hr.get (k := 1) (by simp) rfl
  injection e' with e'; injection e' with e1 e2; subst e1; subst e2
  clear hB' hr
  simp only [List.getElem_cons_zero, List.getElem_cons_succ, Nat.zero_mul, Nat.add_zero, Nat.one_mul] at *
  have HR := hid (fork2_eq x y)
  go_enter Tryz.func47, Tryz.ntmps47
  go_upto_region 7 with fail
  go_region
  all_goals clear p0 p1 p2 p3 p4 p5 p6 p7 p8 p9 q0 q1 q2 q3 q4 q5 q6 q7 q8 q9
  · as_aux_lemma =>
    obtain ⟨k0, k1, n0⟩ := blk_pair (w := w) (t := 65) (cs := ecs x) (cs' := ecs y) rfl
    unfold ecs at k0 k1 n0
    go_upto_region 8 with fail
    generalize (w.alloc (.cells _ 65)).alloc (.cells _ 65) = w1 at *
    obtain ⟨a0, a1, a2, a3, a4, a5, a6, a7, a8, a9⟩ := ecells k0
    obtain ⟨b0, b1, b2, b3, b4, b5, b6, b7, b8, b9⟩ := ecells k1
    clear k0 k1
    refine wp_region_flow 28 (fun W => Below w1.heap.size w1 W) (by kernel_rfl) (by kernel_rfl) ((Below.refl _ _).drew).drew ?_
    (repeat (first | (refine Flow.skip (by rfl) ?_; simp only [Act.put, List.setIfInBounds_toArray, List.set_cons_zero, List.set_cons_succ]) | (refine' Flow.take _ (by rfl) (fun W hW R hR => ?_) ?_; rotate_left; (go_simp; (try go_bits); with_reducible exact hR); simp only [Act.put, List.setIfInBounds_toArray, List.set_cons_zero, List.set_cons_succ])))
    cases c1 : (x.kd == 12)
    · (repeat (first | (refine Flow.skip (by rfl) ?_; simp only [Act.put, List.setIfInBounds_toArray, List.set_cons_zero, List.set_cons_succ]) | (refine' Flow.take _ (by rfl) (fun W hW R hR => ?_) ?_; rotate_left; (go_simp; (try go_bits); with_reducible exact hR); simp only [Act.put, List.setIfInBounds_toArray, List.set_cons_zero, List.set_cons_succ])))
      intro w6 hb6
      go_wp2
      go_ret
      exact ⟨retb (by rw [HR.out, c1]; rfl), bup n0 hb6⟩
    · skip
      cases c2 : (y.kd == 12)
      · (repeat (first | (refine Flow.skip (by rfl) ?_; simp only [Act.put, List.setIfInBounds_toArray, List.set_cons_zero, List.set_cons_succ]) | (refine' Flow.take _ (by rfl) (fun W hW R hR => ?_) ?_; rotate_left; (go_simp; (try go_bits); with_reducible exact hR); simp only [Act.put, List.setIfInBounds_toArray, List.set_cons_zero, List.set_cons_succ])))
        intro w6 hb6
        go_wp2
        go_ret
        exact ⟨retb (by rw [HR.out, c1, c2]; rfl), bup n0 hb6⟩
      · skip
        cases c3 : opEq x.av x.an y.av y.an
        · (repeat (first | (refine Flow.skip (by rfl) ?_; simp only [Act.put, List.setIfInBounds_toArray, List.set_cons_zero, List.set_cons_succ]) | (refine' Flow.take _ (by rfl) (fun W hW R hR => ?_) ?_; rotate_left; (go_simp; (try go_bits); with_reducible exact hR); simp only [Act.put, List.setIfInBounds_toArray, List.set_cons_zero, List.set_cons_succ])))
          intro w6 hb6
          go_wp2
          go_ret
          exact ⟨retb (by rw [HR.out, c1, c2, c3]; rfl), bup n0 hb6⟩
        · skip
          cases c4 : opEq x.bv x.bn y.bv y.bn
          · (repeat (first | (refine Flow.skip (by rfl) ?_; simp only [Act.put, List.setIfInBounds_toArray, List.set_cons_zero, List.set_cons_succ]) | (refine' Flow.take _ (by rfl) (fun W hW R hR => ?_) ?_; rotate_left; (go_simp; (try go_bits); with_reducible exact hR); simp only [Act.put, List.setIfInBounds_toArray, List.set_cons_zero, List.set_cons_succ])))
            intro w6 hb6
            go_wp2
            go_ret
            exact ⟨retb (by rw [HR.out, c1, c2, c3, c4]; rfl), bup n0 hb6⟩
          · skip
            (repeat (first | (refine Flow.skip (by rfl) ?_; simp only [Act.put, List.setIfInBounds_toArray, List.set_cons_zero, List.set_cons_succ]) | (refine' Flow.take _ (by rfl) (fun W hW R hR => ?_) ?_; rotate_left; (go_simp; (try go_bits); with_reducible exact hR); simp only [Act.put, List.setIfInBounds_toArray, List.set_cons_zero, List.set_cons_succ])))
            (refine Flow.call 79 #[.int .i64 x.op] (.int .i64 (notOp x.op)) (by rfl) (fun X hX => by go_simp) (fun X hX => (dnot_any _ _).mono fun e w' ⟨he, hb⟩ => ⟨he, hb ▸ hX⟩) ?_; simp only [Act.put, List.setIfInBounds_toArray, List.set_cons_zero, List.set_cons_succ])
            (repeat (first | (refine Flow.skip (by rfl) ?_; simp only [Act.put, List.setIfInBounds_toArray, List.set_cons_zero, List.set_cons_succ]) | (refine' Flow.take _ (by rfl) (fun W hW R hR => ?_) ?_; rotate_left; (go_simp; (try go_bits); with_reducible exact hR); simp only [Act.put, List.setIfInBounds_toArray, List.set_cons_zero, List.set_cons_succ])))
            intro w6 hb6
            go_wp2
            go_ret
            exact ⟨retb (by rw [HR.out, c1, c2, c3, c4]; rfl), bup n0 hb6⟩
  · as_aux_lemma =>
    obtain ⟨k0, k1, n0⟩ := blk_pair (w := w) (t := 65) (cs := ecs y) (cs' := ecs x) rfl
    unfold ecs at k0 k1 n0
    go_upto_region 8 with fail
    generalize (w.alloc (.cells _ 65)).alloc (.cells _ 65) = w1 at *
    obtain ⟨a0, a1, a2, a3, a4, a5, a6, a7, a8, a9⟩ := ecells k0
    obtain ⟨b0, b1, b2, b3, b4, b5, b6, b7, b8, b9⟩ := ecells k1
    clear k0 k1
    refine wp_region_flow 28 (fun W => Below w1.heap.size w1 W) (by kernel_rfl) (by kernel_rfl) ((Below.refl _ _).drew).drew ?_
    (repeat (first | (refine Flow.skip (by rfl) ?_; simp only [Act.put, List.setIfInBounds_toArray, List.set_cons_zero, List.set_cons_succ]) | (refine' Flow.take _ (by rfl) (fun W hW R hR => ?_) ?_; rotate_left; (go_simp; (try go_bits); with_reducible exact hR); simp only [Act.put, List.setIfInBounds_toArray, List.set_cons_zero, List.set_cons_succ])))
    cases c1 : (x.kd == 12)
    · (repeat (first | (refine Flow.skip (by rfl) ?_; simp only [Act.put, List.setIfInBounds_toArray, List.set_cons_zero, List.set_cons_succ]) | (refine' Flow.take _ (by rfl) (fun W hW R hR => ?_) ?_; rotate_left; (go_simp; (try go_bits); with_reducible exact hR); simp only [Act.put, List.setIfInBounds_toArray, List.set_cons_zero, List.set_cons_succ])))
      intro w6 hb6
      go_wp2
      go_ret
      exact ⟨retb (by rw [HR.out, c1]; rfl), bup n0 hb6⟩
    · skip
      cases c2 : (y.kd == 12)
      · (repeat (first | (refine Flow.skip (by rfl) ?_; simp only [Act.put, List.setIfInBounds_toArray, List.set_cons_zero, List.set_cons_succ]) | (refine' Flow.take _ (by rfl) (fun W hW R hR => ?_) ?_; rotate_left; (go_simp; (try go_bits); with_reducible exact hR); simp only [Act.put, List.setIfInBounds_toArray, List.set_cons_zero, List.set_cons_succ])))
        intro w6 hb6
        go_wp2
        go_ret
        exact ⟨retb (by rw [HR.out, c1, c2]; rfl), bup n0 hb6⟩
      · skip
        cases c3 : opEq x.av x.an y.av y.an
        · (repeat (first | (refine Flow.skip (by rfl) ?_; simp only [Act.put, List.setIfInBounds_toArray, List.set_cons_zero, List.set_cons_succ]) | (refine' Flow.take _ (by rfl) (fun W hW R hR => ?_) ?_; rotate_left; (go_simp; (try go_bits); with_reducible exact hR); simp only [Act.put, List.setIfInBounds_toArray, List.set_cons_zero, List.set_cons_succ])))
          intro w6 hb6
          go_wp2
          go_ret
          exact ⟨retb (by rw [HR.out, c1, c2, c3]; rfl), bup n0 hb6⟩
        · skip
          cases c4 : opEq x.bv x.bn y.bv y.bn
          · (repeat (first | (refine Flow.skip (by rfl) ?_; simp only [Act.put, List.setIfInBounds_toArray, List.set_cons_zero, List.set_cons_succ]) | (refine' Flow.take _ (by rfl) (fun W hW R hR => ?_) ?_; rotate_left; (go_simp; (try go_bits); with_reducible exact hR); simp only [Act.put, List.setIfInBounds_toArray, List.set_cons_zero, List.set_cons_succ])))
            intro w6 hb6
            go_wp2
            go_ret
            exact ⟨retb (by rw [HR.out, c1, c2, c3, c4]; rfl), bup n0 hb6⟩
          · skip
            (repeat (first | (refine Flow.skip (by rfl) ?_; simp only [Act.put, List.setIfInBounds_toArray, List.set_cons_zero, List.set_cons_succ]) | (refine' Flow.take _ (by rfl) (fun W hW R hR => ?_) ?_; rotate_left; (go_simp; (try go_bits); with_reducible exact hR); simp only [Act.put, List.setIfInBounds_toArray, List.set_cons_zero, List.set_cons_succ])))
            (refine Flow.call 79 #[.int .i64 x.op] (.int .i64 (notOp x.op)) (by rfl) (fun X hX => by go_simp) (fun X hX => (dnot_any _ _).mono fun e w' ⟨he, hb⟩ => ⟨he, hb ▸ hX⟩) ?_; simp only [Act.put, List.setIfInBounds_toArray, List.set_cons_zero, List.set_cons_succ])
            (repeat (first | (refine Flow.skip (by rfl) ?_; simp only [Act.put, List.setIfInBounds_toArray, List.set_cons_zero, List.set_cons_succ]) | (refine' Flow.take _ (by rfl) (fun W hW R hR => ?_) ?_; rotate_left; (go_simp; (try go_bits); with_reducible exact hR); simp only [Act.put, List.setIfInBounds_toArray, List.set_cons_zero, List.set_cons_succ])))
            intro w6 hb6
            go_wp2
            go_ret
            exact ⟨retb (by rw [HR.out, c1, c2, c3, c4]; rfl), bup n0 hb6⟩

set_option maxRecDepth 8000 in
set_option maxHeartbeats 4000000 in
theorem goes_any (l : List Edg) (A : Option Addr) (c : Nat) (w : World) (hr : RdE w w.heap.size A l) (hl : l.length ≤ 8192) :
    Calls Tryz.prog 47 #[.slice A l.length c] w fun e w' => e = .returned (.bool (forkE l)) ∧ Below w.heap.size w w' := by
  match l, hr, hl with
  | [], _, _ =>
    go_enter Tryz.func47, Tryz.ntmps47
    go_wp2; go_ret; exact ⟨rfl, Below.refl _ _⟩
  | [x], hr, _ =>
    obtain ⟨b, off, rfl, hB, p0, p1, p2, p3, p4, p5, p6, p7, p8, p9⟩ := hr.get (k := 0) (by simp) rfl
    simp only [List.getElem_cons_zero, Nat.zero_mul, Nat.add_zero] at *
    have HF : Hid (forkE [x] = (x.kd != 12)) := hid (by unfold forkE; rw [Bool.eq_iff_iff]; simp)
    go_enter Tryz.func47, Tryz.ntmps47
    go_wp2; go_ret; exact ⟨retb HF.out.symm, Below.refl _ _⟩
  | [x, y], hr, _ => exact goes_two x y A c w hr
  | x :: y :: z :: l, _, hl =>
    have h0 : (((x :: y :: z :: l).length : Int) == 0) = false := by rw [beq_eq_false_iff_ne]; simp; omega
    have h1 : (((x :: y :: z :: l).length : Int) == 1) = false := by rw [beq_eq_false_iff_ne]; simp; omega
    have h2 : (((x :: y :: z :: l).length : Int) == 2) = false := by rw [beq_eq_false_iff_ne]; simp; omega
    have HF : Hid (forkE (x :: y :: z :: l) = false) := hid rfl
    generalize x :: y :: z :: l = l at *
    generalize l.length = n at *
    go_enter Tryz.func47, Tryz.ntmps47
    go_wp2; go_ret; exact ⟨retb HF.out.symm, Below.refl _ _⟩
end Go.Proofs.YtkncebcekhfnfaaGreat
