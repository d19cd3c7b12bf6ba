/-
  What is known where a comparison holds is within what was known; of a comparison and its contrary each point is in one: plain law.
  The edge that is taken next, of a graph that is one: the first one from the point, or the second one.
  step.state: the edge that is taken next. (Printed by gen_next.py.)
-/
import Derived.Test.YtkncebcekhfnfaaGreatBWT13
import Derived.Test.YtkncebcekhfnfaaGreatBWT24
import Derived.Test.YtkncebcekhfnfaaGreatBWT25
namespace Go.Proofs.YtkncebcekhfnfaaGreat
open Go.RowKit
section

theorem cmp_not {op : Int} (h : 1 ≤ op ∧ op ≤ 6) (a b : Int) : cmpB (notOp op) a b = !cmpB op a b := by
  have : op = 1 ∨ op = 2 ∨ op = 3 ∨ op = 4 ∨ op = 5 ∨ op = 6 := by omega
  unfold notOp cmpB
  rcases this with rfl | rfl | rfl | rfl | rfl | rfl <;> simp <;> rw [← decide_not] <;> congr 1 <;> apply propext <;> omega
end
section

theorem idx_map (es : List Edg) (p : Int) : (idxE es es.length p).map (eAt es) = outsE es p := by
  have := idx_outs es es.length (Nat.le_refl _) p
  rw [List.take_length] at this
  exact this
theorem fork_at {g : Gr} (hc : chk g = 0) {p : Nat} (hp : (p : Int) < g.pts) : forkE (outsE g.es p) = true := by
  obtain ⟨-, -, -, hf⟩ := chk_in hc
  unfold forksOk at hf
  exact List.all_eq_true.1 hf p (List.mem_range.2 (by omega))
theorem right_at {g : Gr} (hc : chk g = 0) {e : Edg} (he : e ∈ g.es) : rightE g.all g.sz.length e = true := by
  unfold chk at hc
  by_cases h1 : varsBad g = true
  · rw [if_pos h1] at hc; omega
  · rw [if_neg h1] at hc
    by_cases h2 : ptsBad g = true
    · rw [if_pos h2] at hc; omega
    · rw [if_neg h2] at hc
      by_cases h3 : formOk g = true
      · unfold formOk at h3
        simp only [Bool.and_eq_true, List.all_eq_true] at h3
        have := h3.1.2 _ he
        unfold edgeOk at this
        rw [Bool.and_eq_true] at this
        exact this.2
      · rw [if_neg h3] at hc; omega
theorem op_rng {n na : Int} {e : Edg} (h : rightE n na e = true) (hk : e.kd = 12) : 1 ≤ e.op ∧ e.op ≤ 6 := by
  unfold rightE at h
  simp only [Bool.and_eq_true] at h
  have := h.1.1.2
  rw [show wOp e.kd = true from decide_eq_true hk, cond_true, decide_eq_true_eq] at this
  exact this
/-- No edge, one, or a fork of two. -/
theorem next_law {g : Gr} (hc : chk g = 0) {p : Nat} (hp : (p : Int) < g.pts) (xs : List Int) : idxE g.es g.es.length p = [] ∨
    ∃ i rest, idxE g.es g.es.length p = i :: rest ∧ i < g.es.length ∧ (((eAt g.es i).kd ≠ 12 ∧ takenW g.es xs (i :: rest) = (i : Int)) ∨
      ((eAt g.es i).kd = 12 ∧ ∃ j, rest = [j] ∧ j < g.es.length ∧ takenW g.es xs (i :: rest) = if cmpB (eAt g.es i).op (opdX xs (eAt g.es i).av (eAt g.es i).an) (opdX xs (eAt g.es i).bv (eAt g.es i).bn) = true then (i : Int) else (j : Int))) := by
  have hf := fork_at hc hp
  rw [← idx_map] at hf
  have hl : ∀ i ∈ idxE g.es g.es.length p, i < g.es.length := fun i hi => taken_idx _ hi
  generalize idxE g.es g.es.length p = ix at *
  match ix, hf, hl with
  | [], _, _ => exact .inl rfl
  | [i], hf, hl =>
    refine .inr ⟨i, [], rfl, hl i (by simp), .inl ?_⟩
    have hk : (eAt g.es i).kd ≠ 12 := by simpa [forkE] using hf
    refine ⟨hk, ?_⟩
    rw [takenW_cons, if_pos]
    unfold goesB
    rw [decide_eq_true hk, Bool.true_or]
  | [i, j], hf, hl =>
    have hi := hl i (by simp)
    have hj := hl j (by simp)
    have h2 : fork2 (eAt g.es i) (eAt g.es j) = true := hf
    unfold fork2 at h2
    simp only [Bool.and_eq_true, decide_eq_true_eq] at h2
    obtain ⟨⟨⟨⟨k1, k2⟩, ⟨a1, a2⟩⟩, ⟨b1, b2⟩⟩, ho⟩ := h2
    refine .inr ⟨i, [j], rfl, hi, .inr ⟨k1, j, rfl, hj, ?_⟩⟩
    have hop := op_rng (right_at hc (eAt_mem hi)) k1
    rw [takenW_cons, takenW_cons]
    have g1 : goesB xs (eAt g.es i) = cmpB (eAt g.es i).op (opdX xs (eAt g.es i).av (eAt g.es i).an) (opdX xs (eAt g.es i).bv (eAt g.es i).bn) := by
      unfold goesB; rw [decide_eq_false (by rw [k1]; simp), Bool.false_or]
    have g2 : goesB xs (eAt g.es j) = !goesB xs (eAt g.es i) := by
      rw [g1]
      unfold goesB
      rw [decide_eq_false (by rw [k2]; simp), Bool.false_or, ho, ← a1, ← a2, ← b1, ← b2]
      exact cmp_not hop _ _
    rw [g2, ← g1]
    cases goesB xs (eAt g.es i) <;> simp
  | i :: j :: k :: r, hf, _ => simp [forkE] at hf
theorem exit_law {g : Gr} (hc : chk g = 0) {p : Nat} (hp : g.ex = (p : Int)) : idxE g.es g.es.length p = [] := by
  refine List.eq_nil_iff_forall_not_mem.2 fun i hi => ?_
  have hil := taken_idx p hi
  obtain ⟨-, -, hin, -⟩ := chk_in hc
  have h1 := hin _ (eAt_mem hil)
  unfold inE at h1
  rw [decide_eq_true_eq] at h1
  unfold idxE at hi
  simp at hi
  have h2 := hi.2
  have : (eAt g.es i).fr = (p : Int) := by unfold eAt; simpa using h2
  omega
end
section
attribute [local go_sem ↓] Go.wp_at_zero Go.wp_at_succ

/-- The numbers of the edges from a point, as they lie in memory. -/
theorem outs_slice {w : World} {b0 F N : Nat} {f : Nat → Value} {es : List Edg} {V R : Option Addr} {vc rc : Nat} {xs : List Int} {zs : List At64.R1} (h : MemR w b0 F N f es V R vc rc xs zs) {p : Nat} (hp : p < N) :
    w.cell? ⟨F, p, none⟩ = some (f p) ∧ ∃ A c, f p = .slice A (idxE es es.length p).length c ∧ Rd w w.heap.size A (ints (idxE es es.length p)) := by
  refine ⟨h.outs.row.cell hp, ?_⟩
  rcases h.outs.slice hp with ⟨h1, h2⟩ | ⟨g, cap, h1, _, hg, _⟩
  · have h3 : idxE es es.length p = [] := by
      have : (ints (idxE es es.length p)).length = 0 := by
        show (idxI es es.length p).length = 0
        rw [h2]; rfl
      rw [ints_len] at this
      exact List.eq_nil_of_length_eq_zero this
    exact ⟨none, 0, by rw [h1, h3]; rfl, by rw [h3]; intro k hk; simp [ints] at hk⟩
  · have hl : (idxI es es.length p).length = (idxE es es.length p).length := ints_len _
    rw [hl] at h1
    refine ⟨_, _, h1, fun k hk => ⟨g, 0, rfl, hg, ?_⟩⟩
    rw [Nat.zero_add]
    rw [← hl] at h1
    rw [h.outs.cell hp h1 (by rw [Nat.mul_one]; exact hk)]
    show ((idxI es es.length p).flatMap enc1)[k]? = _
    rw [fm1]
    exact i64s_get _ hk

def NextRes (t : Int) (w : World) (e : Ending) (w' : World) : Prop := e = .returned (.tuple #[.int .i64 t, .bool (decide (0 ≤ t))]) ∧ Below w.heap.size w w'
set_option maxRecDepth 8000 in
set_option maxHeartbeats 8000000 in
theorem snext_ok (b0 gs n : Nat) (r : RP) (m : MS) (ev : Value) (pn : Nat) (w : World) (h : StA w b0 gs r m ev n) (hp : m.p = (pn : Int)) (hpN : (pn : Int) < r.g.pts) (hN : r.g.pts = (r.N : Int)) (hc : chk r.g = 0) (hl : m.xs.length ≤ 64) (_le : r.g.es.length ≤ 8192)
    (hv : ∀ e ∈ r.g.es, e.av < m.xs.length ∧ e.bv < m.xs.length) :
    Calls Tryz.prog 84 #[.pointer (some ⟨gs, 0, none⟩)] w (NextRes (takenW r.g.es m.xs (idxE r.g.es r.g.es.length pn)) w) := by
  have HNL := hid (next_law hc hpN m.xs)
  have HEX := hid (fun q => exit_law hc (p := pn) q)
  obtain ⟨cF, A, c, hf, hA⟩ := outs_slice h.mem (p := pn) (by omega)
  have HC : Hid (∀ e ∈ r.g.es, True) := hid fun _ _ => trivial
  have HV := hid hv
  have HCM := hid (fun (op a b : Int) X => ncmp_any op a b X)
  have hE : RdE w w.heap.size r.En r.g.es := h.edges.more h.le
  have HVA := hid (fun (av an : Int) (q : av < m.xs.length) X (hX : Below w.heap.size w X) => svalue_ok b0 gs n r m ev av an X (h.up hX) q hl)
  have ks := h.blk
  rw [hp] at ks
  rw [hf] at cF
  clear h hp hf hv HC
  have hpN' : (pn : Int) < (r.N : Int) := by omega
  generalize idxE r.g.es r.g.es.length pn = ix at *
  have hb0 := Below.refl w.heap.size w
  go_enter Tryz.func84, Tryz.ntmps84
  go_wp2
  obtain ⟨s0, s1, s2, s3, s4, s5, s6, s7, s8, s9, s10, s11, fs⟩ := stbox ks
  have l6 := later s6
  have l7 := later s7
  have lF := later cF
  clear s0 s1 s2 s3 s4 s5 s6 s7 s8 s9 s10 s11 fs cF
  refine wp_region_flow 8 (fun W => Below w.heap.size w W) (by kernel_rfl) (by kernel_rfl) (Below.refl _ _).drew ?_
  (repeat (first | (refine Flow.skip (by rfl) ?_; simp only [Act.put, List.setIfInBounds_toArray, List.set_cons_zero, List.set_cons_succ]) | (refine' Flow.take _ (by rfl) (fun W hW R hR => ?_) ?_; rotate_left; (go_simp; (try go_bits); with_reducible exact hR); simp only [Act.put, List.setIfInBounds_toArray, List.set_cons_zero, List.set_cons_succ])))
  intro w2 hb2
  have cF := lF w2 hb2
  clear l6 l7 lF
  replace ks := ks.later hb2
  replace hA := hA.up hb2
  replace hE := hE.up hb2
  replace hb0 := bup hb0 hb2
  have HVA := hid (fun (av an : Int) (q : av < m.xs.length) X (hX : Below w2.heap.size w2 X) => HVA.out av an q X (hb2.trans (hX.mono hb2.size)))
  clear hb2
  go_wp2
  clear cF
  obtain ⟨s0, s1, s2, s3, s4, s5, s6, s7, s8, s9, s10, s11, fs⟩ := stbox ks
  have l4 := later s4
  have l7 := later s7
  clear s0 s1 s2 s3 s4 s5 s6 s7 s8 s9 s10 s11 fs
  by_cases hex : r.g.ex = (pn : Int)
  · have hix := HEX.out hex
    subst hix
    have t1 : ((pn : Int) == r.g.ex) = true := by rw [hex]; simp
    clear HNL HEX hex
    refine wp_region_flow 9 (fun W => Below w2.heap.size w2 W) (by kernel_rfl) (by kernel_rfl) (Below.refl _ _).drew ?_
    (repeat (first | (refine Flow.skip (by rfl) ?_; simp only [Act.put, List.setIfInBounds_toArray, List.set_cons_zero, List.set_cons_succ]) | (refine' Flow.take _ (by rfl) (fun W hW R hR => ?_) ?_; rotate_left; (go_simp; (try go_bits); with_reducible exact hR); simp only [Act.put, List.setIfInBounds_toArray, List.set_cons_zero, List.set_cons_succ])))
    intro w3 hb3
    go_wp2
    go_ret2
    exact ⟨rfl, bup hb0 hb3⟩
  have t1 : ((pn : Int) == r.g.ex) = false := by rw [beq_eq_false_iff_ne]; omega
  clear HEX hex
  rcases HNL.out with hix | ⟨i, rest, hix, hi, hcase⟩
  · subst hix
    clear HNL
    refine wp_region_flow 9 (fun W => Below w2.heap.size w2 W) (by kernel_rfl) (by kernel_rfl) (Below.refl _ _).drew ?_
    (repeat (first | (refine Flow.skip (by rfl) ?_; simp only [Act.put, List.setIfInBounds_toArray, List.set_cons_zero, List.set_cons_succ]) | (refine' Flow.take _ (by rfl) (fun W hW R hR => ?_) ?_; rotate_left; (go_simp; (try go_bits); with_reducible exact hR); simp only [Act.put, List.setIfInBounds_toArray, List.set_cons_zero, List.set_cons_succ])))
    intro w3 hb3
    go_wp2
    go_ret2
    exact ⟨rfl, bup hb0 hb3⟩
  subst hix
  clear HNL
  have HCA := hid hcase
  clear hcase
  have t2 : (((i :: rest).length : Int) == 0) = false := by rw [beq_eq_false_iff_ne, List.length_cons]; omega
  have t3 : (((rest.length : Int) + 1) == 0) = false := by rw [beq_eq_false_iff_ne]; omega
  refine wp_region_flow 9 (fun W => Below w2.heap.size w2 W) (by kernel_rfl) (by kernel_rfl) (Below.refl _ _).drew ?_
  (repeat (first | (refine Flow.skip (by rfl) ?_; simp only [Act.put, List.setIfInBounds_toArray, List.set_cons_zero, List.set_cons_succ]) | (refine' Flow.take _ (by rfl) (fun W hW R hR => ?_) ?_; rotate_left; (go_simp; (try go_bits); with_reducible exact hR); simp only [Act.put, List.setIfInBounds_toArray, List.set_cons_zero, List.set_cons_succ])))
  intro w3 hb3
  clear l4 l7
  replace ks := ks.later hb3
  replace hA := hA.up hb3
  replace hE := hE.up hb3
  replace hb0 := bup hb0 hb3
  replace HVA := hid (fun (av an : Int) (q : av < m.xs.length) X (hX : Below w3.heap.size w3 X) => HVA.out av an q X (hb3.trans (hX.mono hb3.size)))
  clear hb3
  go_wp2
  clear t1 t2 t3
  have hi' : (i : Int) < (r.g.es.length : Int) := by omega
  have hln1 : (0 : Int) < (rest.length : Int) + 1 := by omega
  obtain ⟨b2, o2, rfl, hB2, hcA⟩ := hA 0 (by simp [ints])
  replace hcA : w3.cell? ⟨b2, o2, none⟩ = some (.int .i64 (i : Int)) := hcA
  obtain ⟨x, hx'⟩ : ∃ x, r.g.es[i] = x := ⟨_, rfl⟩
  have HX : Hid (eAt r.g.es i = x) := hid (by rw [← eAt_eq hi, hx'])
  have HVX := hid (show x.av < m.xs.length ∧ x.bv < m.xs.length from by have := HV.out _ (eAt_mem hi); rw [HX.out] at this; exact this)
  rw [HX.out] at HCA
  obtain ⟨bE, oE, hEe, hBE, p0, p1, p2, p3, p4, p5, p6, p7, p8, p9⟩ := hE.get hi hx'
  obtain ⟨s0, s1, s2, s3, s4, s5, s6, s7, s8, s9, s10, s11, fs⟩ := stbox ks
  rw [hEe] at s5
  clear hx' hEe hE HV hi
  have l5 := laterE s5
  have lc := laterE hcA
  have q0 := laterE p0
  have q1 := laterE p1
  have q2 := laterE p2
  have q3 := laterE p3
  have q4 := laterE p4
  have q5 := laterE p5
  have q6 := laterE p6
  have q7 := laterE p7
  have q8 := laterE p8
  have q9 := laterE p9
  clear s0 s1 s2 s3 s4 s5 s6 s7 s8 s9 s10 s11 fs hcA p0 p1 p2 p3 p4 p5 p6 p7 p8 p9
  refine wp_region_flowE 11 [Sp.val (.pointer (some ⟨gs, 0, none⟩)), Sp.val (.pointer (some ⟨gs, 0, none⟩)), Sp.val (.pointer (some ⟨gs, 0, none⟩)), Sp.val (.pointer (some ⟨gs, 5, none⟩)), Sp.val (.slice (some ⟨bE, oE, none⟩) r.g.es.length r.ce), Sp.val (.slice (some ⟨b2, o2, none⟩) (rest.length + 1) c), Sp.val (.pointer (some ⟨b2, o2, none⟩)), Sp.val (.int .i64 (i : Int)), Sp.val (.pointer (some ⟨bE, oE + i * 10, none⟩)), Sp.val x.val, Sp.any (IsBox 65 #[.int .i64 0, .int .i64 0, .int .i64 0, .int .i64 0, .int .i64 0, .int .i64 0, .int .i64 0, .int .i64 0, .int .i64 0, .int .i64 0])] (by kernel_rfl) (by kernel_rfl) ?_
  (refine FlowE.take (by rfl) (fun W hW R hR => ?_) (fun _ _ => ?_); (go_simp; (try go_bits); with_reducible exact hR); simp only [Act.put, List.setIfInBounds_toArray, List.set_cons_zero, List.set_cons_succ])
  (refine FlowE.take (by rfl) (fun W hW R hR => ?_) (fun _ _ => ?_); (go_simp; (try go_bits); with_reducible exact hR); simp only [Act.put, List.setIfInBounds_toArray, List.set_cons_zero, List.set_cons_succ])
  (refine FlowE.take (by rfl) (fun W hW R hR => ?_) (fun _ _ => ?_); (go_simp; (try go_bits); with_reducible exact hR); simp only [Act.put, List.setIfInBounds_toArray, List.set_cons_zero, List.set_cons_succ])
  (refine FlowE.take (by rfl) (fun W hW R hR => ?_) (fun _ _ => ?_); (go_simp; (try go_bits); with_reducible exact hR); simp only [Act.put, List.setIfInBounds_toArray, List.set_cons_zero, List.set_cons_succ])
  (refine FlowE.take (by rfl) (fun W hW R hR => ?_) (fun _ _ => ?_); (go_simp; (try go_bits); with_reducible exact hR); simp only [Act.put, List.setIfInBounds_toArray, List.set_cons_zero, List.set_cons_succ])
  (refine FlowE.take (by rfl) (fun W hW R hR => ?_) (fun _ _ => ?_); (go_simp; (try go_bits); with_reducible exact hR); simp only [Act.put, List.setIfInBounds_toArray, List.set_cons_zero, List.set_cons_succ])
  (refine FlowE.take (by rfl) (fun W hW R hR => ?_) (fun _ _ => ?_); (go_simp; (try go_bits); with_reducible exact hR); simp only [Act.put, List.setIfInBounds_toArray, List.set_cons_zero, List.set_cons_succ])
  (refine FlowE.take (by rfl) (fun W hW R hR => ?_) (fun _ _ => ?_); (go_simp; (try go_bits); with_reducible exact hR); simp only [Act.put, List.setIfInBounds_toArray, List.set_cons_zero, List.set_cons_succ])
  (refine FlowE.take (by rfl) (fun W hW R hR => ?_) (fun _ _ => ?_); (go_simp; (try go_bits); with_reducible exact hR); simp only [Act.put, List.setIfInBounds_toArray, List.set_cons_zero, List.set_cons_succ])
  unfold Edg.val
  (refine FlowE.take (by rfl) (fun W hW R hR => ?_) (fun _ _ => ?_); (go_simp; (try go_bits); with_reducible exact hR); simp only [Act.put, List.setIfInBounds_toArray, List.set_cons_zero, List.set_cons_succ])
  refine FlowE.step (by rfl) (fun W hW K hK => ?_) (fun v8 l8 h8 => ?_)
  · go_simp
    exact hK _ _ (new1 _ _) ⟨rfl, Blk.new _ _ _, by simp⟩
  simp only [Act.put, List.setIfInBounds_toArray, List.set_cons_zero, List.set_cons_succ]
  refine FlowE.tail (fun W hW hf hd => ?_)
  replace hW : Below w3.heap.size w3 W := Ext.trans (Below.refl _ _).drew hW
  obtain ⟨g8, rfl, k8, lo8, e8, e8'⟩ := fact_box (show Sp.fact w3.drew (Sp.any (IsBox 65 #[.int .i64 0, .int .i64 0, .int .i64 0, .int .i64 0, .int .i64 0, .int .i64 0, .int .i64 0, .int .i64 0, .int .i64 0, .int .i64 0])) v8 l8 h8 W from hf 10)
  replace lo8 : w3.heap.size ≤ g8 := lo8
  clear hf hd e8 e8' l5 lc q0 q1 q2 q3 q4 q5 q6 q7 q8 q9
  have H8 := hid (k8.set10 (v0 := .int .i64 x.fr) (v1 := .int .i64 x.te) (v2 := .int .i64 x.kd) (v3 := .int .i64 x.dst) (v4 := .int .i64 x.arr) (v5 := .int .i64 x.op) (v6 := .int .i64 x.av) (v7 := .int .i64 x.an) (v8 := .int .i64 x.bv) (v9 := .int .i64 x.bn))
  have HW8 := hid (hW.trans (below10 (W := W) (B := w3.heap.size) (g := g8) (v0 := .int .i64 x.fr) (v1 := .int .i64 x.te) (v2 := .int .i64 x.kd) (v3 := .int .i64 x.dst) (v4 := .int .i64 x.arr) (v5 := .int .i64 x.op) (v6 := .int .i64 x.av) (v7 := .int .i64 x.an) (v8 := .int .i64 x.bv) (v9 := .int .i64 x.bn) lo8 hW.size))
  have hcA2 := hA.below hW
  obtain ⟨z0, z1, z2, z3, z4, z5, z6, z7, z8, z9, zf⟩ := edgbox k8
  clear k8
  go_wp2
  clear z0 z1 z2 z3 z4 z5 z6 z7 z8 z9 zf hcA2
  have k8 := H8.out
  have hw8 := HW8.out
  clear H8 HW8 hW
  generalize ((((((((((W.setCell ⟨g8, 0, none⟩ (.int .i64 x.fr)).setCell ⟨g8, 1, none⟩ (.int .i64 x.te)).setCell ⟨g8, 2, none⟩ (.int .i64 x.kd)).setCell ⟨g8, 3, none⟩ (.int .i64 x.dst)).setCell ⟨g8, 4, none⟩ (.int .i64 x.arr)).setCell ⟨g8, 5, none⟩ (.int .i64 x.op)).setCell ⟨g8, 6, none⟩ (.int .i64 x.av)).setCell ⟨g8, 7, none⟩ (.int .i64 x.an)).setCell ⟨g8, 8, none⟩ (.int .i64 x.bv)).setCell ⟨g8, 9, none⟩ (.int .i64 x.bn)) = w5 at *
  replace hA := hA.up hw8
  replace hb0 := bup hb0 hw8
  replace HVA := hid (fun (av an : Int) (q : av < m.xs.length) X (hX : Below w5.heap.size w5 X) => HVA.out av an q X (hw8.trans (hX.mono hw8.size)))
  clear hw8 ks hB2 hBE
  obtain ⟨z0, z1, z2, z3, z4, z5, z6, z7, z8, z9, zf⟩ := edgbox k8
  have f2 := later z2
  have f5 := later z5
  have f6 := later z6
  have f7 := later z7
  have f8 := later z8
  have f9 := later z9
  clear z0 z1 z2 z3 z4 z5 z6 z7 z8 z9 zf k8
  refine wp_region_flow 16 (fun W => Below w5.heap.size w5 W) (by kernel_rfl) (by kernel_rfl) (Below.refl _ _).drew ?_
  rcases HCA.out with ⟨hk12, htk⟩ | ⟨hk12, j, rfl, hj, htk⟩
  · have t1 : (x.kd == 12) = false := by simpa using hk12
    have HT := hid htk
    clear htk hk12 HCA
    (repeat (first | (refine Flow.skip (by rfl) ?_; simp only [Act.put, List.setIfInBounds_toArray, List.set_cons_zero, List.set_cons_succ]) | (refine' Flow.take _ (by rfl) (fun W hW R hR => ?_) ?_; rotate_left; (go_simp; (try go_bits); with_reducible exact hR); simp only [Act.put, List.setIfInBounds_toArray, List.set_cons_zero, List.set_cons_succ])))
    intro w9 hb9
    obtain ⟨_, _, e9, _, c9⟩ := (hA.below hb9) 0 (by simp [ints])
    injection e9 with e9; injection e9 with e91 e92; subst e91; subst e92
    replace c9 : w9.cell? ⟨b2, o2, none⟩ = some (.int .i64 (i : Int)) := c9
    clear f2 f5 f6 f7 f8 f9 hA
    go_wp2
    go_ret2
    exact ⟨by rw [HT.out]; simp, bup hb0 hb9⟩
  · have t1 : (x.kd == 12) = true := by simpa using hk12
    have HT := hid htk
    have HVB := hid (HVA.out x.bv x.bn HVX.out.2)
    replace HVA := hid (HVA.out x.av x.an HVX.out.1)
    clear htk hk12 HCA HVX
    generalize opdX m.xs x.av x.an = a at *
    generalize opdX m.xs x.bv x.bn = b at *
    have HCB := hid (fun X => ncmp_any x.op a b X)
    generalize cmpB x.op a b = cb at *
    clear HCM
    (repeat (first | (refine Flow.skip (by rfl) ?_; simp only [Act.put, List.setIfInBounds_toArray, List.set_cons_zero, List.set_cons_succ]) | (refine' Flow.take _ (by rfl) (fun W hW R hR => ?_) ?_; rotate_left; (go_simp; (try go_bits); with_reducible exact hR); simp only [Act.put, List.setIfInBounds_toArray, List.set_cons_zero, List.set_cons_succ])))
    (refine Flow.call 125 #[.pointer (some ⟨gs, 0, none⟩), .agg #[.int .i64 x.av, .int .i64 x.an]] (.int .i64 a) (by rfl) (fun X hX => by go_simp) (fun X hX => (HVA.out X hX).mono fun e' w' ⟨he, hb'⟩ => ⟨he, bstep hX hX.size hb'⟩) ?_; simp only [Act.put, List.setIfInBounds_toArray, List.set_cons_zero, List.set_cons_succ])
    (repeat (first | (refine Flow.skip (by rfl) ?_; simp only [Act.put, List.setIfInBounds_toArray, List.set_cons_zero, List.set_cons_succ]) | (refine' Flow.take _ (by rfl) (fun W hW R hR => ?_) ?_; rotate_left; (go_simp; (try go_bits); with_reducible exact hR); simp only [Act.put, List.setIfInBounds_toArray, List.set_cons_zero, List.set_cons_succ])))
    (refine Flow.call 125 #[.pointer (some ⟨gs, 0, none⟩), .agg #[.int .i64 x.bv, .int .i64 x.bn]] (.int .i64 b) (by rfl) (fun X hX => by go_simp) (fun X hX => (HVB.out X hX).mono fun e' w' ⟨he, hb'⟩ => ⟨he, bstep hX hX.size hb'⟩) ?_; simp only [Act.put, List.setIfInBounds_toArray, List.set_cons_zero, List.set_cons_succ])
    (repeat (first | (refine Flow.skip (by rfl) ?_; simp only [Act.put, List.setIfInBounds_toArray, List.set_cons_zero, List.set_cons_succ]) | (refine' Flow.take _ (by rfl) (fun W hW R hR => ?_) ?_; rotate_left; (go_simp; (try go_bits); with_reducible exact hR); simp only [Act.put, List.setIfInBounds_toArray, List.set_cons_zero, List.set_cons_succ])))
    (refine Flow.call 124 #[.int .i64 x.op, .int .i64 a, .int .i64 b] (.bool cb) (by rfl) (fun X hX => by go_simp) (fun X hX => (HCB.out X).mono fun e' w' ⟨he, hb'⟩ => ⟨he, bstep hX hX.size hb'⟩) ?_; simp only [Act.put, List.setIfInBounds_toArray, List.set_cons_zero, List.set_cons_succ])
    (repeat (first | (refine Flow.skip (by rfl) ?_; simp only [Act.put, List.setIfInBounds_toArray, List.set_cons_zero, List.set_cons_succ]) | (refine' Flow.take _ (by rfl) (fun W hW R hR => ?_) ?_; rotate_left; (go_simp; (try go_bits); with_reducible exact hR); simp only [Act.put, List.setIfInBounds_toArray, List.set_cons_zero, List.set_cons_succ])))
    intro w9 hb9
    have hA9 := hA.up hb9
    obtain ⟨_, _, e9, _, c9⟩ := hA9 0 (by simp [ints])
    injection e9 with e9; injection e9 with e91 e92; subst e91; subst e92
    replace c9 : w9.cell? ⟨b2, o2, none⟩ = some (.int .i64 (i : Int)) := c9
    obtain ⟨_, _, e9, _, c10⟩ := hA9 1 (by simp [ints])
    injection e9 with e9; injection e9 with e91 e92; subst e91; subst e92
    replace c10 : w9.cell? ⟨b2, o2 + 1, none⟩ = some (.int .i64 (j : Int)) := c10
    clear f2 f5 f6 f7 f8 f9 hA hA9 HVA HVB HCB
    cases cb
    · go_wp2
      go_ret2
      exact ⟨by rw [HT.out]; simp, bup hb0 hb9⟩
    · go_wp2
      go_ret2
      exact ⟨by rw [HT.out]; simp, bup hb0 hb9⟩
end
end Go.Proofs.YtkncebcekhfnfaaGreat
