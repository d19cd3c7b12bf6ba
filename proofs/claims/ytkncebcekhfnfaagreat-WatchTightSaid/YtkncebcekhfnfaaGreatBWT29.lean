/-
  watch.runner: the edge that is taken next. (Printed by gen_rnext.py.)
-/
import Derived.Test.YtkncebcekhfnfaaGreatBWT28
namespace Go.Proofs.YtkncebcekhfnfaaGreat
open Go.RowKit
attribute [local go_sem ↓] Go.wp_at_zero Go.wp_at_succ

set_option maxRecDepth 8000 in
set_option maxHeartbeats 16000000 in
theorem rnext_ok (b0 gs : Nat) (r : RP) (m : MS) (pn it : Nat) (y : Edg) (w : World) (h : StR w b0 gs r m) (hp : m.p = (pn : Int)) (hpN : (pn : Int) < r.g.pts) (hN : r.g.pts = (r.N : Int)) (hc : chk r.g = 0) (hl : m.xs.length ≤ 64) (_le : r.g.es.length ≤ 8192)
    (hv : ∀ e ∈ r.g.es, e.av < m.xs.length ∧ e.bv < m.xs.length) (ht : takenW r.g.es m.xs (idxE r.g.es r.g.es.length pn) = (it : Int)) (hy : eAt r.g.es it = y) :
    Calls Tryz.prog 85 #[.pointer (some ⟨gs, 0, none⟩)] w fun e w' => e = .returned (.agg #[.int .i64 y.fr, .int .i64 y.te, .int .i64 y.kd, .int .i64 y.dst, .int .i64 y.arr, .int .i64 y.op, .int .i64 y.av, .int .i64 y.an, .int .i64 y.bv, .int .i64 y.bn]) ∧ Below w.heap.size w w' := by
  have HNL := hid (next_law hc hpN m.xs)
  obtain ⟨cF, A, c, hf, hA⟩ := outs_slice h.mem (p := pn) (by omega)
  have HV := hid hv
  have HCM := hid (fun (op a b : Int) X => ncmp_any op a b X)
  have hE : RdE w w.heap.size r.En r.g.es := h.edges.more h.le
  have HVA := hid (fun (av an : Int) (q : av < m.xs.length) X (hX : Below w.heap.size w X) => rvalue_ok b0 gs r m av an X (h.up hX) q hl)
  have ks := h.blk
  rw [hp] at ks
  rw [hf] at cF
  have HY := hid hy
  have HTK := hid ht
  clear h hp hf hv ht hy
  have hpN' : (pn : Int) < (r.N : Int) := by omega
  generalize idxE r.g.es r.g.es.length pn = ix at *
  obtain ⟨i, rest, hix, hi, hcase⟩ : ∃ i rest, ix = i :: rest ∧ i < r.g.es.length ∧ (((eAt r.g.es i).kd ≠ 12 ∧ takenW r.g.es m.xs (i :: rest) = (i : Int)) ∨
      ((eAt r.g.es i).kd = 12 ∧ ∃ j, rest = [j] ∧ j < r.g.es.length ∧ takenW r.g.es m.xs (i :: rest) = if cmpB (eAt r.g.es i).op (opdX m.xs (eAt r.g.es i).av (eAt r.g.es i).an) (opdX m.xs (eAt r.g.es i).bv (eAt r.g.es i).bn) = true then (i : Int) else (j : Int))) := by
    rcases HNL.out with hix | hh
    · have := HTK.out
      rw [hix] at this
      unfold takenW at this
      omega
    · exact hh
  subst hix
  have HCA := hid hcase
  clear HNL hcase
  have kq := Blk.new w 65 #[.int .i64 0, .int .i64 0, .int .i64 0, .int .i64 0, .int .i64 0, .int .i64 0, .int .i64 0, .int .i64 0, .int .i64 0, .int .i64 0]
  have hb0 := new1 w (.cells #[.int .i64 0, .int .i64 0, .int .i64 0, .int .i64 0, .int .i64 0, .int .i64 0, .int .i64 0, .int .i64 0, .int .i64 0, .int .i64 0] 65)
  have hgq : w.heap.size < (w.alloc (.cells #[.int .i64 0, .int .i64 0, .int .i64 0, .int .i64 0, .int .i64 0, .int .i64 0, .int .i64 0, .int .i64 0, .int .i64 0, .int .i64 0] 65)).heap.size := kq.lt
  replace ks := ks.later hb0
  replace cF := later cF _ hb0
  replace hA := hA.up hb0
  replace hE := hE.up hb0
  replace HVA := hid (fun (av an : Int) (q : av < m.xs.length) X (hX : Below (w.alloc (.cells #[.int .i64 0, .int .i64 0, .int .i64 0, .int .i64 0, .int .i64 0, .int .i64 0, .int .i64 0, .int .i64 0, .int .i64 0, .int .i64 0] 65)).heap.size (w.alloc (.cells #[.int .i64 0, .int .i64 0, .int .i64 0, .int .i64 0, .int .i64 0, .int .i64 0, .int .i64 0, .int .i64 0, .int .i64 0, .int .i64 0] 65)) X) => HVA.out av an q X (hb0.trans (hX.mono hb0.size)))
  go_enter Tryz.func85, Tryz.ntmps85
  go_upto_region 1 with fail
  generalize w.alloc (.cells #[.int .i64 0, .int .i64 0, .int .i64 0, .int .i64 0, .int .i64 0, .int .i64 0, .int .i64 0, .int .i64 0, .int .i64 0, .int .i64 0] 65) = w1 at *
  have hg0 : w.heap.size ≤ w1.heap.size := by omega
  generalize hgz : w.heap.size = gz at *
  obtain ⟨s0, s1, s2, s3, s4, s5, s6, s7, s8, s9, s10, fs⟩ := rubox ks
  have l6 := later s6
  have l7 := later s7
  have lF := later cF
  clear s0 s1 s2 s3 s4 s5 s6 s7 s8 s9 s10 fs cF
  refine wp_region_flow 8 (fun W => Below w1.heap.size w1 W) (by kernel_rfl) (by kernel_rfl) (Below.refl _ _).drew ?_
  (repeat (first | (refine Flow.skip (by rfl) ?_; simp only [Act.put, List.setIfInBounds_toArray, List.set_cons_zero, List.set_cons_succ]) | (refine' Flow.take _ (by rfl) (fun W hW R hR => ?_) ?_; rotate_left; (go_simp; (try go_bits); with_reducible exact hR); simp only [Act.put, List.setIfInBounds_toArray, List.set_cons_zero, List.set_cons_succ])))
  intro w3 hb3
  have cF := lF w3 hb3
  clear l6 l7 lF
  replace ks := ks.later hb3
  replace kq := kq.later hb3
  replace hA := hA.up hb3
  replace hE := hE.up hb3
  have hb0' : Below gz w w3 := hb0.trans (hb3.mono hg0)
  replace HVA := hid (fun (av an : Int) (q : av < m.xs.length) X (hX : Below w3.heap.size w3 X) => HVA.out av an q X (hb3.trans (hX.mono hb3.size)))
  have hg3 : gz ≤ w3.heap.size := Nat.le_trans hg0 hb3.size
  clear hb3 hb0 hg0
  go_wp2
  clear cF
  have hi' : (i : Int) < (r.g.es.length : Int) := by omega
  have hln1 : (0 : Int) < (rest.length : Int) + 1 := by omega
  obtain ⟨b2, o2, rfl, hB2, hcA⟩ := hA 0 (by simp [ints])
  replace hcA : w3.cell? ⟨b2, o2, none⟩ = some (.int .i64 (i : Int)) := hcA
  obtain ⟨x, hx'⟩ : ∃ x, r.g.es[i] = x := ⟨_, rfl⟩
  have HX : Hid (eAt r.g.es i = x) := hid (by rw [← eAt_eq hi, hx'])
  have HVX := hid (show x.av < m.xs.length ∧ x.bv < m.xs.length from by have := HV.out _ (eAt_mem hi); rw [HX.out] at this; exact this)
  rw [HX.out] at HCA
  have hE3 := hid hE
  obtain ⟨bE, oE, hEe, hBE, p0, p1, p2, p3, p4, p5, p6, p7, p8, p9⟩ := hE.get hi hx'
  obtain ⟨s0, s1, s2, s3, s4, s5, s6, s7, s8, s9, s10, fs⟩ := rubox ks
  rw [hEe] at s5
  have HEE := hid hEe
  clear hx' hEe hE HV hi
  have l5 := laterE s5
  have lc := laterE hcA
  have q0 := laterE p0
  have q1 := laterE p1
  have q2 := laterE p2
  have q3 := laterE p3
  have q4 := laterE p4
  have q5 := laterE p5
  have q6 := laterE p6
  have q7 := laterE p7
  have q8 := laterE p8
  have q9 := laterE p9
  clear s0 s1 s2 s3 s4 s5 s6 s7 s8 s9 s10 fs hcA p0 p1 p2 p3 p4 p5 p6 p7 p8 p9
  refine wp_region_flowE 11 [Sp.val (.pointer (some ⟨gs, 0, none⟩)), Sp.val (.pointer (some ⟨gs, 0, none⟩)), Sp.val (.pointer (some ⟨gs, 0, none⟩)), Sp.val (.pointer (some ⟨gs, 5, none⟩)), Sp.val (.slice (some ⟨bE, oE, none⟩) r.g.es.length r.ce), Sp.val (.slice (some ⟨b2, o2, none⟩) (rest.length + 1) c), Sp.val (.pointer (some ⟨b2, o2, none⟩)), Sp.val (.int .i64 (i : Int)), Sp.val (.pointer (some ⟨bE, oE + i * 10, none⟩)), Sp.val x.val, Sp.any (IsBox 65 #[.int .i64 0, .int .i64 0, .int .i64 0, .int .i64 0, .int .i64 0, .int .i64 0, .int .i64 0, .int .i64 0, .int .i64 0, .int .i64 0])] (by kernel_rfl) (by kernel_rfl) ?_
  (refine FlowE.take (by rfl) (fun W hW R hR => ?_) (fun _ _ => ?_); (go_simp; (try go_bits); with_reducible exact hR); simp only [Act.put, List.setIfInBounds_toArray, List.set_cons_zero, List.set_cons_succ])
  (refine FlowE.take (by rfl) (fun W hW R hR => ?_) (fun _ _ => ?_); (go_simp; (try go_bits); with_reducible exact hR); simp only [Act.put, List.setIfInBounds_toArray, List.set_cons_zero, List.set_cons_succ])
  (refine FlowE.take (by rfl) (fun W hW R hR => ?_) (fun _ _ => ?_); (go_simp; (try go_bits); with_reducible exact hR); simp only [Act.put, List.setIfInBounds_toArray, List.set_cons_zero, List.set_cons_succ])
  (refine FlowE.take (by rfl) (fun W hW R hR => ?_) (fun _ _ => ?_); (go_simp; (try go_bits); with_reducible exact hR); simp only [Act.put, List.setIfInBounds_toArray, List.set_cons_zero, List.set_cons_succ])
  (refine FlowE.take (by rfl) (fun W hW R hR => ?_) (fun _ _ => ?_); (go_simp; (try go_bits); with_reducible exact hR); simp only [Act.put, List.setIfInBounds_toArray, List.set_cons_zero, List.set_cons_succ])
  (refine FlowE.take (by rfl) (fun W hW R hR => ?_) (fun _ _ => ?_); (go_simp; (try go_bits); with_reducible exact hR); simp only [Act.put, List.setIfInBounds_toArray, List.set_cons_zero, List.set_cons_succ])
  (refine FlowE.take (by rfl) (fun W hW R hR => ?_) (fun _ _ => ?_); (go_simp; (try go_bits); with_reducible exact hR); simp only [Act.put, List.setIfInBounds_toArray, List.set_cons_zero, List.set_cons_succ])
  (refine FlowE.take (by rfl) (fun W hW R hR => ?_) (fun _ _ => ?_); (go_simp; (try go_bits); with_reducible exact hR); simp only [Act.put, List.setIfInBounds_toArray, List.set_cons_zero, List.set_cons_succ])
  (refine FlowE.take (by rfl) (fun W hW R hR => ?_) (fun _ _ => ?_); (go_simp; (try go_bits); with_reducible exact hR); simp only [Act.put, List.setIfInBounds_toArray, List.set_cons_zero, List.set_cons_succ])
  unfold Edg.val
  (refine FlowE.take (by rfl) (fun W hW R hR => ?_) (fun _ _ => ?_); (go_simp; (try go_bits); with_reducible exact hR); simp only [Act.put, List.setIfInBounds_toArray, List.set_cons_zero, List.set_cons_succ])
  refine FlowE.step (by rfl) (fun W hW K hK => ?_) (fun v8 l8 h8 => ?_)
  · go_simp
    exact hK _ _ (new1 _ _) ⟨rfl, Blk.new _ _ _, by simp⟩
  simp only [Act.put, List.setIfInBounds_toArray, List.set_cons_zero, List.set_cons_succ]
  refine FlowE.tail (fun W hW hf hd => ?_)
  replace hW : Below w3.heap.size w3 W := Ext.trans (Below.refl _ _).drew hW
  obtain ⟨g8, rfl, k8, lo8, e8, e8'⟩ := fact_box (show Sp.fact w3.drew (Sp.any (IsBox 65 #[.int .i64 0, .int .i64 0, .int .i64 0, .int .i64 0, .int .i64 0, .int .i64 0, .int .i64 0, .int .i64 0, .int .i64 0, .int .i64 0])) v8 l8 h8 W from hf 10)
  replace lo8 : w3.heap.size ≤ g8 := lo8
  clear hf hd e8 e8' l5 lc q0 q1 q2 q3 q4 q5 q6 q7 q8 q9
  have H8 := hid (k8.set10 (v0 := .int .i64 x.fr) (v1 := .int .i64 x.te) (v2 := .int .i64 x.kd) (v3 := .int .i64 x.dst) (v4 := .int .i64 x.arr) (v5 := .int .i64 x.op) (v6 := .int .i64 x.av) (v7 := .int .i64 x.an) (v8 := .int .i64 x.bv) (v9 := .int .i64 x.bn))
  have HW8 := hid (hW.trans (below10 (W := W) (B := w3.heap.size) (g := g8) (v0 := .int .i64 x.fr) (v1 := .int .i64 x.te) (v2 := .int .i64 x.kd) (v3 := .int .i64 x.dst) (v4 := .int .i64 x.arr) (v5 := .int .i64 x.op) (v6 := .int .i64 x.av) (v7 := .int .i64 x.an) (v8 := .int .i64 x.bv) (v9 := .int .i64 x.bn) lo8 hW.size))
  obtain ⟨z0, z1, z2, z3, z4, z5, z6, z7, z8, z9, zf⟩ := edgbox k8
  clear k8
  go_wp2
  clear z0 z1 z2 z3 z4 z5 z6 z7 z8 z9 zf
  have k8 := H8.out
  have hw8 := HW8.out
  clear H8 HW8 hW
  generalize ((((((((((W.setCell ⟨g8, 0, none⟩ (.int .i64 x.fr)).setCell ⟨g8, 1, none⟩ (.int .i64 x.te)).setCell ⟨g8, 2, none⟩ (.int .i64 x.kd)).setCell ⟨g8, 3, none⟩ (.int .i64 x.dst)).setCell ⟨g8, 4, none⟩ (.int .i64 x.arr)).setCell ⟨g8, 5, none⟩ (.int .i64 x.op)).setCell ⟨g8, 6, none⟩ (.int .i64 x.av)).setCell ⟨g8, 7, none⟩ (.int .i64 x.an)).setCell ⟨g8, 8, none⟩ (.int .i64 x.bv)).setCell ⟨g8, 9, none⟩ (.int .i64 x.bn)) = w5 at *
  replace hA := hA.up hw8
  replace ks := ks.later hw8
  have hne : gz ≠ g8 := by have := kq.lt; omega
  replace kq := kq.later hw8
  have hE5 := hE3.out.up hw8
  have hb5 : Below gz w w5 := hb0'.trans (hw8.mono hg3)
  have hg5 : gz ≤ w5.heap.size := Nat.le_trans hg3 hw8.size
  replace HVA := hid (fun (av an : Int) (q : av < m.xs.length) X (hX : Below w5.heap.size w5 X) => HVA.out av an q X (hw8.trans (hX.mono hw8.size)))
  clear hw8 hB2 hBE hb0' hE3 hg3 lo8
  have HEE5 := hid hE5
  clear hE5
  obtain ⟨z0, z1, z2, z3, z4, z5, z6, z7, z8, z9, zf⟩ := edgbox k8
  have f2 := later z2
  have f5 := later z5
  have f6 := later z6
  have f7 := later z7
  have f8 := later z8
  have f9 := later z9
  clear z0 z1 z2 z3 z4 z5 z6 z7 z8 z9 zf
  refine wp_region_flow 16 (fun W => Below w5.heap.size w5 W) (by kernel_rfl) (by kernel_rfl) (Below.refl _ _).drew ?_
  rcases HCA.out with ⟨hk12, htk⟩ | ⟨hk12, j, rfl, hj, htk⟩
  · have t1 : (x.kd == 12) = false := by simpa using hk12
    have HXY : Hid (x = y) := hid (by
      have h1 : (i : Int) = (it : Int) := htk.symm.trans HTK.out
      have h2 : i = it := by omega
      rw [← HX.out, ← HY.out, h2])
    clear htk hk12 HCA
    (repeat (first | (refine Flow.skip (by rfl) ?_; simp only [Act.put, List.setIfInBounds_toArray, List.set_cons_zero, List.set_cons_succ]) | (refine' Flow.take _ (by rfl) (fun W hW R hR => ?_) ?_; rotate_left; (go_simp; (try go_bits); with_reducible exact hR); simp only [Act.put, List.setIfInBounds_toArray, List.set_cons_zero, List.set_cons_succ])))
    intro w9 hb9
    clear f2 f5 f6 f7 f8 f9 hA
    have HXX := HXY.out
    subst HXX
    have kqX := kq.later hb9
    have k9 := k8.later hb9
    have HS := hid (kqX.set10 (v0 := .int .i64 x.fr) (v1 := .int .i64 x.te) (v2 := .int .i64 x.kd) (v3 := .int .i64 x.dst) (v4 := .int .i64 x.arr) (v5 := .int .i64 x.op) (v6 := .int .i64 x.av) (v7 := .int .i64 x.an) (v8 := .int .i64 x.bv) (v9 := .int .i64 x.bn))
    have HB := hid ((hb5.trans (hb9.mono hg5)).trans (below10 (W := w9) (B := gz) (g := gz) (v0 := .int .i64 x.fr) (v1 := .int .i64 x.te) (v2 := .int .i64 x.kd) (v3 := .int .i64 x.dst) (v4 := .int .i64 x.arr) (v5 := .int .i64 x.op) (v6 := .int .i64 x.av) (v7 := .int .i64 x.an) (v8 := .int .i64 x.bv) (v9 := .int .i64 x.bn) (Nat.le_refl _) (by have := kqX.lt; omega)))
    obtain ⟨z0, z1, z2, z3, z4, z5, z6, z7, z8, z9, zf⟩ := edgbox kqX
    obtain ⟨y0, y1, y2, y3, y4, y5, y6, y7, y8, y9, yf⟩ := edgbox k9
    clear hb9
    go_wp2
    clear z0 z1 z2 z3 z4 z5 z6 z7 z8 z9 zf y0 y1 y2 y3 y4 y5 y6 y7 y8 y9 yf
    obtain ⟨z0, z1, z2, z3, z4, z5, z6, z7, z8, z9, zf⟩ := edgbox HS.out
    refine bodyPost_ret (v := .agg #[.int .i64 x.fr, .int .i64 x.te, .int .i64 x.kd, .int .i64 x.dst, .int .i64 x.arr, .int .i64 x.op, .int .i64 x.av, .int .i64 x.an, .int .i64 x.bv, .int .i64 x.bn]) (by simp [results, Tryz.results85, go_sem, z0, z1, z2, z3, z4, z5, z6, z7, z8, z9]) rfl ?_
    exact ⟨rfl, by first | exact HB.out | (rw [hgz]; exact HB.out)⟩
  · have t1 : (x.kd == 12) = true := by simpa using hk12
    have HVB := hid (HVA.out x.bv x.bn HVX.out.2)
    replace HVA := hid (HVA.out x.av x.an HVX.out.1)
    have HT2 := hid (htk.symm.trans HTK.out)
    have HJ := hid hj
    have hj' : (j : Int) < (r.g.es.length : Int) := by omega
    clear htk hk12 HCA HVX hj
    generalize opdX m.xs x.av x.an = a at *
    generalize opdX m.xs x.bv x.bn = b at *
    have HCB := hid (fun X => ncmp_any x.op a b X)
    generalize cmpB x.op a b = cb at *
    clear HCM
    (repeat (first | (refine Flow.skip (by rfl) ?_; simp only [Act.put, List.setIfInBounds_toArray, List.set_cons_zero, List.set_cons_succ]) | (refine' Flow.take _ (by rfl) (fun W hW R hR => ?_) ?_; rotate_left; (go_simp; (try go_bits); with_reducible exact hR); simp only [Act.put, List.setIfInBounds_toArray, List.set_cons_zero, List.set_cons_succ])))
    (refine Flow.call 86 #[.pointer (some ⟨gs, 0, none⟩), .agg #[.int .i64 x.av, .int .i64 x.an]] (.int .i64 a) (by rfl) (fun X hX => by go_simp) (fun X hX => (HVA.out X hX).mono fun e' w' ⟨he, hb'⟩ => ⟨he, bstep hX hX.size hb'⟩) ?_; simp only [Act.put, List.setIfInBounds_toArray, List.set_cons_zero, List.set_cons_succ])
    (repeat (first | (refine Flow.skip (by rfl) ?_; simp only [Act.put, List.setIfInBounds_toArray, List.set_cons_zero, List.set_cons_succ]) | (refine' Flow.take _ (by rfl) (fun W hW R hR => ?_) ?_; rotate_left; (go_simp; (try go_bits); with_reducible exact hR); simp only [Act.put, List.setIfInBounds_toArray, List.set_cons_zero, List.set_cons_succ])))
    (refine Flow.call 86 #[.pointer (some ⟨gs, 0, none⟩), .agg #[.int .i64 x.bv, .int .i64 x.bn]] (.int .i64 b) (by rfl) (fun X hX => by go_simp) (fun X hX => (HVB.out X hX).mono fun e' w' ⟨he, hb'⟩ => ⟨he, bstep hX hX.size hb'⟩) ?_; simp only [Act.put, List.setIfInBounds_toArray, List.set_cons_zero, List.set_cons_succ])
    (repeat (first | (refine Flow.skip (by rfl) ?_; simp only [Act.put, List.setIfInBounds_toArray, List.set_cons_zero, List.set_cons_succ]) | (refine' Flow.take _ (by rfl) (fun W hW R hR => ?_) ?_; rotate_left; (go_simp; (try go_bits); with_reducible exact hR); simp only [Act.put, List.setIfInBounds_toArray, List.set_cons_zero, List.set_cons_succ])))
    (refine Flow.call 124 #[.int .i64 x.op, .int .i64 a, .int .i64 b] (.bool cb) (by rfl) (fun X hX => by go_simp) (fun X hX => (HCB.out X).mono fun e' w' ⟨he, hb'⟩ => ⟨he, bstep hX hX.size hb'⟩) ?_; simp only [Act.put, List.setIfInBounds_toArray, List.set_cons_zero, List.set_cons_succ])
    (repeat (first | (refine Flow.skip (by rfl) ?_; simp only [Act.put, List.setIfInBounds_toArray, List.set_cons_zero, List.set_cons_succ]) | (refine' Flow.take _ (by rfl) (fun W hW R hR => ?_) ?_; rotate_left; (go_simp; (try go_bits); with_reducible exact hR); simp only [Act.put, List.setIfInBounds_toArray, List.set_cons_zero, List.set_cons_succ])))
    intro w9 hb9
    clear f2 f5 f6 f7 f8 f9 HVA HVB HCB
    cases cb
    · have HXY : Hid (eAt r.g.es j = y) := hid (by
        have h1 : (j : Int) = (it : Int) := by simpa using HT2.out
        have h2 : j = it := by omega
        rw [← HY.out, h2])
      have hA9 := hA.up hb9
      obtain ⟨_, _, e9, _, c10⟩ := hA9 1 (by simp [ints])
      injection e9 with e9; injection e9 with e91 e92; subst e91; subst e92
      replace c10 : w9.cell? ⟨b2, o2 + 1, none⟩ = some (.int .i64 (j : Int)) := c10
      have hE9 := HEE5.out.up hb9
      obtain ⟨_, _, hE2, _, p0, p1, p2, p3, p4, p5, p6, p7, p8, p9⟩ := hE9.get (x := y) HJ.out (by rw [eAt_eq HJ.out]; exact HXY.out)
      rw [HEE.out] at hE2
      injection hE2 with hE2; injection hE2 with hE31 hE32; subst hE31; subst hE32
      have hln2 : (1 : Int) < ([j].length : Int) + 1 := by simp
      have kq9 := kq.later hb9
      have ks9 := ks.later hb9
      obtain ⟨s0, s1, s2, s3, s4, s5, s6, s7, s8, s9, s10, fs⟩ := rubox ks9
      rw [HEE.out] at s5
      clear hA9 hE9
      go_wp2
      have l5 := later s5
      have lc := later c10
      have u0 := later p0
      have u1 := later p1
      have u2 := later p2
      have u3 := later p3
      have u4 := later p4
      have u5 := later p5
      have u6 := later p6
      have u7 := later p7
      have u8 := later p8
      have u9 := later p9
      clear s0 s1 s2 s3 s4 s5 s6 s7 s8 s9 s10 fs p0 p1 p2 p3 p4 p5 p6 p7 p8 p9 c10
      refine wp_region_flow 8 (fun W => Below w9.heap.size w9 W) (by kernel_rfl) (by kernel_rfl) (Below.refl _ _).drew ?_
      (repeat (first | (refine Flow.skip (by rfl) ?_; simp only [Act.put, List.setIfInBounds_toArray, List.set_cons_zero, List.set_cons_succ]) | (refine' Flow.take _ (by rfl) (fun W hW R hR => ?_) ?_; rotate_left; (go_simp; (try go_bits); with_reducible exact hR); simp only [Act.put, List.setIfInBounds_toArray, List.set_cons_zero, List.set_cons_succ])))
      intro w10 hb10
      have p0 := u0 w10 hb10
      have p1 := u1 w10 hb10
      have p2 := u2 w10 hb10
      have p3 := u3 w10 hb10
      have p4 := u4 w10 hb10
      have p5 := u5 w10 hb10
      have p6 := u6 w10 hb10
      have p7 := u7 w10 hb10
      have p8 := u8 w10 hb10
      have p9 := u9 w10 hb10
      have kqX := kq9.later hb10
      have HS := hid (kqX.set10 (v0 := .int .i64 y.fr) (v1 := .int .i64 y.te) (v2 := .int .i64 y.kd) (v3 := .int .i64 y.dst) (v4 := .int .i64 y.arr) (v5 := .int .i64 y.op) (v6 := .int .i64 y.av) (v7 := .int .i64 y.an) (v8 := .int .i64 y.bv) (v9 := .int .i64 y.bn))
      have HB := hid ((hb5.trans ((hb9.mono hg5).trans (hb10.mono (Nat.le_trans hg5 hb9.size)))).trans (below10 (W := w10) (B := gz) (g := gz) (v0 := .int .i64 y.fr) (v1 := .int .i64 y.te) (v2 := .int .i64 y.kd) (v3 := .int .i64 y.dst) (v4 := .int .i64 y.arr) (v5 := .int .i64 y.op) (v6 := .int .i64 y.av) (v7 := .int .i64 y.an) (v8 := .int .i64 y.bv) (v9 := .int .i64 y.bn) (Nat.le_refl _) (by have := kqX.lt; omega)))
      obtain ⟨z0, z1, z2, z3, z4, z5, z6, z7, z8, z9, zf⟩ := edgbox kqX
      clear l5 lc u0 u1 u2 u3 u4 u5 u6 u7 u8 u9 hb10 hb9
      go_wp2
      clear z0 z1 z2 z3 z4 z5 z6 z7 z8 z9 zf p0 p1 p2 p3 p4 p5 p6 p7 p8 p9
      obtain ⟨z0, z1, z2, z3, z4, z5, z6, z7, z8, z9, zf⟩ := edgbox HS.out
      refine bodyPost_ret (v := .agg #[.int .i64 y.fr, .int .i64 y.te, .int .i64 y.kd, .int .i64 y.dst, .int .i64 y.arr, .int .i64 y.op, .int .i64 y.av, .int .i64 y.an, .int .i64 y.bv, .int .i64 y.bn]) (by simp [results, Tryz.results85, go_sem, z0, z1, z2, z3, z4, z5, z6, z7, z8, z9]) rfl ?_
      exact ⟨rfl, by first | exact HB.out | (rw [hgz]; exact HB.out)⟩
    · have HXY : Hid (x = y) := hid (by
        have h1 : (i : Int) = (it : Int) := by simpa using HT2.out
        have h2 : i = it := by omega
        rw [← HX.out, ← HY.out, h2])
      have HXX := HXY.out
      subst HXX
      have kqX := kq.later hb9
      have k9 := k8.later hb9
      have HS := hid (kqX.set10 (v0 := .int .i64 x.fr) (v1 := .int .i64 x.te) (v2 := .int .i64 x.kd) (v3 := .int .i64 x.dst) (v4 := .int .i64 x.arr) (v5 := .int .i64 x.op) (v6 := .int .i64 x.av) (v7 := .int .i64 x.an) (v8 := .int .i64 x.bv) (v9 := .int .i64 x.bn))
      have HB := hid ((hb5.trans (hb9.mono hg5)).trans (below10 (W := w9) (B := gz) (g := gz) (v0 := .int .i64 x.fr) (v1 := .int .i64 x.te) (v2 := .int .i64 x.kd) (v3 := .int .i64 x.dst) (v4 := .int .i64 x.arr) (v5 := .int .i64 x.op) (v6 := .int .i64 x.av) (v7 := .int .i64 x.an) (v8 := .int .i64 x.bv) (v9 := .int .i64 x.bn) (Nat.le_refl _) (by have := kqX.lt; omega)))
      obtain ⟨z0, z1, z2, z3, z4, z5, z6, z7, z8, z9, zf⟩ := edgbox kqX
      obtain ⟨y0, y1, y2, y3, y4, y5, y6, y7, y8, y9, yf⟩ := edgbox k9
      clear hb9
      go_wp2
      clear z0 z1 z2 z3 z4 z5 z6 z7 z8 z9 zf y0 y1 y2 y3 y4 y5 y6 y7 y8 y9 yf
      obtain ⟨z0, z1, z2, z3, z4, z5, z6, z7, z8, z9, zf⟩ := edgbox HS.out
      refine bodyPost_ret (v := .agg #[.int .i64 x.fr, .int .i64 x.te, .int .i64 x.kd, .int .i64 x.dst, .int .i64 x.arr, .int .i64 x.op, .int .i64 x.av, .int .i64 x.an, .int .i64 x.bv, .int .i64 x.bn]) (by simp [results, Tryz.results85, go_sem, z0, z1, z2, z3, z4, z5, z6, z7, z8, z9]) rfl ?_
      exact ⟨rfl, by first | exact HB.out | (rw [hgz]; exact HB.out)⟩
end Go.Proofs.YtkncebcekhfnfaaGreat
