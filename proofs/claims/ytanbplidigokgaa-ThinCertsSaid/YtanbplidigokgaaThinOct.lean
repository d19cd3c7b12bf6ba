/-
  thin.Oct: what it answers.
-/
import Derived.Test.YtanbplidigokgaaThinLaw
import Derived.WalkMore
import Derived.Laws.EntriesVeiled
namespace Go.Proofs.Ytanbplidigokgaa
open Go.RowKit
attribute [local go_sem] Oper.semAt_some
attribute [local go_sem ↓] Go.wp_at_zero Go.wp_at_succ

theorem scope_in {P : Program} {n : Nat} {c : Code} {Q : Exit → Act → World → Prop} {a : Act} {w : World} (h : c.wpIn (wideAt none) n P (Exit.noGoto Q) a w) : (Code.scope c).wpIn (wideAt none) n P Q a w :=
  (wpIn_wide (n := n)).2 (wp_scope_straight ((wpIn_wide (n := n)).1 h))
theorem label_in {P : Program} {n l : Nat} {Q : Exit → Act → World → Prop} {a : Act} {w : World} (h : Q .normal a w) : (Code.label l).wpIn (wideAt none) n P Q a w := (wpIn_wide (n := n)).2 (wp_label h)
theorem wide_in {P : Program} {n : Nat} {c : Code} {Q : Exit → Act → World → Prop} {a : Act} {w : World} (h : c.wp P Q a w) : c.wpIn (wideAt none) n P Q a w := (wpIn_wide (n := n)).2 h
theorem fold2 (p1 p2 : Nat) (v1 v2 : Value) (T : Array Value) : ((#[p1, p2] : Array Nat).zip #[v1, v2]).foldl (fun t (x : Nat × Value) => t.setIfInBounds x.1 x.2) T = (T.setIfInBounds p1 v1).setIfInBounds p2 v2 := by
  rw [← Array.foldl_toList]; simp
theorem name_act {P : Program} {F : Fence} {n : Nat} {c : Code} {Q : Exit → Act → World → Prop} {a : Act} {w : World} (h : ∀ a0 : Act, a0 = a → c.wpIn F n P Q a0 w) : c.wpIn F n P Q a w := h a rfl
section
variable {W W' : World} {row : Option Nat} {g base cap : Nat} {t : TypeId} {cs : Array Value} {A : Option Addr} {m : List Int}
theorem blk_kept (h : Blk W g t cs) (hg : W.grownBy W' row) (hr : ∀ r, row = some r → ∃ o : Obj, W.heap[r]? = some o ∧ o.isCells = false) : Blk W' g t cs :=
  (hg.block g h.lt (fun e => by
    obtain ⟨o, ho, hc⟩ := hr g e.symm
    unfold Blk at h
    rw [h] at ho; injection ho with ho; subst ho; cases hc)).trans h
theorem own_kept (h : Own W base A cap m) (hg : W.grownBy W' row) (hr : ∀ r, row = some r → ∃ o : Obj, W.heap[r]? = some o ∧ o.isCells = false) : Own W' base A cap m := by
  refine h.grown hg ?_
  rcases h.2 with ⟨h0, _⟩ | ⟨g', cap', cur, h1, _, h3, _⟩
  · injection h0 with h0; subst h0; exact .inl rfl
  · injection h1 with h1; subst h1
    refine .inr fun e => ?_
    simp only [Value.ownBlock] at e
    obtain ⟨o, ho, hc⟩ := hr g' e.symm
    rw [h3] at ho; injection ho with ho; subst ho; cases hc
theorem keeps_of {B : Nat} (h : Below W.heap.size W W') : KeepsFrom B W W' := KeepsFrom.of_grownBy (grown_of_below h none) (fun j e => by cases e)
theorem grown3 {v0 v1 v2 : Value} : W.grownBy (((W.setCell ⟨g, 0, none⟩ v0).setCell ⟨g, 1, none⟩ v1).setCell ⟨g, 2, none⟩ v2) (some g) :=
  ((grown_setCell W ⟨g, 0, none⟩ v0).trans (grown_setCell _ ⟨g, 1, none⟩ v1)).trans (grown_setCell _ ⟨g, 2, none⟩ v2)
theorem heap3 {v0 v1 v2 : Value} {D : Nat} {o : Obj} (h : W.heap[D]? = some o) (hc : o.isCells = false) : (((W.setCell ⟨g, 0, none⟩ v0).setCell ⟨g, 1, none⟩ v1).setCell ⟨g, 2, none⟩ v2).heap[D]? = some o :=
  (((KeepsOthers.setCell W _ _).trans (KeepsOthers.setCell _ _ _)).trans (KeepsOthers.setCell _ _ _)).same D o h hc
theorem same_of {p : Nat → Prop} (hg : W.grownBy W' row) (hp : ∀ k, p k → k < W.heap.size) (hr : ∀ k, p k → row ≠ some k) : Same p W W' :=
  ⟨hg.size, fun k hk => hg.block k (hp k hk) (fun e => hr k hk e.symm)⟩
end
def ThinRes (w : World) (o : O) (er : Int) (e : Ending) (w' : World) : Prop := ∃ A1 c1, e = .returned (.tuple #[.agg #[.int .i64 o.n, .bool o.e, .slice A1 o.m.length c1], .int .i64 er]) ∧ Own w' w.heap.size A1 c1 o.m ∧ Below w.heap.size w w'

set_option maxRecDepth 8000 in
set_option maxHeartbeats 2000000 in
/-- The ways out ahead of the loop. -/
theorem thinoct_out (o : O) (A : Option Addr) (c : Nat) (w : World) (hx : Rd w w.heap.size A o.m) (hm : o.m.length ≤ 17592186044416) (hq : check o ≠ 0 ∨ (closedO o).e = true) :
    Calls Try.prog 24 #[.agg #[.int .i64 o.n, .bool o.e, .slice A o.m.length c]] w (ThinRes w (closedO o) (check o)) := by
  have hb0 : Below w.heap.size w ((w.alloc (Obj.cells #[.int .i64 o.n, .bool o.e, .slice A o.m.length c] 24)).alloc (Obj.cells #[.int .i64 0, .bool false, .slice none 0 0] 24)) := ((Below.refl _ _).alloc (Nat.le_refl _) _).alloc (by simp) _
  obtain ⟨p0, p1⟩ := blk_two (w := w) (Below.refl _ ((w.alloc (Obj.cells #[.int .i64 o.n, .bool o.e, .slice A o.m.length c] 24)).alloc (Obj.cells #[.int .i64 0, .bool false, .slice none 0 0] 24)))
  have HC := hid (close_all o A c _ (hx.up hb0) hm)
  have HQ := hid hq
  clear hq
  go_enter Try.func24, Try.ntmps24
  go_wp2
  go_step3
  go_wp2_with fail
  refine HC.out.mono ?_
  clear HC
  generalize (w.alloc (Obj.cells #[.int .i64 o.n, .bool o.e, .slice A o.m.length c] 24)).alloc (Obj.cells #[.int .i64 0, .bool false, .slice none 0 0] 24) = w0 at *
  rintro e1 w1 ⟨A4, c4, s, rfl, own4, hb1⟩
  generalize closedO o = q at *
  obtain ⟨qn, qe, qm⟩ := q
  dsimp only at *
  have n4 := new1 w1 (.cells #[.int .i64 qn, .bool qe, .slice A4 qm.length c4] 24)
  have k4 := Blk.new w1 24 #[.int .i64 qn, .bool qe, .slice A4 qm.length c4]
  obtain ⟨y0, y1, y2, fy⟩ := octbox (p1.later hb1)
  have hlt := (p1.later hb1).lt
  have hbb := p1.lt
  have hb2 := bup hb0 hb1
  have r3 := (p1.later hb1).set3 (v0 := .int .i64 qn) (v1 := .bool qe) (v2 := .slice A4 qm.length c4)
  have own3 := ((own4.setFar (p := ⟨w.heap.size + 1, 0, none⟩) (by simpa using hbb) (.int .i64 qn)).setFar (p := ⟨w.heap.size + 1, 1, none⟩) (by simpa using hbb) (.bool qe)).setFar (p := ⟨w.heap.size + 1, 2, none⟩) (by simpa using hbb) (.slice A4 qm.length c4)
  have hb3 : Below w.heap.size w (((w1.setCell ⟨w.heap.size + 1, 0, none⟩ (.int .i64 qn)).setCell ⟨w.heap.size + 1, 1, none⟩ (.bool qe)).setCell ⟨w.heap.size + 1, 2, none⟩ (.slice A4 qm.length c4)) := (bup hb0 hb1).trans (below3 (by omega) (bup hb0 hb1).size)
  have hle := hb0.size
  by_cases hk : check o = 0
  · obtain rfl : qe = true := by
      rcases HQ.out with h | h
      · exact absurd hk h
      · exact h
    have tk : (check o != 0) = false := by rw [hk]; rfl
    have HK := hid hk
    clear hk
    generalize check o = er at *
    go_wp2
    clear y0 y1 y2 fy n4 hb2 k4
    generalize ((w1.setCell ⟨w.heap.size + 1, 0, none⟩ (.int .i64 qn)).setCell ⟨w.heap.size + 1, 1, none⟩ (.bool true)).setCell ⟨w.heap.size + 1, 2, none⟩ (.slice A4 qm.length c4) = w3 at *
    have n4 := new1 w3 (.cells #[.int .i64 qn, .bool true, .slice A4 qm.length c4] 24)
    have hr3 := r3.lt
    obtain ⟨z0, z1, z2, fz⟩ := octbox r3
    obtain ⟨u0, u1, u2, fu⟩ := octbox (r3.later n4)
    refine bodyPost_ret (v := .tuple #[.agg #[.int .i64 qn, .bool true, .slice A4 qm.length c4], .int .i64 er]) (by simp [results, Try.results24, go_sem, u0, u1, u2]) rfl ⟨A4, c4, rfl, ?_, ?_⟩
    · exact (own3.below n4).less hle
    · exact bup hb3 n4
  · have tk : (check o != 0) = true := by simpa using hk
    have HK := hid hk
    clear hk
    generalize check o = er at *
    go_wp2
    clear y0 y1 y2 fy n4 hb2 k4
    generalize ((w1.setCell ⟨w.heap.size + 1, 0, none⟩ (.int .i64 qn)).setCell ⟨w.heap.size + 1, 1, none⟩ (.bool qe)).setCell ⟨w.heap.size + 1, 2, none⟩ (.slice A4 qm.length c4) = w3 at *
    have n4 := new1 w3 (.cells #[.int .i64 qn, .bool qe, .slice A4 qm.length c4] 24)
    have hr3 := r3.lt
    obtain ⟨z0, z1, z2, fz⟩ := octbox r3
    obtain ⟨u0, u1, u2, fu⟩ := octbox (r3.later n4)
    refine bodyPost_ret (v := .tuple #[.agg #[.int .i64 qn, .bool qe, .slice A4 qm.length c4], .int .i64 er]) (by simp [results, Try.results24, go_sem, u0, u1, u2]) rfl ⟨A4, c4, rfl, ?_, ?_⟩
    · exact (own3.below n4).less hle
    · exact bup hb3 n4
set_option maxRecDepth 100000 in
set_option maxHeartbeats 4000000 in
theorem thinoct_in (o : O) (A : Option Addr) (c : Nat) (w : World) (hx : Rd w w.heap.size A o.m) (hm : o.m.length ≤ 17592186044416) (hk : check o = 0) (hq : (closeO o).e = false) :
    CallsIn (wideAt none) 10 Try.prog 24 #[.agg #[.int .i64 o.n, .bool o.e, .slice A o.m.length c]] w (ThinRes w (thinO o) 0) := by
  have hb0 : Below w.heap.size w ((w.alloc (Obj.cells #[.int .i64 o.n, .bool o.e, .slice A o.m.length c] 24)).alloc (Obj.cells #[.int .i64 0, .bool false, .slice none 0 0] 24)) := ((Below.refl _ _).alloc (Nat.le_refl _) _).alloc (by simp) _
  obtain ⟨p0, p1⟩ := blk_two (w := w) (Below.refl _ ((w.alloc (Obj.cells #[.int .i64 o.n, .bool o.e, .slice A o.m.length c] 24)).alloc (Obj.cells #[.int .i64 0, .bool false, .slice none 0 0] 24)))
  have HC := hid (close_all o A c _ (hx.up hb0) hm)
  have hth : thinO o = ⟨o.n, false, thinM o.n (2 * o.n).toNat (closeO o).m (matC (2 * o.n).toNat (closeO o).m (2 * o.n).toNat)⟩ := by unfold thinO; rw [if_neg (by simp [hq])]
  rw [hth]
  clear hth
  obtain ⟨n0, n1, _, _⟩ := check_ok hk
  have HQC := hid (closeO_check hk)
  have HQN := hid (closeO_n o)
  have HQM := hid (closeO_m_le (o := o))
  obtain ⟨N, hN⟩ : ∃ N : Nat, (N : Int) = 2 * o.n := ⟨(2 * o.n).toNat, by omega⟩
  have hNt : (2 * o.n).toNat = N := by omega
  rw [hNt]
  have hN1 : N ≤ 128 := by omega
  have HN := hid hN
  have HK := hid hk
  have HCO := hid (closedO_ok hk)
  clear hNt hN hk
  refine callsIn_of_wp_marks Try.func24 rfl trivial ?_ rfl
  simp only [Try.ntmps24, List.size_toArray, List.length_cons, List.length_nil, Nat.reduceAdd, Nat.reduceSub, Array.replicate_succ, Array.replicate_zero, List.push_toArray, List.append_toArray, List.nil_append, List.cons_append]
  gi_wp2
  refine scope_in ?_
  gi_wp2_with fail
  refine (callsIn_at HC.out).mono ?_
  clear HC
  generalize (w.alloc (Obj.cells #[.int .i64 o.n, .bool o.e, .slice A o.m.length c] 24)).alloc (Obj.cells #[.int .i64 0, .bool false, .slice none 0 0] 24) = w0 at *
  rw [HCO.out, HK.out]
  rintro e1 w1 ⟨A4, c4, s, rfl, own4, hb1⟩
  generalize closeO o = q at *
  obtain ⟨qn, qe, qm⟩ := q
  dsimp only at *
  subst hq
  obtain rfl : qn = o.n := HQN.out
  have n4 := new1 w1 (.cells #[.int .i64 o.n, .bool false, .slice A4 qm.length c4] 24)
  have k4 := Blk.new w1 24 #[.int .i64 o.n, .bool false, .slice A4 qm.length c4]
  replace own4 := own4.below n4
  have hw0A := Nat.le_trans hb1.size n4.size
  have hww0 : w.heap.size ≤ w0.heap.size := hb0.size
  replace p1 := (p1.later hb1).later n4
  replace hb0 := bup (bup hb0 hb1) n4
  clear hb1 n4 p0
  gi_wp2
  have hp1lt := p1.lt
  have hg47 := k4.lt
  generalize w1.alloc (.cells #[.int .i64 o.n, .bool false, .slice A4 qm.length c4] 24) = wA at *
  generalize w1.heap.size = g4 at *
  obtain ⟨x0, x1, x2, fx⟩ := octbox k4
  have f0 := laterE x0
  have f2 := laterE x2
  clear x0 x1 x2 fx
  have hr4 := own4.rd
  refine wide_in ?_
  refine wp_region_flowE 7 [Sp.val (.pointer (some ⟨g4, 0, none⟩)), Sp.val (.int .i64 o.n), Sp.val (.pointer (some ⟨g4, 2, none⟩)), Sp.val (.slice A4 qm.length c4), Sp.any (IsIntsB wA.heap.size qm), Sp.any (IsOctB wA.heap.size ⟨o.n, false, qm⟩), Sp.any (IsBox 24 #[.int .i64 0, .bool false, .slice none 0 0])] (by kernel_rfl) (by kernel_rfl) ?_
  (refine FlowE.take (by rfl) (fun W hW R hR => ?_) (fun _ _ => ?_); (go_simp; (try go_bits); with_reducible exact hR); simp only [Act.put, List.setIfInBounds_toArray, List.set_cons_zero, List.set_cons_succ])
  (refine FlowE.take (by rfl) (fun W hW R hR => ?_) (fun _ _ => ?_); (go_simp; (try go_bits); with_reducible exact hR); simp only [Act.put, List.setIfInBounds_toArray, List.set_cons_zero, List.set_cons_succ])
  (refine FlowE.take (by rfl) (fun W hW R hR => ?_) (fun _ _ => ?_); (go_simp; (try go_bits); with_reducible exact hR); simp only [Act.put, List.setIfInBounds_toArray, List.set_cons_zero, List.set_cons_succ])
  (refine FlowE.take (by rfl) (fun W hW R hR => ?_) (fun _ _ => ?_); (go_simp; (try go_bits); with_reducible exact hR); simp only [Act.put, List.setIfInBounds_toArray, List.set_cons_zero, List.set_cons_succ])
  refine FlowE.call 55 #[.slice A4 qm.length c4] (by rfl) (fun W hW => by go_simp) (fun W hW => (clone_any qm A4 c4 W (hr4.up (Ext.trans (Below.refl _ _).drew hW)) (Nat.le_trans HQM.out hm)).mono fun _ _ ⟨A1, c1, he, ho, hb⟩ => ⟨_, he, hb, A1, c1, rfl, ho.less (show wA.drew.heap.size ≤ W.heap.size from hW.size)⟩) (fun v4 l4 h4 => ?_)
  simp only [Act.put, List.setIfInBounds_toArray, List.set_cons_zero, List.set_cons_succ]
  refine FlowE.stepF (by rfl) (fun W hW hf K hK => ?_) (fun v5 l5 h5 => ?_)
  · obtain ⟨A1, c1, rfl, o1⟩ := fact_intsB (show Sp.fact wA.drew (Sp.any (IsIntsB wA.heap.size qm)) v4 l4 h4 W from hf 4 (by kernel_rfl))
    go_simp
    exact hK _ _ (Ext.refl _) ⟨A1, c1, rfl, o1⟩
  simp only [Act.put, List.setIfInBounds_toArray, List.set_cons_zero, List.set_cons_succ]
  refine FlowE.step (by rfl) (fun W hW K hK => ?_) (fun v6 l6 h6 => ?_)
  · go_simp
    exact hK _ _ (new1 _ _) ⟨rfl, Blk.new _ _ _, by simp⟩
  simp only [Act.put, List.setIfInBounds_toArray, List.set_cons_zero, List.set_cons_succ]
  refine FlowE.tail (fun W hW hf hd => ?_)
  replace hW : Below wA.heap.size wA W := Ext.trans (Below.refl _ _).drew hW
  obtain ⟨A7, c7, rfl, own7⟩ := fact_octB (show Sp.fact wA.drew (Sp.any (IsOctB wA.heap.size ⟨o.n, false, qm⟩)) v5 l5 h5 W from hf 5)
  obtain ⟨g7, rfl, k7, lo7, rfl, rfl⟩ := fact_box (show Sp.fact wA.drew (Sp.any (IsBox 24 #[.int .i64 0, .bool false, .slice none 0 0])) v6 l6 h6 W from hf 6)
  clear hf hd f0 f2 hr4
  dsimp only at own7 ⊢
  have hne7 := own_blk' own7 k7 (by decide)
  replace hb0 := bup hb0 hW
  replace p1 := p1.later hW
  replace k4 := k4.later hW
  replace own4 := own4.below hW
  have hg7 : wA.heap.size ≤ g7 := lo7
  obtain ⟨y0, y1, y2, fy⟩ := octbox k7
  go_wp2
  clear y0 y1 y2 fy
  have hne4 := own_blk' own4 k7 (by decide)
  replace hb0 := hb0.trans (below3 (W := W) (g := g7) (v0 := .int .i64 o.n) (v1 := .bool false) (v2 := .slice A7 qm.length c7) (by omega) hb0.size)
  replace p1 := p1.far3 (g := g7) (v0 := .int .i64 o.n) (v1 := .bool false) (v2 := .slice A7 qm.length c7) (by omega)
  replace k4 := k4.far3 (g := g7) (v0 := .int .i64 o.n) (v1 := .bool false) (v2 := .slice A7 qm.length c7) (by omega)
  replace own4 := own4.far3 (g := g7) (v0 := .int .i64 o.n) (v1 := .bool false) (v2 := .slice A7 qm.length c7) hne4
  replace own7 := own7.far3 (g := g7) (v0 := .int .i64 o.n) (v1 := .bool false) (v2 := .slice A7 qm.length c7) hne7
  replace k7 := k7.set3 (v0 := .int .i64 o.n) (v1 := .bool false) (v2 := .slice A7 qm.length c7)
  clear hW
  generalize ((W.setCell ⟨g7, 0, none⟩ (.int .i64 o.n)).setCell ⟨g7, 1, none⟩ (.bool false)).setCell ⟨g7, 2, none⟩ (.slice A7 qm.length c7) = W1 at *
  gi_wp2
  refine label_in ?_
  have hg78 : g7 < W1.heap.size := k7.lt
  have n8 := new1 W1 (.cells #[.func (.func 56) #[] #[.pointer (some ⟨g4, 0, none⟩)]] 44)
  have k8 := Blk.new W1 44 #[.func (.func 56) #[] #[.pointer (some ⟨g4, 0, none⟩)]]
  replace hb0 := bup hb0 n8
  replace p1 := p1.later n8
  replace k4 := k4.later n8
  replace k7 := k7.later n8
  replace own4 := own4.below n8
  replace own7 := own7.below n8
  clear n8
  obtain ⟨x0, x1, x2, fx⟩ := octbox k4
  gi_wp2_with fail
  clear x0 x1 x2 fx
  generalize W1.alloc (.cells #[.func (.func 56) #[] #[.pointer (some ⟨g4, 0, none⟩)]] 44) = wB at *
  generalize W1.heap.size = g8 at *
  have hg7B := k7.lt
  refine (callsIn_at (dbmcells_any _ _ ⟨_, _, _, _, _, rfl⟩)).mono ?_
  rintro e3 w3 ⟨rfl, cs, hcs, rfl⟩
  obtain rfl := Value.agg.inj hcs
  clear hcs
  gi_wp2
  have nC := new1 wB (.cells #[.int .i64 o.n, .bool false, .slice A4 qm.length c4] 24)
  have kC := Blk.new wB 24 #[.int .i64 o.n, .bool false, .slice A4 qm.length c4]
  replace hb0 := bup hb0 nC
  replace p1 := p1.later nC
  replace k4 := k4.later nC
  replace k7 := k7.later nC
  replace k8 := k8.later nC
  replace own4 := own4.below nC
  replace own7 := own7.below nC
  have hC : wB.heap.size < (wB.alloc (.cells #[.int .i64 o.n, .bool false, .slice A4 qm.length c4] 24)).heap.size := by simp
  clear nC
  generalize wB.alloc (.cells #[.int .i64 o.n, .bool false, .slice A4 qm.length c4] 24) = wC at *
  generalize wB.heap.size = gC at *
  have hqm : qm.length ≤ 17592186044416 := Nat.le_trans HQM.out hm
  have hCel := hid (cells_of HN.out HQC.out)
  have HQL := hid hCel.out.len
  have HNE : Hid (N % 2 = 0) := hid (by have := HN.out; omega)
  have hA4 : ∀ a, A4 = some a → (fun k => k = gC ∨ A4 = some ⟨k, 0, none⟩) a.block := fun a ha => by
    rcases own4.form with ⟨h, _⟩ | ⟨g, h, _⟩
    · rw [h] at ha; cases ha
    · rw [h] at ha; injection ha with ha; subst ha; exact .inr h
  have hpl : ∀ k, (k = gC ∨ A4 = some ⟨k, 0, none⟩) → k < wC.heap.size := fun k hk => by
    rcases hk with rfl | hk
    · exact hC
    · rcases own4.form with ⟨h, _⟩ | ⟨g, h, _, h'⟩
      · rw [h] at hk; cases hk
      · rw [h] at hk; injection hk with hk; injection hk with hk; omega
  have hne4' := own_blk' own4 k7 (by decide)
  have hle0 := hb0.size
  refine name_act (fun a0 ha0 => ?_)
  have HA0 := hid ha0
  clear ha0
  refine wpIn_rangeFunc_ownH (F := wideAt none) rfl (by omega) (gf := 71) (lb := #[.pointer (some ⟨gC, 0, none⟩)]) (by rw [HA0.out]; rfl) trivial (enters_of Try.func71 (by kernel_rfl) rfl)
    (dcells_stops (10 - 1) gC o.n qm N A4 c4 (fun k => k = gC ∨ A4 = some ⟨k, 0, none⟩) (.inl rfl) hA4 HN.out hN1 HQL.out hqm HQC.out wC kC own4.rd) Same.trans
    (fun W l x x' hl hx _ _ => ⟨by simp, fun k hk => World.putObj_heap_other (by have := hpl k hk; omega)⟩) (Below.refl _ _) (fun _ => rfl)
    (fun pre W => ((Blk W g4 24 #[.int .i64 o.n, .bool false, .slice A4 qm.length c4] ∧ Blk W g8 44 #[.func (.func 56) #[] #[.pointer (some ⟨g4, 0, none⟩)]] ∧ Own W w0.heap.size A4 c4 qm ∧ Blk W (w.heap.size + 1) 24 #[.int .i64 0, .bool false, .slice none 0 0] ∧ ∃ A7 c7, Blk W g7 24 #[.int .i64 o.n, .bool false, .slice A7 (thinM o.n N qm pre).length c7] ∧ Own W w0.heap.size A7 c7 (thinM o.n N qm pre)) ∧ wC.heap.size ≤ W.heap.size) ∧ Below w.heap.size w W)
    (fun _ _ _ => False)
    (OwnFrom.and (Own.from (fun pre X Y row ⟨⟨h1, h2, h3, h4, A7, c7, h5, h6⟩, h7⟩ hg hr => ⟨⟨blk_kept h1 hg hr, blk_kept h2 hg hr, own_kept h3 hg hr, blk_kept h4 hg hr, A7, c7, blk_kept h5 hg hr, own_kept h6 hg hr⟩, Nat.le_trans h7 hg.size⟩) _) (ownFrom_below (Nat.le_refl _) hle0))
    (fun _ _ _ _ _ hs _ _ => hs)
    ⟨⟨⟨k4, k8, own4, p1, A7, c7, k7, own7.less hw0A⟩, Nat.le_refl _⟩, hb0⟩
    (fun x a' W => ∃ g9, wC.heap.size ≤ g9 ∧ Blk W g9 57 #[.int .i64 (x.1.1 : Int), .int .i64 (x.1.2 : Int)] ∧ a' = { tmps := (((#[34, 35] : Array Nat).zip (encC N qm x)).foldl (fun t (p, v) => t.setIfInBounds p v) a0.tmps).setIfInBounds 9 (.pointer (some ⟨g9, 0, none⟩)), defers := [] })
    (fun x a' _ X Y row ⟨g9, h1, h2, h3⟩ hg hr => ⟨g9, h1, blk_kept h2 hg (fun r e => (hr r e).2), h3⟩)
    ?assign ?body ?done ?stop
  case assign =>
    rintro l pre x W K ⟨⟨⟨h1, h2, h3, h4, A7, c7, h5, h6⟩, h7⟩, hbw⟩ hK
    obtain rfl := HA0.out
    have n9 := new1 W (.cells #[.int .i64 (x.1.1 : Int), .int .i64 (x.1.2 : Int)] 57)
    have hk := hK _ _ (keeps_of n9) (same_of (grown_of_below n9 none) (fun k hk => Nat.lt_of_lt_of_le (hpl k hk) h7) (fun k _ e => by cases e)) ⟨⟨⟨h1.later n9, h2.later n9, h3.below n9, h4.later n9, A7, c7, h5.later n9, h6.below n9⟩, Nat.le_trans h7 n9.size⟩, bup hbw n9⟩ ⟨W.heap.size, h7, Blk.new _ _ _, rfl⟩
    simp only [encC, fold2, List.setIfInBounds_toArray, List.set_cons_zero, List.set_cons_succ] at hk
    have HKK := hid hk
    simp only [encC, fold2, List.setIfInBounds_toArray, List.set_cons_zero, List.set_cons_succ]
    clear hk hK h1 h2 h3 h4 h5 h6 n9
    gi_wp2
    exact HKK.out
  case body =>
    rintro l pre ⟨⟨i, j⟩, hi, hj, hij⟩ a' W hl hrr ⟨⟨⟨h1, h2, h3, h4, A7, c7, h5, h6⟩, h7⟩, hbw⟩ ⟨g9, hg9, k9, rfl⟩ hlen
    obtain rfl := HA0.out
    dsimp only at hi hj hij k9
    have hout := hid (thinM_cells (n := o.n) HNE.out hCel.out pre)
    have HSN : Hid (thinM o.n N qm (pre ++ [⟨(i, j), hi, hj, hij⟩]) = if eqO (closeO ⟨o.n, false, openM N i j (thinM o.n N qm pre)⟩) ⟨o.n, false, qm⟩ then openM N i j (thinM o.n N qm pre) else thinM o.n N qm pre) := hid (thinM_snoc o.n N qm pre ⟨(i, j), hi, hj, hij⟩)
    have HOL := hid (openM_len N i j (thinM o.n N qm pre))
    generalize thinM o.n N qm pre = out at *
    have holen : out.length ≤ 17592186044416 := by have := hout.out.len; rw [this, ← HQL.out]; exact hqm
    have c0 := k9.cell 0
    have c1 := k9.cell 1
    obtain ⟨y0, y1, y2, fy⟩ := octbox h5
    have HC := hid (without_any o.n false out N i j A7 c7 W h6.rd holen HN.out hN1 hout.out.len hi hj)
    have hlt7 := h5.lt
    have hnew := hid (openM_cells HNE.out hout.out hi hj hij)
    simp only [encC, fold2, List.setIfInBounds_toArray, List.set_cons_zero, List.set_cons_succ]
    gi_wp2_with fail
    refine (callsIn_at HC.out).mono ?_
    clear c0 c1 y0 y1 y2 fy HC
    rintro e8 w8 ⟨A8, c8, rfl, own8, hb8⟩
    dsimp only at own8 ⊢
    have hnl : (openM N i j out).length ≤ 17592186044416 := by rw [HOL.out]; exact holen
    have HEQ : Hid (equalB (closedO ⟨o.n, false, openM N i j out⟩) ⟨o.n, false, qm⟩ = eqO (closeO ⟨o.n, false, openM N i j out⟩) ⟨o.n, false, qm⟩) := hid (by
      have hc := check_of HN.out hN1 hnew.out
      rw [closedO_ok hc]; exact equalB_ok (closeO_check hc) HQC.out)
    generalize openM N i j out = nw at *
    have n10 := new1 w8 (.cells #[.int .i64 o.n, .bool false, .slice A8 nw.length c8] 24)
    have k10 := Blk.new w8 24 #[.int .i64 o.n, .bool false, .slice A8 nw.length c8]
    have hbx : Below W.heap.size W (w8.alloc (.cells #[.int .i64 o.n, .bool false, .slice A8 nw.length c8] 24)) := bup hb8 n10
    have hg10 : W.heap.size ≤ w8.heap.size := hb8.size
    replace own8 := own8.below n10
    have H1 := h1.later hbx
    have H2 := h2.later hbx
    have H3 := h3.below hbx
    have b0 := H2.cell 0
    obtain ⟨x0, x1, x2, fx⟩ := octbox k10
    have HBK := hid (back_any ⟨o.n, false, nw⟩ ⟨o.n, false, qm⟩ A8 A4 c8 c4 g4 _ own8.rd hnl H1 H3.rd hqm)
    clear hb8 n10
    gi_wp2_with fail
    clear b0 x0 x1 x2 fx
    generalize w8.alloc (.cells #[.int .i64 o.n, .bool false, .slice A8 nw.length c8] 24) = wX at *
    generalize w8.heap.size = g10 at *
    refine (callsIn_at HBK.out).mono ?_
    rw [HEQ.out]
    rintro e9 w9 ⟨rfl, hb9⟩
    clear HBK HEQ
    have hW9 := bup hbx hb9
    have K4 := h1.later hW9
    have K8 := h2.later hW9
    have O4 := h3.below hW9
    have P1 := h4.later hW9
    have K7 := h5.later hW9
    have O7 := h6.below hW9
    have hbw9 := bup hbw hW9
    have hsz9 := Nat.le_trans h7 hW9.size
    have k10' := k10.later hb9
    have own8' := own8.below hb9
    cases hbb : eqO (closeO ⟨o.n, false, nw⟩) ⟨o.n, false, qm⟩
    · rw [hbb] at HSN
      have hres := HSN.out
      rw [if_neg (by simp)] at hres
      have HRES := hid hres
      clear hres hbb HSN
      gi_wp2
      refine ⟨keeps_of hW9, same_of (grown_of_below hW9 none) (fun k hk => Nat.lt_of_lt_of_le (hpl k hk) h7) (fun k _ e => by cases e), ⟨⟨K4, K8, O4, P1, A7, c7, ?_, ?_⟩, hsz9⟩, hbw9⟩
      · rw [HRES.out]; exact K7
      · rw [HRES.out]; exact O7
    · rw [hbb] at HSN
      have hres := HSN.out
      rw [if_pos rfl] at hres
      have HRES := hid hres
      clear hres hbb HSN
      obtain ⟨y0, y1, y2, fy⟩ := octbox K7
      obtain ⟨x0, x1, x2, fx⟩ := octbox k10'
      gi_wp2
      clear y0 y1 y2 fy x0 x1 x2 fx
      have hG := (grown_of_below hW9 (some g7)).trans (grown3 (W := w9) (g := g7) (v0 := .int .i64 o.n) (v1 := .bool false) (v2 := .slice A8 nw.length c8))
      have hne8 := own_blk' own8' K7 (by decide)
      have hle9 := hbw9.size
      refine ⟨KeepsFrom.of_grownBy hG (fun j e => by injection e with e; omega), same_of hG (fun k hk => Nat.lt_of_lt_of_le (hpl k hk) h7) (fun k hk e => by
        injection e with e
        subst e
        rcases hk with hk | hk
        · omega
        · exact hne4' _ hk rfl), ⟨⟨K4.far3 (by omega), K8.far3 (by omega), O4.far3 hne4', P1.far3 (by omega), A8, c8, ?_, ?_⟩, by simpa using hsz9⟩, hbw9.trans (below3 (by omega) hle9)⟩
      · rw [HRES.out]; exact K7.set3
      · rw [HRES.out]; exact (own8'.far3 hne8).less (by have := hb0.size; omega)
  case done =>
    rintro D xs W hD rfl ⟨⟨⟨h1, h2, h3, h4, A7, c7, h5, h6⟩, h7⟩, hbw⟩ hK
    obtain rfl := HA0.out
    have hne7 := own_blk' h6 h4 (by decide)
    obtain ⟨x0, x1, x2, fx⟩ := octbox h4
    obtain ⟨y0, y1, y2, fy⟩ := octbox h5
    generalize thinM o.n N qm (matC N qm N) = out at *
    dsimp only
    gi_wp2
    clear x0 x1 x2 fx y0 y1 y2 fy
    have hne1 := own_blk' h6 h4 (by decide)
    have hle := hbw.size
    have o7 := h6.far3 (g := w.heap.size + 1) (v0 := .int .i64 o.n) (v1 := .bool false) (v2 := .slice A7 out.length c7) hne1
    have p3 := h4.set3 (v0 := .int .i64 o.n) (v1 := .bool false) (v2 := .slice A7 out.length c7)
    have hb3 := hbw.trans (below3 (W := W) (g := w.heap.size + 1) (v0 := .int .i64 o.n) (v1 := .bool false) (v2 := .slice A7 out.length c7) (by omega) hle)
    have hK3 := heap3 (g := w.heap.size + 1) (v0 := .int .i64 o.n) (v1 := .bool false) (v2 := .slice A7 out.length c7) hK rfl
    clear hK hne1
    generalize ((W.setCell ⟨w.heap.size + 1, 0, none⟩ (.int .i64 o.n)).setCell ⟨w.heap.size + 1, 1, none⟩ (.bool false)).setCell ⟨w.heap.size + 1, 2, none⟩ (.slice A7 out.length c7) = W3 at *
    have hKg := grownBy_putObj' W3 D (.deferred none)
    have p4 := blk_kept p3 hKg (fun r e => by cases e; exact ⟨_, hK3, rfl⟩)
    have o4 := own_kept o7 hKg (fun r e => by cases e; exact ⟨_, hK3, rfl⟩)
    have hb4 := hb3.trans (belowK_b (w := w) (Nat.le_refl _) W3 D _ (.deferred none) (by omega) hK3 rfl rfl)
    obtain ⟨z0, z1, z2, fz⟩ := octbox p4
    refine ⟨by simp, .inl ⟨_, _, rfl, run_takeDeferred hK3, ?_⟩⟩
    refine ⟨.tuple #[.agg #[.int .i64 o.n, .bool false, .slice A7 out.length c7], .int .i64 0], by simp [results, Try.results24, go_sem, z0, z1, z2], A7, c7, rfl, o4.less (by assumption), hb4⟩
  case stop =>
    rintro D c pre W _ _ h _
    exact h.elim

theorem thinoct_any (o : O) (A : Option Addr) (c : Nat) (w : World) (hx : Rd w w.heap.size A o.m) (hm : o.m.length ≤ 17592186044416) :
    Calls Try.prog 24 #[.agg #[.int .i64 o.n, .bool o.e, .slice A o.m.length c]] w (ThinRes w (thinAns o) (check o)) := by
  by_cases hk : check o = 0
  · by_cases hq : (closeO o).e = true
    · have h := thinoct_out o A c w hx hm (.inr (by rw [closedO_ok hk]; exact hq))
      rw [closedO_ok hk] at h
      have e : thinAns o = closeO o := by unfold thinAns; rw [if_pos hk]; unfold thinO; rw [if_pos hq]
      rw [e]; exact h
    · have h := (callsIn_wide (n := 10)).1 (thinoct_in o A c w hx hm hk (by simpa using hq))
      have e : thinAns o = thinO o := by unfold thinAns; rw [if_pos hk]
      rw [e, hk]; exact h
  · have h := thinoct_out o A c w hx hm (.inl hk)
    have e : thinAns o = closedO o := by unfold thinAns closedO; rw [if_neg hk, if_neg hk]
    rw [e]; exact h
end Go.Proofs.Ytanbplidigokgaa
