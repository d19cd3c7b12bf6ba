/-
  gnomonlaw22.WidenExact: the law's own walk.
-/
import Derived.Test.YtanbplidigokgaaKnown22
import Derived.Test.YtanbplidigokgaaFlowE
import Derived.Test.YtanbplidigokgaaBox3
namespace Go.Proofs.Ytanbplidigokgaa
open Go.RowKit
attribute [local go_sem ↓] Go.wp_at_zero Go.wp_at_succ

theorem laterE {w : World} {p : Addr} {v : Value} (h : w.cell? p = some v) : ∀ W, Ext w.drew W → W.cell? p = some v := fun _ hb => cell_later (w := w.drew) hb h
def IsOct (o : O) (v : Value) (wa wb : World) : Prop := ∃ A1 c1, v = .agg #[.int .i64 o.n, .bool o.e, .slice A1 o.m.length c1] ∧ Own wb wa.heap.size A1 c1 o.m
def IsInts (xs : List Int) (v : Value) (wa wb : World) : Prop := ∃ A1 c1, v = .slice A1 xs.length c1 ∧ Own wb wa.heap.size A1 c1 xs
def IsBox (t : TypeId) (cs : Array Value) (v : Value) (wa wb : World) : Prop := v = .pointer (some ⟨wa.heap.size, 0, none⟩) ∧ Blk wb wa.heap.size t cs ∧ wb.heap.size = wa.heap.size + 1

theorem fact_oct {w0 W : World} {o : O} {v : Value} {lo hi : Nat} (h : Sp.fact w0 (Sp.any (IsOct o)) v lo hi W) :
    ∃ A1 c1, v = .agg #[.int .i64 o.n, .bool o.e, .slice A1 o.m.length c1] ∧ Own W lo A1 c1 o.m ∧ w0.heap.size ≤ lo ∧ (∀ g, A1 = some ⟨g, 0, none⟩ → lo ≤ g ∧ g < hi) ∧ hi ≤ W.heap.size := by
  obtain ⟨wa, wb, e1, e2, e3, rfl, rfl, A1, c1, rfl, own⟩ := h
  refine ⟨A1, c1, rfl, own.below e3, e1.size, fun g hg => ?_, e3.size⟩
  rcases own.form with ⟨h, _⟩ | ⟨g', h, h1, h2⟩
  · rw [h] at hg; cases hg
  · rw [h] at hg; injection hg with hg; injection hg with hg; omega
theorem fact_ints {w0 W : World} {xs : List Int} {v : Value} {lo hi : Nat} (h : Sp.fact w0 (Sp.any (IsInts xs)) v lo hi W) :
    ∃ A1 c1, v = .slice A1 xs.length c1 ∧ Own W lo A1 c1 xs ∧ w0.heap.size ≤ lo ∧ (∀ g, A1 = some ⟨g, 0, none⟩ → lo ≤ g ∧ g < hi) ∧ hi ≤ W.heap.size := by
  obtain ⟨wa, wb, e1, e2, e3, rfl, rfl, A1, c1, rfl, own⟩ := h
  refine ⟨A1, c1, rfl, own.below e3, e1.size, fun g hg => ?_, e3.size⟩
  rcases own.form with ⟨h, _⟩ | ⟨g', h, h1, h2⟩
  · rw [h] at hg; cases hg
  · rw [h] at hg; injection hg with hg; injection hg with hg; omega
theorem fact_box {w0 W : World} {t : TypeId} {cs : Array Value} {v : Value} {lo hi : Nat} (h : Sp.fact w0 (Sp.any (IsBox t cs)) v lo hi W) :
    ∃ g, v = .pointer (some ⟨g, 0, none⟩) ∧ Blk W g t cs ∧ w0.heap.size ≤ g ∧ g = lo ∧ g + 1 = hi := by
  obtain ⟨wa, wb, e1, e2, e3, rfl, rfl, rfl, hb, hs⟩ := h
  exact ⟨_, rfl, hb.below e3 (by omega), e1.size, rfl, hs.symm⟩

theorem wp_append_op {o : Oper} {a : Act} {K : Act → World → Prop} {Q : Exit → Act → World → Prop} {w : World} (s x : Operand) (t : TypeId)
    (ho : o.op = .call { callee := .builtin .append, args := #[s, x], argTypes := #[t, t] }) (ht : Try.prog.underlying t = some (.slice 2))
    (base : Nat) (A0 : Option Addr) (c0 : Nat) (xs : List Int) (hs : a.eval s = .slice A0 xs.length c0) (hown : Own w base A0 c0 xs)
    (B : Nat) (A : Option Addr) (c : Nat) (ys zs : List Int) (hx : a.eval x = .slice A ys.length c) (hr : Rd w B A ys) (hz : xs ++ ys = zs) (hl : zs.length ≤ 17592186044416) (hbase : base ≤ w.heap.size)
    (h : ∀ A' cap' w', Own w' base A' cap' zs → w.grownBy w' (Value.slice A0 xs.length c0).ownBlock → ((Value.slice A' zs.length cap').ownBlock = (Value.slice A0 xs.length c0).ownBlock ∨ (Value.slice A' zs.length cap').ownBlock = some w.heap.size) → K (a.put o.dst (.slice A' zs.length cap')) w') :
    Oper.wp Try.prog o a w K Q := by
  subst hz
  obtain ⟨v', w', hrun, h2, h3, h4⟩ := run_append_ints w base t o.type ht _ _ xs hown B A c ys hr (by simpa using hl) hbase
  obtain ⟨_, A', cap', rfl, h2'⟩ := own_slice h2
  unfold Oper.wp execOp
  simp only [ho, resolve, invoke, builtin, Sem.run_bind, Sem.run_pure, Result.andThen_ok, List.map_toArray, List.map_cons, List.map_nil, hs, hx, hrun]
  exact h A' cap' w' h2' h3 h4

theorem widenO_err (a b : O) (steps : List Int) : (widenO a b steps).2 = pairErr a b := by
  unfold widenO; repeat' split
  all_goals simp_all
theorem narrowO_err (a b : O) : (narrowO a b).2 = pairErr a b := by
  unfold narrowO; repeat' split
  all_goals simp_all
theorem widenO_bad {a b : O} {steps : List Int} (h : ¬ pairErr a b = 0) : (widenO a b steps).1 = ⟨0, false, []⟩ := by
  unfold widenO; rw [if_pos h]
theorem narrowO_bad {a b : O} (h : ¬ pairErr a b = 0) : (narrowO a b).1 = ⟨0, false, []⟩ := by
  unfold narrowO; rw [if_pos h]
theorem widenO_m {a b : O} {steps : List Int} (ha : a.m.length ≤ 17592186044416) (hb : b.m.length ≤ 17592186044416) : (widenO a b steps).1.m.length ≤ 17592186044416 := by
  unfold widenO; repeat' split
  · simp
  · exact hb
  · exact ha
  · rw [show ∀ (n : Int) (e : Bool) (m : List Int), (O.mk n e m).m = m from fun _ _ _ => rfl, cellsF_len]; exact ha
theorem narrowO_m {a b : O} (ha : a.m.length ≤ 17592186044416) (hb : b.m.length ≤ 17592186044416) : (narrowO a b).1.m.length ≤ 17592186044416 := by
  unfold narrowO; repeat' split
  · simp
  · exact ha
  · exact hb
  · rw [show ∀ (n : Int) (e : Bool) (m : List Int), (O.mk n e m).m = m from fun _ _ _ => rfl, cellsF_len]; exact ha
/-- An octagon of one's own at a slice: the test against its own copy. -/
theorem oct_self (o : O) (A A' : Option Addr) (c c' : Nat) (w : World) (hx : Rd w w.heap.size A o.m) (hy : Rd w w.heap.size A' o.m) (hm : o.m.length ≤ 17592186044416) :
    Calls Try.prog 15 #[.agg #[.int .i64 o.n, .bool o.e, .slice A o.m.length c], .agg #[.int .i64 o.n, .bool o.e, .slice A' o.m.length c']] w fun e w' => e = .returned (.bool true) ∧ Below w.heap.size w w' :=
  (oct_any o o A A' c c' w hx hy hm).mono fun _ _ ⟨he, hb⟩ => ⟨he.trans (retb ((eqO_iff _ _).2 rfl)), hb⟩
theorem longs_self (xs : List Int) (A A' : Option Addr) (c c' : Nat) (w : World) (hx : Rd w w.heap.size A xs) (hy : Rd w w.heap.size A' xs) (hm : xs.length ≤ 17592186044416) :
    Calls Try.prog 16 #[.slice A xs.length c, .slice A' xs.length c'] w fun e w' => e = .returned (.bool true) ∧ Below w.heap.size w w' :=
  (longs_any xs xs A A' c c' w hx hy hm).mono fun _ _ ⟨he, hb⟩ => ⟨he.trans (retb (by simp)), hb⟩

set_option maxHeartbeats 2000000 in
theorem widenExact_walk (a b : O) (steps : List Int) (A A' S : Option Addr) (c c' cs : Nat) (w : World) (hx : Rd w w.heap.size A a.m) (hy : Rd w w.heap.size A' b.m) (hs : Rd w w.heap.size S steps) (hm : a.m.length ≤ 17592186044416) (hm' : b.m.length ≤ 17592186044416) (hms : steps.length ≤ 17592186044416) :
    Calls Try.prog 3 #[.agg #[.int .i64 a.n, .bool a.e, .slice A a.m.length c], .agg #[.int .i64 b.n, .bool b.e, .slice A' b.m.length c'], .slice S steps.length cs] w fun e w' => e = .returned (.bool true) ∧ Below w.heap.size w w' := by
  obtain ⟨n, e, m⟩ := a
  obtain ⟨n', e', m'⟩ := b
  dsimp only at *
  have hb0 : Below w.heap.size w (((w.alloc (Obj.cells #[.int .i64 n, .bool e, .slice A m.length c] 24)).alloc (Obj.cells #[.int .i64 n', .bool e', .slice A' m'.length c'] 24))) := ((Below.refl _ _).alloc (Nat.le_refl _) _).alloc (by simp) _
  obtain ⟨b0, b1⟩ := blk_two (w := w) (Below.refl _ (((w.alloc (Obj.cells #[.int .i64 n, .bool e, .slice A m.length c] 24)).alloc (Obj.cells #[.int .i64 n', .bool e', .slice A' m'.length c'] 24))))
  have hx0 := hx.up hb0
  have hy0 := hy.up hb0
  have hs0 := hs.up hb0
  by_cases hlen : 200 < steps.length
  · have hl : (200 : Int) < (steps.length : Int) := by omega
    go_enter Try.func3, Try.ntmps3
    go_wp2_with fail
    refine (known22_any _).mono ?_
    rintro e1 w1 ⟨rfl, hb1⟩
    go_wp2
    go_ret
    exact ⟨rfl, bup hb0 hb1⟩
  · have hl : ¬ (200 : Int) < (steps.length : Int) := by omega
    go_enter Try.func3, Try.ntmps3
    go_wp2_with fail
    refine (known22_any _).mono ?_
    generalize (w.alloc (Obj.cells #[.int .i64 n, .bool e, .slice A m.length c] 24)).alloc (Obj.cells #[.int .i64 n', .bool e', .slice A' m'.length c'] 24) = w0 at *
    rintro e1 w1 ⟨rfl, hb1⟩
    have hbw1 := bup hb0 hb1
    have hx1 := hx0.up hb1
    have hy1 := hy0.up hb1
    have hs1 := hs0.up hb1
    obtain ⟨x0, x1, x2, fx⟩ := octbox (b0.later hb1)
    obtain ⟨y0, y1, y2, fy⟩ := octbox (b1.later hb1)
    have d0 := b0.later hb1
    have d1 := b1.later hb1
    clear hx0 hy0 hs0 hb0 hb1 b0 b1
    go_wp2_with fail
    have f0 := laterE x0
    have f1 := laterE x1
    have f2 := laterE x2
    have g0 := laterE y0
    have g1 := laterE y1
    have g2 := laterE y2
    clear x0 x1 x2 fx y0 y1 y2 fy
    refine wp_region_flowE 8 [Sp.val (.agg #[.int .i64 n, .bool e, .slice A m.length c]), Sp.any (IsOct ⟨n, e, m⟩), Sp.val (.agg #[.int .i64 n', .bool e', .slice A' m'.length c']), Sp.any (IsOct ⟨n', e', m'⟩), Sp.val (.slice S steps.length cs), Sp.any (IsInts steps), Sp.any (IsBox 24 #[.int .i64 0, .bool false, .slice none 0 0]), Sp.any (IsBox 24 #[.int .i64 0, .bool false, .slice none 0 0])] (by kernel_rfl) (by kernel_rfl) ?_
    (refine FlowE.take (by rfl) (fun W hW R hR => ?_) (fun _ _ => ?_); (go_simp; (try go_bits); with_reducible exact hR); simp only [Act.put, List.setIfInBounds_toArray, List.set_cons_zero, List.set_cons_succ])
    refine FlowE.call 11 #[.agg #[.int .i64 n, .bool e, .slice A m.length c]] (by rfl) (fun W hW => by go_simp) (fun W hW => (copyoct_any n e m A c W (hx1.up (Ext.trans (Below.refl _ _).drew hW)) hm).mono fun _ _ ⟨A1, c1, he, ho, hb⟩ => ⟨_, he, hb, A1, c1, rfl, ho⟩) (fun v1 l1 h1 => ?_)
    simp only [Act.put, List.setIfInBounds_toArray, List.set_cons_zero, List.set_cons_succ]
    (refine FlowE.take (by rfl) (fun W hW R hR => ?_) (fun _ _ => ?_); (go_simp; (try go_bits); with_reducible exact hR); simp only [Act.put, List.setIfInBounds_toArray, List.set_cons_zero, List.set_cons_succ])
    refine FlowE.call 11 #[.agg #[.int .i64 n', .bool e', .slice A' m'.length c']] (by rfl) (fun W hW => by go_simp) (fun W hW => (copyoct_any n' e' m' A' c' W (hy1.up (Ext.trans (Below.refl _ _).drew hW)) hm').mono fun _ _ ⟨A1, c1, he, ho, hb⟩ => ⟨_, he, hb, A1, c1, rfl, ho⟩) (fun v2 l2 h2 => ?_)
    simp only [Act.put, List.setIfInBounds_toArray, List.set_cons_zero, List.set_cons_succ]
    (refine FlowE.take (by rfl) (fun W hW R hR => ?_) (fun _ _ => ?_); (go_simp; (try go_bits); with_reducible exact hR); simp only [Act.put, List.setIfInBounds_toArray, List.set_cons_zero, List.set_cons_succ])
    refine FlowE.step (by rfl) (fun W hW K hK => wp_append_op _ _ _ (by rfl) Try.underlying22 W.heap.size none 0 [] (by rfl) (own_nil _ _) W.heap.size S cs steps steps (by rfl) (hs1.up (Ext.trans (Below.refl _ _).drew hW)) rfl hms (Nat.le_refl _) fun A3 c3 w3 ho hg _ => hK _ _ (below_grown hg (by simp [Value.ownBlock]) (Nat.le_refl _)) ⟨A3, c3, rfl, ho⟩) (fun v3 l3 h3 => ?_)
    simp only [Act.put, List.setIfInBounds_toArray, List.set_cons_zero, List.set_cons_succ]
    refine FlowE.step (by rfl) (fun W hW K hK => ?_) (fun v4 l4 h4 => ?_)
    · go_simp
      exact hK _ _ (new1 _ _) ⟨rfl, Blk.new _ _ _, by simp⟩
    simp only [Act.put, List.setIfInBounds_toArray, List.set_cons_zero, List.set_cons_succ]
    refine FlowE.step (by rfl) (fun W hW K hK => ?_) (fun v5 l5 h5 => ?_)
    · go_simp
      exact hK _ _ (new1 _ _) ⟨rfl, Blk.new _ _ _, by simp⟩
    simp only [Act.put, List.setIfInBounds_toArray, List.set_cons_zero, List.set_cons_succ]
    refine FlowE.tail (fun W hW hf hd => ?_)
    have q1 : Sp.fact w1.drew (Sp.any (IsOct ⟨n, e, m⟩)) v1 l1 h1 W := hf 1
    have q2 : Sp.fact w1.drew (Sp.any (IsOct ⟨n', e', m'⟩)) v2 l2 h2 W := hf 3
    have q3 : Sp.fact w1.drew (Sp.any (IsInts steps)) v3 l3 h3 W := hf 5
    have q4 : Sp.fact w1.drew (Sp.any (IsBox 24 #[.int .i64 0, .bool false, .slice none 0 0])) v4 l4 h4 W := hf 6
    have q5 : Sp.fact w1.drew (Sp.any (IsBox 24 #[.int .i64 0, .bool false, .slice none 0 0])) v5 l5 h5 W := hf 7
    have d14 : h1 ≤ l4 ∨ h4 ≤ l1 := hd 1 6 (by decide)
    have d15 : h1 ≤ l5 ∨ h5 ≤ l1 := hd 1 7 (by decide)
    have d24 : h2 ≤ l4 ∨ h4 ≤ l2 := hd 3 6 (by decide)
    have d25 : h2 ≤ l5 ∨ h5 ≤ l2 := hd 3 7 (by decide)
    have d34 : h3 ≤ l4 ∨ h4 ≤ l3 := hd 5 6 (by decide)
    have d35 : h3 ≤ l5 ∨ h5 ≤ l3 := hd 5 7 (by decide)
    have d45 : h4 ≤ l5 ∨ h5 ≤ l4 := hd 6 7 (by decide)
    clear hf hd
    obtain ⟨A1, c1, rfl, o1, lo1, in1, hi1⟩ := fact_oct q1
    obtain ⟨A2, c2, rfl, o2, lo2, in2, hi2⟩ := fact_oct q2
    obtain ⟨A3, c3, rfl, o3, lo3, in3, hi3⟩ := fact_ints q3
    obtain ⟨g4, rfl, k4, lo4, rfl, rfl⟩ := fact_box q4
    obtain ⟨g5, rfl, k5, lo5, rfl, rfl⟩ := fact_box q5
    dsimp only at o1 o2 ⊢
    have hne : g4 ≠ g5 := by omega
    have n14 : ∀ k, A1 = some ⟨k, 0, none⟩ → k ≠ g4 := fun k hk => by have := in1 k hk; omega
    have n15 : ∀ k, A1 = some ⟨k, 0, none⟩ → k ≠ g5 := fun k hk => by have := in1 k hk; omega
    have n24 : ∀ k, A2 = some ⟨k, 0, none⟩ → k ≠ g4 := fun k hk => by have := in2 k hk; omega
    have n25 : ∀ k, A2 = some ⟨k, 0, none⟩ → k ≠ g5 := fun k hk => by have := in2 k hk; omega
    have n34 : ∀ k, A3 = some ⟨k, 0, none⟩ → k ≠ g4 := fun k hk => by have := in3 k hk; omega
    have n35 : ∀ k, A3 = some ⟨k, 0, none⟩ → k ≠ g5 := fun k hk => by have := in3 k hk; omega
    have hWs : w1.heap.size ≤ W.heap.size := hW.size
    have e0 := d0.later (w' := W) ((Below.refl _ _).drew.trans hW)
    have e1 := d1.later (w' := W) ((Below.refl _ _).drew.trans hW)
    have hbW : Below w.heap.size w W := bup hbw1 ((Below.refl _ _).drew.trans hW)
    have hxW := hx1.below ((Below.refl _ _).drew.trans hW)
    have hyW := hy1.below ((Below.refl _ _).drew.trans hW)
    have hsW := hs1.below ((Below.refl _ _).drew.trans hW)
    clear q1 q2 q3 q4 q5 d14 d15 d24 d25 d34 d35 d45 in1 in2 in3 f0 f1 f2 g0 g1 g2
    obtain ⟨x0, x1, x2, fx⟩ := octbox k4
    obtain ⟨y0, y1, y2, fy⟩ := octbox k5
    go_wp2_with fail
    have hBW : w1.heap.size ≤ W.heap.size := hWs
    have hlt4 := k4.lt
    have hlt5 := k5.lt
    have hle4 : w1.heap.size ≤ g4 := lo4
    have hle5 : w1.heap.size ≤ g5 := lo5
    have hle0 : w.heap.size ≤ w1.heap.size := hbw1.size
    have hd1 : w.heap.size + 1 < w1.heap.size := d1.lt
    have u1 : Own (((W.setCell ⟨g4, 0, none⟩ (.int .i64 n)).setCell ⟨g4, 1, none⟩ (.bool e)).setCell ⟨g4, 2, none⟩ (.slice A1 m.length c1)) l1 A1 c1 m := o1.far3 n14
    have u2 : Own (((W.setCell ⟨g4, 0, none⟩ (.int .i64 n)).setCell ⟨g4, 1, none⟩ (.bool e)).setCell ⟨g4, 2, none⟩ (.slice A1 m.length c1)) l2 A2 c2 m' := o2.far3 n24
    have u3 : Own (((W.setCell ⟨g4, 0, none⟩ (.int .i64 n)).setCell ⟨g4, 1, none⟩ (.bool e)).setCell ⟨g4, 2, none⟩ (.slice A1 m.length c1)) l3 A3 c3 steps := o3.far3 n34
    have u4 : Blk (((W.setCell ⟨g4, 0, none⟩ (.int .i64 n)).setCell ⟨g4, 1, none⟩ (.bool e)).setCell ⟨g4, 2, none⟩ (.slice A1 m.length c1)) g4 _ _ := k4.set3
    have u5 : Blk (((W.setCell ⟨g4, 0, none⟩ (.int .i64 n)).setCell ⟨g4, 1, none⟩ (.bool e)).setCell ⟨g4, 2, none⟩ (.slice A1 m.length c1)) g5 _ _ := k5.far3 hne
    have b4 : Below w1.heap.size W (((W.setCell ⟨g4, 0, none⟩ (.int .i64 n)).setCell ⟨g4, 1, none⟩ (.bool e)).setCell ⟨g4, 2, none⟩ (.slice A1 m.length c1)) := below3 hle4 hBW
    have hs4 : (((W.setCell ⟨g4, 0, none⟩ (.int .i64 n)).setCell ⟨g4, 1, none⟩ (.bool e)).setCell ⟨g4, 2, none⟩ (.slice A1 m.length c1)).heap.size = W.heap.size := by simp
    generalize ((W.setCell ⟨g4, 0, none⟩ (.int .i64 n)).setCell ⟨g4, 1, none⟩ (.bool e)).setCell ⟨g4, 2, none⟩ (.slice A1 m.length c1) = W4 at *
    have v1 : Own (((W4.setCell ⟨g5, 0, none⟩ (.int .i64 n')).setCell ⟨g5, 1, none⟩ (.bool e')).setCell ⟨g5, 2, none⟩ (.slice A2 m'.length c2)) l1 A1 c1 m := u1.far3 n15
    have v2 : Own (((W4.setCell ⟨g5, 0, none⟩ (.int .i64 n')).setCell ⟨g5, 1, none⟩ (.bool e')).setCell ⟨g5, 2, none⟩ (.slice A2 m'.length c2)) l2 A2 c2 m' := u2.far3 n25
    have v3 : Own (((W4.setCell ⟨g5, 0, none⟩ (.int .i64 n')).setCell ⟨g5, 1, none⟩ (.bool e')).setCell ⟨g5, 2, none⟩ (.slice A2 m'.length c2)) l3 A3 c3 steps := u3.far3 n35
    have v4 : Blk (((W4.setCell ⟨g5, 0, none⟩ (.int .i64 n')).setCell ⟨g5, 1, none⟩ (.bool e')).setCell ⟨g5, 2, none⟩ (.slice A2 m'.length c2)) g4 _ _ := u4.far3 hne.symm
    have v5 : Blk (((W4.setCell ⟨g5, 0, none⟩ (.int .i64 n')).setCell ⟨g5, 1, none⟩ (.bool e')).setCell ⟨g5, 2, none⟩ (.slice A2 m'.length c2)) g5 _ _ := u5.set3
    have b5 : Below w1.heap.size W (((W4.setCell ⟨g5, 0, none⟩ (.int .i64 n')).setCell ⟨g5, 1, none⟩ (.bool e')).setCell ⟨g5, 2, none⟩ (.slice A2 m'.length c2)) := b4.trans (below3 hle5 (by omega))
    generalize ((W4.setCell ⟨g5, 0, none⟩ (.int .i64 n')).setCell ⟨g5, 1, none⟩ (.bool e')).setCell ⟨g5, 2, none⟩ (.slice A2 m'.length c2) = w2 at *
    have a1 := v1.rd
    have a2 := v2.rd
    have a3 := v3.rd
    have hxv := (hxW.below b5).more (Nat.le_trans hWs b5.size)
    have hyv := (hyW.below b5).more (Nat.le_trans hWs b5.size)
    have hsv := (hsW.below b5).more (Nat.le_trans hWs b5.size)
    have p0 := e0.below b5 (by omega)
    have p1 := e1.below b5 (by omega)
    have hbv : Below w.heap.size w w2 := hbW.trans (b5.mono hle0)
    clear hxW hyW hsW e0 e1 v1 v2 v3 u1 u2 u3 u4 u5 b4 b5 hs4 k4 k5 o1 o2 o3 x0 x1 x2 fx y0 y1 y2 fy n14 n15 n24 n25 n34 n35 hbW d0 d1 hx1 hy1 hs1 hbw1
    have hc := widen_any ⟨n, e, m⟩ ⟨n', e', m'⟩ steps A1 A2 A3 c1 c2 c3 w2 a1 a2 a3 hm hm' hms
    have hwm := widenO_m (a := ⟨n, e, m⟩) (b := ⟨n', e', m'⟩) (steps := steps) hm hm'
    have hnm := narrowO_m (a := ⟨n, e, m⟩) (b := ⟨n', e', m'⟩) hm hm'
    rw [widenO_err] at hc
    refine hc.mono ?_
    clear hc
    rintro ee w3 ⟨B1, r1, rfl, own3, hb3⟩
    have s1 := own3.rd
    clear own3
    replace a1 := a1.up hb3
    replace a2 := a2.up hb3
    replace a3 := a3.up hb3
    replace hxv := hxv.up hb3
    replace hyv := hyv.up hb3
    replace hsv := hsv.up hb3
    replace p0 := p0.later hb3
    replace p1 := p1.later hb3
    replace v4 := v4.later hb3
    replace v5 := v5.later hb3
    replace hbv := bup hbv hb3
    clear hb3
    have hRo : ∃ R : O, R = (widenO ⟨n, e, m⟩ ⟨n', e', m'⟩ steps).1 := ⟨_, rfl⟩
    obtain ⟨R, hR⟩ := hRo
    rw [← hR] at s1 hwm ⊢
    obtain ⟨P, hP⟩ : ∃ P : Int, P = pairErr ⟨n, e, m⟩ ⟨n', e', m'⟩ := ⟨_, rfl⟩
    rw [← hP]
    obtain ⟨rn, re, rm⟩ := R
    dsimp only at s1 hwm ⊢
    have n4 := new1 w3 (.cells #[.int .i64 rn, .bool re, .slice B1 rm.length r1] 24)
    have k6 := Blk.new w3 24 #[.int .i64 rn, .bool re, .slice B1 rm.length r1]
    obtain ⟨x0, x1, x2, fx⟩ := octbox (v4.later n4)
    obtain ⟨y0, y1, y2, fy⟩ := octbox (v5.later n4)
    have hHR := hid hR
    have hHP := hid hP
    clear hR hP
    go_wp2_with fail
    replace s1 := s1.up n4
    replace a1 := a1.up n4
    replace a2 := a2.up n4
    replace a3 := a3.up n4
    replace hxv := hxv.up n4
    replace hyv := hyv.up n4
    replace hsv := hsv.up n4
    replace p0 := p0.later n4
    replace p1 := p1.later n4
    replace v4 := v4.later n4
    replace v5 := v5.later n4
    replace hbv := bup hbv n4
    clear n4 x0 x1 x2 fx y0 y1 y2 fy
    generalize w3.alloc (.cells #[.int .i64 rn, .bool re, .slice B1 rm.length r1] 24) = w4 at *
    generalize w3.heap.size = g6 at *
    have hc := narrow_any ⟨n, e, m⟩ ⟨n', e', m'⟩ A1 A2 c1 c2 w4 a1 a2 hm hm'
    rw [narrowO_err] at hc
    refine hc.mono ?_
    clear hc
    rintro ee w5 ⟨B2, r2, rfl, own5, hb5⟩
    have s2 := own5.rd
    clear own5
    replace s1 := s1.up hb5
    replace a1 := a1.up hb5
    replace a2 := a2.up hb5
    replace a3 := a3.up hb5
    replace hxv := hxv.up hb5
    replace hyv := hyv.up hb5
    replace hsv := hsv.up hb5
    replace p0 := p0.later hb5
    replace p1 := p1.later hb5
    replace v4 := v4.later hb5
    replace v5 := v5.later hb5
    replace k6 := k6.later hb5
    replace hbv := bup hbv hb5
    clear hb5
    have hRo : ∃ R : O, R = (narrowO ⟨n, e, m⟩ ⟨n', e', m'⟩).1 := ⟨_, rfl⟩
    obtain ⟨R, hR⟩ := hRo
    rw [← hR] at s2 hnm ⊢
    rw [← hHP.out]
    obtain ⟨nn, ne, nm⟩ := R
    dsimp only at s2 hnm ⊢
    have hHN := hid hR
    clear hR
    have n4 := new1 w5 (.cells #[.int .i64 nn, .bool ne, .slice B2 nm.length r2] 24)
    have k7 := Blk.new w5 24 #[.int .i64 nn, .bool ne, .slice B2 nm.length r2]
    obtain ⟨x0, x1, x2, fx⟩ := octbox (p0.later n4)
    obtain ⟨y0, y1, y2, fy⟩ := octbox (p1.later n4)
    go_wp2_with fail
    replace s1 := s1.up n4
    replace s2 := s2.up n4
    replace a1 := a1.up n4
    replace a2 := a2.up n4
    replace a3 := a3.up n4
    replace hxv := hxv.up n4
    replace hyv := hyv.up n4
    replace hsv := hsv.up n4
    replace p0 := p0.later n4
    replace p1 := p1.later n4
    replace v4 := v4.later n4
    replace v5 := v5.later n4
    replace k6 := k6.later n4
    replace hbv := bup hbv n4
    clear n4 x0 x1 x2 fx y0 y1 y2 fy
    generalize w5.alloc (.cells #[.int .i64 nn, .bool ne, .slice B2 nm.length r2] 24) = w6 at *
    generalize w5.heap.size = g7 at *
    have hc := pair_any ⟨n, e, m⟩ ⟨n', e', m'⟩ A A' c c' w6 hxv hyv hm hm'
    rw [← hHP.out] at hc
    refine hc.mono ?_
    clear hc
    rintro ee w7 ⟨rfl, hb7⟩
    replace s1 := s1.up hb7
    replace s2 := s2.up hb7
    replace a1 := a1.up hb7
    replace a2 := a2.up hb7
    replace a3 := a3.up hb7
    replace hxv := hxv.up hb7
    replace hyv := hyv.up hb7
    replace hsv := hsv.up hb7
    replace p0 := p0.later hb7
    replace p1 := p1.later hb7
    replace v4 := v4.later hb7
    replace v5 := v5.later hb7
    replace k6 := k6.later hb7
    replace k7 := k7.later hb7
    replace hbv := bup hbv hb7
    clear hb7
    obtain ⟨x0, x1, x2, fx⟩ := octbox p0
    obtain ⟨y0, y1, y2, fy⟩ := octbox p1
    obtain ⟨z0, z1, z2, fz⟩ := octbox v4
    obtain ⟨q0, q1, q2, fq⟩ := octbox v5
    have hpp : (P != P) = false := by simp
    go_wp2_with fail
    refine (oct_self ⟨n, e, m⟩ A1 A c1 c w7 a1 hxv hm).mono ?_
    rintro ee w8 ⟨rfl, hb8⟩
    clear x0 x1 x2 fx y0 y1 y2 fy z0 z1 z2 fz q0 q1 q2 fq
    replace s1 := s1.up hb8
    replace s2 := s2.up hb8
    replace a2 := a2.up hb8
    replace a3 := a3.up hb8
    replace hxv := hxv.up hb8
    replace hyv := hyv.up hb8
    replace hsv := hsv.up hb8
    replace p0 := p0.later hb8
    replace p1 := p1.later hb8
    replace v5 := v5.later hb8
    replace k6 := k6.later hb8
    replace k7 := k7.later hb8
    replace hbv := bup hbv hb8
    clear hb8 v4 a1
    obtain ⟨y0, y1, y2, fy⟩ := octbox p1
    obtain ⟨q0, q1, q2, fq⟩ := octbox v5
    go_wp2_with fail
    refine (oct_self ⟨n', e', m'⟩ A2 A' c2 c' w8 a2 hyv hm').mono ?_
    rintro ee w9 ⟨rfl, hb9⟩
    clear y0 y1 y2 fy q0 q1 q2 fq
    replace s1 := s1.up hb9
    replace s2 := s2.up hb9
    replace a3 := a3.up hb9
    replace hxv := hxv.up hb9
    replace hyv := hyv.up hb9
    replace hsv := hsv.up hb9
    replace p0 := p0.later hb9
    replace p1 := p1.later hb9
    replace k6 := k6.later hb9
    replace k7 := k7.later hb9
    replace hbv := bup hbv hb9
    clear hb9 v5 a2
    go_wp2_with fail
    refine (longs_self steps A3 S c3 cs w9 a3 hsv hms).mono ?_
    rintro ee w10 ⟨rfl, hb10⟩
    replace s1 := s1.up hb10
    replace s2 := s2.up hb10
    replace hxv := hxv.up hb10
    replace hyv := hyv.up hb10
    replace hsv := hsv.up hb10
    replace p0 := p0.later hb10
    replace p1 := p1.later hb10
    replace k6 := k6.later hb10
    replace k7 := k7.later hb10
    replace hbv := bup hbv hb10
    clear hb10 a3
    by_cases hz : P = 0
    · have tz : (P != 0) = false := by simp [hz]
      have hpe : pairErr ⟨n, e, m⟩ ⟨n', e', m'⟩ = 0 := hHP.out ▸ hz
      have hw := fun (w : World) (h1 : Rd w w.heap.size A m) (h2 : Rd w w.heap.size A' m') (h3 : Rd w w.heap.size S steps) => rwiden_any ⟨n, e, m⟩ ⟨n', e', m'⟩ steps A A' S c c' cs w h1 h2 h3 hm hm' hms hpe
      have hn := fun (w : World) (h1 : Rd w w.heap.size A m) (h2 : Rd w w.heap.size A' m') => rnarrow_any ⟨n, e, m⟩ ⟨n', e', m'⟩ A A' c c' w h1 h2 hm hm' hpe
      rw [← hHR.out] at hw
      rw [← hHN.out] at hn
      dsimp only at hw hn
      clear hpe
      have hhz := hid hz
      clear hz
      go_wp2_with fail
      obtain ⟨x0, x1, x2, fx⟩ := octbox p0
      obtain ⟨y0, y1, y2, fy⟩ := octbox p1
      obtain ⟨z0, z1, z2, fz⟩ := octbox k6
      obtain ⟨q0, q1, q2, fq⟩ := octbox k7
      have m0 : Below w.heap.size w w10.drew := hbv.drew
      have m1 : Rd w10.drew w10.drew.heap.size A m := hxv
      have m2 : Rd w10.drew w10.drew.heap.size A' m' := hyv
      have m3 : Rd w10.drew w10.drew.heap.size S steps := hsv
      have m4 : Rd w10.drew w10.drew.heap.size B1 rm := s1
      have m5 : Rd w10.drew w10.drew.heap.size B2 nm := s2
      clear hbv hxv hyv hsv s1 s2 fx fy fz fq
      go_region_held3 (fun W => W.cell? ⟨w.heap.size, 0, none⟩ = some (.int .i64 n) ∧ W.cell? ⟨w.heap.size, 1, none⟩ = some (.bool e) ∧ W.cell? ⟨w.heap.size, 2, none⟩ = some (.slice A m.length c) ∧ W.cell? ⟨w.heap.size + 1, 0, none⟩ = some (.int .i64 n') ∧ W.cell? ⟨w.heap.size + 1, 1, none⟩ = some (.bool e') ∧ W.cell? ⟨w.heap.size + 1, 2, none⟩ = some (.slice A' m'.length c') ∧ W.cell? ⟨g6, 0, none⟩ = some (.int .i64 rn) ∧ W.cell? ⟨g6, 1, none⟩ = some (.bool re) ∧ W.cell? ⟨g6, 2, none⟩ = some (.slice B1 rm.length r1) ∧ W.cell? ⟨g7, 0, none⟩ = some (.int .i64 nn) ∧ W.cell? ⟨g7, 1, none⟩ = some (.bool ne) ∧ W.cell? ⟨g7, 2, none⟩ = some (.slice B2 nm.length r2)) (first | go_keep | (refine ⟨?_, ?_, ?_, ?_, ?_, ?_, ?_, ?_, ?_, ?_, ?_, ?_⟩ <;> (refine cell_later ‹Below _ _ _› ?_; first | assumption | go_keep)))
        (first
          | (go_at_call 17; (with_reducible refine (hw _ m1 m2 m3).mono ?_); rintro ee u1 ⟨D1, d1, rfl, qq1, hu1⟩; dsimp only at qq1 ⊢)
          | (go_at_call 18; (with_reducible refine (hn _ ((m1.up hu1).up hu2) ((m2.up hu1).up hu2)).mono ?_); rintro ee u3 ⟨D2, d2, rfl, qq2, hu3⟩; dsimp only at qq2 ⊢)
          | (go_at_call 15; (with_reducible refine (oct_self ⟨rn, re, rm⟩ B1 D1 r1 d1 _ (m4.up hu1) qq1 hwm).mono ?_); rintro ee u2 ⟨rfl, hu2⟩)
          | (go_at_call 15; (with_reducible refine (oct_self ⟨nn, ne, nm⟩ B2 D2 r2 d2 _ (((m5.up hu1).up hu2).up hu3) qq2 hnm).mono ?_); rintro ee u4 ⟨rfl, hu4⟩))
      go_wp2
      go_ret
      exact ⟨rfl, bup (bup (bup (bup m0 hu1) hu2) hu3) hu4⟩
    · have tz : (P != 0) = true := by simp [hz]
      have hpe : ¬ pairErr ⟨n, e, m⟩ ⟨n', e', m'⟩ = 0 := hHP.out ▸ hz
      have h1 := hHR.out.trans (widenO_bad hpe)
      have h2 := hHN.out.trans (narrowO_bad hpe)
      injection h1 with h1 h1' h1''
      injection h2 with h2 h2' h2''
      subst h1 h1' h1'' h2 h2' h2''
      have hhz := hid hz
      clear hz hpe
      have hnil : ∀ w : World, Rd w w.heap.size none [] := fun w k hk => absurd hk (by simp)
      obtain ⟨z0, z1, z2, fz⟩ := octbox k6
      obtain ⟨q0, q1, q2, fq⟩ := octbox k7
      go_wp2_with fail
      refine (oct_self ⟨0, false, []⟩ B1 none r1 0 w10 s1 (hnil _) (by simp)).mono ?_
      rintro ee w11 ⟨rfl, hb11⟩
      replace k7 := k7.later hb11
      replace s2 := s2.up hb11
      clear z0 z1 z2 fz q0 q1 q2 fq
      obtain ⟨q0, q1, q2, fq⟩ := octbox k7
      go_wp2_with fail
      refine (oct_self ⟨0, false, []⟩ B2 none r2 0 w11 s2 (hnil _) (by simp)).mono ?_
      rintro ee w12 ⟨rfl, hb12⟩
      go_wp2
      go_ret
      exact ⟨rfl, bup (bup hbv hb11) hb12⟩
end Go.Proofs.Ytanbplidigokgaa
