import Derived.Test.YtnmpgijiimglcaaGreatBSo17
import Derived.Test.YtnmpgijiimglcaaGreatBSo14
import Derived.Test.YtnmpgijiimglcaaGreatBSo05
import Derived.Shelf.SlIterI.Stops
import Derived.Test.YtnmpgijiimglcaaGreatRows
import Derived.Test.YtnmpgijiimglcaaGreatBSo00
import Derived.OrdersIn
import Derived.TacticsIn
import Derived.RangeFuncCalls
import Derived.RangeFuncNested
import Derived.RangeFuncKeeps
import Derived.Test.YtnmpgijiimglcaaGreatBSo09
import Derived.WalkMore
import Derived.Laws.EntriesVeiled
namespace Go.Proofs.YtnmpgijiimglcaaGreat
section
open Go.RowKit
set_option maxRecDepth 100000
set_option maxHeartbeats 8000000
attribute [local go_sem ↓] Go.wp_at_zero Go.wp_at_succ
def ErrSx (w : World) (B : Nat) (o : O) (er : Int) (e : Ending) (w' : World) : Prop := ∃ A1 c1, e = .returned (.tuple #[.agg #[o.n, o.e, .slice A1 o.m.length c1], er]) ∧ Sx w' B A1 o.m ∧ Below w.heap.size w w'
theorem sx_nil (w : World) (B : Nat) : Sx w B none [] := .inr ⟨0, own_nil w B⟩
end
section

end
section
open Go.RowKit
set_option maxRecDepth 100000
set_option maxHeartbeats 8000000
section
variable {P : Program} {ops : Array Oper} {Q : Exit → Act → World → Prop} {w0 : World}
theorem FlowE.stepF {m k : Nat} {p : Value → World → World → Prop} {sl : List Sp} {o : Oper} {rest : List Oper} {a : Act} {fs : Nat → World → Prop} {iv : Nat → Nat × Nat} (hw : Region.wanted o (yielded ops a.tmps) = true)
  (h : ∀ w, Ext w0 w → (∀ i, reachB .any ops i ops.size k = true → fs i w) → ∀ K : Act → World → Prop, (∀ v w2, Ext w w2 → p v w w2 → K (a.put o.dst v) w2) → o.wp P a w K Never) (hr : ∀ v lo hi, FlowE P ops Q w0 m sl rest (k + 1) (a.put o.dst v) (upd fs k (Sp.fact w0 (Sp.any p) v lo hi)) (updI iv k (lo, hi))) :
  FlowE P ops Q w0 (m + 1) (Sp.any p :: sl) (o :: rest) k a fs iv := by
 unfold FlowE
 exact ⟨.inl ⟨hw, fun w hS hf K hK => h w hS hf K (fun v w2 hx hp => hK _ v w2 rfl hx hp)⟩, fun v lo hi _ => hr v lo hi⟩
end
end
section
open Go.RowKit
set_option maxRecDepth 100000
set_option maxHeartbeats 8000000
section
variable {P : Program} {ops : Array Oper} {Q : Exit → Act → World → Prop} {w0 : World}
theorem FlowE.callG {m k : Nat} {p : Value → World → World → Prop} {sl : List Sp} {o : Oper} {rest : List Oper} {a : Act} {fs : Nat → World → Prop} {iv : Nat → Nat × Nat} (hw : Region.wanted o (yielded ops a.tmps) = true)
  (h : ∀ w, Ext w0 w → (∀ i, reachB .any ops i ops.size k = true → fs i w) → ∃ f args, (execOp a.eval o).run P w = .ok (.enter f args) w ∧ Calls P f args w fun e w2 => ∃ v, e = .returned v ∧ Ext w w2 ∧ p v w w2) (hr : ∀ v lo hi, FlowE P ops Q w0 m sl rest (k + 1) (a.put o.dst v) (upd fs k (Sp.fact w0 (Sp.any p) v lo hi)) (updI iv k (lo, hi))) :
  FlowE P ops Q w0 (m + 1) (Sp.any p :: sl) (o :: rest) k a fs iv :=
 FlowE.stepF hw (fun w hS hf K hK => by
  obtain ⟨f, args, he, hc⟩ := h w hS hf
  unfold Oper.wp; rw [he]
  exact hc.mono fun e w2 ⟨v, he, h1, h2⟩ => by subst he; exact hK _ _ h1 h2) hr
theorem FlowE.callFV {m k : Nat} {x : Value} {sl : List Sp} {o : Oper} {rest : List Oper} {a : Act} {fs : Nat → World → Prop} {iv : Nat → Nat × Nat} (hw : Region.wanted o (yielded ops a.tmps) = true)
  (h : ∀ w, Ext w0 w → (∀ i, reachB .any ops i ops.size k = true → fs i w) → ∃ f args, (execOp a.eval o).run P w = .ok (.enter f args) w ∧ Calls P f args w fun e w2 => e = .returned x ∧ Ext w w2) (hr : ∀ lo hi, FlowE P ops Q w0 m sl rest (k + 1) (a.put o.dst x) (upd fs k (Sp.fact w0 (Sp.val x) x lo hi)) (updI iv k (lo, hi))) :
  FlowE P ops Q w0 (m + 1) (Sp.val x :: sl) (o :: rest) k a fs iv := by
 refine ⟨.inl ⟨hw, fun w1 h1 hf K hK => ?_⟩, fun v lo hi hfit => ?_⟩
 ·obtain ⟨f, args, he, hc⟩ := h w1 h1 hf
  unfold Oper.wp; rw [he]
  exact hc.mono fun e w2 ⟨he2, h2⟩ => by subst he2; exact hK _ x w2 rfl h2 rfl
 ·obtain rfl : v = x := hfit
  exact hr lo hi
theorem FlowE.skip {m k : Nat} {sl : List Sp} {o : Oper} {rest : List Oper} {a : Act} {fs : Nat → World → Prop} {iv : Nat → Nat × Nat} (hw : Region.wanted o (yielded ops a.tmps) = false)
  (hr : ∀ lo hi, FlowE P ops Q w0 m sl rest (k + 1) (a.put o.dst undef) (upd fs k (Sp.fact w0 (Sp.val undef) undef lo hi)) (updI iv k (lo, hi))) :
  FlowE P ops Q w0 (m + 1) (Sp.val undef :: sl) (o :: rest) k a fs iv :=
 ⟨.inr ⟨hw, rfl⟩, fun v lo hi hfit => by
  obtain rfl : v = undef := hfit
  exact hr lo hi⟩
end
end
section

end
section
set_option maxRecDepth 100000
set_option maxHeartbeats 8000000
def wideAt (ro : Option Nat) : Fence := { Fence.wide with round := ro }
@[simp, go_sem] theorem wideAt_round (ro : Option Nat) : (wideAt ro).round = ro := rfl
@[simp, go_sem] theorem wideAt_depth (ro : Option Nat) : (wideAt ro).depth = none := rfl
@[simp, go_sem] theorem wideAt_fn (ro : Option Nat) (f : FuncId) : (wideAt ro).fn f = True := rfl
section
variable {P : Program} {ops : Array Oper} {Q : Exit → Act → World → Prop} {S : World → Prop} {md : Region.Mode} {ro : Option Nat} {n : Nat}
theorem callsIn_at {f : FuncId} {args : Array Value} {w : World} {R : Ending → World → Prop} (h : Calls P f args w R) : CallsIn (wideAt ro) n P f args w R := (callsIn_wide (n := n)).2 h
theorem rowsIn_at {row : String} {args : Array Value} {w : World} {R : Value → World → Prop} (h : Rows P row args w R) : RowsIn (wideAt ro) n P row args w R := fun c cs _ => by
 obtain ⟨v, w', r, s⟩ := h c cs
 exact ⟨v, w', r, stepsIn_wide.2 s⟩
theorem wpIn_of_wp {o : Oper} {a : Act} {w : World} {K : Act → World → Prop} (hd : ∀ c, o.op ≠ .defer c) (h : o.wp P a w K Never) (hQ : ∀ e a w, Never e a w → Q e a w) : o.wpIn (wideAt ro) n P a w K Q := by
 refine ⟨fun _ _ => trivial, ?_⟩
 rw [Oper.semAt_eq _ _ _ hd]
 unfold Oper.wp at h
 generalize (execOp a.eval o).run P w = r at *
 cases r with
 | ok x w' =>
  cases x <;> simp only [Oper.upon, Oper.uponIn] at h ⊢ <;> try exact h
  case enter f args =>
   refine ⟨(fun k => by cases k), callsIn_at (h.mono fun e w'' he => ?_)⟩
   cases e with
   | returned u => exact he
   | panicked c => exact he.elim
   | outgrown => exact he.elim (fun _ h => h.elim (fun _ h => h.elim))
  case row row args => exact ⟨(fun k => by cases k), rowsIn_at h⟩
 | halt x w' =>
  cases x <;> simp only [Oper.upon, Oper.uponIn] at h ⊢
  case panic u => exact hQ _ _ _ h
def noDefer (ops : Array Oper) : Bool := (List.range ops.size).all fun i => match ops[i]? with
 | some o => (match o.op with | .defer _ => false | _ => true)
 | none => true
theorem noDefer_spec (h : noDefer ops = true) {i : Nat} {o : Oper} (hi : ops[i]? = some o) : ∀ c, o.op ≠ .defer c := by
 intro c hc
 have h1 := List.all_eq_true.1 h i (List.mem_range.2 (Array.getElem?_eq_some_iff.1 hi).1)
 simp [hi, hc] at h1
theorem wpAnyI_tail {m : Nat} (hf : ∀ i, i < ops.size → m ≤ i → Region.ready .any ops (pre ops.size i) = [i]) (hend : Region.ready .any ops (pre ops.size ops.size) = []) :
  ∀ (k' k : Nat) (l : List Oper), m ≤ k → k + k' = ops.size → (∀ j, l[j]? = ops[k + j]?) → ∀ (a : Act) (w : World), wpListIn (wideAt ro) n P ops Q l a w → Go.wpAnyIn (wideAt ro) n P .any ops Q k' (pre ops.size k) a w
 | 0, k, l, _, hn, hl, a, w, h => by
  have hk : k = ops.size := by omega
  subst hk
  have : l = [] := by
   cases l with
   | nil => rfl
   | cons o l => have := hl 0; simp at this
  subst this
  exact ⟨hend, h⟩
 | k' + 1, k, l, hmk, hn, hl, a, w, h => by
  have a0 : k < ops.size := by omega
  have hr := hf k a0 hmk
  cases l with
  | nil => have := hl 0; simp [Array.getElem?_eq_getElem a0] at this
  | cons o l =>
   have ho : ops[k]? = some o := by simpa using (hl 0).symm
   have hl' : ∀ j, l[j]? = ops[k + 1 + j]? := fun j => by have := hl (j + 1); simpa [Nat.add_assoc, Nat.add_comm 1 j] using this
   refine ⟨fun h0 => (by rw [hr] at h0; cases h0), fun i hi => ?_⟩
   rw [hr] at hi
   have hik : i = k := by simpa using hi
   subst hik
   rw [pre_set _ _ a0]
   unfold wpListIn at h
   unfold Go.wpOpIn
   simp only [ho]
   split
   ·rename_i hw
    rw [if_pos hw] at h
    exact Oper.wpIn_mono (fun a w => wpAnyI_tail hf hend k' (i + 1) l (by omega) (by omega) hl' a w) h
   ·rename_i hw
    rw [if_neg hw] at h
    exact ⟨h.1, wpAnyI_tail hf hend k' (i + 1) l (by omega) (by omega) hl' _ _ h.2⟩
end
end
section
set_option maxRecDepth 100000
set_option maxHeartbeats 8000000
open Go.RowKit Go.Maps Go.Sort Go.Shelf
theorem one_has {H : Type} (v : Int) (d : DataW H) (kl : Lit) : has (.map [(.int .i64 v, d)]) kl = (Lit.int .i64 v).sameKey kl := by simp [has]
theorem one_same {v x : Int} : (Lit.int .i64 v).sameKey (.int .i64 x) = decide (v = x) := by
 cases h : decide (v = x) with
 | true => have := of_decide_eq_true h; subst this; simp [Lit.sameKey]
 | false => have := of_decide_eq_false h; simp [Lit.sameKey, this]
theorem keys1_one {H : Type} (n : Nat) (hn : 1 ≤ n) (l Bm b nn : Nat) (v : Int) (d : DataW H) {R : Value → Option (DataW H × List MemPlace)} (J Jx : List Unit → World → Prop)
  (hY : ∀ pre x W, J pre W → pre.length < 1 → YieldAt (wideAt none) (n - 1) Tryz.prog l #[.int .i64 v] W fun e W' =>
   (e = .returned (.bool true) ∧ J (pre ++ [x]) W' ∧ KeepsWalks W W') ∨ (e = .returned (.bool false) ∧ Jx (pre ++ [x]) W'))
  (W : World) (hJ : AbidesFrom W.heap.size J) (hm : W.cell? ⟨Bm, 0, none⟩ = some (.map (some b))) (hown : W.ownsMap Tryz.prog 3 R b nn (.map [(.int .i64 v, d)])) (h0 : J [] W) :
  CallsIn (wideAt none) n Tryz.prog 252 #[.func (.yield l) #[] #[], .pointer (some ⟨Bm, 0, none⟩)] W fun e W' => (∃ v, e = .returned v) ∧
   ((∃ ss : List Unit, ss.length = 1 ∧ J ss W') ∨ (∃ pre : List Unit, pre.length = 1 ∧ Jx pre W')) := by
 have a0 : Tryz.prog.underlying 3 = some (.int .i64) := Tryz.underlying3
 refine callsIn_of_wp Tryz.func252 rfl trivial ?_ rfl
 simp only [Tryz.ntmps252, List.size_toArray, List.length_cons, List.length_nil, Nat.reduceAdd, Nat.reduceSub, Array.replicate_succ, Array.replicate_zero, List.push_toArray, List.append_toArray, List.nil_append, List.cons_append]
 gi_wp2_with (first
  | (gi_at_range; refine wpListIn_range_own _ rfl _ 221 rfl 3 220 (int_keyed a0) Tryz.underlying221 _ b nn _ rfl hown ?_; intro w0 a5 hg0 hs0)
  | gi_in)
 go_frame
 gi_loopw [3] (fun _ wr => ∃ (left : Lit → Bool) (cnt : Nat) (ss : List Unit), wr.ranges Tryz.prog 3 R b W.heap.size nn (.map [(.int .i64 v, d)]) left cnt ∧ ss.length + cnt ≤ 1 ∧ (cnt = 0 → ss.length = 1) ∧ (∀ x, left (.int .i64 x) = true → x = v) ∧ J ss wr)
  (fun _ wr => wr.rangeLeft b W.heap.size)
 case atStart =>
  refine ⟨_, _, [], a5, ?_, ?_, ?_, hJ [] W w0 none h0 hg0 (fun r e => by cases e)⟩
  ·simp [Maps.size]
  ·simp [Maps.size]
  ·intro x hx
   rw [one_has, one_same] at hx
   exact (of_decide_eq_true hx).symm
 case round =>
  obtain ⟨left, cnt, ss, a6, hcs, hc1, hl1, hJs⟩ := hrel
  gi_wp2_with (first
   | (gi_at_next; refine wpListIn_next_ranges _ rfl _ rfl 3 (int_keyed a0) R encZ id (fun key kl hk => by obtain ⟨x, hx, _⟩ := Maps.keyOf_i64 a0 hk; exact ⟨x, hx⟩) (fun v _ _ => ⟨v, rfl⟩) b W.heap.size nn _ _ _ rfl a6 ?_ ?_)
   | gi_in)
  ·intro hc0 hl0
   gi_wp2
   go_end0
   exact ⟨⟨_, rfl⟩, .inl ⟨ss, hc1 hc0, hJs⟩⟩
  ·intro x c kl yd yp w2 cnt2 a4 hlk hv hat a3 hlt hg2 hs2 hen
   obtain ⟨x', ex, rfl, _⟩ := Maps.keyOf_i64 a0 a4
   obtain rfl : x = x' := encZ_inj ex
   obtain rfl := hl1 x hlk
   have hJ2 : J ss w2 := hJ ss wr w2 (some W.heap.size) hJs hg2 (fun r e => by cases e; exact ⟨Nat.le_refl _, a6.iter_walk⟩)
   obtain ⟨fn, tmps, assign, body, hy, hR⟩ := hY ss () w2 hJ2 (by omega)
   clear hs2
   gi_wp2
   refine hR.mono ?_
   rintro e W3 (⟨rfl, hJ3, hk3⟩ | ⟨rfl, hJx3⟩)
   ·gi_wp2
    have a2 := a3.of_walks hk3
    go_roundw
    case rel => exact ⟨_, cnt2, ss ++ [()], a2, by simp; omega, fun _ => by rw [List.length_append]; show ss.length + 1 = 1; omega, fun y hy => by simp only [Bool.and_eq_true] at hy; exact hl1 y hy.1, hJ3⟩
    case measure => rw [a2.left_eq, a6.left_eq]; exact hlt
   ·gi_wp2
    refine bodyPost_ret (results_none rfl _ _ _) rfl ?_
    exact ⟨⟨_, rfl⟩, .inr ⟨ss ++ [()], by rw [List.length_append]; show ss.length + 1 = 1; omega, hJx3⟩⟩
theorem keys_one {H : Type} (n : Nat) (hn : 1 ≤ n) (Bm b nn : Nat) (v : Int) (d : DataW H) {R : Value → Option (DataW H × List MemPlace)} (w : World) (hBm : Bm < w.heap.size)
  (hm : w.cell? ⟨Bm, 0, none⟩ = some (.map (some b))) (hown : w.ownsMap Tryz.prog 3 R b nn (.map [(.int .i64 v, d)])) :
  SeqStopsK (wideAt none) n Tryz.prog 252 #[.pointer (some ⟨Bm, 0, none⟩)] (fun _ : Unit => #[.int .i64 v]) KeepsWalks (fun ss => ss.length = 1) (fun pre => pre.length = 1) 1 w := fun l J Jx W hW hJ _ hY h0 => by
 have a1 : W.ownsMap Tryz.prog 3 R b nn (.map [(.int .i64 v, d)]) := by
  have hbl := hown.lt
  obtain ⟨es, clock, hb, Ft, hs, hD⟩ := hown
  exact ⟨es, clock, (hW.block b hbl).trans hb, Ft, hs, hD⟩
 exact keys1_one n hn l Bm b nn v d J Jx hY W hJ ((hW.cell (p := ⟨Bm, 0, none⟩) hBm).trans hm) a1 h0
theorem mkeys_ok (b : Option Nat) (w : World) : Calls Tryz.prog 242 #[.map b] w fun e w' => e = .returned (.func (.func 252) #[] #[.pointer (some ⟨w.heap.size, 0, none⟩)]) ∧ w' = w.alloc (.cells #[.map b] 221) := by
 go_enter Tryz.func242, Tryz.ntmps242
 go_wp2
 go_ret
 exact ⟨rfl, rfl⟩
end
section
set_option maxRecDepth 100000
set_option maxHeartbeats 8000000
section
variable {P : Program} {ops : Array Oper} {Q : Exit → Act → World → Prop} {S : Bool → World → Prop} {S1 S2 : World → Prop} {md : Region.Mode} {j : Nat} {ro : Option Nat} {nf : Nat}
theorem StepM.wpOpIn {i : Nat} {o : Oper} {v : Value} {a : Act} (hi : ops[i]? = some o) (hd : ∀ c, o.op ≠ .defer c) (h : StepM P ops S1 S2 o v a) {K : Act → World → Prop} {w : World} (hS : S1 w)
  (hK : ∀ w2, S2 w2 → K (a.put o.dst v) w2) (hQ : ∀ e a w, Never e a w → Q e a w) : Go.wpOpIn (wideAt ro) nf P ops Q i K a w := by
 unfold Go.wpOpIn
 simp only [hi]
 rcases h with ⟨hw, h⟩ | ⟨hw, rfl, h⟩
 ·simp only [hw, if_true]
  exact wpIn_of_wp hd (h w hS K (fun a2 w2 e k => e ▸ hK w2 k)) hQ
 ·simp only [hw, Bool.false_eq_true, if_false]
  exact ⟨fun _ _ => trivial, hK w (h w hS)⟩
def AnyMI (ro : Option Nat) (nf : Nat) (P : Program) (md : Region.Mode) (ops : Array Oper) (Q : Exit → Act → World → Prop) (S : Bool → World → Prop) (j m : Nat) : Nat → Array Bool → Act → Prop
 | 0, listed, a => earlyDone m listed ∧ ∀ w, S (listed.getD j false) w → wpAnyIn (wideAt ro) nf P md ops Q 0 listed a w
 | fuel + 1, listed, a => (earlyDone m listed ∧ ∀ w, S (listed.getD j false) w → wpAnyIn (wideAt ro) nf P md ops Q (fuel + 1) listed a w) ∨
  (Region.ready md ops listed ≠ [] ∧ ∀ i ∈ Region.ready md ops listed, i < m ∧ ∃ o v, ops[i]? = some o ∧ StepB P md ops S j i o v a ∧ AnyMI ro nf P md ops Q S j m fuel (listed.setIfInBounds i true) (a.put o.dst v))
theorem AnyMI.wpAny (hnd : noDefer ops = true) (hQ : ∀ e a w, Never e a w → Q e a w) {m : Nat} : ∀ (fuel : Nat) (listed : Array Bool) (a : Act), closedL md ops listed → AnyMI ro nf P md ops Q S j m fuel listed a → ∀ w, S (listed.getD j false) w → Go.wpAnyIn (wideAt ro) nf P md ops Q fuel listed a w
 | 0, _, _, _, h, w, hS => h.2 w hS
 | fuel + 1, listed, a, hcl, h, w, hS => by
  rcases h with ⟨_, h⟩ | ⟨hne, h⟩
  ·exact h w hS
  ·refine ⟨fun h0 => absurd h0 hne, fun i hi => ?_⟩
   obtain ⟨_, o, v, ho, a7, a0⟩ := h i hi
   obtain ⟨g1, g2⟩ := ready_getD hi
   have hrc : reachB md ops i ops.size j = true → listed.getD j false = false := fun hr => by
    cases hj : listed.getD j false with
    | false => rfl
    | true =>
     have := reachB_spec hcl _ _ hr (fun oj a3 e he hb => hcl j oj a3 hj e he hb)
     rw [g2] at this; cases this
   refine (a7 _ (fun e => by rw [← e]; exact g2) hrc).wpOpIn ho (noDefer_spec hnd ho) hS (fun w2 hS2 => AnyMI.wpAny hnd hQ fuel _ _ (hcl.set hi) a0 w2 ?_) hQ
   rw [getD_mark g1]; exact hS2
theorem AnyMI.first (hsel : ∀ (j : Nat) (o : Oper) cs b, ops[j]? = some o → o.op ≠ .select cs b) {m : Nat} (htail : tailOk md ops m = true) {i : Nat} {oi : Oper} {v : Value} (hi : ops[i]? = some oi) (him : i < m) :
  ∀ (fuel : Nat) (listed : Array Bool) (a : Act), closedL md ops listed →
   (∀ j oj, ops[j]? = some oj → j ≠ i → listed.getD j true = false → (∀ e ∈ oj.after, Region.binds md e = true → e.on ≠ i) → oi.apart ops oj = true) →
   i ∈ Region.ready md ops listed → StepB P md ops S j i oi v a →
   AnyMI ro nf P md ops Q S j m fuel (listed.setIfInBounds i true) (a.put oi.dst v) → AnyMI ro nf P md ops Q S j m (fuel + 1) listed a := by
 intro fuel
 have early : ∀ (listed : Array Bool) (k : Nat), closedL md ops listed → i ∈ Region.ready md ops listed → k ∈ Region.ready md ops listed → k < m := by
  intro listed k hc hr hk
  rcases Nat.lt_or_ge k m with h | h
  ·exact h
  ·exfalso
   obtain ⟨_, oj, a3, a5⟩ := mem_ready.1 hk
   have hjs : k < ops.size := (Array.getElem?_eq_some_iff.1 a3).1
   have h1 := List.all_eq_true.1 htail k (List.mem_range.2 hjs)
   simp only [Bool.or_eq_true, decide_eq_true_eq] at h1
   have h2 := List.all_eq_true.1 (h1.resolve_left (by omega)) i (List.mem_range.2 him)
   have h3 := reachB_spec hc _ _ h2 (fun o ho e he hb => by rw [a3] at ho; injection ho with ho; subst ho; exact a5 e he hb)
   rw [(ready_getD hr).2] at h3; cases h3
 induction fuel with
 | zero =>
  intro listed a hc a1 hr hy H
  refine .inr ⟨fun h => (by rw [h] at hr; cases hr), fun k hk => ?_⟩
  by_cases hji : k = i
  ·subst hji; exact ⟨him, oi, v, hi, hy, H⟩
  ·exfalso
   have h1 := H.1 k (early listed k hc hr hk)
   rw [getD_set_ne false (Ne.symm hji), (ready_getD hk).2] at h1; cases h1
 | succ fuel ih =>
  intro listed a hc a1 hr hy H
  refine .inr ⟨fun h => (by rw [h] at hr; cases hr), fun k hk => ?_⟩
  by_cases hji : k = i
  ·subst hji; exact ⟨him, oi, v, hi, hy, H⟩
  ·have hjm := early listed k hc hr hk
   rcases H with ⟨hd, _⟩ | ⟨_, H⟩
   ·exfalso
    have h1 := hd k hjm
    rw [getD_set_ne false (Ne.symm hji), (ready_getD hk).2] at h1; cases h1
   ·obtain ⟨_, oj, u, a3, a7, a0⟩ := H k (ready_mono hk hji)
    obtain ⟨a6, oj', a4, a5⟩ := mem_ready.1 hk
    rw [a3] at a4; injection a4 with a4; subst a4
    have b0 : ∀ e ∈ oj.after, Region.binds md e = true → e.on ≠ i := fun e he hb heq => by
     have h1 := a5 e he hb
     rw [heq, (ready_getD hr).2] at h1; cases h1
    obtain ⟨h1, h2, h3⟩ := Oper.apart_spec (a1 k oj a3 hji a6 b0)
    refine ⟨hjm, oj, u, a3, fun b hb hb' => (a7 b hb hb').unputApart (hsel k oj · · a3) _ _ h1, ih _ _ (hc.set hk) ?_ (ready_mono hr (Ne.symm hji)) (fun b hb hb' => (hy b hb hb').putApart (hsel i oi · · hi) _ _ h3) ?_⟩
    ·intro k' ok a8 hki hun hno
     refine a1 k' ok a8 hki ?_ hno
     by_cases hjk : k = k'
     ·subst hjk; exact a6
     ·rw [getD_set_ne true hjk] at hun; exact hun
    ·rw [Array.setIfInBounds_comm _ _ hji, ← Act.put_comm a v u h2]
     exact a0
def FlowMI (ro : Option Nat) (nf : Nat) (P : Program) (ops : Array Oper) (Q : Exit → Act → World → Prop) (S : Bool → World → Prop) (j : Nat) : Nat → Nat → List Oper → Act → Prop
 | 0, _, l, a => ∀ w, S true w → wpListIn (wideAt ro) nf P ops Q l a w
 | _ + 1, _, [], a => ∀ w, S true w → Q .normal a w
 | m + 1, k, o :: rest, a => ∃ v, StepB P .any ops S j k o v a ∧ FlowMI ro nf P ops Q S j m (k + 1) rest (a.put o.dst v)
theorem FlowMI.anyMII {m0 : Nat} (hsel : ∀ (j : Nat) (o : Oper) cs b, ops[j]? = some o → o.op ≠ .select cs b) (htail : tailOk .any ops m0 = true) (hm0 : m0 ≤ ops.size) (hj : j < m0)
  (hr : ∀ i, i < m0 → i ∈ Region.ready .any ops (pre ops.size i)) (hfr : ∀ i, i < m0 → Region.free .any ops (pre ops.size i) i = true)
  (hf : ∀ i, i < ops.size → m0 ≤ i → Region.ready .any ops (pre ops.size i) = [i]) (hend : Region.ready .any ops (pre ops.size ops.size) = []) :
  ∀ (m k : Nat) (l : List Oper), k + m = m0 → closedL .any ops (pre ops.size k) → (∀ j, l[j]? = ops[k + j]?) → ∀ (a : Act), FlowMI ro nf P ops Q S j m k l a → AnyMI ro nf P .any ops Q S j m0 (ops.size - k) (pre ops.size k) a
 | 0, k, l, hk, _, hl, a, h => by
  have a8 : k = m0 := by omega
  subst a8
  have he : earlyDone k (pre ops.size k) := fun i hi => by rw [pre_getD _ _ _ _ (by omega) (by omega)]; simpa using hi
  have hjt : (pre ops.size k).getD j false = true := he j hj
  have h1 : ∀ w, S ((pre ops.size k).getD j false) w → Go.wpAnyIn (wideAt ro) nf P .any ops Q (ops.size - k) (pre ops.size k) a w := fun w hS => wpAnyI_tail hf hend _ _ l (Nat.le_refl _) (by omega) hl a w (h w (by rw [hjt] at hS; exact hS))
  generalize hn : ops.size - k = n at h1
  cases n with
  | zero => exact ⟨he, h1⟩
  | succ n => exact .inl ⟨he, h1⟩
 | m + 1, k, l, hk, hc, hl, a, h => by
  have a9 : k < ops.size := by omega
  cases l with
  | nil => have := hl 0; simp [Array.getElem?_eq_getElem a9] at this
  | cons o l =>
   have ho : ops[k]? = some o := by simpa using (hl 0).symm
   have hl' : ∀ j, l[j]? = ops[k + 1 + j]? := fun j => by have := hl (j + 1); simpa [Nat.add_assoc, Nat.add_comm 1 j] using this
   obtain ⟨v, a7, a0⟩ := h
   have hn : ops.size - k = (ops.size - (k + 1)) + 1 := by omega
   rw [hn]
   refine AnyMI.first hsel htail ho (by omega) _ _ _ hc (Region.free_spec ho (hfr k (by omega))) (hr k (by omega)) a7 ?_
   rw [pre_set _ _ a9]
   refine FlowMI.anyMII hsel htail hm0 hj hr hfr hf hend m (k + 1) l (by omega) ?_ hl' _ a0
   rw [← pre_set _ _ a9]
   exact hc.set (hr k (by omega))
theorem wpIn_region_flowMI {id : Nat} {l : List Oper} {a : Act} {w : World} (m j : Nat) (S : Bool → World → Prop) (hm : P.follows .mixedOrders = true) (hc : flowOk l.toArray m = true) (hnd : noDefer l.toArray = true) (hj : (j < m)) (hS : S false w.drew)
  (h : FlowMI ro nf P l.toArray Q S j m 0 l a) : (Code.region id l.toArray true).wpIn (wideAt ro) nf P Q a w := by
 simp only [flowOk, Bool.and_eq_true, decide_eq_true_eq, beq_iff_eq, List.all_eq_true, List.mem_range] at hc
 obtain ⟨⟨⟨⟨⟨c1, c2⟩, c3⟩, c4⟩, c5⟩, c6⟩ := hc
 have hQ : ∀ e a w, Never e a w → Q e a w := fun _ _ _ h => (h : False).elim
 refine wpIn_region_any hm ?_
 have hp : Array.replicate l.toArray.size false = pre l.toArray.size 0 := by simp [pre, ← List.toArray_replicate]
 rw [hp]
 have hr : ∀ i, i < m → i ∈ Region.ready .any l.toArray (pre l.toArray.size i) := fun i hi => by simpa using (c4 i hi).1
 refine AnyMI.wpAny hnd hQ _ _ _ ?_ (FlowMI.anyMII (m0 := m) (k := 0) (Region.noSelect_spec c1) c3 c2 hj hr (fun i hi => (c4 i hi).2) ?_ c6 m l (by omega) ?_ (by simp) a h) w.drew ?_
 rotate_left
 ·intro i hi hmi
  have := c5 (i - m) (by omega)
  rwa [show m + (i - m) = i by omega] at this
 ·intro k o _ hk
  exfalso
  rcases Nat.lt_or_ge k l.toArray.size with h' | h'
  ·rw [pre_getD _ _ _ _ (by omega) h'] at hk; simp at hk
  ·rw [Array.getD, dif_neg (by rw [pre_size _ _ (by omega)]; omega)] at hk; cases hk
 ·rw [pre_getD _ _ _ _ (by omega) (by omega)]; simpa using hS
 ·intro k o _ hk
  exfalso
  rcases Nat.lt_or_ge k l.toArray.size with h' | h'
  ·rw [pre_getD _ _ _ _ (by omega) h'] at hk; simp at hk
  ·rw [Array.getD, dif_neg (by rw [pre_size _ _ (by omega)]; omega)] at hk; cases hk
theorem FlowMI.quiet {m k : Nat} {o : Oper} {rest : List Oper} {a : Act} (v : Value) (hk : (k == j) = false) (hw : Region.wanted o (yielded ops a.tmps) = true) (h : ∀ w, AnyB S w → (execOp a.eval o).run P w = .ok (.value v) w) (hr : FlowMI ro nf P ops Q S j m (k + 1) rest (a.put o.dst v)) :
  FlowMI ro nf P ops Q S j (m + 1) k (o :: rest) a :=
 ⟨v, fun b _ _ => .inl ⟨hw, fun w hS K hK => by rw [hk, Bool.or_false] at hK; unfold Oper.wp; rw [h w ⟨b, hS⟩]; exact hK _ _ rfl hS⟩, hr⟩
theorem FlowMI.take {m k : Nat} {o : Oper} {rest : List Oper} {a : Act} (v : Value) (hk : (k == j) = false) (hw : Region.wanted o (yielded ops a.tmps) = true) (h : ∀ w, AnyB S w → ∀ R : Value → Prop, R v → Yl R w ((execOp a.eval o).run P w)) (hr : FlowMI ro nf P ops Q S j m (k + 1) rest (a.put o.dst v)) :
  FlowMI ro nf P ops Q S j (m + 1) k (o :: rest) a :=
 FlowMI.quiet v hk hw (fun w hS => by
  have h1 := h w hS (fun x => x = v) rfl
  generalize (execOp a.eval o).run P w = r at *
  cases r with
  | ok n w' =>
   cases n with
   | value x => obtain ⟨e1, e2⟩ := h1; subst e1; subst e2; rfl
   | _ => exact h1.elim
  | halt x w' => exact h1.elim) hr
theorem FlowMI.skip {m k : Nat} {o : Oper} {rest : List Oper} {a : Act} (hk : (k == j) = false) (hw : Region.wanted o (yielded ops a.tmps) = false) (hr : FlowMI ro nf P ops Q S j m (k + 1) rest (a.put o.dst undef)) :
  FlowMI ro nf P ops Q S j (m + 1) k (o :: rest) a :=
 ⟨undef, fun b _ _ => .inr ⟨hw, rfl, fun w hS => by rw [hk, Bool.or_false]; exact hS⟩, hr⟩
theorem FlowMI.mark {m k : Nat} {o : Oper} {rest : List Oper} {a : Act} (hk : (k == j) = true) (hd : o.dst = none) (hw : Region.wanted o (yielded ops a.tmps) = true)
  (h : ∀ w, S false w → ∀ R : World → Prop, (∀ w2, S true w2 → R w2) → YlM R ((execOp a.eval o).run P w)) (hr : FlowMI ro nf P ops Q S j m (k + 1) rest a) :
  FlowMI ro nf P ops Q S j (m + 1) k (o :: rest) a :=
 ⟨undef, fun b hb _ => .inl ⟨hw, fun w hS K hK => by
  obtain rfl := hb (by simpa using hk)
  rw [hk] at hK
  have h1 := h w hS (S true) (fun _ k => k)
  unfold Oper.wp
  generalize (execOp a.eval o).run P w = r at *
  cases r with
  | ok n w' =>
   cases n with
   | value x => exact hK _ _ (by rw [hd]; rfl) h1
   | skip => exact hK _ _ rfl h1
   | _ => exact h1.elim
  | halt x w' => exact h1.elim⟩, by rw [hd]; exact hr⟩
end
end
section
open Go.RowKit
set_option maxRecDepth 100000
set_option maxHeartbeats 8000000
theorem G_ext {N : Nat} {xs ys : List Int} (h1 : xs.length = N * N) (h2 : ys.length = N * N) (h : ∀ a b : Nat, a < N → b < N → G N xs a b = G N ys a b) : xs = ys := by
 refine List.ext_getElem (by rw [h1, h2]) fun i q1 q2 => ?_
 have hN : 0 < N := by
  rcases Nat.eq_zero_or_pos N with e | e
  ·subst e; simp at h1; subst h1; simp at q1
  ·exact e
 have hi : i < N * N := by omega
 have := h (i / N) (i % N) (Nat.div_lt_of_lt_mul hi) (Nat.mod_lt _ hN)
 unfold G gI at this
 rw [Nat.div_add_mod' i N, Int.toNat_natCast] at this
 simpa [List.getD, q1, q2] using this
end
section
open Go.RowKit
set_option maxRecDepth 100000
set_option maxHeartbeats 8000000
def fStep (N i j : Nat) (m : List Int) : List Int := if i = j then m else (m.set (i * N + j) 9223372036854775807).set (j * N + i) 9223372036854775807
def fRow (N v i : Nat) (m : List Int) : List Int := fStep N i (2 * v + 1) (fStep N i (2 * v) m)
def fAll (N v : Nat) : Nat → List Int → List Int
 | 0, m => m
 | k + 1, m => fRow N v k (fAll N v k m)
theorem fStep_len (N i j : Nat) (m : List Int) : (fStep N i j m).length = m.length := by unfold fStep; split <;> simp
theorem fRow_len (N v i : Nat) (m : List Int) : (fRow N v i m).length = m.length := by unfold fRow; rw [fStep_len, fStep_len]
theorem fAll_len (N v : Nat) (m : List Int) : ∀ k, (fAll N v k m).length = m.length
 | 0 => rfl
 | k + 1 => by unfold fAll; rw [fRow_len, fAll_len N v m k]
theorem pos_eq {N a b i j : Nat} (hb : b < N) (hj : j < N) : a * N + b = i * N + j ↔ a = i ∧ b = j := by
 constructor
 ·intro h
  have h1 := congrArg (· / N) h
  have h2 := congrArg (· % N) h
  simp only [at_div hb, at_div hj, at_mod hb, at_mod hj] at h1 h2
  exact ⟨h1, h2⟩
 ·rintro ⟨rfl, rfl⟩; rfl
theorem pos_lt {N i j : Nat} (hi : i < N) (hj : j < N) : i * N + j < N * N := by
 have : (i + 1) * N ≤ N * N := Nat.mul_le_mul_right _ hi
 rw [Nat.succ_mul] at this; omega
theorem fset_G {N : Nat} {m : List Int} (hl : m.length = N * N) {i j a b : Nat} (hi : i < N) (hj : j < N) (hb : b < N) (x : Int) : G N (m.set (i * N + j) x) a b = if a = i ∧ b = j then x else G N m a b := by
 unfold G
 rw [gI_set]
 have := pos_lt hi hj
 by_cases h : a = i ∧ b = j
 ·rw [if_pos h, if_pos ⟨(pos_eq hb hj).2 h, by omega⟩]
 ·rw [if_neg h, if_neg (fun k => h ((pos_eq hb hj).1 k.1))]
theorem fStep_G {N : Nat} {m : List Int} (hl : m.length = N * N) {i j a b : Nat} (hi : i < N) (hj : j < N) (_ha : a < N) (hb : b < N) : G N (fStep N i j m) a b = if i ≠ j ∧ ((a = i ∧ b = j) ∨ (a = j ∧ b = i)) then 9223372036854775807 else G N m a b := by
 unfold fStep
 by_cases h : i = j
 ·rw [if_pos h, if_neg (fun k => k.1 h)]
 ·rw [if_neg h, fset_G (by simpa using hl) hj hi hb, fset_G hl hi hj hb]
  by_cases h1 : a = j ∧ b = i
  ·rw [if_pos h1, if_pos ⟨h, .inr h1⟩]
  ·rw [if_neg h1]
   by_cases h2 : a = i ∧ b = j
   ·rw [if_pos h2, if_pos ⟨h, .inl h2⟩]
   ·rw [if_neg h2, if_neg (fun k => k.2.elim h2 h1)]
theorem fAll_G {N v : Nat} {m : List Int} (hl : m.length = N * N) (hv : 2 * v + 1 < N) {a b : Nat} (ha : a < N) (hb : b < N) : ∀ k, k ≤ N → G N (fAll N v k m) a b = if a ≠ b ∧ ((b / 2 = v ∧ a < k) ∨ (a / 2 = v ∧ b < k)) then 9223372036854775807 else G N m a b
 | 0, _ => by rw [if_neg (by omega)]; rfl
 | k + 1, hk => by
  unfold fAll fRow
  rw [fStep_G (by rw [fStep_len, fAll_len]; exact hl) (by omega) hv ha hb, fStep_G (by rw [fAll_len]; exact hl) (by omega) (by omega) ha hb, fAll_G hl hv ha hb k (by omega)]
  by_cases h : a ≠ b ∧ ((b / 2 = v ∧ a < k + 1) ∨ (a / 2 = v ∧ b < k + 1))
  ·rw [if_pos h]
   by_cases h0 : a ≠ b ∧ ((b / 2 = v ∧ a < k) ∨ (a / 2 = v ∧ b < k))
   ·simp [h0]
   ·rw [if_neg h0]
    by_cases h1 : k ≠ 2 * v + 1 ∧ ((a = k ∧ b = 2 * v + 1) ∨ (a = 2 * v + 1 ∧ b = k))
    ·rw [if_pos h1]
    ·rw [if_neg h1, if_pos (by omega)]
  ·rw [if_neg h, if_neg (by omega), if_neg (by omega), if_neg (by omega)]
theorem fAll_forget {N v : Nat} {m : List Int} (hl : m.length = N * N) (hv : 2 * v + 1 < N) : fAll N v N m = forgetM N v m := by
 refine G_ext (by rw [fAll_len]; exact hl) (by rw [forgetM_len]; exact hl) fun a b ha hb => ?_
 rw [fAll_G hl hv ha hb N (Nat.le_refl _), forgetM_G hl ha hb]
 by_cases h : a ≠ b ∧ (a / 2 = v ∨ b / 2 = v)
 ·rw [if_pos h, if_pos (by omega)]
 ·rw [if_neg h, if_neg (by omega)]
def fPart (N v i : Nat) : Nat → List Int → List Int
 | 0, m => m
 | 1, m => fStep N i (2 * v) m
 | _, m => fRow N v i m
theorem fPart_len (N v i k : Nat) (m : List Int) : (fPart N v i k m).length = m.length := by
 unfold fPart; split
 ·rfl
 ·rw [fStep_len]
 ·rw [fRow_len]
end
section
open Go.RowKit
set_option maxRecDepth 100000
set_option maxHeartbeats 8000000
attribute [local go_sem] Oper.semAt_some
theorem name_act {P : Program} {F : Fence} {n : Nat} {c : Code} {Q : Exit → Act → World → Prop} {a : Act} {w : World} (h : ∀ a0 : Act, a0 = a → c.wpIn F n P Q a0 w) : c.wpIn F n P Q a w := h a rfl
section
variable {W W' : World} {row : Option Nat} {g base cap : Nat} {t : TypeId} {cs : Array Value} {A : Option Addr} {m : List Int}
theorem blk_kept (h : Blk W g t cs) (hg : W.grownBy W' row) (hr : ∀ r, row = some r → ∃ o : Obj, W.heap[r]? = some o ∧ o.isCells = false) : Blk W' g t cs :=
 (hg.block g h.lt (fun e => by
  obtain ⟨o, ho, hc⟩ := hr g e.symm
  unfold Blk at h
  rw [h] at ho; injection ho with ho; subst ho; cases hc)).trans h
theorem own_kept (h : Own W base A cap m) (hg : W.grownBy W' row) (hr : ∀ r, row = some r → ∃ o : Obj, W.heap[r]? = some o ∧ o.isCells = false) : Own W' base A cap m := by
 refine h.grown hg ?_
 rcases h.2 with ⟨h0, _⟩ | ⟨g', cap', cur, h1, _, h3, _⟩
 ·injection h0 with h0; subst h0; exact .inl rfl
 ·injection h1 with h1; subst h1
  refine .inr fun e => ?_
  simp only [Value.ownBlock] at e
  obtain ⟨o, ho, hc⟩ := hr g' e.symm
  rw [h3] at ho; injection ho with ho; subst ho; cases hc
theorem keeps_of {B : Nat} (h : Below W.heap.size W W') : KeepsFrom B W W' := KeepsFrom.of_grownBy (grown_of_below h none) (fun j e => by cases e)
theorem heap3 {v0 v1 v2 : Value} {D : Nat} {o : Obj} (h : W.heap[D]? = some o) (hc : o.isCells = false) : (((W.setCell ⟨g, 0, none⟩ v0).setCell ⟨g, 1, none⟩ v1).setCell ⟨g, 2, none⟩ v2).heap[D]? = some o :=
 (((KeepsOthers.setCell W _ _).trans (KeepsOthers.setCell _ _ _)).trans (KeepsOthers.setCell _ _ _)).same D o h hc
end
theorem Blk.stay {W W' : World} {row : Option Nat} {g : Nat} {t : TypeId} {cs : Array Value} (h : Blk W g t cs) (hg : W.grownBy W' row) (hne : some g ≠ row) : Blk W' g t cs := (hg.block g h.lt hne).trans h
theorem own_cells {W : World} {base cap g : Nat} {m : List Int} (h : Own W base (some ⟨g, 0, none⟩) cap m) {o : Obj} (ho : W.heap[g]? = some o) : o.isWalk = false := by
 rcases h.2 with ⟨h0, _⟩ | ⟨g', cap', cur, h1, _, h3, _⟩
 ·cases h0
 ·injection h1 with h1
  injection h1 with h1
  injection h1 with h1
  subst h1
  rw [h3] at ho; injection ho with ho; subst ho; rfl
theorem own_not {W : World} {base cap b : Nat} {A : Option Addr} {m : List Int} (h : Own W base A cap m) (hb : ∀ g, A = some ⟨g, 0, none⟩ → g ≠ b) : (Value.slice A m.length cap).ownBlock = none ∨ (Value.slice A m.length cap).ownBlock ≠ some b := by
 rcases h.form with ⟨rfl, _⟩ | ⟨g, rfl, _⟩
 ·exact .inl rfl
 ·refine .inr fun e => hb g rfl ?_
  simpa [Value.ownBlock] using e
theorem fold1 (p1 : Nat) (v1 : Value) (T : Array Value) : ((#[p1] : Array Nat).zip #[v1]).foldl (fun t (x : Nat × Value) => t.setIfInBounds x.1 x.2) T = T.setIfInBounds p1 v1 := by
 rw [← Array.foldl_toList]; simp
end
end Go.Proofs.YtnmpgijiimglcaaGreat
