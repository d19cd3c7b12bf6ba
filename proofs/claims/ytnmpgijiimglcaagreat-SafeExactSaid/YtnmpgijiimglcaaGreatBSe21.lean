import Derived.Test.YtnmpgijiimglcaaGreatBSe20
import Derived.Test.YtnmpgijiimglcaaGreatBSe17
import Derived.Test.YtnmpgijiimglcaaGreatBSe06
import Derived.Shelf.SlIterI.Stops
import Derived.Test.YtnmpgijiimglcaaGreatRows
import Derived.Test.YtnmpgijiimglcaaGreatBSe01
import Derived.OrdersIn
import Derived.TacticsIn
import Derived.RangeFuncCalls
import Derived.RangeFuncNested
import Derived.RangeFuncKeeps
import Derived.Test.YtnmpgijiimglcaaGreatBSe08
import Derived.Test.YtnmpgijiimglcaaGreatBSe11
import Derived.WalkMore
import Derived.Laws.EntriesVeiled
namespace Go.Proofs.YtnmpgijiimglcaaGreat
set_option maxRecDepth 100000
set_option maxHeartbeats 8000000
section
open Go.RowKit
attribute [local go_sem ↓] Go.wp_at_zero Go.wp_at_succ
def zcX (w : World) (B : Nat) (o : O) (er : Int) (e : Ending) (w' : World) : Prop := ∃ A1 c1, e = .returned (.tuple #[.agg #[o.n, o.e, .slice A1 o.m.length c1], er]) ∧ Sx w' B A1 o.m ∧ Below w.heap.size w w'
theorem zkm (w : World) (B : Nat) : Sx w B none [] := .inr ⟨0, zbA w B⟩
end
section
open Go.RowKit
attribute [local go_sem ↓] Go.wp_at_zero Go.wp_at_succ
def zlD (w : World) (o : O) (e : Ending) (w' : World) : Prop := ∃ A1 c1 s, e = .returned (.tuple #[.agg #[o.n, o.e, .slice A1 o.m.length c1], .bool s, .int .i64 0]) ∧ Own w' w.heap.size A1 c1 o.m ∧ Below w.heap.size w w'
theorem zdK (o : O) (A : Option Addr) (c : Nat) (w : World) (hx : Rd w w.heap.size A o.m) (hm : o.m.length ≤ 17592186044416) (hk : check o = 0) :
  Calls Tryz.prog 62 #[.agg #[o.n, o.e, .slice A o.m.length c]] w (zlD w (closeO o)) := by
 have a1 : Below w.heap.size w ((w.alloc (Obj.cells #[o.n, o.e, .slice A o.m.length c] 24)).alloc (Obj.cells #[.int .i64 0, false, .slice none 0 0] 24)) := ((Below.refl _ _).alloc (Nat.le_refl _) _).alloc (by simp) _
 obtain ⟨p0, p1⟩ := zdb (w := w) (Below.refl _ ((w.alloc (Obj.cells #[o.n, o.e, .slice A o.m.length c] 24)).alloc (Obj.cells #[.int .i64 0, false, .slice none 0 0] 24)))
 have HC := hid (zd7 o A c _ (hx.up a1) (by omega))
 have HK := hid hk
 have hx0 := hx.up a1
 have hle := a1.size
 clear hk
 go_enter Tryz.func62, Tryz.ntmps62
 go_wp2_with fail
 refine HC.out.mono ?_
 clear HC
 rw [HK.out]
 generalize (w.alloc (Obj.cells #[o.n, o.e, .slice A o.m.length c] 24)).alloc (Obj.cells #[.int .i64 0, false, .slice none 0 0] 24) = w0 at *
 rintro e1 w1 ⟨rfl, a2⟩
 replace p0 := p0.later a2
 replace p1 := p1.later a2
 replace a1 := bup a1 a2
 have HR := hid (zbi o A c w1 (hx0.up a2) hm HK.out)
 generalize closeO o = q at *
 obtain ⟨qn, qe, qm⟩ := q
 dsimp only at *
 have hw1 := a2.size
 clear a2
 have x0 := zaa p0
 go_wp2_with fail
 clear x0
 refine HR.out.mono ?_
 clear HR
 rintro e2 w2 ⟨A2, c2, s2, rfl, a0, hb2⟩
 dsimp only at a0 ⊢
 have n3 := new1 w2 (Obj.cells #[qn, qe, .slice A2 qm.length c2] 24)
 have k3 := Blk.new w2 24 #[qn, qe, .slice A2 qm.length c2]
 replace a0 := a0.below n3
 replace p1 := p1.later (bup hb2 n3)
 replace a1 := bup a1 (bup hb2 n3)
 have x0 := zaa k3
 have y0 := zaa p1
 go_wp2
 clear x0 y0
 have q3 := p1.set3 (v0 := .int .i64 qn) (v1 := .bool qe) (v2 := .slice A2 qm.length c2)
 have hne := zan a0 p1 (by decide)
 have o3 := a0.far3 (g := w.heap.size + 1) (v0 := .int .i64 qn) (v1 := .bool qe) (v2 := .slice A2 qm.length c2) hne
 obtain ⟨z0, z1, z2, fz⟩ := zaa q3
 refine bodyPost_ret (v := .tuple #[.agg #[qn, qe, .slice A2 qm.length c2], s2, .int .i64 0]) (by simp [results, Tryz.results62, go_sem, z0, z1, z2]) rfl ⟨A2, c2, s2, rfl, o3.less (by omega), a1.trans (zah (by omega) a1.size)⟩
def steadyB (o : O) : Bool := eqO (closeO o) (closeO (closeO o))
end
section
open Go.RowKit
section
variable {P : Program} {ops : Array Oper} {Q : Exit → Act → World → Prop} {w0 : World}
theorem zaf.stepF {m k : Nat} {p : Value → World → World → Prop} {sl : List Sp} {o : Oper} {rest : List Oper} {a : Act} {fs : Nat → World → Prop} {iv : Nat → Nat × Nat} (hw : Region.wanted o (yielded ops a.tmps) = true)
  (h : ∀ w, Ext w0 w → (∀ i, zbx .any ops i ops.size k = true → fs i w) → ∀ K : Act → World → Prop, (∀ v w2, Ext w w2 → p v w w2 → K (a.put o.dst v) w2) → o.wp P a w K zb0) (hr : ∀ v lo hi, zaf P ops Q w0 m sl rest (k + 1) (a.put o.dst v) (upd fs k (Sp.fact w0 (Sp.any p) v lo hi)) (updI iv k (lo, hi))) :
  zaf P ops Q w0 (m + 1) (Sp.any p :: sl) (o :: rest) k a fs iv := by
 unfold zaf
 exact ⟨.inl ⟨hw, fun w hS hf K hK => h w hS hf K (fun v w2 hx hp => hK _ v w2 rfl hx hp)⟩, fun v lo hi _ => hr v lo hi⟩
end
end
section
open Go.RowKit
section
variable {P : Program} {ops : Array Oper} {Q : Exit → Act → World → Prop} {w0 : World}
theorem zaf.callG {m k : Nat} {p : Value → World → World → Prop} {sl : List Sp} {o : Oper} {rest : List Oper} {a : Act} {fs : Nat → World → Prop} {iv : Nat → Nat × Nat} (hw : Region.wanted o (yielded ops a.tmps) = true)
  (h : ∀ w, Ext w0 w → (∀ i, zbx .any ops i ops.size k = true → fs i w) → ∃ f args, (execOp a.eval o).run P w = .ok (.enter f args) w ∧ Calls P f args w fun e w2 => ∃ v, e = .returned v ∧ Ext w w2 ∧ p v w w2) (hr : ∀ v lo hi, zaf P ops Q w0 m sl rest (k + 1) (a.put o.dst v) (upd fs k (Sp.fact w0 (Sp.any p) v lo hi)) (updI iv k (lo, hi))) :
  zaf P ops Q w0 (m + 1) (Sp.any p :: sl) (o :: rest) k a fs iv :=
 zaf.stepF hw (fun w hS hf K hK => by
  obtain ⟨f, args, he, hc⟩ := h w hS hf
  unfold Oper.wp; rw [he]
  exact hc.mono fun e w2 ⟨v, he, h1, h2⟩ => by subst he; exact hK _ _ h1 h2) hr
theorem zaf.callFV {m k : Nat} {x : Value} {sl : List Sp} {o : Oper} {rest : List Oper} {a : Act} {fs : Nat → World → Prop} {iv : Nat → Nat × Nat} (hw : Region.wanted o (yielded ops a.tmps) = true)
  (h : ∀ w, Ext w0 w → (∀ i, zbx .any ops i ops.size k = true → fs i w) → ∃ f args, (execOp a.eval o).run P w = .ok (.enter f args) w ∧ Calls P f args w fun e w2 => e = .returned x ∧ Ext w w2) (hr : ∀ lo hi, zaf P ops Q w0 m sl rest (k + 1) (a.put o.dst x) (upd fs k (Sp.fact w0 (Sp.val x) x lo hi)) (updI iv k (lo, hi))) :
  zaf P ops Q w0 (m + 1) (Sp.val x :: sl) (o :: rest) k a fs iv := by
 refine ⟨.inl ⟨hw, fun w1 h1 hf K hK => ?_⟩, fun v lo hi hfit => ?_⟩
 ·obtain ⟨f, args, he, hc⟩ := h w1 h1 hf
  unfold Oper.wp; rw [he]
  exact hc.mono fun e w2 ⟨he2, h2⟩ => by subst he2; exact hK _ x w2 rfl h2 rfl
 ·obtain rfl : v = x := hfit
  exact hr lo hi
theorem zaf.skip {m k : Nat} {sl : List Sp} {o : Oper} {rest : List Oper} {a : Act} {fs : Nat → World → Prop} {iv : Nat → Nat × Nat} (hw : Region.wanted o (yielded ops a.tmps) = false)
  (hr : ∀ lo hi, zaf P ops Q w0 m sl rest (k + 1) (a.put o.dst undef) (upd fs k (Sp.fact w0 (Sp.val undef) undef lo hi)) (updI iv k (lo, hi))) :
  zaf P ops Q w0 (m + 1) (Sp.val undef :: sl) (o :: rest) k a fs iv :=
 ⟨.inr ⟨hw, rfl⟩, fun v lo hi hfit => by
  obtain rfl : v = undef := hfit
  exact hr lo hi⟩
end
end
section

end
section
def zbm (ro : Option Nat) : Fence := { Fence.wide with round := ro }
@[simp, go_sem] theorem wideAt_round (ro : Option Nat) : (zbm ro).round = ro := rfl
@[simp, go_sem] theorem wideAt_depth (ro : Option Nat) : (zbm ro).depth = none := rfl
@[simp, go_sem] theorem wideAt_fn (ro : Option Nat) (f : FuncId) : (zbm ro).fn f = True := rfl
section
variable {P : Program} {ops : Array Oper} {Q : Exit → Act → World → Prop} {S : World → Prop} {md : Region.Mode} {ro : Option Nat} {n : Nat}
theorem zec {f : FuncId} {args : Array Value} {w : World} {R : Ending → World → Prop} (h : Calls P f args w R) : CallsIn (zbm ro) n P f args w R := (callsIn_wide (n := n)).2 h
theorem zhS {row : String} {args : Array Value} {w : World} {R : Value → World → Prop} (h : Rows P row args w R) : RowsIn (zbm ro) n P row args w R := fun c cs _ => by
 obtain ⟨v, w', r, s⟩ := h c cs
 exact ⟨v, w', r, stepsIn_wide.2 s⟩
theorem zgL {o : Oper} {a : Act} {w : World} {K : Act → World → Prop} (hd : ∀ c, o.op ≠ .defer c) (h : o.wp P a w K zb0) (hQ : ∀ e a w, zb0 e a w → Q e a w) : o.wpIn (zbm ro) n P a w K Q := by
 refine ⟨fun _ _ => trivial, ?_⟩
 rw [Oper.semAt_eq _ _ _ hd]
 unfold Oper.wp at h
 generalize (execOp a.eval o).run P w = r at *
 cases r with
 | ok x w' =>
  cases x <;> simp only [Oper.upon, Oper.uponIn] at h ⊢ <;> try exact h
  case enter f args =>
   refine ⟨(fun k => by cases k), zec (h.mono fun e w'' he => ?_)⟩
   cases e with
   | returned u => exact he
   | panicked c => exact he.elim
   | outgrown => exact he.elim (fun _ h => h.elim (fun _ h => h.elim))
  case row row args => exact ⟨(fun k => by cases k), zhS h⟩
 | halt x w' =>
  cases x <;> simp only [Oper.upon, Oper.uponIn] at h ⊢
  case panic u => exact hQ _ _ _ h
def zfM (ops : Array Oper) : Bool := (List.range ops.size).all fun i => match ops[i]? with
 | some o => (match o.op with | .defer _ => false | _ => true)
 | none => true
theorem ze3 (h : zfM ops = true) {i : Nat} {o : Oper} (hi : ops[i]? = some o) : ∀ c, o.op ≠ .defer c := by
 intro c hc
 have h1 := List.all_eq_true.1 h i (List.mem_range.2 (Array.getElem?_eq_some_iff.1 hi).1)
 simp [hi, hc] at h1
theorem zcz {m : Nat} (hf : ∀ i, i < ops.size → m ≤ i → Region.ready .any ops (pre ops.size i) = [i]) (hend : Region.ready .any ops (pre ops.size ops.size) = []) :
  ∀ (k' k : Nat) (l : List Oper), m ≤ k → k + k' = ops.size → (∀ j, l[j]? = ops[k + j]?) → ∀ (a : Act) (w : World), wpListIn (zbm ro) n P ops Q l a w → Go.wpAnyIn (zbm ro) n P .any ops Q k' (pre ops.size k) a w
 | 0, k, l, _, hn, hl, a, w, h => by
  have hk : k = ops.size := by omega
  subst hk
  have : l = [] := by
   cases l with
   | nil => rfl
   | cons o l => have := hl 0; simp at this
  subst this
  exact ⟨hend, h⟩
 | k' + 1, k, l, hmk, hn, hl, a, w, h => by
  have a0 : k < ops.size := by omega
  have hr := hf k a0 hmk
  cases l with
  | nil => have := hl 0; simp [Array.getElem?_eq_getElem a0] at this
  | cons o l =>
   have ho : ops[k]? = some o := by simpa using (hl 0).symm
   have hl' : ∀ j, l[j]? = ops[k + 1 + j]? := fun j => by have := hl (j + 1); simpa [Nat.add_assoc, Nat.add_comm 1 j] using this
   refine ⟨fun h0 => (by rw [hr] at h0; cases h0), fun i hi => ?_⟩
   rw [hr] at hi
   have hik : i = k := by simpa using hi
   subst hik
   rw [zbT _ _ a0]
   unfold wpListIn at h
   unfold Go.wpOpIn
   simp only [ho]
   split
   ·rename_i hw
    rw [if_pos hw] at h
    exact Oper.wpIn_mono (fun a w => zcz hf hend k' (i + 1) l (by omega) (by omega) hl' a w) h
   ·rename_i hw
    rw [if_neg hw] at h
    exact ⟨h.1, zcz hf hend k' (i + 1) l (by omega) (by omega) hl' _ _ h.2⟩
end
end
section
open Go.RowKit Go.Maps Go.Sort Go.Shelf
theorem zkI {H : Type} (v : Int) (d : DataW H) (kl : Lit) : has (.map [(.int .i64 v, d)]) kl = (Lit.int .i64 v).sameKey kl := by simp [has]
theorem zi6 {v x : Int} : (Lit.int .i64 v).sameKey (.int .i64 x) = decide (v = x) := by
 cases h : decide (v = x) with
 | true => have := of_decide_eq_true h; subst this; simp [Lit.sameKey]
 | false => have := of_decide_eq_false h; simp [Lit.sameKey, this]
theorem zis {H : Type} (n : Nat) (hn : 1 ≤ n) (l Bm b nn : Nat) (v : Int) (d : DataW H) {R : Value → Option (DataW H × List MemPlace)} (J Jx : List Unit → World → Prop)
  (hY : ∀ pre x W, J pre W → pre.length < 1 → YieldAt (zbm none) (n - 1) Tryz.prog l #[.int .i64 v] W fun e W' =>
   (e = .returned (.bool true) ∧ J (pre ++ [x]) W' ∧ KeepsWalks W W') ∨ (e = .returned (.bool false) ∧ Jx (pre ++ [x]) W'))
  (W : World) (hJ : AbidesFrom W.heap.size J) (hm : W.cell? ⟨Bm, 0, none⟩ = some (.map (some b))) (hown : W.ownsMap Tryz.prog 3 R b nn (.map [(.int .i64 v, d)])) (h0 : J [] W) :
  CallsIn (zbm none) n Tryz.prog 252 #[.func (.yield l) #[] #[], .pointer (some ⟨Bm, 0, none⟩)] W fun e W' => (∃ v, e = .returned v) ∧
   ((∃ ss : List Unit, ss.length = 1 ∧ J ss W') ∨ (∃ pre : List Unit, pre.length = 1 ∧ Jx pre W')) := by
 have a0 : Tryz.prog.underlying 3 = some (.int .i64) := Tryz.underlying3
 refine callsIn_of_wp Tryz.func252 rfl trivial ?_ rfl
 simp only [Tryz.ntmps252, List.size_toArray, List.length_cons, List.length_nil, Nat.reduceAdd, Nat.reduceSub, Array.replicate_succ, Array.replicate_zero, List.push_toArray, List.append_toArray, List.nil_append, List.cons_append]
 gi_wp2_with (first
  | (gi_at_range; refine wpListIn_range_own _ rfl _ 221 rfl 3 220 (int_keyed a0) Tryz.underlying221 _ b nn _ rfl hown ?_; intro w0 a6 hg0 hs0)
  | gi_in)
 go_frame
 gi_loopw [3] (fun _ wr => ∃ (left : Lit → Bool) (cnt : Nat) (ss : List Unit), wr.ranges Tryz.prog 3 R b W.heap.size nn (.map [(.int .i64 v, d)]) left cnt ∧ ss.length + cnt ≤ 1 ∧ (cnt = 0 → ss.length = 1) ∧ (∀ x, left (.int .i64 x) = true → x = v) ∧ J ss wr)
  (fun _ wr => wr.rangeLeft b W.heap.size)
 case atStart =>
  refine ⟨_, _, [], a6, ?_, ?_, ?_, hJ [] W w0 none h0 hg0 (fun r e => by cases e)⟩
  ·simp [Maps.size]
  ·simp [Maps.size]
  ·intro x hx
   rw [zkI, zi6] at hx
   exact (of_decide_eq_true hx).symm
 case round =>
  obtain ⟨left, cnt, ss, a4, hcs, hc1, hl1, hJs⟩ := hrel
  gi_wp2_with (first
   | (gi_at_next; refine wpListIn_next_ranges _ rfl _ rfl 3 (int_keyed a0) R encZ id (fun key kl hk => by obtain ⟨x, hx, _⟩ := Maps.keyOf_i64 a0 hk; exact ⟨x, hx⟩) (fun v _ _ => ⟨v, rfl⟩) b W.heap.size nn _ _ _ rfl a4 ?_ ?_)
   | gi_in)
  ·intro hc0 hl0
   gi_wp2
   go_end0
   exact ⟨⟨_, rfl⟩, .inl ⟨ss, hc1 hc0, hJs⟩⟩
  ·intro x c kl yd yp w2 cnt2 a5 hlk hv hat a3 hlt hg2 hs2 hen
   obtain ⟨x', ex, rfl, _⟩ := Maps.keyOf_i64 a0 a5
   obtain rfl : x = x' := encZ_inj ex
   obtain rfl := hl1 x hlk
   have hJ2 : J ss w2 := hJ ss wr w2 (some W.heap.size) hJs hg2 (fun r e => by cases e; exact ⟨Nat.le_refl _, a4.iter_walk⟩)
   obtain ⟨fn, tmps, assign, body, hy, hR⟩ := hY ss () w2 hJ2 (by omega)
   clear hs2
   gi_wp2
   refine hR.mono ?_
   rintro e W3 (⟨rfl, hJ3, hk3⟩ | ⟨rfl, hJx3⟩)
   ·gi_wp2
    have a2 := a3.of_walks hk3
    go_roundw
    case rel => exact ⟨_, cnt2, ss ++ [()], a2, by simp; omega, fun _ => by rw [List.length_append]; show ss.length + 1 = 1; omega, fun y hy => by simp only [Bool.and_eq_true] at hy; exact hl1 y hy.1, hJ3⟩
    case measure => rw [a2.left_eq, a4.left_eq]; exact hlt
   ·gi_wp2
    refine bodyPost_ret (results_none rfl _ _ _) rfl ?_
    exact ⟨⟨_, rfl⟩, .inr ⟨ss ++ [()], by rw [List.length_append]; show ss.length + 1 = 1; omega, hJx3⟩⟩
theorem ziT {H : Type} (n : Nat) (hn : 1 ≤ n) (Bm b nn : Nat) (v : Int) (d : DataW H) {R : Value → Option (DataW H × List MemPlace)} (w : World) (hBm : Bm < w.heap.size)
  (hm : w.cell? ⟨Bm, 0, none⟩ = some (.map (some b))) (hown : w.ownsMap Tryz.prog 3 R b nn (.map [(.int .i64 v, d)])) :
  SeqStopsK (zbm none) n Tryz.prog 252 #[.pointer (some ⟨Bm, 0, none⟩)] (fun _ : Unit => #[.int .i64 v]) KeepsWalks (fun ss => ss.length = 1) (fun pre => pre.length = 1) 1 w := fun l J Jx W hW hJ _ hY h0 => by
 have a1 : W.ownsMap Tryz.prog 3 R b nn (.map [(.int .i64 v, d)]) := by
  have hbl := hown.lt
  obtain ⟨es, clock, hb, Ft, hs, hD⟩ := hown
  exact ⟨es, clock, (hW.block b hbl).trans hb, Ft, hs, hD⟩
 exact zis n hn l Bm b nn v d J Jx hY W hJ ((hW.cell (p := ⟨Bm, 0, none⟩) hBm).trans hm) a1 h0
theorem zj7 (b : Option Nat) (w : World) : Calls Tryz.prog 242 #[.map b] w fun e w' => e = .returned (.func (.func 252) #[] #[.pointer (some ⟨w.heap.size, 0, none⟩)]) ∧ w' = w.alloc (.cells #[.map b] 221) := by
 go_enter Tryz.func242, Tryz.ntmps242
 go_wp2
 go_ret
 exact ⟨rfl, rfl⟩
end
section
section
variable {P : Program} {ops : Array Oper} {Q : Exit → Act → World → Prop} {S : Bool → World → Prop} {S1 S2 : World → Prop} {md : Region.Mode} {j : Nat} {ro : Option Nat} {nf : Nat}
theorem zcV.wpOpIn {i : Nat} {o : Oper} {v : Value} {a : Act} (hi : ops[i]? = some o) (hd : ∀ c, o.op ≠ .defer c) (h : zcV P ops S1 S2 o v a) {K : Act → World → Prop} {w : World} (hS : S1 w)
  (hK : ∀ w2, S2 w2 → K (a.put o.dst v) w2) (hQ : ∀ e a w, zb0 e a w → Q e a w) : Go.wpOpIn (zbm ro) nf P ops Q i K a w := by
 unfold Go.wpOpIn
 simp only [hi]
 rcases h with ⟨hw, h⟩ | ⟨hw, rfl, h⟩
 ·simp only [hw, if_true]
  exact zgL hd (h w hS K (fun a2 w2 e k => e ▸ hK w2 k)) hQ
 ·simp only [hw, Bool.false_eq_true, if_false]
  exact ⟨fun _ _ => trivial, hK w (h w hS)⟩
def zd2 (ro : Option Nat) (nf : Nat) (P : Program) (md : Region.Mode) (ops : Array Oper) (Q : Exit → Act → World → Prop) (S : Bool → World → Prop) (j m : Nat) : Nat → Array Bool → Act → Prop
 | 0, listed, a => zaY m listed ∧ ∀ w, S (listed.getD j false) w → wpAnyIn (zbm ro) nf P md ops Q 0 listed a w
 | fuel + 1, listed, a => (zaY m listed ∧ ∀ w, S (listed.getD j false) w → wpAnyIn (zbm ro) nf P md ops Q (fuel + 1) listed a w) ∨
  (Region.ready md ops listed ≠ [] ∧ ∀ i ∈ Region.ready md ops listed, i < m ∧ ∃ o v, ops[i]? = some o ∧ zgV P md ops S j i o v a ∧ zd2 ro nf P md ops Q S j m fuel (listed.setIfInBounds i true) (a.put o.dst v))
theorem zd2.wpAny (hnd : zfM ops = true) (hQ : ∀ e a w, zb0 e a w → Q e a w) {m : Nat} : ∀ (fuel : Nat) (listed : Array Bool) (a : Act), zaV md ops listed → zd2 ro nf P md ops Q S j m fuel listed a → ∀ w, S (listed.getD j false) w → Go.wpAnyIn (zbm ro) nf P md ops Q fuel listed a w
 | 0, _, _, _, h, w, hS => h.2 w hS
 | fuel + 1, listed, a, hcl, h, w, hS => by
  rcases h with ⟨_, h⟩ | ⟨hne, h⟩
  ·exact h w hS
  ·refine ⟨fun h0 => absurd h0 hne, fun i hi => ?_⟩
   obtain ⟨_, o, v, ho, a6, a0⟩ := h i hi
   obtain ⟨g1, g2⟩ := za2 hi
   have hrc : zbx md ops i ops.size j = true → listed.getD j false = false := fun hr => by
    cases hj : listed.getD j false with
    | false => rfl
    | true =>
     have := za7 hcl _ _ hr (fun oj a4 e he hb => hcl j oj a4 hj e he hb)
     rw [g2] at this; cases this
   refine (a6 _ (fun e => by rw [← e]; exact g2) hrc).wpOpIn ho (ze3 hnd ho) hS (fun w2 hS2 => zd2.wpAny hnd hQ fuel _ _ (hcl.set hi) a0 w2 ?_) hQ
   rw [zfi g1]; exact hS2
theorem zd2.first (hsel : ∀ (j : Nat) (o : Oper) cs b, ops[j]? = some o → o.op ≠ .select cs b) {m : Nat} (htail : zcL md ops m = true) {i : Nat} {oi : Oper} {v : Value} (hi : ops[i]? = some oi) (him : i < m) :
  ∀ (fuel : Nat) (listed : Array Bool) (a : Act), zaV md ops listed →
   (∀ j oj, ops[j]? = some oj → j ≠ i → listed.getD j true = false → (∀ e ∈ oj.after, Region.binds md e = true → e.on ≠ i) → oi.apart ops oj = true) →
   i ∈ Region.ready md ops listed → zgV P md ops S j i oi v a →
   zd2 ro nf P md ops Q S j m fuel (listed.setIfInBounds i true) (a.put oi.dst v) → zd2 ro nf P md ops Q S j m (fuel + 1) listed a := by
 intro fuel
 have early : ∀ (listed : Array Bool) (k : Nat), zaV md ops listed → i ∈ Region.ready md ops listed → k ∈ Region.ready md ops listed → k < m := by
  intro listed k hc hr hk
  rcases Nat.lt_or_ge k m with h | h
  ·exact h
  ·exfalso
   obtain ⟨_, oj, a4, a5⟩ := mem_ready.1 hk
   have hjs : k < ops.size := (Array.getElem?_eq_some_iff.1 a4).1
   have h1 := List.all_eq_true.1 htail k (List.mem_range.2 hjs)
   simp only [Bool.or_eq_true, decide_eq_true_eq] at h1
   have h2 := List.all_eq_true.1 (h1.resolve_left (by omega)) i (List.mem_range.2 him)
   have h3 := za7 hc _ _ h2 (fun o ho e he hb => by rw [a4] at ho; injection ho with ho; subst ho; exact a5 e he hb)
   rw [(za2 hr).2] at h3; cases h3
 induction fuel with
 | zero =>
  intro listed a hc a1 hr hy H
  refine .inr ⟨fun h => (by rw [h] at hr; cases hr), fun k hk => ?_⟩
  by_cases hji : k = i
  ·subst hji; exact ⟨him, oi, v, hi, hy, H⟩
  ·exfalso
   have h1 := H.1 k (early listed k hc hr hk)
   rw [getD_set_ne false (Ne.symm hji), (za2 hk).2] at h1; cases h1
 | succ fuel ih =>
  intro listed a hc a1 hr hy H
  refine .inr ⟨fun h => (by rw [h] at hr; cases hr), fun k hk => ?_⟩
  by_cases hji : k = i
  ·subst hji; exact ⟨him, oi, v, hi, hy, H⟩
  ·have hjm := early listed k hc hr hk
   rcases H with ⟨hd, _⟩ | ⟨_, H⟩
   ·exfalso
    have h1 := hd k hjm
    rw [getD_set_ne false (Ne.symm hji), (za2 hk).2] at h1; cases h1
   ·obtain ⟨_, oj, u, a4, a6, a0⟩ := H k (ready_mono hk hji)
    obtain ⟨a7, oj', a3, a5⟩ := mem_ready.1 hk
    rw [a4] at a3; injection a3 with a3; subst a3
    have a8 : ∀ e ∈ oj.after, Region.binds md e = true → e.on ≠ i := fun e he hb heq => by
     have h1 := a5 e he hb
     rw [heq, (za2 hr).2] at h1; cases h1
    obtain ⟨h1, h2, h3⟩ := Oper.apart_spec (a1 k oj a4 hji a7 a8)
    refine ⟨hjm, oj, u, a4, fun b hb hb' => (a6 b hb hb').unputApart (hsel k oj · · a4) _ _ h1, ih _ _ (hc.set hk) ?_ (ready_mono hr (Ne.symm hji)) (fun b hb hb' => (hy b hb hb').putApart (hsel i oi · · hi) _ _ h3) ?_⟩
    ·intro k' ok a9 hki hun hno
     refine a1 k' ok a9 hki ?_ hno
     by_cases hjk : k = k'
     ·subst hjk; exact a7
     ·rw [getD_set_ne true hjk] at hun; exact hun
    ·rw [Array.setIfInBounds_comm _ _ hji, ← Act.put_comm a v u h2]
     exact a0
def za0 (ro : Option Nat) (nf : Nat) (P : Program) (ops : Array Oper) (Q : Exit → Act → World → Prop) (S : Bool → World → Prop) (j : Nat) : Nat → Nat → List Oper → Act → Prop
 | 0, _, l, a => ∀ w, S true w → wpListIn (zbm ro) nf P ops Q l a w
 | _ + 1, _, [], a => ∀ w, S true w → Q .normal a w
 | m + 1, k, o :: rest, a => ∃ v, zgV P .any ops S j k o v a ∧ za0 ro nf P ops Q S j m (k + 1) rest (a.put o.dst v)
theorem za0.anyMII {m0 : Nat} (hsel : ∀ (j : Nat) (o : Oper) cs b, ops[j]? = some o → o.op ≠ .select cs b) (htail : zcL .any ops m0 = true) (hm0 : m0 ≤ ops.size) (hj : j < m0)
  (hr : ∀ i, i < m0 → i ∈ Region.ready .any ops (pre ops.size i)) (hfr : ∀ i, i < m0 → Region.free .any ops (pre ops.size i) i = true)
  (hf : ∀ i, i < ops.size → m0 ≤ i → Region.ready .any ops (pre ops.size i) = [i]) (hend : Region.ready .any ops (pre ops.size ops.size) = []) :
  ∀ (m k : Nat) (l : List Oper), k + m = m0 → zaV .any ops (pre ops.size k) → (∀ j, l[j]? = ops[k + j]?) → ∀ (a : Act), za0 ro nf P ops Q S j m k l a → zd2 ro nf P .any ops Q S j m0 (ops.size - k) (pre ops.size k) a
 | 0, k, l, hk, _, hl, a, h => by
  have a9 : k = m0 := by omega
  subst a9
  have he : zaY k (pre ops.size k) := fun i hi => by rw [zaX _ _ _ _ (by omega) (by omega)]; simpa using hi
  have hjt : (pre ops.size k).getD j false = true := he j hj
  have h1 : ∀ w, S ((pre ops.size k).getD j false) w → Go.wpAnyIn (zbm ro) nf P .any ops Q (ops.size - k) (pre ops.size k) a w := fun w hS => zcz hf hend _ _ l (Nat.le_refl _) (by omega) hl a w (h w (by rw [hjt] at hS; exact hS))
  generalize hn : ops.size - k = n at h1
  cases n with
  | zero => exact ⟨he, h1⟩
  | succ n => exact .inl ⟨he, h1⟩
 | m + 1, k, l, hk, hc, hl, a, h => by
  have b0 : k < ops.size := by omega
  cases l with
  | nil => have := hl 0; simp [Array.getElem?_eq_getElem b0] at this
  | cons o l =>
   have ho : ops[k]? = some o := by simpa using (hl 0).symm
   have hl' : ∀ j, l[j]? = ops[k + 1 + j]? := fun j => by have := hl (j + 1); simpa [Nat.add_assoc, Nat.add_comm 1 j] using this
   obtain ⟨v, a6, a0⟩ := h
   have hn : ops.size - k = (ops.size - (k + 1)) + 1 := by omega
   rw [hn]
   refine zd2.first hsel htail ho (by omega) _ _ _ hc (Region.free_spec ho (hfr k (by omega))) (hr k (by omega)) a6 ?_
   rw [zbT _ _ b0]
   refine za0.anyMII hsel htail hm0 hj hr hfr hf hend m (k + 1) l (by omega) ?_ hl' _ a0
   rw [← zbT _ _ b0]
   exact hc.set (hr k (by omega))
theorem zbO {id : Nat} {l : List Oper} {a : Act} {w : World} (m j : Nat) (S : Bool → World → Prop) (hm : P.follows .mixedOrders = true) (hc : zdj l.toArray m = true) (hnd : zfM l.toArray = true) (hj : (j < m)) (hS : S false w.drew)
  (h : za0 ro nf P l.toArray Q S j m 0 l a) : (Code.region id l.toArray true).wpIn (zbm ro) nf P Q a w := by
 simp only [zdj, Bool.and_eq_true, decide_eq_true_eq, beq_iff_eq, List.all_eq_true, List.mem_range] at hc
 obtain ⟨⟨⟨⟨⟨c1, c2⟩, c3⟩, c4⟩, c5⟩, c6⟩ := hc
 have hQ : ∀ e a w, zb0 e a w → Q e a w := fun _ _ _ h => (h : False).elim
 refine wpIn_region_any hm ?_
 have hp : Array.replicate l.toArray.size false = pre l.toArray.size 0 := by simp [pre, ← List.toArray_replicate]
 rw [hp]
 have hr : ∀ i, i < m → i ∈ Region.ready .any l.toArray (pre l.toArray.size i) := fun i hi => by simpa using (c4 i hi).1
 refine zd2.wpAny hnd hQ _ _ _ ?_ (za0.anyMII (m0 := m) (k := 0) (Region.noSelect_spec c1) c3 c2 hj hr (fun i hi => (c4 i hi).2) ?_ c6 m l (by omega) ?_ (by simp) a h) w.drew ?_
 rotate_left
 ·intro i hi hmi
  have := c5 (i - m) (by omega)
  rwa [show m + (i - m) = i by omega] at this
 ·intro k o _ hk
  exfalso
  rcases Nat.lt_or_ge k l.toArray.size with h' | h'
  ·rw [zaX _ _ _ _ (by omega) h'] at hk; simp at hk
  ·rw [Array.getD, dif_neg (by rw [zbe _ _ (by omega)]; omega)] at hk; cases hk
 ·rw [zaX _ _ _ _ (by omega) (by omega)]; simpa using hS
 ·intro k o _ hk
  exfalso
  rcases Nat.lt_or_ge k l.toArray.size with h' | h'
  ·rw [zaX _ _ _ _ (by omega) h'] at hk; simp at hk
  ·rw [Array.getD, dif_neg (by rw [zbe _ _ (by omega)]; omega)] at hk; cases hk
theorem za0.quiet {m k : Nat} {o : Oper} {rest : List Oper} {a : Act} (v : Value) (hk : (k == j) = false) (hw : Region.wanted o (yielded ops a.tmps) = true) (h : ∀ w, AnyB S w → (execOp a.eval o).run P w = .ok (.value v) w) (hr : za0 ro nf P ops Q S j m (k + 1) rest (a.put o.dst v)) :
  za0 ro nf P ops Q S j (m + 1) k (o :: rest) a :=
 ⟨v, fun b _ _ => .inl ⟨hw, fun w hS K hK => by rw [hk, Bool.or_false] at hK; unfold Oper.wp; rw [h w ⟨b, hS⟩]; exact hK _ _ rfl hS⟩, hr⟩
theorem za0.take {m k : Nat} {o : Oper} {rest : List Oper} {a : Act} (v : Value) (hk : (k == j) = false) (hw : Region.wanted o (yielded ops a.tmps) = true) (h : ∀ w, AnyB S w → ∀ R : Value → Prop, R v → Yl R w ((execOp a.eval o).run P w)) (hr : za0 ro nf P ops Q S j m (k + 1) rest (a.put o.dst v)) :
  za0 ro nf P ops Q S j (m + 1) k (o :: rest) a :=
 za0.quiet v hk hw (fun w hS => by
  have h1 := h w hS (fun x => x = v) rfl
  generalize (execOp a.eval o).run P w = r at *
  cases r with
  | ok n w' =>
   cases n with
   | value x => obtain ⟨e1, e2⟩ := h1; subst e1; subst e2; rfl
   | _ => exact h1.elim
  | halt x w' => exact h1.elim) hr
theorem za0.skip {m k : Nat} {o : Oper} {rest : List Oper} {a : Act} (hk : (k == j) = false) (hw : Region.wanted o (yielded ops a.tmps) = false) (hr : za0 ro nf P ops Q S j m (k + 1) rest (a.put o.dst undef)) :
  za0 ro nf P ops Q S j (m + 1) k (o :: rest) a :=
 ⟨undef, fun b _ _ => .inr ⟨hw, rfl, fun w hS => by rw [hk, Bool.or_false]; exact hS⟩, hr⟩
theorem za0.mark {m k : Nat} {o : Oper} {rest : List Oper} {a : Act} (hk : (k == j) = true) (hd : o.dst = none) (hw : Region.wanted o (yielded ops a.tmps) = true)
  (h : ∀ w, S false w → ∀ R : World → Prop, (∀ w2, S true w2 → R w2) → YlM R ((execOp a.eval o).run P w)) (hr : za0 ro nf P ops Q S j m (k + 1) rest a) :
  za0 ro nf P ops Q S j (m + 1) k (o :: rest) a :=
 ⟨undef, fun b hb _ => .inl ⟨hw, fun w hS K hK => by
  obtain rfl := hb (by simpa using hk)
  rw [hk] at hK
  have h1 := h w hS (S true) (fun _ k => k)
  unfold Oper.wp
  generalize (execOp a.eval o).run P w = r at *
  cases r with
  | ok n w' =>
   cases n with
   | value x => exact hK _ _ (by rw [hd]; rfl) h1
   | skip => exact hK _ _ rfl h1
   | _ => exact h1.elim
  | halt x w' => exact h1.elim⟩, by rw [hd]; exact hr⟩
end
end
section

end
section
open Go.RowKit
def opdX (x : List Int) (v n : Int) : Int := if 0 ≤ v then gI x v else n
end
section
open Go.RowKit
theorem bnd {a : Int} (h : zaq a = true) : a = 9223372036854775807 ∨ (-4611686018427387904 ≤ a ∧ a ≤ 4611686018427387904) := by
 unfold zaq at h; exact of_decide_eq_true h
section
variable {N : Nat} {xs : List Int}
theorem Cells.b (h : Cells N xs) {i j : Nat} (hi : i < N) (hj : j < N) : zaq (G N xs i j) = true := h.bd i j hi hj
end
end
section
open Go.RowKit
def zl8 (e : Edg) (x y : List Int) : Prop :=
 e.kd ≠ 14 ∧ (e.kd = 12 → cmpB e.op (opdX x e.av e.an) (opdX x e.bv e.bn) = true) ∧
 (if e.kd = 9 ∨ e.kd = 10 then ∃ v, y = x.set e.dst.toNat v
  else if e.kd = 2 then y = x.set e.dst.toNat (opdX x e.av e.an)
  else if 3 ≤ e.kd ∧ e.kd ≤ 8 then (zgs e.kd (opdX x e.av e.an) (opdX x e.bv e.bn)).2 = 0 ∧ y = x.set e.dst.toNat (zgs e.kd (opdX x e.av e.an) (opdX x e.bv e.bn)).1
  else y = x)
end
section
open Go.RowKit
theorem zlR {N : Nat} {xs ys : List Int} (h1 : xs.length = N * N) (h2 : ys.length = N * N) (h : ∀ a b : Nat, a < N → b < N → G N xs a b = G N ys a b) : xs = ys := by
 refine List.ext_getElem (by rw [h1, h2]) fun i q1 q2 => ?_
 have hN : 0 < N := by
  rcases Nat.eq_zero_or_pos N with e | e
  ·subst e; simp at h1; subst h1; simp at q1
  ·exact e
 have hi : i < N * N := by omega
 have := h (i / N) (i % N) (Nat.div_lt_of_lt_mul hi) (Nat.mod_lt _ hN)
 unfold G gI at this
 rw [Nat.div_add_mod' i N, Int.toNat_natCast] at this
 simpa [List.getD, q1, q2] using this
end
section
open Go.RowKit
def zch (N i j : Nat) (m : List Int) : List Int := if i = j then m else (m.set (i * N + j) 9223372036854775807).set (j * N + i) 9223372036854775807
def fRow (N v i : Nat) (m : List Int) : List Int := zch N i (2 * v + 1) (zch N i (2 * v) m)
def fAll (N v : Nat) : Nat → List Int → List Int
 | 0, m => m
 | k + 1, m => fRow N v k (fAll N v k m)
theorem zcO (N i j : Nat) (m : List Int) : (zch N i j m).length = m.length := by unfold zch; split <;> simp
theorem zfS (N v i : Nat) (m : List Int) : (fRow N v i m).length = m.length := by unfold fRow; rw [zcO, zcO]
theorem zcn (N v : Nat) (m : List Int) : ∀ k, (fAll N v k m).length = m.length
 | 0 => rfl
 | k + 1 => by unfold fAll; rw [zfS, zcn N v m k]
theorem zka {N a b i j : Nat} (hb : b < N) (hj : j < N) : a * N + b = i * N + j ↔ a = i ∧ b = j := by
 constructor
 ·intro h
  have h1 := congrArg (· / N) h
  have h2 := congrArg (· % N) h
  simp only [zdE hb, zdE hj, zdH hb, zdH hj] at h1 h2
  exact ⟨h1, h2⟩
 ·rintro ⟨rfl, rfl⟩; rfl
theorem zeW {N i j : Nat} (hi : i < N) (hj : j < N) : i * N + j < N * N := by
 have : (i + 1) * N ≤ N * N := Nat.mul_le_mul_right _ hi
 rw [Nat.succ_mul] at this; omega
theorem zkn {N : Nat} {m : List Int} (hl : m.length = N * N) {i j a b : Nat} (hi : i < N) (hj : j < N) (hb : b < N) (x : Int) : G N (m.set (i * N + j) x) a b = if a = i ∧ b = j then x else G N m a b := by
 unfold G
 rw [zdI]
 have := zeW hi hj
 by_cases h : a = i ∧ b = j
 ·rw [if_pos h, if_pos ⟨(zka hb hj).2 h, by omega⟩]
 ·rw [if_neg h, if_neg (fun k => h ((zka hb hj).1 k.1))]
theorem zhi {N : Nat} {m : List Int} (hl : m.length = N * N) {i j a b : Nat} (hi : i < N) (hj : j < N) (_ha : a < N) (hb : b < N) : G N (zch N i j m) a b = if i ≠ j ∧ ((a = i ∧ b = j) ∨ (a = j ∧ b = i)) then 9223372036854775807 else G N m a b := by
 unfold zch
 by_cases h : i = j
 ·rw [if_pos h, if_neg (fun k => k.1 h)]
 ·rw [if_neg h, zkn (by simpa using hl) hj hi hb, zkn hl hi hj hb]
  by_cases h1 : a = j ∧ b = i
  ·rw [if_pos h1, if_pos ⟨h, .inr h1⟩]
  ·rw [if_neg h1]
   by_cases h2 : a = i ∧ b = j
   ·rw [if_pos h2, if_pos ⟨h, .inl h2⟩]
   ·rw [if_neg h2, if_neg (fun k => k.2.elim h2 h1)]
theorem zke {N v : Nat} {m : List Int} (hl : m.length = N * N) (hv : 2 * v + 1 < N) {a b : Nat} (ha : a < N) (hb : b < N) : ∀ k, k ≤ N → G N (fAll N v k m) a b = if a ≠ b ∧ ((b / 2 = v ∧ a < k) ∨ (a / 2 = v ∧ b < k)) then 9223372036854775807 else G N m a b
 | 0, _ => by rw [if_neg (by omega)]; rfl
 | k + 1, hk => by
  unfold fAll fRow
  rw [zhi (by rw [zcO, zcn]; exact hl) (by omega) hv ha hb, zhi (by rw [zcn]; exact hl) (by omega) (by omega) ha hb, zke hl hv ha hb k (by omega)]
  by_cases h : a ≠ b ∧ ((b / 2 = v ∧ a < k + 1) ∨ (a / 2 = v ∧ b < k + 1))
  ·rw [if_pos h]
   by_cases h0 : a ≠ b ∧ ((b / 2 = v ∧ a < k) ∨ (a / 2 = v ∧ b < k))
   ·simp [h0]
   ·rw [if_neg h0]
    by_cases h1 : k ≠ 2 * v + 1 ∧ ((a = k ∧ b = 2 * v + 1) ∨ (a = 2 * v + 1 ∧ b = k))
    ·rw [if_pos h1]
    ·rw [if_neg h1, if_pos (by omega)]
  ·rw [if_neg h, if_neg (by omega), if_neg (by omega), if_neg (by omega)]
theorem zfK {N v : Nat} {m : List Int} (hl : m.length = N * N) (hv : 2 * v + 1 < N) : fAll N v N m = forgetM N v m := by
 refine zlR (by rw [zcn]; exact hl) (by rw [zcy]; exact hl) fun a b ha hb => ?_
 rw [zke hl hv ha hb N (Nat.le_refl _), zeU hl ha hb]
 by_cases h : a ≠ b ∧ (a / 2 = v ∨ b / 2 = v)
 ·rw [if_pos h, if_pos (by omega)]
 ·rw [if_neg h, if_neg (by omega)]
def zdO (N v i : Nat) : Nat → List Int → List Int
 | 0, m => m
 | 1, m => zch N i (2 * v) m
 | _, m => fRow N v i m
theorem zeT (N v i k : Nat) (m : List Int) : (zdO N v i k m).length = m.length := by
 unfold zdO; split
 ·rfl
 ·rw [zcO]
 ·rw [zfS]
end
section
open Go.RowKit
attribute [local go_sem] Oper.semAt_some
theorem zjY {P : Program} {F : Fence} {n : Nat} {c : Code} {Q : Exit → Act → World → Prop} {a : Act} {w : World} (h : ∀ a0 : Act, a0 = a → c.wpIn F n P Q a0 w) : c.wpIn F n P Q a w := h a rfl
section
variable {W W' : World} {row : Option Nat} {g base cap : Nat} {t : TypeId} {cs : Array Value} {A : Option Addr} {m : List Int}
theorem zeB (h : Blk W g t cs) (hg : W.grownBy W' row) (hr : ∀ r, row = some r → ∃ o : Obj, W.heap[r]? = some o ∧ o.isCells = false) : Blk W' g t cs :=
 (hg.block g h.lt (fun e => by
  obtain ⟨o, ho, hc⟩ := hr g e.symm
  unfold Blk at h
  rw [h] at ho; injection ho with ho; subst ho; cases hc)).trans h
theorem zga (h : Own W base A cap m) (hg : W.grownBy W' row) (hr : ∀ r, row = some r → ∃ o : Obj, W.heap[r]? = some o ∧ o.isCells = false) : Own W' base A cap m := by
 refine h.grown hg ?_
 rcases h.2 with ⟨h0, _⟩ | ⟨g', cap', cur, h1, _, h3, _⟩
 ·injection h0 with h0; subst h0; exact .inl rfl
 ·injection h1 with h1; subst h1
  refine .inr fun e => ?_
  simp only [Value.ownBlock] at e
  obtain ⟨o, ho, hc⟩ := hr g' e.symm
  rw [h3] at ho; injection ho with ho; subst ho; cases hc
theorem zi0 {B : Nat} (h : Below W.heap.size W W') : KeepsFrom B W W' := KeepsFrom.of_grownBy (za1 h none) (fun j e => by cases e)
theorem zlU {v0 v1 v2 : Value} {D : Nat} {o : Obj} (h : W.heap[D]? = some o) (hc : o.isCells = false) : (((W.setCell ⟨g, 0, none⟩ v0).setCell ⟨g, 1, none⟩ v1).setCell ⟨g, 2, none⟩ v2).heap[D]? = some o :=
 (((KeepsOthers.setCell W _ _).trans (KeepsOthers.setCell _ _ _)).trans (KeepsOthers.setCell _ _ _)).same D o h hc
end
theorem Blk.stay {W W' : World} {row : Option Nat} {g : Nat} {t : TypeId} {cs : Array Value} (h : Blk W g t cs) (hg : W.grownBy W' row) (hne : some g ≠ row) : Blk W' g t cs := (hg.block g h.lt hne).trans h
theorem ziw {W : World} {base cap g : Nat} {m : List Int} (h : Own W base (some ⟨g, 0, none⟩) cap m) {o : Obj} (ho : W.heap[g]? = some o) : o.isWalk = false := by
 rcases h.2 with ⟨h0, _⟩ | ⟨g', cap', cur, h1, _, h3, _⟩
 ·cases h0
 ·injection h1 with h1
  injection h1 with h1
  injection h1 with h1
  subst h1
  rw [h3] at ho; injection ho with ho; subst ho; rfl
theorem zh2 {W : World} {base cap b : Nat} {A : Option Addr} {m : List Int} (h : Own W base A cap m) (hb : ∀ g, A = some ⟨g, 0, none⟩ → g ≠ b) : (Value.slice A m.length cap).ownBlock = none ∨ (Value.slice A m.length cap).ownBlock ≠ some b := by
 rcases h.form with ⟨rfl, _⟩ | ⟨g, rfl, _⟩
 ·exact .inl rfl
 ·refine .inr fun e => hb g rfl ?_
  simpa [Value.ownBlock] using e
theorem zkW (p1 : Nat) (v1 : Value) (T : Array Value) : ((#[p1] : Array Nat).zip #[v1]).foldl (fun t (x : Nat × Value) => t.setIfInBounds x.1 x.2) T = T.setIfInBounds p1 v1 := by
 rw [← Array.foldl_toList]; simp
end
end Go.Proofs.YtnmpgijiimglcaaGreat
