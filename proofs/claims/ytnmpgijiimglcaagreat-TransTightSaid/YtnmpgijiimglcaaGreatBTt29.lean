import Derived.Test.YtnmpgijiimglcaaGreatBTt04
import Derived.Test.YtnmpgijiimglcaaGreatBTt26
namespace Go.Proofs.YtnmpgijiimglcaaGreat
set_option maxRecDepth 100000
set_option maxHeartbeats 8000000
section
section
variable {P : Program} {ops : Array Oper} {Q : Exit → Act → World → Prop} {S : Bool → Bool → World → Prop} {md : Region.Mode} {j1 j2 : Nat}
def zom (P : Program) (_md : Region.Mode) (ops : Array Oper) (S : Bool → Bool → World → Prop) (j1 j2 i : Nat) (o : Oper) (v : Value) (a : Act) : Prop :=
 ∀ b1 b2, (i = j1 → b1 = false ∧ b2 = false) → (i = j2 → b1 = true ∧ b2 = false) → zc4 P ops (S b1 b2) (S (b1 || i == j1) (b2 || i == j2)) o v a
def zmb (md : Region.Mode) (ops : Array Oper) (j1 j2 : Nat) : Prop :=
 ∀ listed, zay md ops listed → (∀ o, ops[j2]? = some o → ∀ e ∈ o.after, Region.binds md e = true → listed.getD e.on false = true) → listed.getD j1 false = true
theorem zf8 (h : zbh md ops j1 ops.size j2 = true) : zmb md ops j1 j2 := fun _ hc a1 => zaJ hc _ _ h a1
def AnyN (P : Program) (md : Region.Mode) (ops : Array Oper) (Q : Exit → Act → World → Prop) (S : Bool → Bool → World → Prop) (j1 j2 m : Nat) : Nat → Array Bool → Act → Prop
 | 0, listed, a => zaz m listed ∧ ∀ w, S (listed.getD j1 false) (listed.getD j2 false) w → wpAny P md ops Q 0 listed a w
 | fuel + 1, listed, a => (zaz m listed ∧ ∀ w, S (listed.getD j1 false) (listed.getD j2 false) w → wpAny P md ops Q (fuel + 1) listed a w) ∨
  (Region.ready md ops listed ≠ [] ∧ ∀ i ∈ Region.ready md ops listed, i < m ∧ ∃ o v, ops[i]? = some o ∧ zom P md ops S j1 j2 i o v a ∧ AnyN P md ops Q S j1 j2 m fuel (listed.setIfInBounds i true) (a.put o.dst v))
theorem AnyN.wpAny (hwt : zmb md ops j1 j2) (hQ : ∀ e a w, zbN e a w → Q e a w) {m : Nat} : ∀ (fuel : Nat) (listed : Array Bool) (a : Act), zay md ops listed → AnyN P md ops Q S j1 j2 m fuel listed a → ∀ w, S (listed.getD j1 false) (listed.getD j2 false) w → Go.wpAny P md ops Q fuel listed a w
 | 0, _, _, _, h, w, hS => h.2 w hS
 | fuel + 1, listed, a, hcl, h, w, hS => by
  rcases h with ⟨_, h⟩ | ⟨hne, h⟩
  ·exact h w hS
  ·refine ⟨fun h0 => absurd h0 hne, fun i hi => ?_⟩
   obtain ⟨_, o, v, ho, a6, a0⟩ := h i hi
   obtain ⟨g1, g2⟩ := zap hi
   obtain ⟨_, oi, hoi, a1⟩ := mem_ready.1 hi
   refine (a6 _ _ (fun e => ⟨by rw [← e]; exact g2, ?_⟩) (fun e => ⟨?_, by rw [← e]; exact g2⟩)).wpOp ho hS (fun w2 hS2 => AnyN.wpAny hwt hQ fuel _ _ (hcl.set hi) a0 w2 ?_) hQ
   ·cases hj : listed.getD j2 false with
    | false => rfl
    | true =>
     have := hwt listed hcl (fun oj a2 e he hb => hcl j2 oj a2 hj e he hb)
     rw [← e, g2] at this; cases this
   ·subst e
    exact hwt listed hcl (fun oj a2 e he hb => by rw [hoi] at a2; injection a2 with a2; subst a2; exact a1 e he hb)
   ·rw [zbU g1, zbU g1]; exact hS2
theorem AnyN.first (hsel : ∀ (j : Nat) (o : Oper) cs b, ops[j]? = some o → o.op ≠ .select cs b) {m : Nat} (htail : zco md ops m = true) {i : Nat} {oi : Oper} {v : Value} (hi : ops[i]? = some oi) (him : i < m) :
  ∀ (fuel : Nat) (listed : Array Bool) (a : Act), zay md ops listed →
   (∀ j oj, ops[j]? = some oj → j ≠ i → listed.getD j true = false → (∀ e ∈ oj.after, Region.binds md e = true → e.on ≠ i) → oi.apart ops oj = true) →
   i ∈ Region.ready md ops listed → zom P md ops S j1 j2 i oi v a →
   AnyN P md ops Q S j1 j2 m fuel (listed.setIfInBounds i true) (a.put oi.dst v) → AnyN P md ops Q S j1 j2 m (fuel + 1) listed a := by
 intro fuel
 have early : ∀ (listed : Array Bool) (k : Nat), zay md ops listed → i ∈ Region.ready md ops listed → k ∈ Region.ready md ops listed → k < m := by
  intro listed k hc hr hk
  rcases Nat.lt_or_ge k m with h | h
  ·exact h
  ·exfalso
   obtain ⟨_, oj, a2, a1⟩ := mem_ready.1 hk
   have hjs : k < ops.size := (Array.getElem?_eq_some_iff.1 a2).1
   have h1 := List.all_eq_true.1 htail k (List.mem_range.2 hjs)
   simp only [Bool.or_eq_true, decide_eq_true_eq] at h1
   have h2 := List.all_eq_true.1 (h1.resolve_left (by omega)) i (List.mem_range.2 him)
   have h3 := zaJ hc _ _ h2 (fun o ho e he hb => by rw [a2] at ho; injection ho with ho; subst ho; exact a1 e he hb)
   rw [(zap hr).2] at h3; cases h3
 induction fuel with
 | zero =>
  intro listed a hc a3 hr hy H
  refine .inr ⟨fun h => (by rw [h] at hr; cases hr), fun k hk => ?_⟩
  by_cases hji : k = i
  ·subst hji; exact ⟨him, oi, v, hi, hy, H⟩
  ·exfalso
   have h1 := H.1 k (early listed k hc hr hk)
   rw [getD_set_ne false (Ne.symm hji), (zap hk).2] at h1; cases h1
 | succ fuel ih =>
  intro listed a hc a3 hr hy H
  refine .inr ⟨fun h => (by rw [h] at hr; cases hr), fun k hk => ?_⟩
  by_cases hji : k = i
  ·subst hji; exact ⟨him, oi, v, hi, hy, H⟩
  ·have hjm := early listed k hc hr hk
   rcases H with ⟨hd, _⟩ | ⟨_, H⟩
   ·exfalso
    have h1 := hd k hjm
    rw [getD_set_ne false (Ne.symm hji), (zap hk).2] at h1; cases h1
   ·obtain ⟨_, oj, u, a2, a6, a0⟩ := H k (ready_mono hk hji)
    obtain ⟨a5, oj', a4, a1⟩ := mem_ready.1 hk
    rw [a2] at a4; injection a4 with a4; subst a4
    have a7 : ∀ e ∈ oj.after, Region.binds md e = true → e.on ≠ i := fun e he hb heq => by
     have h1 := a1 e he hb
     rw [heq, (zap hr).2] at h1; cases h1
    obtain ⟨h1, h2, h3⟩ := Oper.apart_spec (a3 k oj a2 hji a5 a7)
    refine ⟨hjm, oj, u, a2, fun b1 b2 hb hb' => (a6 b1 b2 hb hb').unputApart (hsel k oj · · a2) _ _ h1, ih _ _ (hc.set hk) ?_ (ready_mono hr (Ne.symm hji)) (fun b1 b2 hb hb' => (hy b1 b2 hb hb').putApart (hsel i oi · · hi) _ _ h3) ?_⟩
    ·intro k' ok b0 hki hun hno
     refine a3 k' ok b0 hki ?_ hno
     by_cases hjk : k = k'
     ·subst hjk; exact a5
     ·rw [getD_set_ne true hjk] at hun; exact hun
    ·rw [Array.setIfInBounds_comm _ _ hji, ← Act.put_comm a v u h2]
     exact a0
def zb0 (P : Program) (ops : Array Oper) (Q : Exit → Act → World → Prop) (S : Bool → Bool → World → Prop) (j1 j2 : Nat) : Nat → Nat → List Oper → Act → Prop
 | 0, _, l, a => ∀ w, S true true w → wpList P ops Q l a w
 | _ + 1, _, [], a => ∀ w, S true true w → Q .normal a w
 | m + 1, k, o :: rest, a => ∃ v, zom P .any ops S j1 j2 k o v a ∧ zb0 P ops Q S j1 j2 m (k + 1) rest (a.put o.dst v)
theorem zb0.anyN {m0 : Nat} (hsel : ∀ (j : Nat) (o : Oper) cs b, ops[j]? = some o → o.op ≠ .select cs b) (htail : zco .any ops m0 = true) (hm0 : m0 ≤ ops.size) (hj1 : j1 < m0) (hj2 : j2 < m0)
  (hr : ∀ i, i < m0 → i ∈ Region.ready .any ops (pre ops.size i)) (hfr : ∀ i, i < m0 → Region.free .any ops (pre ops.size i) i = true)
  (hf : ∀ i, i < ops.size → m0 ≤ i → Region.ready .any ops (pre ops.size i) = [i]) (hend : Region.ready .any ops (pre ops.size ops.size) = []) :
  ∀ (m k : Nat) (l : List Oper), k + m = m0 → zay .any ops (pre ops.size k) → (∀ j, l[j]? = ops[k + j]?) → ∀ (a : Act), zb0 P ops Q S j1 j2 m k l a → AnyN P .any ops Q S j1 j2 m0 (ops.size - k) (pre ops.size k) a
 | 0, k, l, hk, _, hl, a, h => by
  have b0 : k = m0 := by omega
  subst b0
  have he : zaz k (pre ops.size k) := fun i hi => by rw [zau _ _ _ _ (by omega) (by omega)]; simpa using hi
  have b3 : (pre ops.size k).getD j1 false = true := he j1 hj1
  have a9 : (pre ops.size k).getD j2 false = true := he j2 hj2
  have h1 : ∀ w, S ((pre ops.size k).getD j1 false) ((pre ops.size k).getD j2 false) w → Go.wpAny P .any ops Q (ops.size - k) (pre ops.size k) a w := fun w hS => zbw hf hend _ _ l (Nat.le_refl _) (by omega) hl a w (h w (by rw [b3, a9] at hS; exact hS))
  generalize hn : ops.size - k = n at h1
  cases n with
  | zero => exact ⟨he, h1⟩
  | succ n => exact .inl ⟨he, h1⟩
 | m + 1, k, l, hk, hc, hl, a, h => by
  have a8 : k < ops.size := by omega
  cases l with
  | nil => have := hl 0; simp [Array.getElem?_eq_getElem a8] at this
  | cons o l =>
   have ho : ops[k]? = some o := by simpa using (hl 0).symm
   have hl' : ∀ j, l[j]? = ops[k + 1 + j]? := fun j => by have := hl (j + 1); simpa [Nat.add_assoc, Nat.add_comm 1 j] using this
   obtain ⟨v, a6, a0⟩ := h
   have hn : ops.size - k = (ops.size - (k + 1)) + 1 := by omega
   rw [hn]
   refine AnyN.first hsel htail ho (by omega) _ _ _ hc (Region.free_spec ho (hfr k (by omega))) (hr k (by omega)) a6 ?_
   rw [zbt _ _ a8]
   refine zb0.anyN hsel htail hm0 hj1 hj2 hr hfr hf hend m (k + 1) l (by omega) ?_ hl' _ a0
   rw [← zbt _ _ a8]
   exact hc.set (hr k (by omega))
theorem ze2 {id : Nat} {l : List Oper} {a : Act} {w : World} (m j1 j2 : Nat) (S : Bool → Bool → World → Prop) (hm : P.follows .mixedOrders = true) (hc : zcB l.toArray m = true) (hwt : zbh .any l.toArray j1 l.toArray.size j2 = true) (hj1 : j1 < m) (hj2 : j2 < m) (hS : S false false w.drew)
  (h : zb0 P l.toArray Q S j1 j2 m 0 l a) : (Code.region id l.toArray true).wp P Q a w := by
 simp only [zcB, Bool.and_eq_true, decide_eq_true_eq, beq_iff_eq, List.all_eq_true, List.mem_range] at hc
 obtain ⟨⟨⟨⟨⟨c1, c2⟩, c3⟩, c4⟩, c5⟩, c6⟩ := hc
 have hQ : ∀ e a w, zbN e a w → Q e a w := fun _ _ _ h => (h : False).elim
 refine wp_region_any hm ?_
 have hp : Array.replicate l.toArray.size false = pre l.toArray.size 0 := by simp [pre, ← List.toArray_replicate]
 rw [hp]
 have hr : ∀ i, i < m → i ∈ Region.ready .any l.toArray (pre l.toArray.size i) := fun i hi => by simpa using (c4 i hi).1
 refine AnyN.wpAny (zf8 hwt) hQ _ _ _ ?_ (zb0.anyN (m0 := m) (k := 0) (Region.noSelect_spec c1) c3 c2 hj1 hj2 hr (fun i hi => (c4 i hi).2) ?_ c6 m l (by omega) ?_ (by simp) a h) w.drew ?_
 rotate_left
 ·intro i hi hmi
  have := c5 (i - m) (by omega)
  rwa [show m + (i - m) = i by omega] at this
 ·intro k o _ hk
  exfalso
  rcases Nat.lt_or_ge k l.toArray.size with h' | h'
  ·rw [zau _ _ _ _ (by omega) h'] at hk; simp at hk
  ·rw [Array.getD, dif_neg (by rw [zaQ _ _ (by omega)]; omega)] at hk; cases hk
 ·rw [zau _ _ _ _ (by omega) (by omega), zau _ _ _ _ (by omega) (by omega)]; simpa using hS
 ·intro k o _ hk
  exfalso
  rcases Nat.lt_or_ge k l.toArray.size with h' | h'
  ·rw [zau _ _ _ _ (by omega) h'] at hk; simp at hk
  ·rw [Array.getD, dif_neg (by rw [zaQ _ _ (by omega)]; omega)] at hk; cases hk
def znY (S : Bool → Bool → World → Prop) (w : World) : Prop := ∃ b1 b2, S b1 b2 w
theorem zb0.take {m k : Nat} {o : Oper} {rest : List Oper} {a : Act} (v : Value) (hk : (k == j1) = false) (hk2 : (k == j2) = false) (hw : Region.wanted o (yielded ops a.tmps) = true) (h : ∀ w, znY S w → ∀ R : Value → Prop, R v → Yl R w ((execOp a.eval o).run P w)) (hr : zb0 P ops Q S j1 j2 m (k + 1) rest (a.put o.dst v)) :
  zb0 P ops Q S j1 j2 (m + 1) k (o :: rest) a :=
 ⟨v, fun b1 b2 _ _ => .inl ⟨hw, fun w hS K hK => by
  rw [hk, hk2, Bool.or_false, Bool.or_false] at hK
  have h1 := h w ⟨b1, b2, hS⟩ (fun x => x = v) rfl
  unfold Oper.wp
  generalize (execOp a.eval o).run P w = r at *
  cases r with
  | ok n w' =>
   cases n with
   | value x => obtain ⟨e1, e2⟩ := h1; subst e1; subst e2; exact hK _ _ rfl hS
   | _ => exact h1.elim
  | halt x w' => exact h1.elim⟩, hr⟩
theorem zb0.skip {m k : Nat} {o : Oper} {rest : List Oper} {a : Act} (hk : (k == j1) = false) (hk2 : (k == j2) = false) (hw : Region.wanted o (yielded ops a.tmps) = false) (hr : zb0 P ops Q S j1 j2 m (k + 1) rest (a.put o.dst undef)) :
  zb0 P ops Q S j1 j2 (m + 1) k (o :: rest) a :=
 ⟨undef, fun b1 b2 _ _ => .inr ⟨hw, rfl, fun w hS => by rw [hk, hk2, Bool.or_false, Bool.or_false]; exact hS⟩, hr⟩
theorem zb0.mark1 {m k : Nat} {o : Oper} {rest : List Oper} {a : Act} (v : Value) (hk : (k == j1) = true) (hk2 : (k == j2) = false) (hw : Region.wanted o (yielded ops a.tmps) = true)
  (h : ∀ w, S false false w → ∃ w2, (execOp a.eval o).run P w = .ok (.value v) w2 ∧ S true false w2) (hr : zb0 P ops Q S j1 j2 m (k + 1) rest (a.put o.dst v)) :
  zb0 P ops Q S j1 j2 (m + 1) k (o :: rest) a :=
 ⟨v, fun b1 b2 hb _ => .inl ⟨hw, fun w hS K hK => by
  obtain ⟨rfl, rfl⟩ := hb (by simpa using hk)
  rw [hk, hk2] at hK
  obtain ⟨w2, h1, h2⟩ := h w hS
  unfold Oper.wp; rw [h1]; exact hK _ _ rfl h2⟩, hr⟩
theorem zb0.mark2 {m k : Nat} {o : Oper} {rest : List Oper} {a : Act} (v : Value) (hk : (k == j1) = false) (hk2 : (k == j2) = true) (hw : Region.wanted o (yielded ops a.tmps) = true)
  (h : ∀ w, S true false w → ∃ w2, (execOp a.eval o).run P w = .ok (.value v) w2 ∧ S true true w2) (hr : zb0 P ops Q S j1 j2 m (k + 1) rest (a.put o.dst v)) :
  zb0 P ops Q S j1 j2 (m + 1) k (o :: rest) a :=
 ⟨v, fun b1 b2 _ hb => .inl ⟨hw, fun w hS K hK => by
  obtain ⟨rfl, rfl⟩ := hb (by simpa using hk2)
  rw [hk, hk2] at hK
  obtain ⟨w2, h1, h2⟩ := h w hS
  unfold Oper.wp; rw [h1]; exact hK _ _ rfl h2⟩, hr⟩
def SN (w0 w1 w2 : World) : Bool → Bool → World → Prop
 | false, false => fun W => W = w0
 | true, false => fun W => W = w1
 | true, true => fun W => W = w2
 | false, true => fun _ => False
theorem SN.any {w0 w1 w2 W : World} (h : znY (SN w0 w1 w2) W) : W = w0 ∨ W = w1 ∨ W = w2 := by
 obtain ⟨b1, b2, h⟩ := h
 cases b1 <;> cases b2
 ·exact .inl h
 ·exact h.elim
 ·exact .inr (.inl h)
 ·exact .inr (.inr h)
end
end
section
open Go.RowKit
attribute [local go_sem ↓] Go.wp_at_zero Go.wp_at_succ
attribute [local go_sem ↓] zcA zcl
theorem RdE.get {w : World} {B : Nat} {A : Option Addr} {es : List Edg} (h : RdE w B A es) {k : Nat} (hk : k < es.length) {x : Edg} (hx : es[k] = x) : ∃ b off, A = some ⟨b, off, none⟩ ∧ b < B ∧ w.cell? ⟨b, off + k * 10, none⟩ = some (.int .i64 x.fr) ∧ w.cell? ⟨b, off + k * 10 + 1, none⟩ = some (.int .i64 x.te) ∧ w.cell? ⟨b, off + k * 10 + 2, none⟩ = some (.int .i64 x.kd) ∧ w.cell? ⟨b, off + k * 10 + 3, none⟩ = some (.int .i64 x.dst) ∧ w.cell? ⟨b, off + k * 10 + 4, none⟩ = some (.int .i64 x.arr) ∧ w.cell? ⟨b, off + k * 10 + 5, none⟩ = some (.int .i64 x.op) ∧ w.cell? ⟨b, off + k * 10 + 6, none⟩ = some (.int .i64 x.av) ∧ w.cell? ⟨b, off + k * 10 + 7, none⟩ = some (.int .i64 x.an) ∧ w.cell? ⟨b, off + k * 10 + 8, none⟩ = some (.int .i64 x.bv) ∧ w.cell? ⟨b, off + k * 10 + 9, none⟩ = some (.int .i64 x.bn) := by
 obtain ⟨b, off, h1, h2, h3⟩ := h k hk
 subst hx
 exact ⟨b, off, h1, h2, h3 0 (by omega), h3 1 (by omega), h3 2 (by omega), h3 3 (by omega), h3 4 (by omega), h3 5 (by omega), h3 6 (by omega), h3 7 (by omega), h3 8 (by omega), h3 9 (by omega)⟩
def ecs (x : Edg) : Array Value := #[x.fr, x.te, x.kd, x.dst, x.arr, x.op, x.av, x.an, x.bv, x.bn]
theorem zj6 {w : World} {g : Nat} {t : TypeId} {x : Edg} (h : Blk w g t (ecs x)) :
  (∀ W, Below w.heap.size w W → W.cell? ⟨g, 0, none⟩ = some (.int .i64 x.fr)) ∧ (∀ W, Below w.heap.size w W → W.cell? ⟨g, 1, none⟩ = some (.int .i64 x.te)) ∧ (∀ W, Below w.heap.size w W → W.cell? ⟨g, 2, none⟩ = some (.int .i64 x.kd)) ∧ (∀ W, Below w.heap.size w W → W.cell? ⟨g, 3, none⟩ = some (.int .i64 x.dst)) ∧ (∀ W, Below w.heap.size w W → W.cell? ⟨g, 4, none⟩ = some (.int .i64 x.arr)) ∧ (∀ W, Below w.heap.size w W → W.cell? ⟨g, 5, none⟩ = some (.int .i64 x.op)) ∧ (∀ W, Below w.heap.size w W → W.cell? ⟨g, 6, none⟩ = some (.int .i64 x.av)) ∧ (∀ W, Below w.heap.size w W → W.cell? ⟨g, 7, none⟩ = some (.int .i64 x.an)) ∧ (∀ W, Below w.heap.size w W → W.cell? ⟨g, 8, none⟩ = some (.int .i64 x.bv)) ∧ (∀ W, Below w.heap.size w W → W.cell? ⟨g, 9, none⟩ = some (.int .i64 x.bn)) :=
 ⟨later (h.cell 0), later (h.cell 1), later (h.cell 2), later (h.cell 3), later (h.cell 4), later (h.cell 5), later (h.cell 6), later (h.cell 7), later (h.cell 8), later (h.cell 9)⟩
theorem zmQ (x y : Edg) : zhu x y = ((x.kd == 12) && ((y.kd == 12) && (opEq x.av x.an y.av y.an && (opEq x.bv x.bn y.bv y.bn && (y.op == notOp x.op))))) := by
 unfold zhu opEq; rw [Bool.eq_iff_iff]; simp [and_assoc]
end
section
open Go.RowKit
attribute [local go_sem ↓] Go.wp_at_zero Go.wp_at_succ
attribute [local go_sem ↓] zcA zcl
theorem zny {w : World} {g : Nat} {t : TypeId} {a b c d e f : Value} (x : Blk w g t #[a, b, c, d, e, f]) :
  (∀ W, Below w.heap.size w W → W.cell? ⟨g, 0, none⟩ = some a) ∧ (∀ W, Below w.heap.size w W → W.cell? ⟨g, 1, none⟩ = some b) ∧ (∀ W, Below w.heap.size w W → W.cell? ⟨g, 2, none⟩ = some c) ∧ (∀ W, Below w.heap.size w W → W.cell? ⟨g, 3, none⟩ = some d) ∧ (∀ W, Below w.heap.size w W → W.cell? ⟨g, 4, none⟩ = some e) ∧ (∀ W, Below w.heap.size w W → W.cell? ⟨g, 5, none⟩ = some f) :=
 ⟨later (x.cell 0), later (x.cell 1), later (x.cell 2), later (x.cell 3), later (x.cell 4), later (x.cell 5)⟩
end
section
open Go.RowKit
attribute [local go_sem ↓] Go.wp_at_zero Go.wp_at_succ
theorem zjJ : (Tryz.prog.info? 44).map (fun i => (i.zero, i.size, i.bytes)) = some (some (.agg #[.int .i64 0, .int .i64 0, .int .i64 0, .int .i64 0, .int .i64 0, .int .i64 0, .int .i64 0, .int .i64 0, .int .i64 0, .int .i64 0]), 10, 80) := by kernel_rfl
theorem zeB (w : World) (base : Nat) (ty : TypeId) (v : Value) (n : Nat) (xs : List Value) (y : Edg) (h : w.ownsRow base 44 10 v n xs) (g : Nat)
  (hk : Blk w g 44 (ecs y)) (hl : n + 1 ≤ 1000000) (hbase : base ≤ w.heap.size) :
  ∃ v' w', (Builtin.append_ #[57, 57] ty #[v, .slice (some ⟨g, 0, none⟩) 1 1]).run Tryz.prog w = .ok v' w' ∧ w'.ownsRow base 44 10 v' (n + 1) (xs ++ y.cells) ∧ w.grownBy w' v.ownBlock ∧ (v'.ownBlock = v.ownBlock ∨ v'.ownBlock = some w.heap.size) := by
 obtain ⟨i0, hi, hz0, hz1, hz2⟩ := info_parts zjJ
 obtain ⟨v', w', hrun, h2, h3, _, h5⟩ := run_append_own_at (P := Tryz.prog) w base 57 ty _ i0 _ 10 80 Tryz.underlying57 hi hz0 hz1 hz2 rfl (by omega) v n xs h ⟨g, 0, none⟩ 1 1 y.cells rfl
  (fun j u hu => by rw [zfl, Nat.zero_add, hk.cell j]; simpa [ecs, Edg.cells] using hu) (fun u hu => by simp [Edg.cells] at hu; rcases hu with rfl | rfl | rfl | rfl | rfl | rfl | rfl | rfl | rfl | rfl <;> rfl) (by unfold maxLen; omega) (by omega) hbase
 exact ⟨v', w', hrun, h2, h3, h5⟩
theorem zew {g : Gr} (h : zb8 g = true) : chk g = 90 := by unfold chk; rw [if_pos h]
theorem zhE {g : Gr} (h : zb8 g = false) (h2 : zdw g = true) : chk g = 91 := by unfold chk; rw [if_neg (by rw [h]; decide), if_pos h2]
theorem zbm {g : Gr} (h : zb8 g = false) (h2 : zdw g = false) (h3 : zbG g = false) : chk g = 92 := by unfold chk; rw [if_neg (by rw [h]; decide), if_neg (by rw [h2]; decide), if_neg (by rw [h3]; decide)]
theorem znk {g : Gr} (h : zb8 g = false) (h2 : zdw g = false) (h3 : zbG g = true) : chk g = 0 := by unfold chk; rw [if_neg (by rw [h]; decide), if_neg (by rw [h2]; decide), if_pos h3]
theorem zmN {g : Gr} (h : 16 < g.sz.length) : zbG g = false := by unfold zbG; rw [show decide (g.sz.length ≤ 16) = false from decide_eq_false (by omega)]; simp
theorem zlg {g : Gr} {k : Nat} (hk : k < g.sz.length) (h : zd1 (gI g.sz k) = false) : zbG g = false := by
 have : g.sz.all zd1 = false := by
  rw [List.all_eq_false]
  refine ⟨gI g.sz k, ?_, by simp [h]⟩
  unfold gI; simp [hk]
 unfold zbG; rw [this]; simp
theorem zg5 {g : Gr} (h : decide (0 ≤ g.ex ∧ g.ex < g.pts) = false) : zbG g = false := by unfold zbG; rw [h]; simp
theorem zce {g : Gr} {k : Nat} (hk : k < g.es.length) (h : zbI g g.es[k] = false) : zbG g = false := by
 have : g.es.all (zbI g) = false := by
  rw [List.all_eq_false]
  exact ⟨g.es[k], List.getElem_mem hk, by simp [h]⟩
 unfold zbG; rw [this]; simp
theorem zkc {g : Gr} {k : Nat} (hk : k < g.pts.toNat) (h : zfS (zeT g.es k) = false) : zbG g = false := by
 have : zcs g g.pts.toNat = false := by
  unfold zcs; rw [List.all_eq_false]
  exact ⟨k, List.mem_range.2 hk, by simp [h]⟩
 unfold zbG; rw [this]; simp
theorem zjb {g : Gr} {k : Nat} (h : zcs g k = true) (h2 : zfS (zeT g.es k) = true) : zcs g (k + 1) = true := by
 unfold zcs at *; rw [List.range_succ, List.all_append, h]; simp [h2]
theorem ziD {sz : List Int} {k : Nat} (hk : k < sz.length) (h : (sz.take k).all zd1 = true) (h2 : zd1 (gI sz k) = true) : (sz.take (k + 1)).all zd1 = true := by
 rw [List.take_succ_eq_append_getElem hk, List.all_append, h]
 unfold gI at h2; simp [hk] at h2; simp [h2]
theorem ziM {g : Gr} {k : Nat} (hk : k < g.es.length) (h : (g.es.take k).all (zbI g) = true) (h2 : zbI g g.es[k] = true) : (g.es.take (k + 1)).all (zbI g) = true := by
 rw [List.take_succ_eq_append_getElem hk, List.all_append, h]; simp [h2]
theorem znZ {g : Gr} {e : Edg} (h : zbI g e = true) : 0 ≤ e.fr ∧ e.fr < g.pts ∧ 0 ≤ e.te ∧ e.te < g.pts := by
 unfold zbI inE at h
 simp only [Bool.and_eq_true, decide_eq_true_eq] at h
 omega
theorem RdD.size {w : World} {B : Nat} {A : Option Addr} {sz : List Int} (h : RdD w B A sz) {k : Nat} (hk : k < sz.length) : ∃ b off s, A = some ⟨b, off, none⟩ ∧ b < B ∧ w.cell? ⟨b, off + k * 2, none⟩ = some (.string s) ∧ w.cell? ⟨b, off + k * 2 + 1, none⟩ = some (.int .i64 (gI sz k)) := by
 obtain ⟨b, off, h1, h2, ⟨s, h3⟩, h4⟩ := h k hk
 exact ⟨b, off, s, h1, h2, h3, h4⟩
theorem zdf {P : Program} {a : Act} {o : Oper} {v u v' : Value} {w w' : World} (s x : Operand) (t : TypeId) (ho : o.op = .call { callee := .builtin .append, args := #[s, x], argTypes := #[t, t] }) (hs : a.eval s = v) (hx : a.eval x = u)
  (hrun : (Builtin.append_ #[t, t] o.type #[v, u]).run P w = .ok v' w') : (execOp a.eval o).run P w = .ok (.value v') w' := by
 unfold execOp
 simp only [ho, resolve, invoke, builtin, Sem.run_bind, Sem.run_pure, Result.andThen_ok, List.map_toArray, List.map_cons, List.map_nil, hs, hx, hrun]
theorem SN.cell {w6 w2 : World} {o : Obj} {row : Option Nat} (hg : (w6.drew.alloc o).grownBy w2 row) {b i : Nat} {v : Value} (hb : b < w6.heap.size) (hr : row ≠ some b) (hc : w6.cell? ⟨b, i, none⟩ = some v) : ∀ W, znY (SN w6.drew (w6.drew.alloc o) w2) W → W.cell? ⟨b, i, none⟩ = some v := by
 intro W hW
 have h1 : (w6.drew.alloc o).cell? ⟨b, i, none⟩ = some v := by
  rw [← hc]
  exact World.cell?_of_block (w := w6) (a := ⟨b, i, none⟩) (heap_alloc_old w6.drew o hb)
 rcases SN.any hW with rfl | rfl | rfl
 ·exact hc
 ·exact h1
 ·rw [← h1]
  exact World.cell?_of_block (a := ⟨b, i, none⟩) (hg.block b (by simp; omega) (fun e => hr e.symm))
end
section
open Go.RowKit
attribute [local go_sem ↓] Go.wp_at_zero Go.wp_at_succ
attribute [local go_sem ↓] zcA zcl
def eAt (es : List Edg) (i : Nat) : Edg := es.getD i ⟨0, 0, 0, 0, 0, 0, 0, 0, 0, 0⟩
theorem zfx {es : List Edg} {i : Nat} (h : i < es.length) : es[i] = eAt es i := by unfold eAt; simp [h]
def ints (ix : List Nat) : List Int := ix.map Int.ofNat
theorem zn3 {ix : List Nat} {k : Nat} (h : k < ix.length) : gI (ints ix) k = (ix[k] : Int) := by unfold gI ints; simp [h]
theorem zc3 (ix : List Nat) : (ints ix).length = ix.length := by simp [ints]
theorem Rd.ix {w : World} {B : Nat} {A : Option Addr} {ix : List Nat} (h : Rd w B A (ints ix)) {k : Nat} (hk : k < ix.length) : ∃ b off, A = some ⟨b, off, none⟩ ∧ b < B ∧ w.cell? ⟨b, off + k, none⟩ = some (.int .i64 (ix[k] : Int)) := by
 obtain ⟨b, off, h1, h2, h3⟩ := h k (by rw [zc3]; exact hk)
 rw [zn3 hk] at h3
 exact ⟨b, off, h1, h2, h3⟩
theorem zjL (g : Gr) (V D E : Option Addr) (cv cd ce : Nat) (A : Option Addr) (c : Nat) (w : World) :
  Calls Tryz.prog 156 #[grV g V D E cv cd ce, .slice A 0 c] w fun e w' => e = .returned (.bool true) ∧ Below w.heap.size w w' := by
 unfold grV
 go_enter Tryz.func156, Tryz.ntmps156
 go_wp2; go_ret; exact ⟨rfl, new1 _ _⟩
theorem zjR (g : Gr) (V D : Option Addr) (cv cd ce : Nat) (i : Nat) (b off b2 off2 c : Nat) (w : World) (hi : i < g.es.length) (hE : RdE w w.heap.size (some ⟨b, off, none⟩) g.es) (hB2 : b2 < w.heap.size) (hc : w.cell? ⟨b2, off2, none⟩ = some (.int .i64 i)) (_hl : g.es.length ≤ 17592186044416) :
  Calls Tryz.prog 156 #[grV g V D (some ⟨b, off, none⟩) cv cd ce, .slice (some ⟨b2, off2, none⟩) 1 c] w fun e w' => e = .returned (.bool (zfS [eAt g.es i])) ∧ Below w.heap.size w w' := by
 unfold grV
 have n0 := new1 w (.cells #[.slice V g.nv cv, g.tm, .slice D g.sz.length cd, g.pts, g.ex, .slice (some ⟨b, off, none⟩) g.es.length ce] 64)
 obtain ⟨bb, oo, e1, hB, p0, p1, p2, p3, p4, p5, p6, p7, p8, p9⟩ := hE.get hi (zfx hi)
 injection e1 with e1; injection e1 with e1 e2; subst e1; subst e2
 generalize eAt g.es i = x at *
 have x5 := (Blk.new w 64 #[.slice V g.nv cv, g.tm, .slice D g.sz.length cd, g.pts, g.ex, .slice (some ⟨b, off, none⟩) g.es.length ce]).cell 5
 have hi0 : (0 : Int) ≤ (i : Int) := by omega
 have hi1 : (i : Int) < (g.es.length : Int) := by omega
 have HF : Hid (zfS [x] = (x.kd != 12)) := hid (by unfold zfS; rw [Bool.eq_iff_iff]; simp)
 clear hE hi
 go_enter Tryz.func156, Tryz.ntmps156
 go_upto_region 3 with fail
 go_region
 go_wp2; go_ret; exact ⟨retb HF.out.symm, ((n0.trans ((new1 _ _).mono n0.size)).drew)⟩
theorem zi6 (g : Gr) (V D : Option Addr) (cv cd ce : Nat) (i j L : Nat) (b off b2 off2 c : Nat) (w : World) (hi : i < g.es.length) (hj : j < g.es.length) (hE : RdE w w.heap.size (some ⟨b, off, none⟩) g.es) (hB2 : b2 < w.heap.size) (hc : w.cell? ⟨b2, off2, none⟩ = some (.int .i64 i)) (hc2 : w.cell? ⟨b2, off2 + 1, none⟩ = some (.int .i64 j)) (_hl : g.es.length ≤ 17592186044416) (hL : 2 ≤ L) (hL2 : L ≤ 17592186044416) :
  Calls Tryz.prog 156 #[grV g V D (some ⟨b, off, none⟩) cv cd ce, .slice (some ⟨b2, off2, none⟩) L c] w fun e w' => e = .returned (.bool ((L : Int) == 2 && zhu (eAt g.es i) (eAt g.es j))) ∧ Below w.heap.size w w' := by
 unfold grV
 have n0 := new1 w (.cells #[.slice V g.nv cv, g.tm, .slice D g.sz.length cd, g.pts, g.ex, .slice (some ⟨b, off, none⟩) g.es.length ce] 64)
 obtain ⟨bb, oo, e1, hB, p0, p1, p2, p3, p4, p5, p6, p7, p8, p9⟩ := hE.get hi (zfx hi)
 injection e1 with e1; injection e1 with e1 e2; subst e1; subst e2
 obtain ⟨bb, oo, e1, -, q0, q1, q2, q3, q4, q5, q6, q7, q8, q9⟩ := hE.get hj (zfx hj)
 injection e1 with e1; injection e1 with e1 e2; subst e1; subst e2
 have HR := hid (zmQ (eAt g.es i) (eAt g.es j))
 generalize eAt g.es i = x at *
 generalize eAt g.es j = y at *
 have x5 := (Blk.new w 64 #[.slice V g.nv cv, g.tm, .slice D g.sz.length cd, g.pts, g.ex, .slice (some ⟨b, off, none⟩) g.es.length ce]).cell 5
 have hi0 : (0 : Int) ≤ (i : Int) := by omega
 have hi1 : (i : Int) < (g.es.length : Int) := by omega
 have hj0 : (0 : Int) ≤ (j : Int) := by omega
 have hj1 : (j : Int) < (g.es.length : Int) := by omega
 have t0 : ((L : Int) == 0) = false := by rw [beq_eq_false_iff_ne]; omega
 have t1 : ((L : Int) == 1) = false := by rw [beq_eq_false_iff_ne]; omega
 have l1 : (0 : Int) < L := by omega
 have l2 : (1 : Int) < L := by omega
 clear hE hi hj
 go_enter Tryz.func156, Tryz.ntmps156
 go_upto_region 3 with fail
 go_region
 clear p0 p1 p2 p3 p4 p5 p6 p7 p8 p9 hc
 have n2 : Below w.heap.size w ((w.alloc (.cells #[.slice V g.nv cv, g.tm, .slice D g.sz.length cd, g.pts, g.ex, .slice (some ⟨b, off, none⟩) g.es.length ce] 64)).alloc (.cells (ecs x) 44)) := n0.trans ((new1 _ _).mono n0.size)
 obtain ⟨k0, k1⟩ := zdR (w := w) (Below.refl _ ((w.alloc (.cells #[.slice V g.nv cv, g.tm, .slice D g.sz.length cd, g.pts, g.ex, .slice (some ⟨b, off, none⟩) g.es.length ce] 64)).alloc (.cells (ecs x) 44)))
 replace q0 := (n2.cell (p := ⟨b, _, none⟩) hB).trans q0
 replace q1 := (n2.cell (p := ⟨b, _, none⟩) hB).trans q1
 replace q2 := (n2.cell (p := ⟨b, _, none⟩) hB).trans q2
 replace q3 := (n2.cell (p := ⟨b, _, none⟩) hB).trans q3
 replace q4 := (n2.cell (p := ⟨b, _, none⟩) hB).trans q4
 replace q5 := (n2.cell (p := ⟨b, _, none⟩) hB).trans q5
 replace q6 := (n2.cell (p := ⟨b, _, none⟩) hB).trans q6
 replace q7 := (n2.cell (p := ⟨b, _, none⟩) hB).trans q7
 replace q8 := (n2.cell (p := ⟨b, _, none⟩) hB).trans q8
 replace q9 := (n2.cell (p := ⟨b, _, none⟩) hB).trans q9
 replace hc2 := (n2.cell (p := ⟨b2, _, none⟩) hB2).trans hc2
 have hs2 := n2.size
 replace hB : b < ((w.alloc (.cells #[.slice V g.nv cv, g.tm, .slice D g.sz.length cd, g.pts, g.ex, .slice (some ⟨b, off, none⟩) g.es.length ce] 64)).alloc (.cells (ecs x) 44)).heap.size := by omega
 replace hB2 : b2 < ((w.alloc (.cells #[.slice V g.nv cv, g.tm, .slice D g.sz.length cd, g.pts, g.ex, .slice (some ⟨b, off, none⟩) g.es.length ce] 64)).alloc (.cells (ecs x) 44)).heap.size := by omega
 clear n0 x5 hs2
 have x5 := k0.cell 5
 have c5 := k0.lt
 unfold ecs at *
 generalize ((w.alloc (.cells #[.slice V g.nv cv, g.tm, .slice D g.sz.length cd, g.pts, g.ex, .slice (some ⟨b, off, none⟩) g.es.length ce] 64)).alloc (.cells #[x.fr, x.te, x.kd, x.dst, x.arr, x.op, x.av, x.an, x.bv, x.bn] 44)) = w1 at *
 go_upto_region 6 with fail
 go_region
 clear q0 q1 q2 q3 q4 q5 q6 q7 q8 q9 hc2 x5
 have n3 := new1 w1 (.cells (ecs y) 44)
 have k2 := Blk.new w1 44 (ecs y)
 replace k1 := k1.later n3
 replace n2 := bup n2 n3
 unfold ecs at *
 clear n3 k0 c5 hB hB2
 go_upto_region 7 with fail
 generalize (w1.alloc (.cells _ 44)) = w2 at *
 obtain ⟨a0, a1, a2, a3, a4, a5, a6, a7, a8, a9⟩ := zj6 k1
 obtain ⟨b0, b1, b2', b3, b4, b5, b6, b7, b8, b9⟩ := zj6 k2
 clear k1 k2
 cases tL : ((L : Int) == 2)
 ·as_aux_lemma =>
  refine zbu 33 (fun W => Below w2.heap.size w2 W) (by kernel_rfl) (by kernel_rfl) (((Below.refl _ _).drew).drew).drew ?_
  refine fl_a ?_
  intro w6 c0
  go_wp2
  go_ret
  exact ⟨rfl, bup n2 c0⟩
 ·as_aux_lemma =>
  refine zbu 33 (fun W => Below w2.heap.size w2 W) (by kernel_rfl) (by kernel_rfl) (((Below.refl _ _).drew).drew).drew ?_
  refine fl_a ?_
  cases c1 : (x.kd == 12)
  ·refine fl_a ?_
   intro w6 c0
   go_wp2
   go_ret
   exact ⟨retb (by rw [HR.out, c1]; rfl), bup n2 c0⟩
  ·skip
   cases c2 : (y.kd == 12)
   ·refine fl_a ?_
    intro w6 c0
    go_wp2
    go_ret
    exact ⟨retb (by rw [HR.out, c1, c2]; rfl), bup n2 c0⟩
   ·skip
    cases c3 : opEq x.av x.an y.av y.an
    ·refine fl_a ?_
     intro w6 c0
     go_wp2
     go_ret
     exact ⟨retb (by rw [HR.out, c1, c2, c3]; rfl), bup n2 c0⟩
    ·skip
     cases c4 : opEq x.bv x.bn y.bv y.bn
     ·refine fl_a ?_
      intro w6 c0
      go_wp2
      go_ret
      exact ⟨retb (by rw [HR.out, c1, c2, c3, c4]; rfl), bup n2 c0⟩
     ·skip
      refine fl_a ?_
      (refine fl_c 208 #[x.op] (.int .i64 (notOp x.op)) (fun X hX => (zl2 _ _).mono fun e w' ⟨he, hb⟩ => ⟨he, hb ▸ hX⟩) ?_)
      refine fl_a ?_
      intro w6 c0
      go_wp2
      go_ret
      exact ⟨retb (by rw [HR.out, c1, c2, c3, c4]; rfl), bup n2 c0⟩
end
end Go.Proofs.YtnmpgijiimglcaaGreat
