/-
  gnomonlaw17.steady; gnomonref15.One, Operand; gnomonref16.Right.
  gnomonref10: value, place, does: what they answer, of a state that may be.
  A region that draws its order and has TWO operations that turn the world, the second of which waits for the first (a slice that is built, an append): each other operation yields one value at each time. Then the operations may be taken in the order of the text.
  Whether edges from a point go together: cfg.goes: what each call answers.
-/
import Derived.Test.YtkncebcekhfnfaaGreatBWT15
import Derived.Test.YtkncebcekhfnfaaGreatBWT16
import Derived.Test.YtkncebcekhfnfaaGreatBWT17
import Derived.Test.YtkncebcekhfnfaaGreatBWT12
import Derived.Test.YtkncebcekhfnfaaGreatBWT03
import Derived.Test.YtkncebcekhfnfaaGreatBWT13
import Derived.Test.YtkncebcekhfnfaaGreatBWT08
namespace Go.Proofs.YtkncebcekhfnfaaGreat
section

end
section
open Go.RowKit
attribute [local go_sem ↓] Go.wp_at_zero Go.wp_at_succ

theorem opdbox {w : World} {g : Nat} {t : TypeId} {a b : Value} (h : Blk w g t #[a, b]) : w.cell? ⟨g, 0, none⟩ = some a ∧ w.cell? ⟨g, 1, none⟩ = some b ∧ ∀ j, w.frozen? ⟨g, j, none⟩ = false := ⟨h.cell 0, h.cell 1, h.fr⟩
def isPlace (n : Nat) (a : Int) : Bool := decide (0 ≤ a ∧ a < (n : Int))
/-- What an edge does, an input being at hand: what goes wrong, and the variables behind it. -/
def doesW (ls : List (List Int)) (e : Edg) (xs : List Int) (input : Int) : Int × List Int :=
  if e.kd = 2 then (0, xs.set e.dst.toNat (opdX xs e.av e.an))
  else if e.kd = 9 then (0, xs.set e.dst.toNat input)
  else if 3 ≤ e.kd ∧ e.kd ≤ 8 then
    if (kindW e.kd (opdX xs e.av e.an) (opdX xs e.bv e.bn)).2 = 0 then (0, xs.set e.dst.toNat (kindW e.kd (opdX xs e.av e.an) (opdX xs e.bv e.bn)).1) else ((kindW e.kd (opdX xs e.av e.an) (opdX xs e.bv e.bn)).2, xs)
  else if e.kd = 10 then
    if isPlace (ls.getD e.arr.toNat []).length (opdX xs e.av e.an) = true then (0, xs.set e.dst.toNat (gI (ls.getD e.arr.toNat []) (opdX xs e.av e.an))) else (3, xs)
  else if e.kd = 11 then
    if isPlace (ls.getD e.arr.toNat []).length (opdX xs e.av e.an) = true then (0, xs) else (3, xs)
  else if e.kd = 14 then (4, xs) else (0, xs)

theorem opd_lt {b : Bool} {n v m : Int} (hn : 0 ≤ n) (h : (bif b then opdOk n v m else opdNo v m) = true) : v < n := by
  cases b
  · simp only [cond_false, opdNo, decide_eq_true_eq] at h; omega
  · simp only [cond_true, opdOk, decide_eq_true_eq] at h; omega
end
section
section
variable {P : Program} {ops : Array Oper} {Q : Exit → Act → World → Prop} {S : Bool → Bool → World → Prop} {md : Region.Mode} {j1 j2 : Nat}

/-- Operation i leads from S b1 b2 on, for all that may be. -/
def StepN (P : Program) (_md : Region.Mode) (ops : Array Oper) (S : Bool → Bool → World → Prop) (j1 j2 i : Nat) (o : Oper) (v : Value) (a : Act) : Prop :=
  ∀ b1 b2, (i = j1 → b1 = false ∧ b2 = false) → (i = j2 → b1 = true ∧ b2 = false) → StepM P ops (S b1 b2) (S (b1 || i == j1) (b2 || i == j2)) o v a
/-- The second waits for the first. -/
def Waits (md : Region.Mode) (ops : Array Oper) (j1 j2 : Nat) : Prop :=
  ∀ listed, closedL md ops listed → (∀ o, ops[j2]? = some o → ∀ e ∈ o.after, Region.binds md e = true → listed.getD e.on false = true) → listed.getD j1 false = true
theorem waits_of (h : reachB md ops j1 ops.size j2 = true) : Waits md ops j1 j2 := fun _ hc hall => reachB_spec hc _ _ h hall

def AnyN (P : Program) (md : Region.Mode) (ops : Array Oper) (Q : Exit → Act → World → Prop) (S : Bool → Bool → World → Prop) (j1 j2 m : Nat) : Nat → Array Bool → Act → Prop
  | 0, listed, a => earlyDone m listed ∧ ∀ w, S (listed.getD j1 false) (listed.getD j2 false) w → wpAny P md ops Q 0 listed a w
  | fuel + 1, listed, a => (earlyDone m listed ∧ ∀ w, S (listed.getD j1 false) (listed.getD j2 false) w → wpAny P md ops Q (fuel + 1) listed a w) ∨
    (Region.ready md ops listed ≠ [] ∧ ∀ i ∈ Region.ready md ops listed, i < m ∧ ∃ o v, ops[i]? = some o ∧ StepN P md ops S j1 j2 i o v a ∧ AnyN P md ops Q S j1 j2 m fuel (listed.setIfInBounds i true) (a.put o.dst v))

theorem AnyN.wpAny (hwt : Waits md ops j1 j2) (hQ : ∀ e a w, Never e a w → Q e a w) {m : Nat} : ∀ (fuel : Nat) (listed : Array Bool) (a : Act), closedL md ops listed → AnyN P md ops Q S j1 j2 m fuel listed a → ∀ w, S (listed.getD j1 false) (listed.getD j2 false) w → Go.wpAny P md ops Q fuel listed a w
  | 0, _, _, _, h, w, hS => h.2 w hS
  | fuel + 1, listed, a, hcl, h, w, hS => by
    rcases h with ⟨_, h⟩ | ⟨hne, h⟩
    · exact h w hS
    · refine ⟨fun h0 => absurd h0 hne, fun i hi => ?_⟩
      obtain ⟨_, o, v, ho, hst, hrest⟩ := h i hi
      obtain ⟨g1, g2⟩ := ready_getD hi
      obtain ⟨_, oi, hoi, hall⟩ := mem_ready.1 hi
      refine (hst _ _ (fun e => ⟨by rw [← e]; exact g2, ?_⟩) (fun e => ⟨?_, by rw [← e]; exact g2⟩)).wpOp ho hS (fun w2 hS2 => AnyN.wpAny hwt hQ fuel _ _ (hcl.set hi) hrest w2 ?_) hQ
      · cases hj : listed.getD j2 false with
        | false => rfl
        | true =>
          have := hwt listed hcl (fun oj hoj e he hb => hcl j2 oj hoj hj e he hb)
          rw [← e, g2] at this; cases this
      · subst e
        exact hwt listed hcl (fun oj hoj e he hb => by rw [hoi] at hoj; injection hoj with hoj; subst hoj; exact hall e he hb)
      · rw [getD_mark g1, getD_mark g1]; exact hS2

theorem AnyN.first (hsel : ∀ (j : Nat) (o : Oper) cs b, ops[j]? = some o → o.op ≠ .select cs b) {m : Nat} (htail : tailOk md ops m = true) {i : Nat} {oi : Oper} {v : Value} (hi : ops[i]? = some oi) (him : i < m) :
    ∀ (fuel : Nat) (listed : Array Bool) (a : Act), closedL md ops listed →
      (∀ j oj, ops[j]? = some oj → j ≠ i → listed.getD j true = false → (∀ e ∈ oj.after, Region.binds md e = true → e.on ≠ i) → oi.apart ops oj = true) →
      i ∈ Region.ready md ops listed → StepN P md ops S j1 j2 i oi v a →
      AnyN P md ops Q S j1 j2 m fuel (listed.setIfInBounds i true) (a.put oi.dst v) → AnyN P md ops Q S j1 j2 m (fuel + 1) listed a := by
  intro fuel
  have early : ∀ (listed : Array Bool) (k : Nat), closedL md ops listed → i ∈ Region.ready md ops listed → k ∈ Region.ready md ops listed → k < m := by
    intro listed k hc hr hk
    rcases Nat.lt_or_ge k m with h | h
    · exact h
    · exfalso
      obtain ⟨_, oj, hoj, hall⟩ := mem_ready.1 hk
      have hjs : k < ops.size := (Array.getElem?_eq_some_iff.1 hoj).1
      have h1 := List.all_eq_true.1 htail k (List.mem_range.2 hjs)
      simp only [Bool.or_eq_true, decide_eq_true_eq] at h1
      have h2 := List.all_eq_true.1 (h1.resolve_left (by omega)) i (List.mem_range.2 him)
      have h3 := reachB_spec hc _ _ h2 (fun o ho e he hb => by rw [hoj] at ho; injection ho with ho; subst ho; exact hall e he hb)
      rw [(ready_getD hr).2] at h3; cases h3
  induction fuel with
  | zero =>
    intro listed a hc hfree hr hy H
    refine .inr ⟨fun h => (by rw [h] at hr; cases hr), fun k hk => ?_⟩
    by_cases hji : k = i
    · subst hji; exact ⟨him, oi, v, hi, hy, H⟩
    · exfalso
      have h1 := H.1 k (early listed k hc hr hk)
      rw [getD_set_ne false (Ne.symm hji), (ready_getD hk).2] at h1; cases h1
  | succ fuel ih =>
    intro listed a hc hfree hr hy H
    refine .inr ⟨fun h => (by rw [h] at hr; cases hr), fun k hk => ?_⟩
    by_cases hji : k = i
    · subst hji; exact ⟨him, oi, v, hi, hy, H⟩
    · have hjm := early listed k hc hr hk
      rcases H with ⟨hd, _⟩ | ⟨_, H⟩
      · exfalso
        have h1 := hd k hjm
        rw [getD_set_ne false (Ne.symm hji), (ready_getD hk).2] at h1; cases h1
      · obtain ⟨_, oj, u, hoj, hst, hrest⟩ := H k (ready_mono hk hji)
        obtain ⟨hjun, oj', hoj', hall⟩ := mem_ready.1 hk
        rw [hoj] at hoj'; injection hoj' with hoj'; subst hoj'
        have hnot : ∀ e ∈ oj.after, Region.binds md e = true → e.on ≠ i := fun e he hb heq => by
          have h1 := hall e he hb
          rw [heq, (ready_getD hr).2] at h1; cases h1
        obtain ⟨h1, h2, h3⟩ := Oper.apart_spec (hfree k oj hoj hji hjun hnot)
        refine ⟨hjm, oj, u, hoj, fun b1 b2 hb hb' => (hst b1 b2 hb hb').unputApart (hsel k oj · · hoj) _ _ h1, ih _ _ (hc.set hk) ?_ (ready_mono hr (Ne.symm hji)) (fun b1 b2 hb hb' => (hy b1 b2 hb hb').putApart (hsel i oi · · hi) _ _ h3) ?_⟩
        · intro k' ok hk' hki hun hno
          refine hfree k' ok hk' hki ?_ hno
          by_cases hjk : k = k'
          · subst hjk; exact hjun
          · rw [getD_set_ne true hjk] at hun; exact hun
        · rw [Array.setIfInBounds_comm _ _ hji, ← Act.put_comm a v u h2]
          exact hrest

def FlowN (P : Program) (ops : Array Oper) (Q : Exit → Act → World → Prop) (S : Bool → Bool → World → Prop) (j1 j2 : Nat) : Nat → Nat → List Oper → Act → Prop
  | 0, _, l, a => ∀ w, S true true w → wpList P ops Q l a w
  | _ + 1, _, [], a => ∀ w, S true true w → Q .normal a w
  | m + 1, k, o :: rest, a => ∃ v, StepN P .any ops S j1 j2 k o v a ∧ FlowN P ops Q S j1 j2 m (k + 1) rest (a.put o.dst v)

theorem FlowN.anyN {m0 : Nat} (hsel : ∀ (j : Nat) (o : Oper) cs b, ops[j]? = some o → o.op ≠ .select cs b) (htail : tailOk .any ops m0 = true) (hm0 : m0 ≤ ops.size) (hj1 : j1 < m0) (hj2 : j2 < m0)
    (hr : ∀ i, i < m0 → i ∈ Region.ready .any ops (pre ops.size i)) (hfr : ∀ i, i < m0 → Region.free .any ops (pre ops.size i) i = true)
    (hf : ∀ i, i < ops.size → m0 ≤ i → Region.ready .any ops (pre ops.size i) = [i]) (hend : Region.ready .any ops (pre ops.size ops.size) = []) :
    ∀ (m k : Nat) (l : List Oper), k + m = m0 → closedL .any ops (pre ops.size k) → (∀ j, l[j]? = ops[k + j]?) → ∀ (a : Act), FlowN P ops Q S j1 j2 m k l a → AnyN P .any ops Q S j1 j2 m0 (ops.size - k) (pre ops.size k) a
  | 0, k, l, hk, _, hl, a, h => by
    have hk' : k = m0 := by omega
    subst hk'
    have he : earlyDone k (pre ops.size k) := fun i hi => by rw [pre_getD _ _ _ _ (by omega) (by omega)]; simpa using hi
    have hjt1 : (pre ops.size k).getD j1 false = true := he j1 hj1
    have hjt2 : (pre ops.size k).getD j2 false = true := he j2 hj2
    have h1 : ∀ w, S ((pre ops.size k).getD j1 false) ((pre ops.size k).getD j2 false) w → Go.wpAny P .any ops Q (ops.size - k) (pre ops.size k) a w := fun w hS => wpAny_tail hf hend _ _ l (Nat.le_refl _) (by omega) hl a w (h w (by rw [hjt1, hjt2] at hS; exact hS))
    generalize hn : ops.size - k = n at h1
    cases n with
    | zero => exact ⟨he, h1⟩
    | succ n => exact .inl ⟨he, h1⟩
  | m + 1, k, l, hk, hc, hl, a, h => by
    have hks : k < ops.size := by omega
    cases l with
    | nil => have := hl 0; simp [Array.getElem?_eq_getElem hks] at this
    | cons o l =>
      have ho : ops[k]? = some o := by simpa using (hl 0).symm
      have hl' : ∀ j, l[j]? = ops[k + 1 + j]? := fun j => by have := hl (j + 1); simpa [Nat.add_assoc, Nat.add_comm 1 j] using this
      obtain ⟨v, hst, hrest⟩ := h
      have hn : ops.size - k = (ops.size - (k + 1)) + 1 := by omega
      rw [hn]
      refine AnyN.first hsel htail ho (by omega) _ _ _ hc (Region.free_spec ho (hfr k (by omega))) (hr k (by omega)) hst ?_
      rw [pre_set _ _ hks]
      refine FlowN.anyN hsel htail hm0 hj1 hj2 hr hfr hf hend m (k + 1) l (by omega) ?_ hl' _ hrest
      rw [← pre_set _ _ hks]
      exact hc.set (hr k (by omega))

theorem wp_region_flowN {id : Nat} {l : List Oper} {a : Act} {w : World} (m j1 j2 : Nat) (S : Bool → Bool → World → Prop) (hm : P.follows .mixedOrders = true) (hc : flowOk l.toArray m = true) (hwt : reachB .any l.toArray j1 l.toArray.size j2 = true) (hj1 : j1 < m) (hj2 : j2 < m) (hS : S false false w.drew)
    (h : FlowN P l.toArray Q S j1 j2 m 0 l a) : (Code.region id l.toArray true).wp P Q a w := by
  simp only [flowOk, Bool.and_eq_true, decide_eq_true_eq, beq_iff_eq, List.all_eq_true, List.mem_range] at hc
  obtain ⟨⟨⟨⟨⟨c1, c2⟩, c3⟩, c4⟩, c5⟩, c6⟩ := hc
  have hQ : ∀ e a w, Never e a w → Q e a w := fun _ _ _ h => (h : False).elim
  refine wp_region_any hm ?_
  have hp : Array.replicate l.toArray.size false = pre l.toArray.size 0 := by simp [pre, ← List.toArray_replicate]
  rw [hp]
  have hr : ∀ i, i < m → i ∈ Region.ready .any l.toArray (pre l.toArray.size i) := fun i hi => by simpa using (c4 i hi).1
  refine AnyN.wpAny (waits_of hwt) hQ _ _ _ ?_ (FlowN.anyN (m0 := m) (k := 0) (Region.noSelect_spec c1) c3 c2 hj1 hj2 hr (fun i hi => (c4 i hi).2) ?_ c6 m l (by omega) ?_ (by simp) a h) w.drew ?_
  rotate_left
  · intro i hi hmi
    have := c5 (i - m) (by omega)
    rwa [show m + (i - m) = i by omega] at this
  · intro k o _ hk
    exfalso
    rcases Nat.lt_or_ge k l.toArray.size with h' | h'
    · rw [pre_getD _ _ _ _ (by omega) h'] at hk; simp at hk
    · rw [Array.getD, dif_neg (by rw [pre_size _ _ (by omega)]; omega)] at hk; cases hk
  · rw [pre_getD _ _ _ _ (by omega) (by omega), pre_getD _ _ _ _ (by omega) (by omega)]; simpa using hS
  · intro k o _ hk
    exfalso
    rcases Nat.lt_or_ge k l.toArray.size with h' | h'
    · rw [pre_getD _ _ _ _ (by omega) h'] at hk; simp at hk
    · rw [Array.getD, dif_neg (by rw [pre_size _ _ (by omega)]; omega)] at hk; cases hk

/-! The moves. -/
def AnyBB (S : Bool → Bool → World → Prop) (w : World) : Prop := ∃ b1 b2, S b1 b2 w
theorem FlowN.take {m k : Nat} {o : Oper} {rest : List Oper} {a : Act} (v : Value) (hk : (k == j1) = false) (hk2 : (k == j2) = false) (hw : Region.wanted o (yielded ops a.tmps) = true) (h : ∀ w, AnyBB S w → ∀ R : Value → Prop, R v → Yl R w ((execOp a.eval o).run P w)) (hr : FlowN P ops Q S j1 j2 m (k + 1) rest (a.put o.dst v)) :
    FlowN P ops Q S j1 j2 (m + 1) k (o :: rest) a :=
  ⟨v, fun b1 b2 _ _ => .inl ⟨hw, fun w hS K hK => by
    rw [hk, hk2, Bool.or_false, Bool.or_false] at hK
    have h1 := h w ⟨b1, b2, hS⟩ (fun x => x = v) rfl
    unfold Oper.wp
    generalize (execOp a.eval o).run P w = r at *
    cases r with
    | ok n w' =>
      cases n with
      | value x => obtain ⟨e1, e2⟩ := h1; subst e1; subst e2; exact hK _ _ rfl hS
      | _ => exact h1.elim
    | halt x w' => exact h1.elim⟩, hr⟩
theorem FlowN.skip {m k : Nat} {o : Oper} {rest : List Oper} {a : Act} (hk : (k == j1) = false) (hk2 : (k == j2) = false) (hw : Region.wanted o (yielded ops a.tmps) = false) (hr : FlowN P ops Q S j1 j2 m (k + 1) rest (a.put o.dst undef)) :
    FlowN P ops Q S j1 j2 (m + 1) k (o :: rest) a :=
  ⟨undef, fun b1 b2 _ _ => .inr ⟨hw, rfl, fun w hS => by rw [hk, hk2, Bool.or_false, Bool.or_false]; exact hS⟩, hr⟩
theorem FlowN.mark1 {m k : Nat} {o : Oper} {rest : List Oper} {a : Act} (v : Value) (hk : (k == j1) = true) (hk2 : (k == j2) = false) (hw : Region.wanted o (yielded ops a.tmps) = true)
    (h : ∀ w, S false false w → ∃ w2, (execOp a.eval o).run P w = .ok (.value v) w2 ∧ S true false w2) (hr : FlowN P ops Q S j1 j2 m (k + 1) rest (a.put o.dst v)) :
    FlowN P ops Q S j1 j2 (m + 1) k (o :: rest) a :=
  ⟨v, fun b1 b2 hb _ => .inl ⟨hw, fun w hS K hK => by
    obtain ⟨rfl, rfl⟩ := hb (by simpa using hk)
    rw [hk, hk2] at hK
    obtain ⟨w2, h1, h2⟩ := h w hS
    unfold Oper.wp; rw [h1]; exact hK _ _ rfl h2⟩, hr⟩
theorem FlowN.mark2 {m k : Nat} {o : Oper} {rest : List Oper} {a : Act} (v : Value) (hk : (k == j1) = false) (hk2 : (k == j2) = true) (hw : Region.wanted o (yielded ops a.tmps) = true)
    (h : ∀ w, S true false w → ∃ w2, (execOp a.eval o).run P w = .ok (.value v) w2 ∧ S true true w2) (hr : FlowN P ops Q S j1 j2 m (k + 1) rest (a.put o.dst v)) :
    FlowN P ops Q S j1 j2 (m + 1) k (o :: rest) a :=
  ⟨v, fun b1 b2 _ hb => .inl ⟨hw, fun w hS K hK => by
    obtain ⟨rfl, rfl⟩ := hb (by simpa using hk2)
    rw [hk, hk2] at hK
    obtain ⟨w2, h1, h2⟩ := h w hS
    unfold Oper.wp; rw [h1]; exact hK _ _ rfl h2⟩, hr⟩
/-- Three worlds, one behind the other. -/
def SN (w0 w1 w2 : World) : Bool → Bool → World → Prop
  | false, false => fun W => W = w0
  | true, false => fun W => W = w1
  | true, true => fun W => W = w2
  | false, true => fun _ => False
theorem SN.any {w0 w1 w2 W : World} (h : AnyBB (SN w0 w1 w2) W) : W = w0 ∨ W = w1 ∨ W = w2 := by
  obtain ⟨b1, b2, h⟩ := h
  cases b1 <;> cases b2
  · exact .inl h
  · exact h.elim
  · exact .inr (.inl h)
  · exact .inr (.inr h)
end
end
section
open Go.RowKit
attribute [local go_sem ↓] Go.wp_at_zero Go.wp_at_succ
attribute [local go_sem ↓] run_opeq run_opeq2
theorem RdE.get {w : World} {B : Nat} {A : Option Addr} {es : List Edg} (h : RdE w B A es) {k : Nat} (hk : k < es.length) {x : Edg} (hx : es[k] = x) : ∃ b off, A = some ⟨b, off, none⟩ ∧ b < B ∧ w.cell? ⟨b, off + k * 10, none⟩ = some (.int .i64 x.fr) ∧ w.cell? ⟨b, off + k * 10 + 1, none⟩ = some (.int .i64 x.te) ∧ w.cell? ⟨b, off + k * 10 + 2, none⟩ = some (.int .i64 x.kd) ∧ w.cell? ⟨b, off + k * 10 + 3, none⟩ = some (.int .i64 x.dst) ∧ w.cell? ⟨b, off + k * 10 + 4, none⟩ = some (.int .i64 x.arr) ∧ w.cell? ⟨b, off + k * 10 + 5, none⟩ = some (.int .i64 x.op) ∧ w.cell? ⟨b, off + k * 10 + 6, none⟩ = some (.int .i64 x.av) ∧ w.cell? ⟨b, off + k * 10 + 7, none⟩ = some (.int .i64 x.an) ∧ w.cell? ⟨b, off + k * 10 + 8, none⟩ = some (.int .i64 x.bv) ∧ w.cell? ⟨b, off + k * 10 + 9, none⟩ = some (.int .i64 x.bn) := by
  obtain ⟨b, off, h1, h2, h3⟩ := h k hk
  subst hx
  exact ⟨b, off, h1, h2, h3 0 (by omega), h3 1 (by omega), h3 2 (by omega), h3 3 (by omega), h3 4 (by omega), h3 5 (by omega), h3 6 (by omega), h3 7 (by omega), h3 8 (by omega), h3 9 (by omega)⟩
def ecs (x : Edg) : Array Value := #[.int .i64 x.fr, .int .i64 x.te, .int .i64 x.kd, .int .i64 x.dst, .int .i64 x.arr, .int .i64 x.op, .int .i64 x.av, .int .i64 x.an, .int .i64 x.bv, .int .i64 x.bn]
theorem ecells {w : World} {g : Nat} {t : TypeId} {x : Edg} (h : Blk w g t (ecs x)) :
    (∀ W, Below w.heap.size w W → W.cell? ⟨g, 0, none⟩ = some (.int .i64 x.fr)) ∧ (∀ W, Below w.heap.size w W → W.cell? ⟨g, 1, none⟩ = some (.int .i64 x.te)) ∧ (∀ W, Below w.heap.size w W → W.cell? ⟨g, 2, none⟩ = some (.int .i64 x.kd)) ∧ (∀ W, Below w.heap.size w W → W.cell? ⟨g, 3, none⟩ = some (.int .i64 x.dst)) ∧ (∀ W, Below w.heap.size w W → W.cell? ⟨g, 4, none⟩ = some (.int .i64 x.arr)) ∧ (∀ W, Below w.heap.size w W → W.cell? ⟨g, 5, none⟩ = some (.int .i64 x.op)) ∧ (∀ W, Below w.heap.size w W → W.cell? ⟨g, 6, none⟩ = some (.int .i64 x.av)) ∧ (∀ W, Below w.heap.size w W → W.cell? ⟨g, 7, none⟩ = some (.int .i64 x.an)) ∧ (∀ W, Below w.heap.size w W → W.cell? ⟨g, 8, none⟩ = some (.int .i64 x.bv)) ∧ (∀ W, Below w.heap.size w W → W.cell? ⟨g, 9, none⟩ = some (.int .i64 x.bn)) :=
  ⟨later (h.cell 0), later (h.cell 1), later (h.cell 2), later (h.cell 3), later (h.cell 4), later (h.cell 5), later (h.cell 6), later (h.cell 7), later (h.cell 8), later (h.cell 9)⟩
theorem fork2_eq (x y : Edg) : fork2 x y = ((x.kd == 12) && ((y.kd == 12) && (opEq x.av x.an y.av y.an && (opEq x.bv x.bn y.bv y.bn && (y.op == notOp x.op))))) := by
  unfold fork2 opEq; rw [Bool.eq_iff_iff]; simp [and_assoc]
theorem blk_pair {w w' : World} {cs cs' : Array Value} {t : TypeId} (h : w' = (w.alloc (.cells cs t)).alloc (.cells cs' t)) : Blk w' w.heap.size t cs ∧ Blk w' (w.heap.size + 1) t cs' ∧ Below w.heap.size w w' := by
  subst h
  obtain ⟨h1, h2⟩ := blk_two (w := w) (t := t) (t' := t) (cs := cs) (cs' := cs') (Below.refl _ _)
  exact ⟨h1, h2, ((Below.refl _ _).alloc (Nat.le_refl _) _).alloc (by simp) _⟩

set_option maxRecDepth 8000 in
set_option maxHeartbeats 8000000 in
theorem goes_two (x y : Edg) (A : Option Addr) (c : Nat) (w : World) (hr : RdE w w.heap.size A [x, y]) :
    Calls Tryz.prog 47 #[.slice A 2 c] w fun e w' => e = .returned (.bool (fork2 x y)) ∧ Below w.heap.size w w' := by
  obtain ⟨b, off, rfl, hB, p0, p1, p2, p3, p4, p5, p6, p7, p8, p9⟩ := hr.get (k := 0) (by simp) rfl
  obtain ⟨b', off', e', hB', q0, q1, q2, q3, q4, q5, q6, q7, q8, q9⟩ := hr.get (k := 1) (by simp) rfl
  injection e' with e'; injection e' with e1 e2; subst e1; subst e2
  clear hB' hr
  simp only [List.getElem_cons_zero, List.getElem_cons_succ, Nat.zero_mul, Nat.add_zero, Nat.one_mul] at *
  have HR := hid (fork2_eq x y)
  go_enter Tryz.func47, Tryz.ntmps47
  go_upto_region 7 with fail
  go_region
  all_goals clear p0 p1 p2 p3 p4 p5 p6 p7 p8 p9 q0 q1 q2 q3 q4 q5 q6 q7 q8 q9
  · as_aux_lemma =>
    obtain ⟨k0, k1, n0⟩ := blk_pair (w := w) (t := 65) (cs := ecs x) (cs' := ecs y) rfl
    unfold ecs at k0 k1 n0
    go_upto_region 8 with fail
    generalize (w.alloc (.cells _ 65)).alloc (.cells _ 65) = w1 at *
    obtain ⟨a0, a1, a2, a3, a4, a5, a6, a7, a8, a9⟩ := ecells k0
    obtain ⟨b0, b1, b2, b3, b4, b5, b6, b7, b8, b9⟩ := ecells k1
    clear k0 k1
    refine wp_region_flow 28 (fun W => Below w1.heap.size w1 W) (by kernel_rfl) (by kernel_rfl) ((Below.refl _ _).drew).drew ?_
    (repeat (first | (refine Flow.skip (by rfl) ?_; simp only [Act.put, List.setIfInBounds_toArray, List.set_cons_zero, List.set_cons_succ]) | (refine' Flow.take _ (by rfl) (fun W hW R hR => ?_) ?_; rotate_left; (go_simp; (try go_bits); with_reducible exact hR); simp only [Act.put, List.setIfInBounds_toArray, List.set_cons_zero, List.set_cons_succ])))
    cases c1 : (x.kd == 12)
    · (repeat (first | (refine Flow.skip (by rfl) ?_; simp only [Act.put, List.setIfInBounds_toArray, List.set_cons_zero, List.set_cons_succ]) | (refine' Flow.take _ (by rfl) (fun W hW R hR => ?_) ?_; rotate_left; (go_simp; (try go_bits); with_reducible exact hR); simp only [Act.put, List.setIfInBounds_toArray, List.set_cons_zero, List.set_cons_succ])))
      intro w6 hb6
      go_wp2
      go_ret
      exact ⟨retb (by rw [HR.out, c1]; rfl), bup n0 hb6⟩
    · skip
      cases c2 : (y.kd == 12)
      · (repeat (first | (refine Flow.skip (by rfl) ?_; simp only [Act.put, List.setIfInBounds_toArray, List.set_cons_zero, List.set_cons_succ]) | (refine' Flow.take _ (by rfl) (fun W hW R hR => ?_) ?_; rotate_left; (go_simp; (try go_bits); with_reducible exact hR); simp only [Act.put, List.setIfInBounds_toArray, List.set_cons_zero, List.set_cons_succ])))
        intro w6 hb6
        go_wp2
        go_ret
        exact ⟨retb (by rw [HR.out, c1, c2]; rfl), bup n0 hb6⟩
      · skip
        cases c3 : opEq x.av x.an y.av y.an
        · (repeat (first | (refine Flow.skip (by rfl) ?_; simp only [Act.put, List.setIfInBounds_toArray, List.set_cons_zero, List.set_cons_succ]) | (refine' Flow.take _ (by rfl) (fun W hW R hR => ?_) ?_; rotate_left; (go_simp; (try go_bits); with_reducible exact hR); simp only [Act.put, List.setIfInBounds_toArray, List.set_cons_zero, List.set_cons_succ])))
          intro w6 hb6
          go_wp2
          go_ret
          exact ⟨retb (by rw [HR.out, c1, c2, c3]; rfl), bup n0 hb6⟩
        · skip
          cases c4 : opEq x.bv x.bn y.bv y.bn
          · (repeat (first | (refine Flow.skip (by rfl) ?_; simp only [Act.put, List.setIfInBounds_toArray, List.set_cons_zero, List.set_cons_succ]) | (refine' Flow.take _ (by rfl) (fun W hW R hR => ?_) ?_; rotate_left; (go_simp; (try go_bits); with_reducible exact hR); simp only [Act.put, List.setIfInBounds_toArray, List.set_cons_zero, List.set_cons_succ])))
            intro w6 hb6
            go_wp2
            go_ret
            exact ⟨retb (by rw [HR.out, c1, c2, c3, c4]; rfl), bup n0 hb6⟩
          · skip
            (repeat (first | (refine Flow.skip (by rfl) ?_; simp only [Act.put, List.setIfInBounds_toArray, List.set_cons_zero, List.set_cons_succ]) | (refine' Flow.take _ (by rfl) (fun W hW R hR => ?_) ?_; rotate_left; (go_simp; (try go_bits); with_reducible exact hR); simp only [Act.put, List.setIfInBounds_toArray, List.set_cons_zero, List.set_cons_succ])))
            (refine Flow.call 79 #[.int .i64 x.op] (.int .i64 (notOp x.op)) (by rfl) (fun X hX => by go_simp) (fun X hX => (dnot_any _ _).mono fun e w' ⟨he, hb⟩ => ⟨he, hb ▸ hX⟩) ?_; simp only [Act.put, List.setIfInBounds_toArray, List.set_cons_zero, List.set_cons_succ])
            (repeat (first | (refine Flow.skip (by rfl) ?_; simp only [Act.put, List.setIfInBounds_toArray, List.set_cons_zero, List.set_cons_succ]) | (refine' Flow.take _ (by rfl) (fun W hW R hR => ?_) ?_; rotate_left; (go_simp; (try go_bits); with_reducible exact hR); simp only [Act.put, List.setIfInBounds_toArray, List.set_cons_zero, List.set_cons_succ])))
            intro w6 hb6
            go_wp2
            go_ret
            exact ⟨retb (by rw [HR.out, c1, c2, c3, c4]; rfl), bup n0 hb6⟩
  · as_aux_lemma =>
    obtain ⟨k0, k1, n0⟩ := blk_pair (w := w) (t := 65) (cs := ecs y) (cs' := ecs x) rfl
    unfold ecs at k0 k1 n0
    go_upto_region 8 with fail
    generalize (w.alloc (.cells _ 65)).alloc (.cells _ 65) = w1 at *
    obtain ⟨a0, a1, a2, a3, a4, a5, a6, a7, a8, a9⟩ := ecells k0
    obtain ⟨b0, b1, b2, b3, b4, b5, b6, b7, b8, b9⟩ := ecells k1
    clear k0 k1
    refine wp_region_flow 28 (fun W => Below w1.heap.size w1 W) (by kernel_rfl) (by kernel_rfl) ((Below.refl _ _).drew).drew ?_
    (repeat (first | (refine Flow.skip (by rfl) ?_; simp only [Act.put, List.setIfInBounds_toArray, List.set_cons_zero, List.set_cons_succ]) | (refine' Flow.take _ (by rfl) (fun W hW R hR => ?_) ?_; rotate_left; (go_simp; (try go_bits); with_reducible exact hR); simp only [Act.put, List.setIfInBounds_toArray, List.set_cons_zero, List.set_cons_succ])))
    cases c1 : (x.kd == 12)
    · (repeat (first | (refine Flow.skip (by rfl) ?_; simp only [Act.put, List.setIfInBounds_toArray, List.set_cons_zero, List.set_cons_succ]) | (refine' Flow.take _ (by rfl) (fun W hW R hR => ?_) ?_; rotate_left; (go_simp; (try go_bits); with_reducible exact hR); simp only [Act.put, List.setIfInBounds_toArray, List.set_cons_zero, List.set_cons_succ])))
      intro w6 hb6
      go_wp2
      go_ret
      exact ⟨retb (by rw [HR.out, c1]; rfl), bup n0 hb6⟩
    · skip
      cases c2 : (y.kd == 12)
      · (repeat (first | (refine Flow.skip (by rfl) ?_; simp only [Act.put, List.setIfInBounds_toArray, List.set_cons_zero, List.set_cons_succ]) | (refine' Flow.take _ (by rfl) (fun W hW R hR => ?_) ?_; rotate_left; (go_simp; (try go_bits); with_reducible exact hR); simp only [Act.put, List.setIfInBounds_toArray, List.set_cons_zero, List.set_cons_succ])))
        intro w6 hb6
        go_wp2
        go_ret
        exact ⟨retb (by rw [HR.out, c1, c2]; rfl), bup n0 hb6⟩
      · skip
        cases c3 : opEq x.av x.an y.av y.an
        · (repeat (first | (refine Flow.skip (by rfl) ?_; simp only [Act.put, List.setIfInBounds_toArray, List.set_cons_zero, List.set_cons_succ]) | (refine' Flow.take _ (by rfl) (fun W hW R hR => ?_) ?_; rotate_left; (go_simp; (try go_bits); with_reducible exact hR); simp only [Act.put, List.setIfInBounds_toArray, List.set_cons_zero, List.set_cons_succ])))
          intro w6 hb6
          go_wp2
          go_ret
          exact ⟨retb (by rw [HR.out, c1, c2, c3]; rfl), bup n0 hb6⟩
        · skip
          cases c4 : opEq x.bv x.bn y.bv y.bn
          · (repeat (first | (refine Flow.skip (by rfl) ?_; simp only [Act.put, List.setIfInBounds_toArray, List.set_cons_zero, List.set_cons_succ]) | (refine' Flow.take _ (by rfl) (fun W hW R hR => ?_) ?_; rotate_left; (go_simp; (try go_bits); with_reducible exact hR); simp only [Act.put, List.setIfInBounds_toArray, List.set_cons_zero, List.set_cons_succ])))
            intro w6 hb6
            go_wp2
            go_ret
            exact ⟨retb (by rw [HR.out, c1, c2, c3, c4]; rfl), bup n0 hb6⟩
          · skip
            (repeat (first | (refine Flow.skip (by rfl) ?_; simp only [Act.put, List.setIfInBounds_toArray, List.set_cons_zero, List.set_cons_succ]) | (refine' Flow.take _ (by rfl) (fun W hW R hR => ?_) ?_; rotate_left; (go_simp; (try go_bits); with_reducible exact hR); simp only [Act.put, List.setIfInBounds_toArray, List.set_cons_zero, List.set_cons_succ])))
            (refine Flow.call 79 #[.int .i64 x.op] (.int .i64 (notOp x.op)) (by rfl) (fun X hX => by go_simp) (fun X hX => (dnot_any _ _).mono fun e w' ⟨he, hb⟩ => ⟨he, hb ▸ hX⟩) ?_; simp only [Act.put, List.setIfInBounds_toArray, List.set_cons_zero, List.set_cons_succ])
            (repeat (first | (refine Flow.skip (by rfl) ?_; simp only [Act.put, List.setIfInBounds_toArray, List.set_cons_zero, List.set_cons_succ]) | (refine' Flow.take _ (by rfl) (fun W hW R hR => ?_) ?_; rotate_left; (go_simp; (try go_bits); with_reducible exact hR); simp only [Act.put, List.setIfInBounds_toArray, List.set_cons_zero, List.set_cons_succ])))
            intro w6 hb6
            go_wp2
            go_ret
            exact ⟨retb (by rw [HR.out, c1, c2, c3, c4]; rfl), bup n0 hb6⟩

set_option maxRecDepth 8000 in
set_option maxHeartbeats 4000000 in
theorem goes_any (l : List Edg) (A : Option Addr) (c : Nat) (w : World) (hr : RdE w w.heap.size A l) (hl : l.length ≤ 8192) :
    Calls Tryz.prog 47 #[.slice A l.length c] w fun e w' => e = .returned (.bool (forkE l)) ∧ Below w.heap.size w w' := by
  match l, hr, hl with
  | [], _, _ =>
    go_enter Tryz.func47, Tryz.ntmps47
    go_wp2; go_ret; exact ⟨rfl, Below.refl _ _⟩
  | [x], hr, _ =>
    obtain ⟨b, off, rfl, hB, p0, p1, p2, p3, p4, p5, p6, p7, p8, p9⟩ := hr.get (k := 0) (by simp) rfl
    simp only [List.getElem_cons_zero, Nat.zero_mul, Nat.add_zero] at *
    have HF : Hid (forkE [x] = (x.kd != 12)) := hid (by unfold forkE; rw [Bool.eq_iff_iff]; simp)
    go_enter Tryz.func47, Tryz.ntmps47
    go_wp2; go_ret; exact ⟨retb HF.out.symm, Below.refl _ _⟩
  | [x, y], hr, _ => exact goes_two x y A c w hr
  | x :: y :: z :: l, _, hl =>
    have h0 : (((x :: y :: z :: l).length : Int) == 0) = false := by rw [beq_eq_false_iff_ne]; simp; omega
    have h1 : (((x :: y :: z :: l).length : Int) == 1) = false := by rw [beq_eq_false_iff_ne]; simp; omega
    have h2 : (((x :: y :: z :: l).length : Int) == 2) = false := by rw [beq_eq_false_iff_ne]; simp; omega
    have HF : Hid (forkE (x :: y :: z :: l) = false) := hid rfl
    generalize x :: y :: z :: l = l at *
    generalize l.length = n at *
    go_enter Tryz.func47, Tryz.ntmps47
    go_wp2; go_ret; exact ⟨retb HF.out.symm, Below.refl _ _⟩
end
end Go.Proofs.YtkncebcekhfnfaaGreat
