/-
  A region that draws its order and has TWO operations that turn the world, the second of which waits for the first (a slice that is built, an append): each other operation yields one value at each time. Then the operations may be taken in the order of the text.
-/
import Derived.Test.YtjmmegnonlbdnaaFlowM
namespace Go.Proofs.Ytjmmegnonlbdnaa

section
variable {P : Program} {ops : Array Oper} {Q : Exit → Act → World → Prop} {S : Bool → Bool → World → Prop} {md : Region.Mode} {j1 j2 : Nat}

/-- Operation i leads from S b1 b2 on, for all that may be. -/
def StepN (P : Program) (_md : Region.Mode) (ops : Array Oper) (S : Bool → Bool → World → Prop) (j1 j2 i : Nat) (o : Oper) (v : Value) (a : Act) : Prop :=
  ∀ b1 b2, (i = j1 → b1 = false ∧ b2 = false) → (i = j2 → b1 = true ∧ b2 = false) → StepM P ops (S b1 b2) (S (b1 || i == j1) (b2 || i == j2)) o v a
/-- The second waits for the first. -/
def Waits (md : Region.Mode) (ops : Array Oper) (j1 j2 : Nat) : Prop :=
  ∀ listed, closedL md ops listed → (∀ o, ops[j2]? = some o → ∀ e ∈ o.after, Region.binds md e = true → listed.getD e.on false = true) → listed.getD j1 false = true
theorem waits_of (h : reachB md ops j1 ops.size j2 = true) : Waits md ops j1 j2 := fun _ hc hall => reachB_spec hc _ _ h hall

def AnyN (P : Program) (md : Region.Mode) (ops : Array Oper) (Q : Exit → Act → World → Prop) (S : Bool → Bool → World → Prop) (j1 j2 m : Nat) : Nat → Array Bool → Act → Prop
  | 0, listed, a => earlyDone m listed ∧ ∀ w, S (listed.getD j1 false) (listed.getD j2 false) w → wpAny P md ops Q 0 listed a w
  | fuel + 1, listed, a => (earlyDone m listed ∧ ∀ w, S (listed.getD j1 false) (listed.getD j2 false) w → wpAny P md ops Q (fuel + 1) listed a w) ∨
    (Region.ready md ops listed ≠ [] ∧ ∀ i ∈ Region.ready md ops listed, i < m ∧ ∃ o v, ops[i]? = some o ∧ StepN P md ops S j1 j2 i o v a ∧ AnyN P md ops Q S j1 j2 m fuel (listed.setIfInBounds i true) (a.put o.dst v))

theorem AnyN.wpAny (hwt : Waits md ops j1 j2) (hQ : ∀ e a w, Never e a w → Q e a w) {m : Nat} : ∀ (fuel : Nat) (listed : Array Bool) (a : Act), closedL md ops listed → AnyN P md ops Q S j1 j2 m fuel listed a → ∀ w, S (listed.getD j1 false) (listed.getD j2 false) w → Go.wpAny P md ops Q fuel listed a w
  | 0, _, _, _, h, w, hS => h.2 w hS
  | fuel + 1, listed, a, hcl, h, w, hS => by
    rcases h with ⟨_, h⟩ | ⟨hne, h⟩
    · exact h w hS
    · refine ⟨fun h0 => absurd h0 hne, fun i hi => ?_⟩
      obtain ⟨_, o, v, ho, hst, hrest⟩ := h i hi
      obtain ⟨g1, g2⟩ := ready_getD hi
      obtain ⟨_, oi, hoi, hall⟩ := mem_ready.1 hi
      refine (hst _ _ (fun e => ⟨by rw [← e]; exact g2, ?_⟩) (fun e => ⟨?_, by rw [← e]; exact g2⟩)).wpOp ho hS (fun w2 hS2 => AnyN.wpAny hwt hQ fuel _ _ (hcl.set hi) hrest w2 ?_) hQ
      · cases hj : listed.getD j2 false with
        | false => rfl
        | true =>
          have := hwt listed hcl (fun oj hoj e he hb => hcl j2 oj hoj hj e he hb)
          rw [← e, g2] at this; cases this
      · subst e
        exact hwt listed hcl (fun oj hoj e he hb => by rw [hoi] at hoj; injection hoj with hoj; subst hoj; exact hall e he hb)
      · rw [getD_mark g1, getD_mark g1]; exact hS2

theorem AnyN.first (hsel : ∀ (j : Nat) (o : Oper) cs b, ops[j]? = some o → o.op ≠ .select cs b) {m : Nat} (htail : tailOk md ops m = true) {i : Nat} {oi : Oper} {v : Value} (hi : ops[i]? = some oi) (him : i < m) :
    ∀ (fuel : Nat) (listed : Array Bool) (a : Act), closedL md ops listed →
      (∀ j oj, ops[j]? = some oj → j ≠ i → listed.getD j true = false → (∀ e ∈ oj.after, Region.binds md e = true → e.on ≠ i) → oi.apart ops oj = true) →
      i ∈ Region.ready md ops listed → StepN P md ops S j1 j2 i oi v a →
      AnyN P md ops Q S j1 j2 m fuel (listed.setIfInBounds i true) (a.put oi.dst v) → AnyN P md ops Q S j1 j2 m (fuel + 1) listed a := by
  intro fuel
  have early : ∀ (listed : Array Bool) (k : Nat), closedL md ops listed → i ∈ Region.ready md ops listed → k ∈ Region.ready md ops listed → k < m := by
    intro listed k hc hr hk
    rcases Nat.lt_or_ge k m with h | h
    · exact h
    · exfalso
      obtain ⟨_, oj, hoj, hall⟩ := mem_ready.1 hk
      have hjs : k < ops.size := (Array.getElem?_eq_some_iff.1 hoj).1
      have h1 := List.all_eq_true.1 htail k (List.mem_range.2 hjs)
      simp only [Bool.or_eq_true, decide_eq_true_eq] at h1
      have h2 := List.all_eq_true.1 (h1.resolve_left (by omega)) i (List.mem_range.2 him)
      have h3 := reachB_spec hc _ _ h2 (fun o ho e he hb => by rw [hoj] at ho; injection ho with ho; subst ho; exact hall e he hb)
      rw [(ready_getD hr).2] at h3; cases h3
  induction fuel with
  | zero =>
    intro listed a hc hfree hr hy H
    refine .inr ⟨fun h => (by rw [h] at hr; cases hr), fun k hk => ?_⟩
    by_cases hji : k = i
    · subst hji; exact ⟨him, oi, v, hi, hy, H⟩
    · exfalso
      have h1 := H.1 k (early listed k hc hr hk)
      rw [getD_set_ne false (Ne.symm hji), (ready_getD hk).2] at h1; cases h1
  | succ fuel ih =>
    intro listed a hc hfree hr hy H
    refine .inr ⟨fun h => (by rw [h] at hr; cases hr), fun k hk => ?_⟩
    by_cases hji : k = i
    · subst hji; exact ⟨him, oi, v, hi, hy, H⟩
    · have hjm := early listed k hc hr hk
      rcases H with ⟨hd, _⟩ | ⟨_, H⟩
      · exfalso
        have h1 := hd k hjm
        rw [getD_set_ne false (Ne.symm hji), (ready_getD hk).2] at h1; cases h1
      · obtain ⟨_, oj, u, hoj, hst, hrest⟩ := H k (ready_mono hk hji)
        obtain ⟨hjun, oj', hoj', hall⟩ := mem_ready.1 hk
        rw [hoj] at hoj'; injection hoj' with hoj'; subst hoj'
        have hnot : ∀ e ∈ oj.after, Region.binds md e = true → e.on ≠ i := fun e he hb heq => by
          have h1 := hall e he hb
          rw [heq, (ready_getD hr).2] at h1; cases h1
        obtain ⟨h1, h2, h3⟩ := Oper.apart_spec (hfree k oj hoj hji hjun hnot)
        refine ⟨hjm, oj, u, hoj, fun b1 b2 hb hb' => (hst b1 b2 hb hb').unputApart (hsel k oj · · hoj) _ _ h1, ih _ _ (hc.set hk) ?_ (ready_mono hr (Ne.symm hji)) (fun b1 b2 hb hb' => (hy b1 b2 hb hb').putApart (hsel i oi · · hi) _ _ h3) ?_⟩
        · intro k' ok hk' hki hun hno
          refine hfree k' ok hk' hki ?_ hno
          by_cases hjk : k = k'
          · subst hjk; exact hjun
          · rw [getD_set_ne true hjk] at hun; exact hun
        · rw [Array.setIfInBounds_comm _ _ hji, ← Act.put_comm a v u h2]
          exact hrest

def FlowN (P : Program) (ops : Array Oper) (Q : Exit → Act → World → Prop) (S : Bool → Bool → World → Prop) (j1 j2 : Nat) : Nat → Nat → List Oper → Act → Prop
  | 0, _, l, a => ∀ w, S true true w → wpList P ops Q l a w
  | _ + 1, _, [], a => ∀ w, S true true w → Q .normal a w
  | m + 1, k, o :: rest, a => ∃ v, StepN P .any ops S j1 j2 k o v a ∧ FlowN P ops Q S j1 j2 m (k + 1) rest (a.put o.dst v)

theorem FlowN.anyN {m0 : Nat} (hsel : ∀ (j : Nat) (o : Oper) cs b, ops[j]? = some o → o.op ≠ .select cs b) (htail : tailOk .any ops m0 = true) (hm0 : m0 ≤ ops.size) (hj1 : j1 < m0) (hj2 : j2 < m0)
    (hr : ∀ i, i < m0 → i ∈ Region.ready .any ops (pre ops.size i)) (hfr : ∀ i, i < m0 → Region.free .any ops (pre ops.size i) i = true)
    (hf : ∀ i, i < ops.size → m0 ≤ i → Region.ready .any ops (pre ops.size i) = [i]) (hend : Region.ready .any ops (pre ops.size ops.size) = []) :
    ∀ (m k : Nat) (l : List Oper), k + m = m0 → closedL .any ops (pre ops.size k) → (∀ j, l[j]? = ops[k + j]?) → ∀ (a : Act), FlowN P ops Q S j1 j2 m k l a → AnyN P .any ops Q S j1 j2 m0 (ops.size - k) (pre ops.size k) a
  | 0, k, l, hk, _, hl, a, h => by
    have hk' : k = m0 := by omega
    subst hk'
    have he : earlyDone k (pre ops.size k) := fun i hi => by rw [pre_getD _ _ _ _ (by omega) (by omega)]; simpa using hi
    have hjt1 : (pre ops.size k).getD j1 false = true := he j1 hj1
    have hjt2 : (pre ops.size k).getD j2 false = true := he j2 hj2
    have h1 : ∀ w, S ((pre ops.size k).getD j1 false) ((pre ops.size k).getD j2 false) w → Go.wpAny P .any ops Q (ops.size - k) (pre ops.size k) a w := fun w hS => wpAny_tail hf hend _ _ l (Nat.le_refl _) (by omega) hl a w (h w (by rw [hjt1, hjt2] at hS; exact hS))
    generalize hn : ops.size - k = n at h1
    cases n with
    | zero => exact ⟨he, h1⟩
    | succ n => exact .inl ⟨he, h1⟩
  | m + 1, k, l, hk, hc, hl, a, h => by
    have hks : k < ops.size := by omega
    cases l with
    | nil => have := hl 0; simp [Array.getElem?_eq_getElem hks] at this
    | cons o l =>
      have ho : ops[k]? = some o := by simpa using (hl 0).symm
      have hl' : ∀ j, l[j]? = ops[k + 1 + j]? := fun j => by have := hl (j + 1); simpa [Nat.add_assoc, Nat.add_comm 1 j] using this
      obtain ⟨v, hst, hrest⟩ := h
      have hn : ops.size - k = (ops.size - (k + 1)) + 1 := by omega
      rw [hn]
      refine AnyN.first hsel htail ho (by omega) _ _ _ hc (Region.free_spec ho (hfr k (by omega))) (hr k (by omega)) hst ?_
      rw [pre_set _ _ hks]
      refine FlowN.anyN hsel htail hm0 hj1 hj2 hr hfr hf hend m (k + 1) l (by omega) ?_ hl' _ hrest
      rw [← pre_set _ _ hks]
      exact hc.set (hr k (by omega))

theorem wp_region_flowN {id : Nat} {l : List Oper} {a : Act} {w : World} (m j1 j2 : Nat) (S : Bool → Bool → World → Prop) (hm : P.follows .mixedOrders = true) (hc : flowOk l.toArray m = true) (hwt : reachB .any l.toArray j1 l.toArray.size j2 = true) (hj1 : j1 < m) (hj2 : j2 < m) (hS : S false false w.drew)
    (h : FlowN P l.toArray Q S j1 j2 m 0 l a) : (Code.region id l.toArray true).wp P Q a w := by
  simp only [flowOk, Bool.and_eq_true, decide_eq_true_eq, beq_iff_eq, List.all_eq_true, List.mem_range] at hc
  obtain ⟨⟨⟨⟨⟨c1, c2⟩, c3⟩, c4⟩, c5⟩, c6⟩ := hc
  have hQ : ∀ e a w, Never e a w → Q e a w := fun _ _ _ h => (h : False).elim
  refine wp_region_any hm ?_
  have hp : Array.replicate l.toArray.size false = pre l.toArray.size 0 := by simp [pre, ← List.toArray_replicate]
  rw [hp]
  have hr : ∀ i, i < m → i ∈ Region.ready .any l.toArray (pre l.toArray.size i) := fun i hi => by simpa using (c4 i hi).1
  refine AnyN.wpAny (waits_of hwt) hQ _ _ _ ?_ (FlowN.anyN (m0 := m) (k := 0) (Region.noSelect_spec c1) c3 c2 hj1 hj2 hr (fun i hi => (c4 i hi).2) ?_ c6 m l (by omega) ?_ (by simp) a h) w.drew ?_
  rotate_left
  · intro i hi hmi
    have := c5 (i - m) (by omega)
    rwa [show m + (i - m) = i by omega] at this
  · intro k o _ hk
    exfalso
    rcases Nat.lt_or_ge k l.toArray.size with h' | h'
    · rw [pre_getD _ _ _ _ (by omega) h'] at hk; simp at hk
    · rw [Array.getD, dif_neg (by rw [pre_size _ _ (by omega)]; omega)] at hk; cases hk
  · rw [pre_getD _ _ _ _ (by omega) (by omega), pre_getD _ _ _ _ (by omega) (by omega)]; simpa using hS
  · intro k o _ hk
    exfalso
    rcases Nat.lt_or_ge k l.toArray.size with h' | h'
    · rw [pre_getD _ _ _ _ (by omega) h'] at hk; simp at hk
    · rw [Array.getD, dif_neg (by rw [pre_size _ _ (by omega)]; omega)] at hk; cases hk

/-! The moves. -/
def AnyBB (S : Bool → Bool → World → Prop) (w : World) : Prop := ∃ b1 b2, S b1 b2 w
theorem FlowN.take {m k : Nat} {o : Oper} {rest : List Oper} {a : Act} (v : Value) (hk : (k == j1) = false) (hk2 : (k == j2) = false) (hw : Region.wanted o (yielded ops a.tmps) = true) (h : ∀ w, AnyBB S w → ∀ R : Value → Prop, R v → Yl R w ((execOp a.eval o).run P w)) (hr : FlowN P ops Q S j1 j2 m (k + 1) rest (a.put o.dst v)) :
    FlowN P ops Q S j1 j2 (m + 1) k (o :: rest) a :=
  ⟨v, fun b1 b2 _ _ => .inl ⟨hw, fun w hS K hK => by
    rw [hk, hk2, Bool.or_false, Bool.or_false] at hK
    have h1 := h w ⟨b1, b2, hS⟩ (fun x => x = v) rfl
    unfold Oper.wp
    generalize (execOp a.eval o).run P w = r at *
    cases r with
    | ok n w' =>
      cases n with
      | value x => obtain ⟨e1, e2⟩ := h1; subst e1; subst e2; exact hK _ _ rfl hS
      | _ => exact h1.elim
    | halt x w' => exact h1.elim⟩, hr⟩
theorem FlowN.skip {m k : Nat} {o : Oper} {rest : List Oper} {a : Act} (hk : (k == j1) = false) (hk2 : (k == j2) = false) (hw : Region.wanted o (yielded ops a.tmps) = false) (hr : FlowN P ops Q S j1 j2 m (k + 1) rest (a.put o.dst undef)) :
    FlowN P ops Q S j1 j2 (m + 1) k (o :: rest) a :=
  ⟨undef, fun b1 b2 _ _ => .inr ⟨hw, rfl, fun w hS => by rw [hk, hk2, Bool.or_false, Bool.or_false]; exact hS⟩, hr⟩
theorem FlowN.mark1 {m k : Nat} {o : Oper} {rest : List Oper} {a : Act} (v : Value) (hk : (k == j1) = true) (hk2 : (k == j2) = false) (hw : Region.wanted o (yielded ops a.tmps) = true)
    (h : ∀ w, S false false w → ∃ w2, (execOp a.eval o).run P w = .ok (.value v) w2 ∧ S true false w2) (hr : FlowN P ops Q S j1 j2 m (k + 1) rest (a.put o.dst v)) :
    FlowN P ops Q S j1 j2 (m + 1) k (o :: rest) a :=
  ⟨v, fun b1 b2 hb _ => .inl ⟨hw, fun w hS K hK => by
    obtain ⟨rfl, rfl⟩ := hb (by simpa using hk)
    rw [hk, hk2] at hK
    obtain ⟨w2, h1, h2⟩ := h w hS
    unfold Oper.wp; rw [h1]; exact hK _ _ rfl h2⟩, hr⟩
theorem FlowN.mark2 {m k : Nat} {o : Oper} {rest : List Oper} {a : Act} (v : Value) (hk : (k == j1) = false) (hk2 : (k == j2) = true) (hw : Region.wanted o (yielded ops a.tmps) = true)
    (h : ∀ w, S true false w → ∃ w2, (execOp a.eval o).run P w = .ok (.value v) w2 ∧ S true true w2) (hr : FlowN P ops Q S j1 j2 m (k + 1) rest (a.put o.dst v)) :
    FlowN P ops Q S j1 j2 (m + 1) k (o :: rest) a :=
  ⟨v, fun b1 b2 _ hb => .inl ⟨hw, fun w hS K hK => by
    obtain ⟨rfl, rfl⟩ := hb (by simpa using hk2)
    rw [hk, hk2] at hK
    obtain ⟨w2, h1, h2⟩ := h w hS
    unfold Oper.wp; rw [h1]; exact hK _ _ rfl h2⟩, hr⟩
/-- Three worlds, one behind the other. -/
def SN (w0 w1 w2 : World) : Bool → Bool → World → Prop
  | false, false => fun W => W = w0
  | true, false => fun W => W = w1
  | true, true => fun W => W = w2
  | false, true => fun _ => False
theorem SN.any {w0 w1 w2 W : World} (h : AnyBB (SN w0 w1 w2) W) : W = w0 ∨ W = w1 ∨ W = w2 := by
  obtain ⟨b1, b2, h⟩ := h
  cases b1 <;> cases b2
  · exact .inl h
  · exact h.elim
  · exact .inr (.inl h)
  · exact .inr (.inr h)
end
end Go.Proofs.Ytjmmegnonlbdnaa
