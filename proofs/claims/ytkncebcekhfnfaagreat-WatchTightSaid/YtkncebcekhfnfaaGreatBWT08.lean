/-
  A region that draws its order and has ONE operation that turns the world (a store): each other operation yields one value before it and behind it, and keeps what holds (S false before, S true behind). Then the operations may be taken in the order of the text.
  Three stores into an octagon's block.
-/
import Derived.Test.YtkncebcekhfnfaaGreatBWT01
import Derived.Test.YtkncebcekhfnfaaGreatBWT06
namespace Go.Proofs.YtkncebcekhfnfaaGreat
section
def StepM (P : Program) (ops : Array Oper) (S S' : World → Prop) (o : Oper) (v : Value) (a : Act) : Prop :=
  (Region.wanted o (yielded ops a.tmps) = true ∧ ∀ w, S w → ∀ K : Act → World → Prop, (∀ a2 w2, a2 = a.put o.dst v → S' w2 → K a2 w2) → o.wp P a w K Never) ∨
  (Region.wanted o (yielded ops a.tmps) = false ∧ v = undef ∧ ∀ w, S w → S' w)

section
variable {P : Program} {ops : Array Oper} {Q : Exit → Act → World → Prop} {S : Bool → World → Prop} {S1 S2 : World → Prop} {md : Region.Mode} {j : Nat}

theorem StepM.move {o : Oper} {v : Value} {a a' : Act} (h : StepM P ops S1 S2 o v a) (he : execOp a'.eval o = execOp a.eval o)
    (hw : Region.wanted o (yielded ops a'.tmps) = Region.wanted o (yielded ops a.tmps)) (hs : a'.tmps.size = a.tmps.size) : StepM P ops S1 S2 o v a' := by
  rcases h with ⟨hw1, h⟩ | ⟨hw1, hv⟩
  · refine .inl ⟨hw.trans hw1, fun w hS K hK => ?_⟩
    have h1 := h w hS (fun a2 w2 => a2 = a.put o.dst v ∧ S2 w2) (fun _ _ e k => ⟨e, k⟩)
    unfold Oper.wp at *
    rw [he]
    generalize (execOp a.eval o).run P w = r at *
    cases r with
    | ok n w' =>
      cases n <;> simp only [Oper.upon] at h1 ⊢
      case value u => exact hK _ _ (put_eq_put h1.1 hs) h1.2
      case skip => exact hK _ _ (put_eq_put h1.1 hs) h1.2
      case defer d =>
        have := congrArg (fun x : Act => x.defers.length) h1.1
        cases hd : o.dst <;> simp [Act.put, hd] at this
      case enter f args =>
        refine Calls.mono h1 fun e w'' he' => ?_
        cases e with
        | returned u => exact hK _ _ (put_eq_put he'.1 hs) he'.2
        | panicked c => exact he'
        | outgrown => exact he'
      case row row args => exact Rows.mono h1 fun u w'' he' => hK _ _ (put_eq_put he'.1 hs) he'.2
    | halt x w' =>
      cases x <;> simp only [Oper.upon] at h1 ⊢
      case panic u => exact h1
  · exact .inr ⟨hw.trans hw1, hv⟩

theorem StepM.putApart {o : Oper} {v : Value} {a : Act} (hso : ∀ cs b, o.op ≠ .select cs b) (h : StepM P ops S1 S2 o v a) (dst : Option Tmp) (u : Value) (hd : ∀ d, dst = some d → d ∉ o.looksAt ops) :
    StepM P ops S1 S2 o v (a.put dst u) :=
  h.move (execOp_put o hso a dst u hd) (wanted_put o a dst u hd) (put_size _ _ _)
theorem StepM.unputApart {o : Oper} {v : Value} {a : Act} (hso : ∀ cs b, o.op ≠ .select cs b) (dst : Option Tmp) (u : Value) (h : StepM P ops S1 S2 o v (a.put dst u)) (hd : ∀ d, dst = some d → d ∉ o.looksAt ops) :
    StepM P ops S1 S2 o v a :=
  h.move (execOp_put o hso a dst u hd).symm (wanted_put o a dst u hd).symm (put_size _ _ _).symm

theorem StepM.wpOp {i : Nat} {o : Oper} {v : Value} {a : Act} (hi : ops[i]? = some o) (h : StepM P ops S1 S2 o v a) {K : Act → World → Prop} {w : World} (hS : S1 w)
    (hK : ∀ w2, S2 w2 → K (a.put o.dst v) w2) (hQ : ∀ e a w, Never e a w → Q e a w) : Go.wpOp P ops Q i K a w := by
  unfold Go.wpOp
  simp only [hi]
  rcases h with ⟨hw, h⟩ | ⟨hw, rfl, h⟩
  · simp only [hw, if_true]
    refine .inl ?_
    have h1 := h w hS K (fun a2 w2 e k => e ▸ hK w2 k)
    unfold Oper.wp at *
    generalize (execOp a.eval o).run P w = r at *
    cases r with
    | ok n w' =>
      cases n <;> simp only [Oper.upon] at h1 ⊢ <;> try exact h1
      case enter f args =>
        refine Calls.mono h1 fun e w'' he' => ?_
        cases e with
        | returned u => exact he'
        | panicked c => exact hQ _ _ _ he'
        | outgrown => exact he'.elim (fun _ h => h.elim (fun _ h => h.elim))
    | halt x w' =>
      cases x <;> simp only [Oper.upon] at h1 ⊢
      case panic u => exact hQ _ _ _ h1
  · simp only [hw, Bool.false_eq_true, if_false]; exact hK w (h w hS)

/-- Operation i leads from S b to S (b or i is the marked one), for each b that may be. -/
def StepB (P : Program) (md : Region.Mode) (ops : Array Oper) (S : Bool → World → Prop) (j i : Nat) (o : Oper) (v : Value) (a : Act) : Prop :=
  ∀ b, (i = j → b = false) → (reachB md ops i ops.size j = true → b = false) → StepM P ops (S b) (S (b || i == j)) o v a

def AnyM (P : Program) (md : Region.Mode) (ops : Array Oper) (Q : Exit → Act → World → Prop) (S : Bool → World → Prop) (j m : Nat) : Nat → Array Bool → Act → Prop
  | 0, listed, a => earlyDone m listed ∧ ∀ w, S (listed.getD j false) w → wpAny P md ops Q 0 listed a w
  | fuel + 1, listed, a => (earlyDone m listed ∧ ∀ w, S (listed.getD j false) w → wpAny P md ops Q (fuel + 1) listed a w) ∨
    (Region.ready md ops listed ≠ [] ∧ ∀ i ∈ Region.ready md ops listed, i < m ∧ ∃ o v, ops[i]? = some o ∧ StepB P md ops S j i o v a ∧ AnyM P md ops Q S j m fuel (listed.setIfInBounds i true) (a.put o.dst v))

theorem ready_getD {i : Nat} {listed : Array Bool} (h : i ∈ Region.ready md ops listed) : i < listed.size ∧ listed.getD i false = false := by
  have h4 := (mem_ready.1 h).1
  rcases Nat.lt_or_ge i listed.size with h' | h'
  · simp [h'] at h4; exact ⟨h', by simp [h', h4]⟩
  · simp [Array.getElem?_eq_none h'] at h4

theorem getD_mark {i : Nat} {listed : Array Bool} (h : i < listed.size) : (listed.setIfInBounds i true).getD j false = (listed.getD j false || i == j) := by
  by_cases hij : i = j
  · subst hij
    simp [Array.getD, h]
  · rw [getD_set_ne false hij]
    have : (i == j) = false := by simpa using hij
    rw [this, Bool.or_false]

theorem AnyM.wpAny (hQ : ∀ e a w, Never e a w → Q e a w) {m : Nat} : ∀ (fuel : Nat) (listed : Array Bool) (a : Act), closedL md ops listed → AnyM P md ops Q S j m fuel listed a → ∀ w, S (listed.getD j false) w → Go.wpAny P md ops Q fuel listed a w
  | 0, _, _, _, h, w, hS => h.2 w hS
  | fuel + 1, listed, a, hcl, h, w, hS => by
    rcases h with ⟨_, h⟩ | ⟨hne, h⟩
    · exact h w hS
    · refine ⟨fun h0 => absurd h0 hne, fun i hi => ?_⟩
      obtain ⟨_, o, v, ho, hst, hrest⟩ := h i hi
      obtain ⟨g1, g2⟩ := ready_getD hi
      have hrc : reachB md ops i ops.size j = true → listed.getD j false = false := fun hr => by
        cases hj : listed.getD j false with
        | false => rfl
        | true =>
          have := reachB_spec hcl _ _ hr (fun oj hoj e he hb => hcl j oj hoj hj e he hb)
          rw [g2] at this; cases this
      refine (hst _ (fun e => by rw [← e]; exact g2) hrc).wpOp ho hS (fun w2 hS2 => AnyM.wpAny hQ fuel _ _ (hcl.set hi) hrest w2 ?_) hQ
      rw [getD_mark g1]; exact hS2

theorem AnyM.first (hsel : ∀ (j : Nat) (o : Oper) cs b, ops[j]? = some o → o.op ≠ .select cs b) {m : Nat} (htail : tailOk md ops m = true) {i : Nat} {oi : Oper} {v : Value} (hi : ops[i]? = some oi) (him : i < m) :
    ∀ (fuel : Nat) (listed : Array Bool) (a : Act), closedL md ops listed →
      (∀ j oj, ops[j]? = some oj → j ≠ i → listed.getD j true = false → (∀ e ∈ oj.after, Region.binds md e = true → e.on ≠ i) → oi.apart ops oj = true) →
      i ∈ Region.ready md ops listed → StepB P md ops S j i oi v a →
      AnyM P md ops Q S j m fuel (listed.setIfInBounds i true) (a.put oi.dst v) → AnyM P md ops Q S j m (fuel + 1) listed a := by
  intro fuel
  have early : ∀ (listed : Array Bool) (k : Nat), closedL md ops listed → i ∈ Region.ready md ops listed → k ∈ Region.ready md ops listed → k < m := by
    intro listed k hc hr hk
    rcases Nat.lt_or_ge k m with h | h
    · exact h
    · exfalso
      obtain ⟨_, oj, hoj, hall⟩ := mem_ready.1 hk
      have hjs : k < ops.size := (Array.getElem?_eq_some_iff.1 hoj).1
      have h1 := List.all_eq_true.1 htail k (List.mem_range.2 hjs)
      simp only [Bool.or_eq_true, decide_eq_true_eq] at h1
      have h2 := List.all_eq_true.1 (h1.resolve_left (by omega)) i (List.mem_range.2 him)
      have h3 := reachB_spec hc _ _ h2 (fun o ho e he hb => by rw [hoj] at ho; injection ho with ho; subst ho; exact hall e he hb)
      rw [(ready_getD hr).2] at h3; cases h3
  induction fuel with
  | zero =>
    intro listed a hc hfree hr hy H
    refine .inr ⟨fun h => (by rw [h] at hr; cases hr), fun k hk => ?_⟩
    by_cases hji : k = i
    · subst hji; exact ⟨him, oi, v, hi, hy, H⟩
    · exfalso
      have h1 := H.1 k (early listed k hc hr hk)
      rw [getD_set_ne false (Ne.symm hji), (ready_getD hk).2] at h1; cases h1
  | succ fuel ih =>
    intro listed a hc hfree hr hy H
    refine .inr ⟨fun h => (by rw [h] at hr; cases hr), fun k hk => ?_⟩
    by_cases hji : k = i
    · subst hji; exact ⟨him, oi, v, hi, hy, H⟩
    · have hjm := early listed k hc hr hk
      rcases H with ⟨hd, _⟩ | ⟨_, H⟩
      · exfalso
        have h1 := hd k hjm
        rw [getD_set_ne false (Ne.symm hji), (ready_getD hk).2] at h1; cases h1
      · obtain ⟨_, oj, u, hoj, hst, hrest⟩ := H k (ready_mono hk hji)
        obtain ⟨hjun, oj', hoj', hall⟩ := mem_ready.1 hk
        rw [hoj] at hoj'; injection hoj' with hoj'; subst hoj'
        have hnot : ∀ e ∈ oj.after, Region.binds md e = true → e.on ≠ i := fun e he hb heq => by
          have h1 := hall e he hb
          rw [heq, (ready_getD hr).2] at h1; cases h1
        obtain ⟨h1, h2, h3⟩ := Oper.apart_spec (hfree k oj hoj hji hjun hnot)
        refine ⟨hjm, oj, u, hoj, fun b hb hb' => (hst b hb hb').unputApart (hsel k oj · · hoj) _ _ h1, ih _ _ (hc.set hk) ?_ (ready_mono hr (Ne.symm hji)) (fun b hb hb' => (hy b hb hb').putApart (hsel i oi · · hi) _ _ h3) ?_⟩
        · intro k' ok hk' hki hun hno
          refine hfree k' ok hk' hki ?_ hno
          by_cases hjk : k = k'
          · subst hjk; exact hjun
          · rw [getD_set_ne true hjk] at hun; exact hun
        · rw [Array.setIfInBounds_comm _ _ hji, ← Act.put_comm a v u h2]
          exact hrest

/-- The region's first m operations (the next one is number k) in the order of the text; number j turns S false to S true. -/
def FlowM (P : Program) (ops : Array Oper) (Q : Exit → Act → World → Prop) (S : Bool → World → Prop) (j : Nat) : Nat → Nat → List Oper → Act → Prop
  | 0, _, l, a => ∀ w, S true w → wpList P ops Q l a w
  | _ + 1, _, [], a => ∀ w, S true w → Q .normal a w
  | m + 1, k, o :: rest, a => ∃ v, StepB P .any ops S j k o v a ∧ FlowM P ops Q S j m (k + 1) rest (a.put o.dst v)

theorem FlowM.anyM {m0 : Nat} (hsel : ∀ (j : Nat) (o : Oper) cs b, ops[j]? = some o → o.op ≠ .select cs b) (htail : tailOk .any ops m0 = true) (hm0 : m0 ≤ ops.size) (hj : j < m0)
    (hr : ∀ i, i < m0 → i ∈ Region.ready .any ops (pre ops.size i)) (hfr : ∀ i, i < m0 → Region.free .any ops (pre ops.size i) i = true)
    (hf : ∀ i, i < ops.size → m0 ≤ i → Region.ready .any ops (pre ops.size i) = [i]) (hend : Region.ready .any ops (pre ops.size ops.size) = []) :
    ∀ (m k : Nat) (l : List Oper), k + m = m0 → closedL .any ops (pre ops.size k) → (∀ j, l[j]? = ops[k + j]?) → ∀ (a : Act), FlowM P ops Q S j m k l a → AnyM P .any ops Q S j m0 (ops.size - k) (pre ops.size k) a
  | 0, k, l, hk, _, hl, a, h => by
    have hk' : k = m0 := by omega
    subst hk'
    have he : earlyDone k (pre ops.size k) := fun i hi => by rw [pre_getD _ _ _ _ (by omega) (by omega)]; simpa using hi
    have hjt : (pre ops.size k).getD j false = true := he j hj
    have h1 : ∀ w, S ((pre ops.size k).getD j false) w → Go.wpAny P .any ops Q (ops.size - k) (pre ops.size k) a w := fun w hS => wpAny_tail hf hend _ _ l (Nat.le_refl _) (by omega) hl a w (h w (by rw [hjt] at hS; exact hS))
    generalize hn : ops.size - k = n at h1
    cases n with
    | zero => exact ⟨he, h1⟩
    | succ n => exact .inl ⟨he, h1⟩
  | m + 1, k, l, hk, hc, hl, a, h => by
    have hks : k < ops.size := by omega
    cases l with
    | nil => have := hl 0; simp [Array.getElem?_eq_getElem hks] at this
    | cons o l =>
      have ho : ops[k]? = some o := by simpa using (hl 0).symm
      have hl' : ∀ j, l[j]? = ops[k + 1 + j]? := fun j => by have := hl (j + 1); simpa [Nat.add_assoc, Nat.add_comm 1 j] using this
      obtain ⟨v, hst, hrest⟩ := h
      have hn : ops.size - k = (ops.size - (k + 1)) + 1 := by omega
      rw [hn]
      refine AnyM.first hsel htail ho (by omega) _ _ _ hc (Region.free_spec ho (hfr k (by omega))) (hr k (by omega)) hst ?_
      rw [pre_set _ _ hks]
      refine FlowM.anyM hsel htail hm0 hj hr hfr hf hend m (k + 1) l (by omega) ?_ hl' _ hrest
      rw [← pre_set _ _ hks]
      exact hc.set (hr k (by omega))

theorem wp_region_flowM {id : Nat} {l : List Oper} {a : Act} {w : World} (m j : Nat) (S : Bool → World → Prop) (hm : P.follows .mixedOrders = true) (hc : flowOk l.toArray m = true) (hj : (j < m)) (hS : S false w.drew)
    (h : FlowM P l.toArray Q S j m 0 l a) : (Code.region id l.toArray true).wp P Q a w := by
  simp only [flowOk, Bool.and_eq_true, decide_eq_true_eq, beq_iff_eq, List.all_eq_true, List.mem_range] at hc
  obtain ⟨⟨⟨⟨⟨c1, c2⟩, c3⟩, c4⟩, c5⟩, c6⟩ := hc
  have hQ : ∀ e a w, Never e a w → Q e a w := fun _ _ _ h => (h : False).elim
  refine wp_region_any hm ?_
  have hp : Array.replicate l.toArray.size false = pre l.toArray.size 0 := by simp [pre, ← List.toArray_replicate]
  rw [hp]
  have hr : ∀ i, i < m → i ∈ Region.ready .any l.toArray (pre l.toArray.size i) := fun i hi => by simpa using (c4 i hi).1
  refine AnyM.wpAny hQ _ _ _ ?_ (FlowM.anyM (m0 := m) (k := 0) (Region.noSelect_spec c1) c3 c2 hj hr (fun i hi => (c4 i hi).2) ?_ c6 m l (by omega) ?_ (by simp) a h) w.drew ?_
  rotate_left
  · intro i hi hmi
    have := c5 (i - m) (by omega)
    rwa [show m + (i - m) = i by omega] at this
  · intro k o _ hk
    exfalso
    rcases Nat.lt_or_ge k l.toArray.size with h' | h'
    · rw [pre_getD _ _ _ _ (by omega) h'] at hk; simp at hk
    · rw [Array.getD, dif_neg (by rw [pre_size _ _ (by omega)]; omega)] at hk; cases hk
  · rw [pre_getD _ _ _ _ (by omega) (by omega)]; simpa using hS
  · intro k o _ hk
    exfalso
    rcases Nat.lt_or_ge k l.toArray.size with h' | h'
    · rw [pre_getD _ _ _ _ (by omega) h'] at hk; simp at hk
    · rw [Array.getD, dif_neg (by rw [pre_size _ _ (by omega)]; omega)] at hk; cases hk

/-! The moves. -/
/-- Before the marked operation, or behind it. -/
def AnyB (S : Bool → World → Prop) (w : World) : Prop := ∃ b, S b w
theorem FlowM.quiet {m k : Nat} {o : Oper} {rest : List Oper} {a : Act} (v : Value) (hk : (k == j) = false) (hw : Region.wanted o (yielded ops a.tmps) = true) (h : ∀ w, AnyB S w → (execOp a.eval o).run P w = .ok (.value v) w) (hr : FlowM P ops Q S j m (k + 1) rest (a.put o.dst v)) :
    FlowM P ops Q S j (m + 1) k (o :: rest) a :=
  ⟨v, fun b _ _ => .inl ⟨hw, fun w hS K hK => by rw [hk, Bool.or_false] at hK; unfold Oper.wp; rw [h w ⟨b, hS⟩]; exact hK _ _ rfl hS⟩, hr⟩
theorem FlowM.take {m k : Nat} {o : Oper} {rest : List Oper} {a : Act} (v : Value) (hk : (k == j) = false) (hw : Region.wanted o (yielded ops a.tmps) = true) (h : ∀ w, AnyB S w → ∀ R : Value → Prop, R v → Yl R w ((execOp a.eval o).run P w)) (hr : FlowM P ops Q S j m (k + 1) rest (a.put o.dst v)) :
    FlowM P ops Q S j (m + 1) k (o :: rest) a :=
  FlowM.quiet v hk hw (fun w hS => by
    have h1 := h w hS (fun x => x = v) rfl
    generalize (execOp a.eval o).run P w = r at *
    cases r with
    | ok n w' =>
      cases n with
      | value x => obtain ⟨e1, e2⟩ := h1; subst e1; subst e2; rfl
      | _ => exact h1.elim
    | halt x w' => exact h1.elim) hr
theorem FlowM.skip {m k : Nat} {o : Oper} {rest : List Oper} {a : Act} (hk : (k == j) = false) (hw : Region.wanted o (yielded ops a.tmps) = false) (hr : FlowM P ops Q S j m (k + 1) rest (a.put o.dst undef)) :
    FlowM P ops Q S j (m + 1) k (o :: rest) a :=
  ⟨undef, fun b _ _ => .inr ⟨hw, rfl, fun w hS => by rw [hk, Bool.or_false]; exact hS⟩, hr⟩
/-- It ends in a world of which R holds. -/
def YlM (R : World → Prop) : Result Next → Prop
  | .ok (.value _) w' => R w'
  | .ok .skip w' => R w'
  | _ => False
@[go_sem] theorem YlM_ok (R : World → Prop) (w : World) (x : Value) : YlM R (.ok (.value x) w) = R w := rfl
@[go_sem] theorem YlM_skip (R : World → Prop) (w : World) : YlM R (.ok .skip w) = R w := rfl
/-- The marked operation: it yields nothing that is kept. -/
theorem FlowM.mark {m k : Nat} {o : Oper} {rest : List Oper} {a : Act} (hk : (k == j) = true) (hd : o.dst = none) (hw : Region.wanted o (yielded ops a.tmps) = true)
    (h : ∀ w, S false w → ∀ R : World → Prop, (∀ w2, S true w2 → R w2) → YlM R ((execOp a.eval o).run P w)) (hr : FlowM P ops Q S j m (k + 1) rest a) :
    FlowM P ops Q S j (m + 1) k (o :: rest) a :=
  ⟨undef, fun b hb _ => .inl ⟨hw, fun w hS K hK => by
    obtain rfl := hb (by simpa using hk)
    rw [hk] at hK
    have h1 := h w hS (S true) (fun _ k => k)
    unfold Oper.wp
    generalize (execOp a.eval o).run P w = r at *
    cases r with
    | ok n w' =>
      cases n with
      | value x => exact hK _ _ (by rw [hd]; rfl) h1
      | skip => exact hK _ _ rfl h1
      | _ => exact h1.elim
    | halt x w' => exact h1.elim⟩, by rw [hd]; exact hr⟩
/-- A call that comes before the marked operation. -/
theorem FlowM.callB {m k : Nat} {o : Oper} {rest : List Oper} {a : Act} (f : FuncId) (args : Array Value) (v : Value) (hk : (k == j) = false) (hr : reachB .any ops k ops.size j = true) (hw : Region.wanted o (yielded ops a.tmps) = true)
    (he : ∀ w, S false w → (execOp a.eval o).run P w = .ok (.enter f args) w) (h : ∀ w, S false w → Calls P f args w fun e w2 => e = .returned v ∧ S false w2) (hn : FlowM P ops Q S j m (k + 1) rest (a.put o.dst v)) :
    FlowM P ops Q S j (m + 1) k (o :: rest) a :=
  ⟨v, fun b _ hb => .inl ⟨hw, fun w hS K hK => by
    obtain rfl := hb hr
    rw [hk, Bool.or_false] at hK
    unfold Oper.wp; rw [he w hS]
    exact (h w hS).mono fun e w2 ⟨he, h2⟩ => by subst he; exact hK _ _ rfl h2⟩, hn⟩
end
end
section
open Go.RowKit

section
variable {W : World} {g k : Nat} {t : TypeId} {cs : Array Value} {a0 a1 a2 v0 v1 v2 : Value} {base cap B : Nat} {A : Option Addr} {m : List Int}
theorem Blk.set3 (h : Blk W g t #[a0, a1, a2]) : Blk (((W.setCell ⟨g, 0, none⟩ v0).setCell ⟨g, 1, none⟩ v1).setCell ⟨g, 2, none⟩ v2) g t #[v0, v1, v2] :=
  ((h.set_ 0 v0).set_ 1 v1).set_ 2 v2
theorem Own.far1 {i : Nat} {v : Value} (h : Own W base A cap m) (hn : ∀ k, A = some ⟨k, 0, none⟩ → k ≠ g) : Own (W.setCell ⟨g, i, none⟩ v) base A cap m := by
  refine h.grown (grown_setCell W ⟨g, i, none⟩ v) ?_
  rcases h.form with ⟨rfl, _⟩ | ⟨g', rfl, _⟩
  · exact .inl rfl
  · refine .inr fun e => hn g' rfl ?_
    simpa [Value.ownBlock] using e
theorem Own.far3 (h : Own W base A cap m) (hn : ∀ k, A = some ⟨k, 0, none⟩ → k ≠ g) : Own (((W.setCell ⟨g, 0, none⟩ v0).setCell ⟨g, 1, none⟩ v1).setCell ⟨g, 2, none⟩ v2) base A cap m :=
  ((h.far1 hn).far1 hn).far1 hn
theorem below1 {i : Nat} {v : Value} (hg : B ≤ g) (hB : B ≤ W.heap.size) : Below B W (W.setCell ⟨g, i, none⟩ v) :=
  below_grown (grown_setCell W ⟨g, i, none⟩ v) (fun k hk => by injection hk with hk; subst hk; exact hg) hB
theorem below3 (hg : B ≤ g) (hB : B ≤ W.heap.size) : Below B W (((W.setCell ⟨g, 0, none⟩ v0).setCell ⟨g, 1, none⟩ v1).setCell ⟨g, 2, none⟩ v2) :=
  (below1 hg hB).trans ((below1 hg (by simpa using hB)).trans (below1 hg (by simpa using hB)))
end

theorem own_blk {w : World} {base cap g k : Nat} {xs : List Int} {t : TypeId} {cs : Array Value} (h : Own w base (some ⟨g, 0, none⟩) cap xs) (hk : Blk w k t cs) (ht : t ≠ 2) : g ≠ k := by
  rintro rfl
  rcases h.2 with ⟨h0, _⟩ | ⟨g', cap', cur, h1, _, h3, _⟩
  · cases h0
  · simp only [Value.slice.injEq, Option.some.injEq, Addr.mk.injEq] at h1
    obtain ⟨⟨rfl, _⟩, _⟩ := h1
    unfold Blk at hk
    rw [h3] at hk
    injection hk with hk
    injection hk with _ hk
    exact ht hk.symm
theorem own_blk' {w : World} {base cap k : Nat} {A : Option Addr} {xs : List Int} {t : TypeId} {cs : Array Value} (h : Own w base A cap xs) (hk : Blk w k t cs) (ht : t ≠ 2) : ∀ g, A = some ⟨g, 0, none⟩ → g ≠ k := by
  rintro g rfl
  exact own_blk h hk ht

/-- A region that stores three cells into block g: before (false), and behind (true). -/
def SB (w0 : World) (g : Nat) (v0 v1 v2 : Value) : Bool → World → Prop
  | false => fun W => Below w0.heap.size w0 W
  | true => fun W => ∃ W0, Below w0.heap.size w0 W0 ∧ W = ((W0.setCell ⟨g, 0, none⟩ v0).setCell ⟨g, 1, none⟩ v1).setCell ⟨g, 2, none⟩ v2
theorem SB.cell {w0 W : World} {g k i : Nat} {v0 v1 v2 v : Value} {b : Bool} (h : SB w0 g v0 v1 v2 b W) (hc : w0.cell? ⟨k, i, none⟩ = some v) (hk : k ≠ g) : W.cell? ⟨k, i, none⟩ = some v := by
  cases b with
  | false => exact cell_later h hc
  | true =>
    obtain ⟨W0, h0, rfl⟩ := h
    have e : ∀ (X : World) (j : Nat) (u : Value), (X.setCell ⟨g, j, none⟩ u).cell? ⟨k, i, none⟩ = X.cell? ⟨k, i, none⟩ := fun X j u =>
      World.cell?_setCell_other X ⟨g, j, none⟩ ⟨k, i, none⟩ u (fun e => hk (by injection e with e; exact e.symm))
    rw [e, e, e]
    exact cell_later h0 hc
theorem SB.laters {w0 : World} {g k i : Nat} {v0 v1 v2 v : Value} (hc : w0.cell? ⟨k, i, none⟩ = some v) (hk : k ≠ g) : ∀ W, AnyB (SB w0 g v0 v1 v2) W → W.cell? ⟨k, i, none⟩ = some v := fun _ ⟨_, h⟩ => h.cell hc hk
theorem SB.boxes {w0 : World} {g : Nat} {t : TypeId} {v0 v1 v2 c0 c1 c2 : Value} (hk : Blk w0 g t #[c0, c1, c2]) : (∀ W, SB w0 g v0 v1 v2 false W → W.cell? ⟨g, 0, none⟩ = some c0) ∧ (∀ W, SB w0 g v0 v1 v2 false W → W.cell? ⟨g, 1, none⟩ = some c1) ∧ (∀ W, SB w0 g v0 v1 v2 false W → W.cell? ⟨g, 2, none⟩ = some c2) ∧ (∀ W, SB w0 g v0 v1 v2 false W → ∀ j, W.frozen? ⟨g, j, none⟩ = false) :=
  ⟨fun _ h => (hk.later h).cell 0, fun _ h => (hk.later h).cell 1, fun _ h => (hk.later h).cell 2, fun _ h => (hk.later h).fr⟩
end
end Go.Proofs.YtkncebcekhfnfaaGreat
