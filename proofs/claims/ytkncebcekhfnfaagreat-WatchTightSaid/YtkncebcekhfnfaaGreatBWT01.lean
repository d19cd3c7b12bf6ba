/-
  A region that draws its order, taken in the order of its text: where each operation yields one and the same value in every world that meets a condition S, and keeps S (a call too), the order does not matter. No condition on the program but that it draws mixed orders.
-/
import Derived.Orders
import Derived.Tactics
namespace Go.Proofs.YtkncebcekhfnfaaGreat
theorem put_eq_put {a a' : Act} {dst : Option Tmp} {v v' : Value} (h : a.put dst v' = a.put dst v) (hs : a'.tmps.size = a.tmps.size) : a'.put dst v' = a'.put dst v := by
  cases dst with
  | none => rfl
  | some d =>
    by_cases hd : d < a.tmps.size
    · have h1 : (a.tmps.setIfInBounds d v')[d]? = (a.tmps.setIfInBounds d v)[d]? := by
        have := congrArg (fun x : Act => x.tmps[d]?) h
        exact this
      simp [Array.getElem?_setIfInBounds_self_of_lt hd] at h1
      rw [h1]
    · simp only [Act.put]
      have : ∀ x, a'.tmps.setIfInBounds d x = a'.tmps := fun x => Array.setIfInBounds_eq_of_size_le (by rw [hs]; exact Nat.le_of_not_lt hd)
      rw [this, this]

theorem put_size (a : Act) (dst : Option Tmp) (v : Value) : (a.put dst v).tmps.size = a.tmps.size := by
  cases dst <;> simp [Act.put]

def Never : Exit → Act → World → Prop := fun _ _ _ => False

/-- In state a operation o yields v in every world that meets S, and leaves one that meets S. -/
def StepS (P : Program) (ops : Array Oper) (S : World → Prop) (o : Oper) (v : Value) (a : Act) : Prop :=
  (Region.wanted o (yielded ops a.tmps) = true ∧ ∀ w, S w → ∀ K : Act → World → Prop, (∀ a2 w2, a2 = a.put o.dst v → S w2 → K a2 w2) → o.wp P a w K Never) ∨
  (Region.wanted o (yielded ops a.tmps) = false ∧ v = undef)

section
variable {P : Program} {ops : Array Oper} {Q : Exit → Act → World → Prop} {S : World → Prop} {md : Region.Mode}

theorem StepS.move {o : Oper} {v : Value} {a a' : Act} (h : StepS P ops S o v a) (he : execOp a'.eval o = execOp a.eval o)
    (hw : Region.wanted o (yielded ops a'.tmps) = Region.wanted o (yielded ops a.tmps)) (hs : a'.tmps.size = a.tmps.size) : StepS P ops S o v a' := by
  rcases h with ⟨hw1, h⟩ | ⟨hw1, hv⟩
  · refine .inl ⟨hw.trans hw1, fun w hS K hK => ?_⟩
    have h1 := h w hS (fun a2 w2 => a2 = a.put o.dst v ∧ S w2) (fun _ _ e k => ⟨e, k⟩)
    unfold Oper.wp at *
    rw [he]
    generalize (execOp a.eval o).run P w = r at *
    cases r with
    | ok n w' =>
      cases n <;> simp only [Oper.upon] at h1 ⊢
      case value u => exact hK _ _ (put_eq_put h1.1 hs) h1.2
      case skip => exact hK _ _ (put_eq_put h1.1 hs) h1.2
      case defer d =>
        have := congrArg (fun x : Act => x.defers.length) h1.1
        cases hd : o.dst <;> simp [Act.put, hd] at this
      case enter f args =>
        refine Calls.mono h1 fun e w'' he' => ?_
        cases e with
        | returned u => exact hK _ _ (put_eq_put he'.1 hs) he'.2
        | panicked c => exact he'
        | outgrown => exact he'
      case row row args => exact Rows.mono h1 fun u w'' he' => hK _ _ (put_eq_put he'.1 hs) he'.2
    | halt x w' =>
      cases x <;> simp only [Oper.upon] at h1 ⊢
      case panic u => exact h1
  · exact .inr ⟨hw.trans hw1, hv⟩

theorem StepS.putApart {o : Oper} {v : Value} {a : Act} (hso : ∀ cs b, o.op ≠ .select cs b) (h : StepS P ops S o v a) (dst : Option Tmp) (u : Value) (hd : ∀ d, dst = some d → d ∉ o.looksAt ops) :
    StepS P ops S o v (a.put dst u) :=
  h.move (execOp_put o hso a dst u hd) (wanted_put o a dst u hd) (put_size _ _ _)
theorem StepS.unputApart {o : Oper} {v : Value} {a : Act} (hso : ∀ cs b, o.op ≠ .select cs b) (dst : Option Tmp) (u : Value) (h : StepS P ops S o v (a.put dst u)) (hd : ∀ d, dst = some d → d ∉ o.looksAt ops) :
    StepS P ops S o v a :=
  h.move (execOp_put o hso a dst u hd).symm (wanted_put o a dst u hd).symm (put_size _ _ _).symm

theorem StepS.wpOp {i : Nat} {o : Oper} {v : Value} {a : Act} (hi : ops[i]? = some o) (h : StepS P ops S o v a) {K : Act → World → Prop} {w : World} (hS : S w)
    (hK : ∀ w2, S w2 → K (a.put o.dst v) w2) (hQ : ∀ e a w, Never e a w → Q e a w) : Go.wpOp P ops Q i K a w := by
  unfold Go.wpOp
  simp only [hi]
  rcases h with ⟨hw, h⟩ | ⟨hw, rfl⟩
  · simp only [hw, if_true]
    refine .inl ?_
    have h1 := h w hS K (fun a2 w2 e k => e ▸ hK w2 k)
    unfold Oper.wp at *
    generalize (execOp a.eval o).run P w = r at *
    cases r with
    | ok n w' =>
      cases n <;> simp only [Oper.upon] at h1 ⊢ <;> try exact h1
      case enter f args =>
        refine Calls.mono h1 fun e w'' he' => ?_
        cases e with
        | returned u => exact he'
        | panicked c => exact hQ _ _ _ he'
        | outgrown => exact he'.elim (fun _ h => h.elim (fun _ h => h.elim))
    | halt x w' =>
      cases x <;> simp only [Oper.upon] at h1 ⊢
      case panic u => exact hQ _ _ _ h1
  · simp only [hw, Bool.false_eq_true, if_false]; exact hK w hS

/-- The first m are all listed. -/
def earlyDone (m : Nat) (listed : Array Bool) : Prop := ∀ i, i < m → listed.getD i false = true

/-- Whatever order is picked: every one of the first m steps; when they are through the rest goes on from any world that meets S. -/
def AnyS (P : Program) (md : Region.Mode) (ops : Array Oper) (Q : Exit → Act → World → Prop) (S : World → Prop) (m : Nat) : Nat → Array Bool → Act → Prop
  | 0, listed, a => earlyDone m listed ∧ ∀ w, S w → wpAny P md ops Q 0 listed a w
  | fuel + 1, listed, a => (earlyDone m listed ∧ ∀ w, S w → wpAny P md ops Q (fuel + 1) listed a w) ∨
    (Region.ready md ops listed ≠ [] ∧ ∀ i ∈ Region.ready md ops listed, i < m ∧ ∃ o v, ops[i]? = some o ∧ StepS P ops S o v a ∧ AnyS P md ops Q S m fuel (listed.setIfInBounds i true) (a.put o.dst v))

theorem AnyS.wpAny (hQ : ∀ e a w, Never e a w → Q e a w) {m : Nat} : ∀ (fuel : Nat) (listed : Array Bool) (a : Act), AnyS P md ops Q S m fuel listed a → ∀ w, S w → Go.wpAny P md ops Q fuel listed a w
  | 0, _, _, h, w, hS => h.2 w hS
  | fuel + 1, listed, a, h, w, hS => by
    rcases h with ⟨_, h⟩ | ⟨hne, h⟩
    · exact h w hS
    · refine ⟨fun h0 => absurd h0 hne, fun i hi => ?_⟩
      obtain ⟨_, o, v, ho, hst, hrest⟩ := h i hi
      exact hst.wpOp ho hS (fun w2 hS2 => AnyS.wpAny hQ fuel _ _ hrest w2 hS2) hQ

/-- Downward closed: what is listed has all that it waits for listed. -/
def closedL (md : Region.Mode) (ops : Array Oper) (listed : Array Bool) : Prop :=
  ∀ (k : Nat) (o : Oper), ops[k]? = some o → listed.getD k false = true → ∀ e ∈ o.after, Region.binds md e = true → listed.getD e.on false = true

theorem closedL.set {listed : Array Bool} {i : Nat} (h : closedL md ops listed) (hi : i ∈ Region.ready md ops listed) : closedL md ops (listed.setIfInBounds i true) := by
  intro k o ho hk e he hb
  by_cases hki : i = k
  · subst hki
    obtain ⟨_, o', ho', hall⟩ := mem_ready.1 hi
    rw [ho] at ho'; injection ho' with ho'; subst ho'
    exact getD_set_true (hall e he hb)
  · rw [getD_set_ne false hki] at hk
    exact getD_set_true (h k o ho hk e he hb)

/-- Number k waits for number i, by a chain of at most n edges. -/
def reachB (md : Region.Mode) (ops : Array Oper) (i : Nat) : Nat → Nat → Bool
  | 0, _ => false
  | n + 1, k => match ops[k]? with
    | none => false
    | some o => o.after.any fun e => Region.binds md e && (e.on == i || reachB md ops i n e.on)

theorem reachB_spec {i : Nat} {listed : Array Bool} (hc : closedL md ops listed) : ∀ (n k : Nat), reachB md ops i n k = true →
    (∀ o, ops[k]? = some o → ∀ e ∈ o.after, Region.binds md e = true → listed.getD e.on false = true) → listed.getD i false = true
  | 0, _, h, _ => by simp [reachB] at h
  | n + 1, k, h, hall => by
    unfold reachB at h
    cases ho : ops[k]? with
    | none => simp [ho] at h
    | some o =>
      simp only [ho] at h
      obtain ⟨e, he, hb⟩ := Array.any_eq_true'.1 h
      simp only [Bool.and_eq_true, Bool.or_eq_true, beq_iff_eq] at hb
      have hl := hall o ho e he hb.1
      rcases hb.2 with rfl | hr
      · exact hl
      · exact reachB_spec hc n e.on hr (fun o' ho' e' he' hb' => hc e.on o' ho' hl e' he' hb')

/-- Each of the rest waits for each of the first m. -/
def tailOk (md : Region.Mode) (ops : Array Oper) (m : Nat) : Bool :=
  (List.range ops.size).all fun k => decide (k < m) || (List.range m).all fun i => reachB md ops i ops.size k

/-- What tailOk is for. -/
def TailP (md : Region.Mode) (ops : Array Oper) (m : Nat) : Prop :=
  ∀ k i, m ≤ k → k < ops.size → i < m → ∀ listed, closedL md ops listed → (∀ o, ops[k]? = some o → ∀ e ∈ o.after, Region.binds md e = true → listed.getD e.on false = true) → listed.getD i false = true
theorem tailOk_P {m : Nat} (htail : tailOk md ops m = true) : TailP md ops m := fun k i hmk hk hi listed hc hall => by
  have h1 := List.all_eq_true.1 htail k (List.mem_range.2 hk)
  simp only [Bool.or_eq_true, decide_eq_true_eq] at h1
  have h2 := List.all_eq_true.1 (h1.resolve_left (by omega)) i (List.mem_range.2 hi)
  exact reachB_spec hc _ _ h2 hall
/-- The same, found by a walk that marks where it has been. -/
def onsOf (md : Region.Mode) (ops : Array Oper) (k : Nat) : List Nat := match ops[k]? with
  | none => []
  | some o => (o.after.toList.filter (fun e => Region.binds md e)).map (·.on)
def visitM (md : Region.Mode) (ops : Array Oper) : Nat → List Nat → Nat → Nat
  | 0, _, S => S
  | _ + 1, [], S => S
  | n + 1, k :: st, S => bif S.testBit k then visitM md ops n st S else visitM md ops n (onsOf md ops k ++ st) (S ||| 2 ^ k)
theorem visitM_spec {listed : Array Bool} (hc : closedL md ops listed) : ∀ (n : Nat) (st : List Nat) (S : Nat), (∀ j ∈ st, listed.getD j false = true) → (∀ i, S.testBit i = true → listed.getD i false = true) →
    ∀ i, (visitM md ops n st S).testBit i = true → listed.getD i false = true
  | 0, _, S, _, hS, i, h => hS i h
  | _ + 1, [], S, _, hS, i, h => hS i h
  | n + 1, k :: st, S, hst, hS, i, h => by
    unfold visitM at h
    cases hb : S.testBit k
    · rw [hb] at h
      refine visitM_spec hc n _ _ ?_ ?_ i h
      · intro j hj
        rcases List.mem_append.1 hj with hj | hj
        · unfold onsOf at hj
          cases ho : ops[k]? with
          | none => simp [ho] at hj
          | some o =>
            simp only [ho, List.mem_map, List.mem_filter] at hj
            obtain ⟨e, ⟨he, hbd⟩, rfl⟩ := hj
            exact hc k o ho (hst k (by simp)) e (by simpa using he) hbd
        · exact hst j (by simp [hj])
      · intro j hj
        rw [Nat.testBit_or, Bool.or_eq_true] at hj
        rcases hj with hj | hj
        · exact hS j hj
        · rw [Nat.testBit_two_pow, decide_eq_true_eq] at hj
          subst hj
          exact hst _ (by simp)
    · rw [hb] at h
      exact visitM_spec hc n _ _ (fun j hj => hst j (by simp [hj])) hS i h
def tailOkX (md : Region.Mode) (ops : Array Oper) (m : Nat) : Bool :=
  (List.range (ops.size - m)).all fun d => (visitM md ops 4000 (onsOf md ops (m + d)) 0) &&& (2 ^ m - 1) == 2 ^ m - 1
theorem tailOkX_P {m : Nat} (htail : tailOkX md ops m = true) : TailP md ops m := fun k i hmk hk hi listed hc hall => by
  have h1 := List.all_eq_true.1 htail (k - m) (List.mem_range.2 (by omega))
  rw [show m + (k - m) = k by omega, beq_iff_eq] at h1
  have h2 := congrArg (fun x => x.testBit i) h1
  simp only [Nat.testBit_and, Nat.testBit_two_pow_sub_one, hi, decide_true, Bool.and_true] at h2
  refine visitM_spec hc 4000 _ _ ?_ (fun i h => by simp at h) i h2
  intro j hj
  unfold onsOf at hj
  cases ho : ops[k]? with
  | none => simp [ho] at hj
  | some o =>
    simp only [ho, List.mem_map, List.mem_filter] at hj
    obtain ⟨e, ⟨he, hbd⟩, rfl⟩ := hj
    exact hall o ho e (by simpa using he) hbd

theorem AnyS.first (hsel : ∀ (j : Nat) (o : Oper) cs b, ops[j]? = some o → o.op ≠ .select cs b) {m : Nat} (htail : TailP md ops m) {i : Nat} {oi : Oper} {v : Value} (hi : ops[i]? = some oi) (him : i < m) :
    ∀ (fuel : Nat) (listed : Array Bool) (a : Act), closedL md ops listed →
      (∀ j oj, ops[j]? = some oj → j ≠ i → listed.getD j true = false → (∀ e ∈ oj.after, Region.binds md e = true → e.on ≠ i) → oi.apart ops oj = true) →
      i ∈ Region.ready md ops listed → StepS P ops S oi v a →
      AnyS P md ops Q S m fuel (listed.setIfInBounds i true) (a.put oi.dst v) → AnyS P md ops Q S m (fuel + 1) listed a := by
  intro fuel
  induction fuel with
  | zero =>
    intro listed a hc hfree hr hy H
    refine .inr ⟨fun h => (by rw [h] at hr; cases hr), fun j hj => ?_⟩
    by_cases hji : j = i
    · subst hji; exact ⟨him, oi, v, hi, hy, H⟩
    · exfalso
      have hjm : j < m := by
        rcases Nat.lt_or_ge j m with h | h
        · exact h
        · exfalso
          obtain ⟨_, oj, hoj, hall⟩ := mem_ready.1 hj
          have hjs : j < ops.size := (Array.getElem?_eq_some_iff.1 hoj).1
          have h3 := htail j i h hjs him listed hc (fun o ho e he hb => by rw [hoj] at ho; injection ho with ho; subst ho; exact hall e he hb)
          have h4 := (mem_ready.1 hr).1
          rcases Nat.lt_or_ge i listed.size with h' | h'
          · simp [h'] at h3 h4; rw [h4] at h3; cases h3
          · simp [Array.getElem?_eq_none h'] at h3
      have h1 := H.1 j hjm
      rw [getD_set_ne false (Ne.symm hji)] at h1
      have h4 := (mem_ready.1 hj).1
      rcases Nat.lt_or_ge j listed.size with h' | h'
      · simp [h'] at h1 h4; rw [h4] at h1; cases h1
      · simp [Array.getElem?_eq_none h'] at h1
  | succ fuel ih =>
    intro listed a hc hfree hr hy H
    refine .inr ⟨fun h => (by rw [h] at hr; cases hr), fun j hj => ?_⟩
    by_cases hji : j = i
    · subst hji; exact ⟨him, oi, v, hi, hy, H⟩
    · have hjm : j < m := by
        rcases Nat.lt_or_ge j m with h | h
        · exact h
        · exfalso
          obtain ⟨_, oj, hoj, hall⟩ := mem_ready.1 hj
          have hjs : j < ops.size := (Array.getElem?_eq_some_iff.1 hoj).1
          have h3 := htail j i h hjs him listed hc (fun o ho e he hb => by rw [hoj] at ho; injection ho with ho; subst ho; exact hall e he hb)
          have h4 := (mem_ready.1 hr).1
          rcases Nat.lt_or_ge i listed.size with h' | h'
          · simp [h'] at h3 h4; rw [h4] at h3; cases h3
          · simp [Array.getElem?_eq_none h'] at h3
      rcases H with ⟨hd, _⟩ | ⟨_, H⟩
      · exfalso
        have h1 := hd j hjm
        rw [getD_set_ne false (Ne.symm hji)] at h1
        have h4 := (mem_ready.1 hj).1
        rcases Nat.lt_or_ge j listed.size with h' | h'
        · simp [h'] at h1 h4; rw [h4] at h1; cases h1
        · simp [Array.getElem?_eq_none h'] at h1
      · obtain ⟨_, oj, u, hoj, hst, hrest⟩ := H j (ready_mono hj hji)
        obtain ⟨hjun, oj', hoj', hall⟩ := mem_ready.1 hj
        rw [hoj] at hoj'; injection hoj' with hoj'; subst hoj'
        have hnot : ∀ e ∈ oj.after, Region.binds md e = true → e.on ≠ i := fun e he hb heq => by
          have h1 := hall e he hb
          have h0 := (mem_ready.1 hr).1
          rw [heq] at h1
          rcases Nat.lt_or_ge i listed.size with h' | h'
          · simp [h'] at h0 h1; rw [h0] at h1; cases h1
          · simp [Array.getElem?_eq_none h'] at h1
        obtain ⟨h1, h2, h3⟩ := Oper.apart_spec (hfree j oj hoj hji hjun hnot)
        refine ⟨hjm, oj, u, hoj, hst.unputApart (hsel j oj · · hoj) _ _ h1, ih _ _ (hc.set hj) ?_ (ready_mono hr (Ne.symm hji)) (hy.putApart (hsel i oi · · hi) _ _ h3) ?_⟩
        · intro k ok hk hki hun hno
          refine hfree k ok hk hki ?_ hno
          by_cases hjk : j = k
          · subst hjk; exact hjun
          · rw [getD_set_ne true hjk] at hun; exact hun
        · rw [Array.setIfInBounds_comm _ _ hji, ← Act.put_comm a v u h2]
          exact hrest

/-- The first k of n are listed. -/
def pre (n k : Nat) : Array Bool := (List.replicate k true ++ List.replicate (n - k) false).toArray

def flowOk (ops : Array Oper) (m : Nat) : Bool :=
  Region.noSelect ops && decide (m ≤ ops.size) && tailOk .any ops m &&
  ((List.range m).all fun i => (Region.ready .any ops (pre ops.size i)).contains i && Region.free .any ops (pre ops.size i) i) &&
  ((List.range (ops.size - m)).all fun i => Region.ready .any ops (pre ops.size (m + i)) == [m + i]) && (Region.ready .any ops (pre ops.size ops.size) == [])

def flowOkX (ops : Array Oper) (m : Nat) : Bool :=
  Region.noSelect ops && decide (m ≤ ops.size) && tailOkX .any ops m &&
  ((List.range m).all fun i => (Region.ready .any ops (pre ops.size i)).contains i && Region.free .any ops (pre ops.size i) i) &&
  ((List.range (ops.size - m)).all fun i => Region.ready .any ops (pre ops.size (m + i)) == [m + i]) && (Region.ready .any ops (pre ops.size ops.size) == [])

/-- The region's first m operations, in the order of the text, each a step in every world that meets S; then the rest. -/
def Flow (P : Program) (ops : Array Oper) (Q : Exit → Act → World → Prop) (S : World → Prop) : Nat → List Oper → Act → Prop
  | 0, l, a => ∀ w, S w → wpList P ops Q l a w
  | _ + 1, [], a => ∀ w, S w → Q .normal a w
  | m + 1, o :: rest, a => ∃ v, StepS P ops S o v a ∧ Flow P ops Q S m rest (a.put o.dst v)

theorem pre_size (n k : Nat) (h : k ≤ n) : (pre n k).size = n := by simp [pre]; omega
theorem pre_getD (n k i : Nat) (d : Bool) (h : k ≤ n) (hi : i < n) : (pre n k).getD i d = decide (i < k) := by
  rw [Array.getD_eq_getD_getElem?]
  simp only [pre, List.getElem?_toArray]
  by_cases hk : i < k
  · rw [List.getElem?_append_left (by simpa using hk)]; simp [hk]
  · rw [List.getElem?_append_right (by simp; omega), List.getElem?_replicate]
    have : i - (List.replicate k true).length < n - k := by simp; omega
    rw [if_pos this]; simp [hk]
theorem pre_set (n k : Nat) (h : k < n) : (pre n k).setIfInBounds k true = pre n (k + 1) := by
  apply Array.ext
  · simp [pre]; omega
  · intro i h1 h2
    have e1 := pre_getD n (k + 1) i false (by omega) (by rw [pre_size _ _ (by omega)] at h2; exact h2)
    rw [Array.getD, dif_pos h2] at e1
    change (pre n (k + 1))[i] = _ at e1
    rw [e1, Array.getElem_setIfInBounds (by rw [pre_size _ _ (by omega)]; rw [pre_size _ _ (by omega)] at h2; exact h2)]
    split
    · subst_vars; simp
    · have h3 : i < (pre n k).size := by rw [pre_size _ _ (by omega)]; rw [pre_size _ _ (by omega)] at h2; exact h2
      have e2 := pre_getD n k i false (by omega) (by rw [pre_size _ _ (by omega)] at h3; exact h3)
      rw [Array.getD, dif_pos h3] at e2
      change (pre n k)[i] = _ at e2
      rw [e2, decide_eq_decide]; omega

theorem wpAny_tail {m : Nat} (hf : ∀ i, i < ops.size → m ≤ i → Region.ready .any ops (pre ops.size i) = [i]) (hend : Region.ready .any ops (pre ops.size ops.size) = []) :
    ∀ (n k : Nat) (l : List Oper), m ≤ k → k + n = ops.size → (∀ j, l[j]? = ops[k + j]?) → ∀ (a : Act) (w : World), wpList P ops Q l a w → Go.wpAny P .any ops Q n (pre ops.size k) a w
  | 0, k, l, _, hn, hl, a, w, h => by
    have hk : k = ops.size := by omega
    subst hk
    have : l = [] := by
      cases l with
      | nil => rfl
      | cons o l => have := hl 0; simp at this
    subst this
    exact ⟨hend, h⟩
  | n + 1, k, l, hmk, hn, hl, a, w, h => by
    have hks : k < ops.size := by omega
    have hr := hf k hks hmk
    cases l with
    | nil => have := hl 0; simp [Array.getElem?_eq_getElem hks] at this
    | cons o l =>
      have ho : ops[k]? = some o := by simpa using (hl 0).symm
      have hl' : ∀ j, l[j]? = ops[k + 1 + j]? := fun j => by have := hl (j + 1); simpa [Nat.add_assoc, Nat.add_comm 1 j] using this
      refine ⟨fun h0 => (by rw [hr] at h0; cases h0), fun i hi => ?_⟩
      rw [hr] at hi
      have hik : i = k := by simpa using hi
      subst hik
      rw [pre_set _ _ hks]
      unfold wpList at h
      unfold Go.wpOp
      simp only [ho]
      split
      · rename_i hw
        rw [if_pos hw] at h
        exact h.imp (Oper.wp_mono (fun a w => wpAny_tail hf hend n (i + 1) l (by omega) (by omega) hl' a w)) id
      · rename_i hw
        rw [if_neg hw] at h
        exact wpAny_tail hf hend n (i + 1) l (by omega) (by omega) hl' _ _ h

theorem Flow.anyS {m0 : Nat} (hsel : ∀ (j : Nat) (o : Oper) cs b, ops[j]? = some o → o.op ≠ .select cs b) (htail : TailP .any ops m0) (hm0 : m0 ≤ ops.size)
    (hr : ∀ i, i < m0 → i ∈ Region.ready .any ops (pre ops.size i)) (hfr : ∀ i, i < m0 → Region.free .any ops (pre ops.size i) i = true)
    (hf : ∀ i, i < ops.size → m0 ≤ i → Region.ready .any ops (pre ops.size i) = [i]) (hend : Region.ready .any ops (pre ops.size ops.size) = []) :
    ∀ (m k : Nat) (l : List Oper), k + m = m0 → closedL .any ops (pre ops.size k) → (∀ j, l[j]? = ops[k + j]?) → ∀ (a : Act), Flow P ops Q S m l a → AnyS P .any ops Q S m0 (ops.size - k) (pre ops.size k) a
  | 0, k, l, hk, _, hl, a, h => by
    have hk' : k = m0 := by omega
    subst hk'
    have he : earlyDone k (pre ops.size k) := fun i hi => by rw [pre_getD _ _ _ _ (by omega) (by omega)]; simpa using hi
    have h1 : ∀ w, S w → Go.wpAny P .any ops Q (ops.size - k) (pre ops.size k) a w := fun w hS => wpAny_tail hf hend _ _ l (Nat.le_refl _) (by omega) hl a w (h w hS)
    generalize hn : ops.size - k = n at h1
    cases n with
    | zero => exact ⟨he, h1⟩
    | succ n => exact .inl ⟨he, h1⟩
  | m + 1, k, l, hk, hc, hl, a, h => by
    have hks : k < ops.size := by omega
    cases l with
    | nil => have := hl 0; simp [Array.getElem?_eq_getElem hks] at this
    | cons o l =>
      have ho : ops[k]? = some o := by simpa using (hl 0).symm
      have hl' : ∀ j, l[j]? = ops[k + 1 + j]? := fun j => by have := hl (j + 1); simpa [Nat.add_assoc, Nat.add_comm 1 j] using this
      obtain ⟨v, hst, hrest⟩ := h
      have hn : ops.size - k = (ops.size - (k + 1)) + 1 := by omega
      rw [hn]
      refine AnyS.first hsel htail ho (by omega) _ _ _ hc (Region.free_spec ho (hfr k (by omega))) (hr k (by omega)) hst ?_
      rw [pre_set _ _ hks]
      refine Flow.anyS hsel htail hm0 hr hfr hf hend m (k + 1) l (by omega) ?_ hl' _ hrest
      rw [← pre_set _ _ hks]
      exact hc.set (hr k (by omega))

theorem wp_region_flow {id : Nat} {l : List Oper} {a : Act} {w : World} (m : Nat) (S : World → Prop) (hm : P.follows .mixedOrders = true) (hc : flowOk l.toArray m = true) (hS : S w.drew)
    (h : Flow P l.toArray Q S m l a) : (Code.region id l.toArray true).wp P Q a w := by
  simp only [flowOk, Bool.and_eq_true, decide_eq_true_eq, beq_iff_eq, List.all_eq_true, List.mem_range] at hc
  obtain ⟨⟨⟨⟨⟨c1, c2⟩, c3⟩, c4⟩, c5⟩, c6⟩ := hc
  have hQ : ∀ e a w, Never e a w → Q e a w := fun _ _ _ h => (h : False).elim
  refine wp_region_any hm ?_
  have hp : Array.replicate l.toArray.size false = pre l.toArray.size 0 := by simp [pre, ← List.toArray_replicate]
  rw [hp]
  have hr : ∀ i, i < m → i ∈ Region.ready .any l.toArray (pre l.toArray.size i) := fun i hi => by simpa using (c4 i hi).1
  refine AnyS.wpAny hQ _ _ _ (Flow.anyS (m0 := m) (k := 0) (Region.noSelect_spec c1) (tailOk_P c3) c2 hr (fun i hi => (c4 i hi).2) ?_ c6 m l (by omega) ?_ (by simp) a h) w.drew hS
  · intro i hi hmi
    have := c5 (i - m) (by omega)
    rwa [show m + (i - m) = i by omega] at this
  · intro k o _ hk
    exfalso
    rcases Nat.lt_or_ge k l.toArray.size with h' | h'
    · rw [pre_getD _ _ _ _ (by omega) h'] at hk; simp at hk
    · rw [Array.getD, dif_neg (by rw [pre_size _ _ (by omega)]; omega)] at hk; cases hk

theorem wp_region_flowX {id : Nat} {l : List Oper} {a : Act} {w : World} (m : Nat) (S : World → Prop) (hm : P.follows .mixedOrders = true) (hc : flowOkX l.toArray m = true) (hS : S w.drew)
    (h : Flow P l.toArray Q S m l a) : (Code.region id l.toArray true).wp P Q a w := by
  simp only [flowOkX, Bool.and_eq_true, decide_eq_true_eq, beq_iff_eq, List.all_eq_true, List.mem_range] at hc
  obtain ⟨⟨⟨⟨⟨c1, c2⟩, c3⟩, c4⟩, c5⟩, c6⟩ := hc
  have hQ : ∀ e a w, Never e a w → Q e a w := fun _ _ _ h => (h : False).elim
  refine wp_region_any hm ?_
  have hp : Array.replicate l.toArray.size false = pre l.toArray.size 0 := by simp [pre, ← List.toArray_replicate]
  rw [hp]
  have hr : ∀ i, i < m → i ∈ Region.ready .any l.toArray (pre l.toArray.size i) := fun i hi => by simpa using (c4 i hi).1
  refine AnyS.wpAny hQ _ _ _ (Flow.anyS (m0 := m) (k := 0) (Region.noSelect_spec c1) (tailOkX_P c3) c2 hr (fun i hi => (c4 i hi).2) ?_ c6 m l (by omega) ?_ (by simp) a h) w.drew hS
  · intro i hi hmi
    have := c5 (i - m) (by omega)
    rwa [show m + (i - m) = i by omega] at this
  · intro k o _ hk
    exfalso
    rcases Nat.lt_or_ge k l.toArray.size with h' | h'
    · rw [pre_getD _ _ _ _ (by omega) h'] at hk; simp at hk
    · rw [Array.getD, dif_neg (by rw [pre_size _ _ (by omega)]; omega)] at hk; cases hk

/-- It yields what R lets, and leaves the world. -/
def Yl (R : Value → Prop) (w : World) : Result Next → Prop
  | .ok (.value x) w' => w = w' ∧ R x
  | _ => False
@[go_sem] theorem Yl_ok (R : Value → Prop) (w : World) (x : Value) : Yl R w (.ok (.value x) w) = R x := by simp [Yl]
/-! The moves. -/
theorem Flow.quiet {m : Nat} {o : Oper} {rest : List Oper} {a : Act} (v : Value) (hw : Region.wanted o (yielded ops a.tmps) = true) (h : ∀ w, S w → (execOp a.eval o).run P w = .ok (.value v) w) (hr : Flow P ops Q S m rest (a.put o.dst v)) :
    Flow P ops Q S (m + 1) (o :: rest) a :=
  ⟨v, .inl ⟨hw, fun w hS K hK => by unfold Oper.wp; rw [h w hS]; exact hK _ _ rfl hS⟩, hr⟩
theorem Flow.take {m : Nat} {o : Oper} {rest : List Oper} {a : Act} (v : Value) (hw : Region.wanted o (yielded ops a.tmps) = true) (h : ∀ w, S w → ∀ R : Value → Prop, R v → Yl R w ((execOp a.eval o).run P w)) (hr : Flow P ops Q S m rest (a.put o.dst v)) :
    Flow P ops Q S (m + 1) (o :: rest) a :=
  Flow.quiet v hw (fun w hS => by
    have h1 := h w hS (fun x => x = v) rfl
    generalize (execOp a.eval o).run P w = r at *
    cases r with
    | ok n w' =>
      cases n with
      | value x => obtain ⟨e1, e2⟩ := h1; subst e1; subst e2; rfl
      | _ => exact h1.elim
    | halt x w' => exact h1.elim) hr
theorem Flow.skip {m : Nat} {o : Oper} {rest : List Oper} {a : Act} (hw : Region.wanted o (yielded ops a.tmps) = false) (hr : Flow P ops Q S m rest (a.put o.dst undef)) :
    Flow P ops Q S (m + 1) (o :: rest) a :=
  ⟨undef, .inr ⟨hw, rfl⟩, hr⟩
theorem Flow.step {m : Nat} {o : Oper} {rest : List Oper} {a : Act} (v : Value) (hw : Region.wanted o (yielded ops a.tmps) = true)
    (h : ∀ w, S w → ∀ K : Act → World → Prop, (∀ a2 w2, a2 = a.put o.dst v → S w2 → K a2 w2) → o.wp P a w K Never) (hr : Flow P ops Q S m rest (a.put o.dst v)) :
    Flow P ops Q S (m + 1) (o :: rest) a :=
  ⟨v, .inl ⟨hw, h⟩, hr⟩
/-- A call of a Go function of the program, by its contract. -/
theorem Flow.call {m : Nat} {o : Oper} {rest : List Oper} {a : Act} (f : FuncId) (args : Array Value) (v : Value) (hw : Region.wanted o (yielded ops a.tmps) = true)
    (he : ∀ w, S w → (execOp a.eval o).run P w = .ok (.enter f args) w) (h : ∀ w, S w → Calls P f args w fun e w2 => e = .returned v ∧ S w2) (hr : Flow P ops Q S m rest (a.put o.dst v)) :
    Flow P ops Q S (m + 1) (o :: rest) a :=
  ⟨v, .inl ⟨hw, fun w hS K hK => by
    unfold Oper.wp; rw [he w hS]
    exact (h w hS).mono fun e w2 ⟨he, h2⟩ => by subst he; exact hK _ _ rfl h2⟩, hr⟩
end
end Go.Proofs.YtkncebcekhfnfaaGreat
