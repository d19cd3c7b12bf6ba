/-
  A region that draws its order and makes memory: each of its first operations leaves all blocks that stood as they were; what it yields is either one value, or any value of which a given fact holds in the world that it leaves. Then the order does not matter: the operations may be taken in the order of the text, each in any later world.
-/
import Derived.Test.YtkncebcekhfnfaaGreatBWT01
import Derived.Below
namespace Go.Proofs.YtkncebcekhfnfaaGreat
open Go.RowKit

/-- All that stood is as it was. -/
def Ext (w w' : World) : Prop := Below w.heap.size w w'
theorem Ext.refl (w : World) : Ext w w := Below.refl _ _
theorem Ext.trans {a b c : World} (h : Ext a b) (k : Ext b c) : Ext a c := Below.trans h (Below.mono k (Below.size h))

/-- What an operation yields: this value; or one of which this holds. -/
abbrev Sp := Value ⊕ (Value → World → World → Prop)
abbrev Sp.val (x : Value) : Sp := .inl x
abbrev Sp.any (p : Value → World → World → Prop) : Sp := .inr p
def Sp.ok : Sp → Value → World → World → Prop
  | .inl x, v, _, _ => v = x
  | .inr p, v, w, w' => p v w w'
def Sp.fits : Sp → Value → Prop
  | .inl x, v => v = x
  | .inr _, _ => True
theorem Sp.ok_fits {s : Sp} {v : Value} {w w' : World} (h : Sp.ok s v w w') : Sp.fits s v := by
  cases s with
  | inl x => exact h
  | inr p => trivial
theorem Sp.some_ (s : Sp) : ∃ v, Sp.fits s v := by
  cases s with
  | inl x => exact ⟨x, rfl⟩
  | inr p => exact ⟨undef, trivial⟩
/-- What is known from then on. -/
def Sp.fact (w0 : World) (s : Sp) (v : Value) (lo hi : Nat) (w1 : World) : Prop := ∃ wa wb, Ext w0 wa ∧ Ext wa wb ∧ Ext wb w1 ∧ wa.heap.size = lo ∧ wb.heap.size = hi ∧ Sp.ok s v wa wb
/-- The blocks from (iv i).1 up to (iv i).2 were made by operation i alone. -/
def Dis (iv : Nat → Nat × Nat) : Prop := ∀ i j, i ≠ j → (iv i).2 ≤ (iv j).1 ∨ (iv j).2 ≤ (iv i).1
def updI (iv : Nat → Nat × Nat) (k : Nat) (x : Nat × Nat) : Nat → Nat × Nat := fun i => if i = k then x else iv i
theorem updI_comm (iv : Nat → Nat × Nat) {i j : Nat} (h : i ≠ j) (f g : Nat × Nat) : updI (updI iv i f) j g = updI (updI iv j g) i f := by
  funext k; unfold updI
  by_cases hi : k = i
  · subst hi; simp [h]
  · simp [hi]
theorem Dis.upd {iv : Nat → Nat × Nat} (h : Dis iv) {lo hi : Nat} (hle : ∀ i, (iv i).2 ≤ lo) (k : Nat) : Dis (updI iv k (lo, hi)) := by
  intro i j hij
  unfold updI
  by_cases hi : i = k
  · subst hi
    rw [if_pos rfl, if_neg (Ne.symm hij)]
    exact .inr (hle j)
  · by_cases hj : j = k
    · subst hj
      rw [if_neg hi, if_pos rfl]
      exact .inl (hle i)
    · rw [if_neg hi, if_neg hj]
      exact h i j hij

def upd (fs : Nat → World → Prop) (k : Nat) (f : World → Prop) : Nat → World → Prop := fun i => if i = k then f else fs i
theorem upd_comm (fs : Nat → World → Prop) {i j : Nat} (h : i ≠ j) (f g : World → Prop) : upd (upd fs i f) j g = upd (upd fs j g) i f := by
  funext k; unfold upd
  by_cases hi : k = i
  · subst hi; simp [h]
  · simp [hi]

section
variable {P : Program} {ops : Array Oper} {Q : Exit → Act → World → Prop} {w0 : World} {sps : Nat → Sp}

def StepE (P : Program) (ops : Array Oper) (w0 : World) (sp : Sp) (k : Nat) (o : Oper) (a : Act) (fs : Nat → World → Prop) : Prop :=
  (Region.wanted o (yielded ops a.tmps) = true ∧ ∀ w1, Ext w0 w1 → (∀ i, reachB .any ops i ops.size k = true → fs i w1) →
      ∀ K : Act → World → Prop, (∀ a2 v w2, a2 = a.put o.dst v → Ext w1 w2 → Sp.ok sp v w1 w2 → K a2 w2) → o.wp P a w1 K Never) ∨
  (Region.wanted o (yielded ops a.tmps) = false ∧ sp = Sp.val undef)

theorem StepE.move {sp : Sp} {k : Nat} {o : Oper} {a a' : Act} {fs fs' : Nat → World → Prop} (h : StepE P ops w0 sp k o a fs) (he : execOp a'.eval o = execOp a.eval o)
    (hw : Region.wanted o (yielded ops a'.tmps) = Region.wanted o (yielded ops a.tmps)) (hs : a'.tmps.size = a.tmps.size)
    (hf : ∀ i w, reachB .any ops i ops.size k = true → fs' i w → fs i w) : StepE P ops w0 sp k o a' fs' := by
  rcases h with ⟨hw1, h⟩ | ⟨hw1, hv⟩
  · refine .inl ⟨hw.trans hw1, fun w hS hfs K hK => ?_⟩
    have h1 := h w hS (fun i hi => hf i w hi (hfs i hi)) (fun a2 w2 => ∃ v, a2 = a.put o.dst v ∧ Ext w w2 ∧ Sp.ok sp v w w2) (fun _ v _ e x k => ⟨v, e, x, k⟩)
    unfold Oper.wp at *
    rw [he]
    generalize (execOp a.eval o).run P w = r at *
    cases r with
    | ok n w' =>
      cases n <;> simp only [Oper.upon] at h1 ⊢
      case value u => obtain ⟨v, e, x, y⟩ := h1; exact hK _ v _ (put_eq_put e hs) x y
      case skip => obtain ⟨v, e, x, y⟩ := h1; exact hK _ v _ (put_eq_put e hs) x y
      case defer d =>
        obtain ⟨v, e, _⟩ := h1
        have := congrArg (fun x : Act => x.defers.length) e
        cases hd : o.dst <;> simp [Act.put, hd] at this
      case enter f args =>
        refine Calls.mono h1 fun e w'' he' => ?_
        cases e with
        | returned u => obtain ⟨v, e, x, y⟩ := he'; exact hK _ v _ (put_eq_put e hs) x y
        | panicked c => exact he'
        | outgrown => exact he'
      case row row args => exact Rows.mono h1 fun u w'' he' => by obtain ⟨v, e, x, y⟩ := he'; exact hK _ v _ (put_eq_put e hs) x y
    | halt x w' =>
      cases x <;> simp only [Oper.upon] at h1 ⊢
      case panic u => exact h1
  · exact .inr ⟨hw.trans hw1, hv⟩

theorem StepE.wpOp {sp : Sp} {i : Nat} {o : Oper} {a : Act} {fs : Nat → World → Prop} (hi : ops[i]? = some o) (h : StepE P ops w0 sp i o a fs) {K : Act → World → Prop} {w : World} (hS : Ext w0 w) (hfs : ∀ i, fs i w)
    (hK : ∀ v w2, Ext w w2 → Sp.ok sp v w w2 → K (a.put o.dst v) w2) (hQ : ∀ e a w, Never e a w → Q e a w) : Go.wpOp P ops Q i K a w := by
  unfold Go.wpOp
  simp only [hi]
  rcases h with ⟨hw, h⟩ | ⟨hw, rfl⟩
  · simp only [hw, if_true]
    refine .inl ?_
    have h1 := h w hS (fun i _ => hfs i) K (fun a2 v w2 e x k => e ▸ hK v w2 x k)
    unfold Oper.wp at *
    generalize (execOp a.eval o).run P w = r at *
    cases r with
    | ok n w' =>
      cases n <;> simp only [Oper.upon] at h1 ⊢ <;> try exact h1
      case enter f args =>
        refine Calls.mono h1 fun e w'' he' => ?_
        cases e with
        | returned u => exact he'
        | panicked c => exact hQ _ _ _ he'
        | outgrown => exact he'.elim (fun _ h => h.elim (fun _ h => h.elim))
    | halt x w' =>
      cases x <;> simp only [Oper.upon] at h1 ⊢
      case panic u => exact hQ _ _ _ h1
  · simp only [hw, Bool.false_eq_true, if_false]; exact hK _ w (Ext.refl w) rfl

def AnyE (P : Program) (ops : Array Oper) (Q : Exit → Act → World → Prop) (w0 : World) (sps : Nat → Sp) (m : Nat) : Nat → Array Bool → Act → (Nat → World → Prop) → (Nat → Nat × Nat) → Prop
  | 0, listed, a, fs, iv => earlyDone m listed ∧ ∀ w, Ext w0 w → (∀ i, fs i w) → Dis iv → wpAny P .any ops Q 0 listed a w
  | fuel + 1, listed, a, fs, iv => (earlyDone m listed ∧ ∀ w, Ext w0 w → (∀ i, fs i w) → Dis iv → wpAny P .any ops Q (fuel + 1) listed a w) ∨
    (Region.ready .any ops listed ≠ [] ∧ ∀ i ∈ Region.ready .any ops listed, i < m ∧ ∃ o, ops[i]? = some o ∧ StepE P ops w0 (sps i) i o a fs ∧
      ∀ v lo hi, Sp.fits (sps i) v → AnyE P ops Q w0 sps m fuel (listed.setIfInBounds i true) (a.put o.dst v) (upd fs i (Sp.fact w0 (sps i) v lo hi)) (updI iv i (lo, hi)))

def Mono (fs : Nat → World → Prop) : Prop := ∀ i w w', Ext w w' → fs i w → fs i w'
theorem Mono.upd {fs : Nat → World → Prop} (h : Mono fs) (k : Nat) (s : Sp) (v : Value) (lo hi : Nat) : Mono (upd fs k (Sp.fact w0 s v lo hi)) := by
  intro i w w' hx hf
  unfold Proofs.YtkncebcekhfnfaaGreat.upd at *
  split at hf
  · rename_i hik
    rw [if_pos hik]
    obtain ⟨wa, wb, h1, h2, h3, h4⟩ := hf
    exact ⟨wa, wb, h1, h2, h3.trans hx, h4⟩
  · rename_i hik
    rw [if_neg hik]
    exact h i w w' hx hf

theorem AnyE.wpAny (hQ : ∀ e a w, Never e a w → Q e a w) {m : Nat} : ∀ (fuel : Nat) (listed : Array Bool) (a : Act) (fs : Nat → World → Prop) (iv : Nat → Nat × Nat), Mono fs → AnyE P ops Q w0 sps m fuel listed a fs iv → ∀ w, Ext w0 w → (∀ i, fs i w) → Dis iv → (∀ i, (iv i).2 ≤ w.heap.size) → Go.wpAny P .any ops Q fuel listed a w
  | 0, _, _, _, _, _, h, w, hS, hf, hd, _ => h.2 w hS hf hd
  | fuel + 1, listed, a, fs, iv, hm, h, w, hS, hf, hd, hle => by
    rcases h with ⟨_, h⟩ | ⟨hne, h⟩
    · exact h w hS hf hd
    · refine ⟨fun h0 => absurd h0 hne, fun i hi => ?_⟩
      obtain ⟨_, o, ho, hst, hrest⟩ := h i hi
      refine hst.wpOp ho hS hf (fun v w2 hx hok => AnyE.wpAny hQ fuel _ _ _ _ (hm.upd i _ v w.heap.size w2.heap.size) (hrest v w.heap.size w2.heap.size (Sp.ok_fits hok)) w2 (hS.trans hx) ?_ (hd.upd hle i) ?_) hQ
      · intro k
        unfold upd
        split
        · exact ⟨w, w2, hS, hx, Ext.refl w2, rfl, rfl, hok⟩
        · exact hm k w w2 hx (hf k)
      · intro k
        unfold updI
        split
        · exact Nat.le_refl _
        · exact Nat.le_trans (hle k) hx.size

theorem AnyE.first (hsel : ∀ (j : Nat) (o : Oper) cs b, ops[j]? = some o → o.op ≠ .select cs b) {m : Nat} (htail : tailOk .any ops m = true) {i : Nat} {oi : Oper} (hi : ops[i]? = some oi) (him : i < m) :
    ∀ (fuel : Nat) (listed : Array Bool) (a : Act) (fs : Nat → World → Prop) (iv : Nat → Nat × Nat), closedL .any ops listed →
      (∀ j oj, ops[j]? = some oj → j ≠ i → listed.getD j true = false → (∀ e ∈ oj.after, Region.binds .any e = true → e.on ≠ i) → oi.apart ops oj = true) →
      i ∈ Region.ready .any ops listed → StepE P ops w0 (sps i) i oi a fs →
      (∀ v lo hi, Sp.fits (sps i) v → AnyE P ops Q w0 sps m fuel (listed.setIfInBounds i true) (a.put oi.dst v) (upd fs i (Sp.fact w0 (sps i) v lo hi)) (updI iv i (lo, hi))) → AnyE P ops Q w0 sps m (fuel + 1) listed a fs iv := by
  intro fuel
  induction fuel with
  | zero =>
    intro listed a fs iv hc hfree hr hy H
    refine .inr ⟨fun h => (by rw [h] at hr; cases hr), fun j hj => ?_⟩
    by_cases hji : j = i
    · subst hji; exact ⟨him, oi, hi, hy, H⟩
    · exfalso
      have hnr := notWaits hc hr hj
      have hjm := earlyOf htail him hj hnr
      obtain ⟨v0, hv0⟩ := Sp.some_ (sps i)
      have h1 := (H v0 0 0 hv0).1 j hjm
      rw [getD_set_ne false (Ne.symm hji)] at h1
      have h4 := (mem_ready.1 hj).1
      rcases Nat.lt_or_ge j listed.size with h' | h'
      · simp [h'] at h1 h4; rw [h4] at h1; cases h1
      · simp [Array.getElem?_eq_none h'] at h1
  | succ fuel ih =>
    intro listed a fs iv hc hfree hr hy H
    refine .inr ⟨fun h => (by rw [h] at hr; cases hr), fun j hj => ?_⟩
    by_cases hji : j = i
    · subst hji; exact ⟨him, oi, hi, hy, H⟩
    · have hnr := notWaits hc hr hj
      have hjm := earlyOf htail him hj hnr
      have H2 : ∀ v lo hi, Sp.fits (sps i) v → ∃ oj, ops[j]? = some oj ∧ StepE P ops w0 (sps j) j oj (a.put oi.dst v) (upd fs i (Sp.fact w0 (sps i) v lo hi)) ∧
          ∀ u lo' hi', Sp.fits (sps j) u → AnyE P ops Q w0 sps m fuel ((listed.setIfInBounds i true).setIfInBounds j true) ((a.put oi.dst v).put oj.dst u) (upd (upd fs i (Sp.fact w0 (sps i) v lo hi)) j (Sp.fact w0 (sps j) u lo' hi')) (updI (updI iv i (lo, hi)) j (lo', hi')) := by
        intro v lo hi hv
        rcases H v lo hi hv with ⟨hd, _⟩ | ⟨_, H⟩
        · exfalso
          have h1 := hd j hjm
          rw [getD_set_ne false (Ne.symm hji)] at h1
          have h4 := (mem_ready.1 hj).1
          rcases Nat.lt_or_ge j listed.size with h' | h'
          · simp [h'] at h1 h4; rw [h4] at h1; cases h1
          · simp [Array.getElem?_eq_none h'] at h1
        · exact (H j (ready_mono hj hji)).2
      obtain ⟨hjun, oj, hoj, hall⟩ := mem_ready.1 hj
      have hnot : ∀ e ∈ oj.after, Region.binds .any e = true → e.on ≠ i := fun e he hb heq => by
        have h1 := hall e he hb
        have h0 := (mem_ready.1 hr).1
        rw [heq] at h1
        rcases Nat.lt_or_ge i listed.size with h' | h'
        · simp [h'] at h0 h1; rw [h0] at h1; cases h1
        · simp [Array.getElem?_eq_none h'] at h1
      obtain ⟨h1, h2, h3⟩ := Oper.apart_spec (hfree j oj hoj hji hjun hnot)
      refine ⟨hjm, oj, hoj, ?_, fun u lo' hi' hu => ?_⟩
      · obtain ⟨v0, hv0⟩ := Sp.some_ (sps i)
        obtain ⟨oj', hoj', hst, _⟩ := H2 v0 0 0 hv0
        rw [hoj] at hoj'; injection hoj' with hoj'; subst hoj'
        refine hst.move (execOp_put oj (hsel j oj · · hoj) a oi.dst v0 h1).symm (wanted_put oj a oi.dst v0 h1).symm (put_size _ _ _).symm ?_
        intro k w hk hf
        unfold upd
        split
        · rename_i hki; subst hki; rw [hnr] at hk; cases hk
        · exact hf
      · refine ih _ _ _ _ (hc.set hj) ?_ (ready_mono hr (Ne.symm hji)) ?_ ?_
        · intro k ok hk hki hun hno
          refine hfree k ok hk hki ?_ hno
          by_cases hjk : j = k
          · subst hjk; exact hjun
          · rw [getD_set_ne true hjk] at hun; exact hun
        · refine hy.move (execOp_put oi (hsel i oi · · hi) a oj.dst u h3) (wanted_put oi a oj.dst u h3) (put_size _ _ _) ?_
          intro k w hk hf
          unfold upd at hf
          split at hf
          · rename_i hkj
            subst hkj
            exfalso
            have hl := reachB_spec hc ops.size i hk (fun o' ho' e' he' hb' => by
              obtain ⟨_, o2, ho2, hall2⟩ := mem_ready.1 hr
              rw [ho2] at ho'; injection ho' with ho'; subst ho'
              exact hall2 e' he' hb')
            have h0 := (mem_ready.1 hj).1
            rcases Nat.lt_or_ge k listed.size with h' | h'
            · simp [h'] at hl h0; rw [h0] at hl; cases hl
            · simp [Array.getElem?_eq_none h'] at hl
          · exact hf
        · intro v lo hi hv
          obtain ⟨oj', hoj', _, hrest⟩ := H2 v lo hi hv
          rw [hoj] at hoj'; injection hoj' with hoj'; subst hoj'
          have := hrest u lo' hi' hu
          rw [Array.setIfInBounds_comm _ _ hji, ← Act.put_comm a v u h2, upd_comm fs hji, updI_comm iv hji]
          exact this
where
  notWaits {listed : Array Bool} {i j : Nat} (hc : closedL .any ops listed) (hr : i ∈ Region.ready .any ops listed) (hj : j ∈ Region.ready .any ops listed) : reachB .any ops i ops.size j = false := by
    cases hb : reachB .any ops i ops.size j with
    | false => rfl
    | true =>
      exfalso
      obtain ⟨_, oj, hoj, hall⟩ := mem_ready.1 hj
      have h3 := reachB_spec hc _ _ hb (fun o ho e he hb => by rw [hoj] at ho; injection ho with ho; subst ho; exact hall e he hb)
      have h4 := (mem_ready.1 hr).1
      rcases Nat.lt_or_ge i listed.size with h' | h'
      · simp [h'] at h3 h4; rw [h4] at h3; cases h3
      · simp [Array.getElem?_eq_none h'] at h3
  earlyOf {listed : Array Bool} {m i j : Nat} (htail : tailOk .any ops m = true) (him : i < m) (hj : j ∈ Region.ready .any ops listed) (hnr : reachB .any ops i ops.size j = false) : j < m := by
    rcases Nat.lt_or_ge j m with h | h
    · exact h
    · exfalso
      obtain ⟨_, oj, hoj, _⟩ := mem_ready.1 hj
      have hjs : j < ops.size := (Array.getElem?_eq_some_iff.1 hoj).1
      have h1 := List.all_eq_true.1 htail j (List.mem_range.2 hjs)
      simp only [Bool.or_eq_true, decide_eq_true_eq] at h1
      have h2 := List.all_eq_true.1 (h1.resolve_left (by omega)) i (List.mem_range.2 him)
      rw [hnr] at h2; cases h2

/-- The region's first m operations in the order of the text (k: the number of the next one). -/
def FlowE (P : Program) (ops : Array Oper) (Q : Exit → Act → World → Prop) (w0 : World) : Nat → List Sp → List Oper → Nat → Act → (Nat → World → Prop) → (Nat → Nat × Nat) → Prop
  | 0, _, l, _, a, fs, iv => ∀ w, Ext w0 w → (∀ i, fs i w) → Dis iv → wpList P ops Q l a w
  | _ + 1, _, [], _, a, fs, iv => ∀ w, Ext w0 w → (∀ i, fs i w) → Dis iv → Q .normal a w
  | _ + 1, [], _, _, _, _, _ => False
  | m + 1, sp :: sps, o :: rest, k, a, fs, iv => StepE P ops w0 sp k o a fs ∧ ∀ v lo hi, Sp.fits sp v → FlowE P ops Q w0 m sps rest (k + 1) (a.put o.dst v) (upd fs k (Sp.fact w0 sp v lo hi)) (updI iv k (lo, hi))

theorem FlowE.anyE {m0 : Nat} {sl : List Sp} (hsel : ∀ (j : Nat) (o : Oper) cs b, ops[j]? = some o → o.op ≠ .select cs b) (htail : tailOk .any ops m0 = true) (hm0 : m0 ≤ ops.size)
    (hr : ∀ i, i < m0 → i ∈ Region.ready .any ops (pre ops.size i)) (hfr : ∀ i, i < m0 → Region.free .any ops (pre ops.size i) i = true)
    (hf : ∀ i, i < ops.size → m0 ≤ i → Region.ready .any ops (pre ops.size i) = [i]) (hend : Region.ready .any ops (pre ops.size ops.size) = []) :
    ∀ (m k : Nat) (l : List Oper) (sl' : List Sp), k + m = m0 → closedL .any ops (pre ops.size k) → (∀ j, l[j]? = ops[k + j]?) → (∀ j, sl'[j]? = sl[k + j]?) → ∀ (a : Act) (fs : Nat → World → Prop) (iv : Nat → Nat × Nat), FlowE P ops Q w0 m sl' l k a fs iv →
      AnyE P ops Q w0 (fun i => sl.getD i (Sp.val undef)) m0 (ops.size - k) (pre ops.size k) a fs iv
  | 0, k, l, _, hk, _, hl, _, a, fs, iv, h => by
    have hk' : k = m0 := by omega
    subst hk'
    have he : earlyDone k (pre ops.size k) := fun i hi => by rw [pre_getD _ _ _ _ (by omega) (by omega)]; simpa using hi
    have h1 : ∀ w, Ext w0 w → (∀ i, fs i w) → Dis iv → Go.wpAny P .any ops Q (ops.size - k) (pre ops.size k) a w := fun w hS hfs hd => wpAny_tail hf hend _ _ l (Nat.le_refl _) (by omega) hl a w (by unfold FlowE at h; exact h w hS hfs hd)
    generalize hn : ops.size - k = n at h1
    cases n with
    | zero => exact ⟨he, h1⟩
    | succ n => exact .inl ⟨he, h1⟩
  | m + 1, k, l, sl', hk, hc, hl, hsl, a, fs, iv, h => by
    have hks : k < ops.size := by omega
    cases l with
    | nil => have := hl 0; simp [Array.getElem?_eq_getElem hks] at this
    | cons o l =>
      have ho : ops[k]? = some o := by simpa using (hl 0).symm
      have hl' : ∀ j, l[j]? = ops[k + 1 + j]? := fun j => by have := hl (j + 1); simpa [Nat.add_assoc, Nat.add_comm 1 j] using this
      cases sl' with
      | nil => unfold FlowE at h; exact h.elim
      | cons sp sl' =>
        have hs0 : sl[k]? = some sp := by simpa using (hsl 0).symm
        have hsl' : ∀ j, sl'[j]? = sl[k + 1 + j]? := fun j => by have := hsl (j + 1); simpa [Nat.add_assoc, Nat.add_comm 1 j] using this
        unfold FlowE at h
        obtain ⟨hst, hrest⟩ := h
        have hg : sl.getD k (Sp.val undef) = sp := by rw [List.getD_eq_getElem?_getD, hs0]; rfl
        have hn : ops.size - k = (ops.size - (k + 1)) + 1 := by omega
        rw [hn]
        refine AnyE.first hsel htail ho (by omega) _ _ _ _ _ hc (Region.free_spec ho (hfr k (by omega))) (hr k (by omega)) (by rw [hg]; exact hst) ?_
        intro v lo hi hv
        rw [hg] at hv ⊢
        rw [pre_set _ _ hks]
        refine FlowE.anyE hsel htail hm0 hr hfr hf hend m (k + 1) l sl' (by omega) ?_ hl' hsl' _ _ _ (hrest v lo hi hv)
        rw [← pre_set _ _ hks]
        exact hc.set (hr k (by omega))

theorem wp_region_flowE {id : Nat} {l : List Oper} {a : Act} {w : World} (m : Nat) (sl : List Sp) (hm : P.follows .mixedOrders = true) (hc : flowOk l.toArray m = true)
    (h : FlowE P l.toArray Q w.drew m sl l 0 a (fun _ _ => True) (fun _ => (0, 0))) : (Code.region id l.toArray true).wp P Q a w := by
  simp only [flowOk, Bool.and_eq_true, decide_eq_true_eq, beq_iff_eq, List.all_eq_true, List.mem_range] at hc
  obtain ⟨⟨⟨⟨⟨c1, c2⟩, c3⟩, c4⟩, c5⟩, c6⟩ := hc
  have hQ : ∀ e a w, Never e a w → Q e a w := fun _ _ _ h => (h : False).elim
  refine wp_region_any hm ?_
  have hp : Array.replicate l.toArray.size false = pre l.toArray.size 0 := by simp [pre, ← List.toArray_replicate]
  rw [hp]
  have hr : ∀ i, i < m → i ∈ Region.ready .any l.toArray (pre l.toArray.size i) := fun i hi => by simpa using (c4 i hi).1
  refine AnyE.wpAny (w0 := w.drew) (sps := fun i => sl.getD i (Sp.val undef)) (m := m) hQ _ _ _ (fun _ _ => True) (fun _ => (0, 0)) (fun _ _ _ _ _ => trivial) (FlowE.anyE (m0 := m) (k := 0) (Region.noSelect_spec c1) c3 c2 hr (fun i hi => (c4 i hi).2) ?_ c6 m l sl (by omega) ?_ (by simp) (by simp) a _ _ h) w.drew (Ext.refl _) (fun _ => trivial) (fun _ _ _ => .inl (Nat.zero_le _)) (fun _ => Nat.zero_le _)
  · intro i hi hmi
    have := c5 (i - m) (by omega)
    rwa [show m + (i - m) = i by omega] at this
  · intro k o _ hk
    exfalso
    rcases Nat.lt_or_ge k l.toArray.size with h' | h'
    · rw [pre_getD _ _ _ _ (by omega) h'] at hk; simp at hk
    · rw [Array.getD, dif_neg (by rw [pre_size _ _ (by omega)]; omega)] at hk; cases hk

/-! The moves. -/
/-- One value, the world left. -/
theorem FlowE.take {m k : Nat} {x : Value} {sl : List Sp} {o : Oper} {rest : List Oper} {a : Act} {fs : Nat → World → Prop} {iv : Nat → Nat × Nat} (hw : Region.wanted o (yielded ops a.tmps) = true)
    (h : ∀ w, Ext w0 w → ∀ R : Value → Prop, R x → Yl R w ((execOp a.eval o).run P w)) (hr : ∀ lo hi, FlowE P ops Q w0 m sl rest (k + 1) (a.put o.dst x) (upd fs k (Sp.fact w0 (Sp.val x) x lo hi)) (updI iv k (lo, hi))) :
    FlowE P ops Q w0 (m + 1) (Sp.val x :: sl) (o :: rest) k a fs iv := by
  unfold FlowE
  refine ⟨.inl ⟨hw, fun w hS _ K hK => ?_⟩, fun v lo hi hv => by rw [show v = x from hv]; exact hr lo hi⟩
  have h1 := h w hS (fun y => y = x) rfl
  unfold Oper.wp
  generalize (execOp a.eval o).run P w = r at *
  cases r with
  | ok n w' =>
    cases n with
    | value y => obtain ⟨e1, e2⟩ := h1; subst e1; subst e2; exact hK _ _ _ rfl (Ext.refl _) rfl
    | _ => exact h1.elim
  | halt x w' => exact h1.elim
/-- Any value of which p holds; it does not lean on what the others yielded. -/
theorem FlowE.step {m k : Nat} {p : Value → World → World → Prop} {sl : List Sp} {o : Oper} {rest : List Oper} {a : Act} {fs : Nat → World → Prop} {iv : Nat → Nat × Nat} (hw : Region.wanted o (yielded ops a.tmps) = true)
    (h : ∀ w, Ext w0 w → ∀ K : Act → World → Prop, (∀ v w2, Ext w w2 → p v w w2 → K (a.put o.dst v) w2) → o.wp P a w K Never) (hr : ∀ v lo hi, FlowE P ops Q w0 m sl rest (k + 1) (a.put o.dst v) (upd fs k (Sp.fact w0 (Sp.any p) v lo hi)) (updI iv k (lo, hi))) :
    FlowE P ops Q w0 (m + 1) (Sp.any p :: sl) (o :: rest) k a fs iv := by
  unfold FlowE
  exact ⟨.inl ⟨hw, fun w hS _ K hK => h w hS K (fun v w2 hx hp => hK _ v w2 rfl hx hp)⟩, fun v lo hi _ => hr v lo hi⟩
/-- A call, by its contract. -/
theorem FlowE.call {m k : Nat} {p : Value → World → World → Prop} {sl : List Sp} {o : Oper} {rest : List Oper} {a : Act} {fs : Nat → World → Prop} {iv : Nat → Nat × Nat} (f : FuncId) (args : Array Value) (hw : Region.wanted o (yielded ops a.tmps) = true)
    (he : ∀ w, Ext w0 w → (execOp a.eval o).run P w = .ok (.enter f args) w) (h : ∀ w, Ext w0 w → Calls P f args w fun e w2 => ∃ v, e = .returned v ∧ Ext w w2 ∧ p v w w2) (hr : ∀ v lo hi, FlowE P ops Q w0 m sl rest (k + 1) (a.put o.dst v) (upd fs k (Sp.fact w0 (Sp.any p) v lo hi)) (updI iv k (lo, hi))) :
    FlowE P ops Q w0 (m + 1) (Sp.any p :: sl) (o :: rest) k a fs iv :=
  FlowE.step hw (fun w hS K hK => by
    unfold Oper.wp; rw [he w hS]
    exact (h w hS).mono fun e w2 ⟨v, he, h1, h2⟩ => by subst he; exact hK _ _ h1 h2) hr
theorem FlowE.tail {sl : List Sp} {l : List Oper} {k : Nat} {a : Act} {fs : Nat → World → Prop} {iv : Nat → Nat × Nat} (h : ∀ w, Ext w0 w → (∀ i, fs i w) → Dis iv → wpList P ops Q l a w) : FlowE P ops Q w0 0 sl l k a fs iv := by unfold FlowE; exact h
end
end Go.Proofs.YtkncebcekhfnfaaGreat
