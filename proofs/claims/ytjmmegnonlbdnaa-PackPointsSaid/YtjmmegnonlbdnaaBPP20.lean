/-
  An octagon cut by packs, in plain words.
  A region that draws its order and makes memory: each of its first operations leaves all blocks that stood as they were; what it yields is either one value, or any value of which a given fact holds in the world that it leaves. Then the order does not matter: the operations may be taken in the order of the text, each in any later world.
-/
import Derived.Test.YtjmmegnonlbdnaaBPP09
import Derived.Test.YtjmmegnonlbdnaaCloseLaw
import Derived.Test.YtjmmegnonlbdnaaFlow
import Derived.Below
namespace Go.Proofs.Ytjmmegnonlbdnaa
section
open Go.RowKit

def setV (f : Nat → Int) (v : Int) (i : Nat) : Nat → Int := fun j => if (j : Int) = v then (i : Int) else f j
def ofRow (f : Nat → Int) (l : List Int) (i j : Nat) : Nat → Int := (l.take j).foldl (fun f v => setV f v i) f
def ofRows (ps : List (List Int)) (k : Nat) : Nat → Int := (List.range k).foldl (fun f i => ofRow f (rowL ps i) i (rowL ps i).length) (fun _ => 0)
theorem ofRow_zero (f : Nat → Int) (l : List Int) (i : Nat) : ofRow f l i 0 = f := by simp [ofRow]
theorem ofRow_succ (f : Nat → Int) (l : List Int) (i j : Nat) (hj : j < l.length) : ofRow f l i (j + 1) = setV (ofRow f l i j) (gI l j) i := by
  unfold ofRow gI
  rw [List.take_succ_eq_append_getElem hj, List.foldl_append]; simp [hj]
theorem ofRows_succ (ps : List (List Int)) (k : Nat) : ofRows ps (k + 1) = ofRow (ofRows ps k) (rowL ps k) k (rowL ps k).length := by
  unfold ofRows
  rw [List.range_succ, List.foldl_append]; rfl

def cutK (N : Nat) (f : Nat → Int) (m : List Int) (k : Nat) : List Int := (List.range m.length).map (fun p => if p < k ∧ f (p / N / 2) ≠ f (p % N / 2) then 9223372036854775807 else gI m p)
theorem cutK_len (N : Nat) (f : Nat → Int) (m : List Int) (k : Nat) : (cutK N f m k).length = m.length := by simp [cutK]
theorem cutK_zero (N : Nat) (f : Nat → Int) (m : List Int) : cutK N f m 0 = m := by
  apply List.ext_getElem
  · simp [cutK]
  · intro i h1 h2
    simp [cutK, gI, h2]
theorem cutK_same {N : Nat} {f : Nat → Int} {m : List Int} {k : Nat} (h : f (k / N / 2) = f (k % N / 2)) : cutK N f m (k + 1) = cutK N f m k := by
  unfold cutK
  apply List.map_congr_left
  intro p _
  by_cases e : p = k
  · subst e; simp [h]
  · have : (p < k + 1) ↔ (p < k) := by omega
    simp [this]
theorem cutK_get {N : Nat} {f : Nat → Int} {m : List Int} {k i : Nat} (h : i < (cutK N f m k).length) : (cutK N f m k)[i] = if i < k ∧ f (i / N / 2) ≠ f (i % N / 2) then 9223372036854775807 else gI m i := by simp [cutK]
theorem cutK_set {N : Nat} {f : Nat → Int} {m : List Int} {k : Nat} (h : f (k / N / 2) ≠ f (k % N / 2)) : cutK N f m (k + 1) = (cutK N f m k).set k 9223372036854775807 := by
  apply List.ext_getElem
  · simp [cutK]
  · intro i h1 h2
    rw [List.getElem_set, cutK_get, cutK_get]
    by_cases e : k = i
    · subst e; simp [h]
    · have : (i < k + 1) ↔ (i < k) := by omega
      simp [this, e]
/-- The octagon, closed, without what is told between packs. -/
def cutO (o : O) (ps : List (List Int)) : O :=
  if (closeO o).e = true then closeO o else ⟨o.n, false, cutK (2 * o.n).toNat (ofRows ps ps.length) (closeO o).m ((2 * o.n).toNat * (2 * o.n).toNat)⟩
def cutErr (o : O) (ps : List (List Int)) : Int := if check o ≠ 0 then check o else packErr o.n ps
def cutAns (o : O) (ps : List (List Int)) : O := if cutErr o ps = 0 then cutO o ps else ⟨0, false, []⟩
theorem packErr_in {n : Int} {ps : List (List Int)} (h : packErr n ps = 0) : 0 ≤ n ∧ n ≤ 64 ∧ (∀ i, i < ps.length → ∀ j, j < (rowL ps i).length → 0 ≤ gI (rowL ps i) j ∧ gI (rowL ps i) j < n) := by
  by_cases h1 : 0 ≤ n ∧ n ≤ 64
  · refine ⟨h1.1, h1.2, fun i hi j hj => ?_⟩
    cases h2 : rowP n ps i
    · rw [packErr_row hi h2] at h; simp at h
    · unfold rowP at h2
      rw [Bool.and_eq_true] at h2
      have h3 := List.all_eq_true.1 h2.2 j (List.mem_range.2 hj)
      unfold cellP at h3
      simp only [Bool.and_eq_true, decide_eq_true_eq] at h3
      exact h3.1.1
  · rw [packErr_n h1] at h; simp at h
end
section
open Go.RowKit

/-- All that stood is as it was. -/
def Ext (w w' : World) : Prop := Below w.heap.size w w'
/-- What an operation yields: this value; or one of which this holds. -/
abbrev Sp := Value ⊕ (Value → World → World → Prop)
abbrev Sp.val (x : Value) : Sp := .inl x
def Sp.ok : Sp → Value → World → World → Prop
  | .inl x, v, _, _ => v = x
  | .inr p, v, w, w' => p v w w'
def Sp.fits : Sp → Value → Prop
  | .inl x, v => v = x
  | .inr _, _ => True
/-- What is known from then on. -/
def Sp.fact (w0 : World) (s : Sp) (v : Value) (lo hi : Nat) (w1 : World) : Prop := ∃ wa wb, Ext w0 wa ∧ Ext wa wb ∧ Ext wb w1 ∧ wa.heap.size = lo ∧ wb.heap.size = hi ∧ Sp.ok s v wa wb
/-- The blocks from (iv i).1 up to (iv i).2 were made by operation i alone. -/
def Dis (iv : Nat → Nat × Nat) : Prop := ∀ i j, i ≠ j → (iv i).2 ≤ (iv j).1 ∨ (iv j).2 ≤ (iv i).1
def updI (iv : Nat → Nat × Nat) (k : Nat) (x : Nat × Nat) : Nat → Nat × Nat := fun i => if i = k then x else iv i
def upd (fs : Nat → World → Prop) (k : Nat) (f : World → Prop) : Nat → World → Prop := fun i => if i = k then f else fs i
section
variable {P : Program} {ops : Array Oper} {Q : Exit → Act → World → Prop} {w0 : World} {sps : Nat → Sp}

def StepE (P : Program) (ops : Array Oper) (w0 : World) (sp : Sp) (k : Nat) (o : Oper) (a : Act) (fs : Nat → World → Prop) : Prop :=
  (Region.wanted o (yielded ops a.tmps) = true ∧ ∀ w1, Ext w0 w1 → (∀ i, reachB .any ops i ops.size k = true → fs i w1) →
      ∀ K : Act → World → Prop, (∀ a2 v w2, a2 = a.put o.dst v → Ext w1 w2 → Sp.ok sp v w1 w2 → K a2 w2) → o.wp P a w1 K Never) ∨
  (Region.wanted o (yielded ops a.tmps) = false ∧ sp = Sp.val undef)

def AnyE (P : Program) (ops : Array Oper) (Q : Exit → Act → World → Prop) (w0 : World) (sps : Nat → Sp) (m : Nat) : Nat → Array Bool → Act → (Nat → World → Prop) → (Nat → Nat × Nat) → Prop
  | 0, listed, a, fs, iv => earlyDone m listed ∧ ∀ w, Ext w0 w → (∀ i, fs i w) → Dis iv → wpAny P .any ops Q 0 listed a w
  | fuel + 1, listed, a, fs, iv => (earlyDone m listed ∧ ∀ w, Ext w0 w → (∀ i, fs i w) → Dis iv → wpAny P .any ops Q (fuel + 1) listed a w) ∨
    (Region.ready .any ops listed ≠ [] ∧ ∀ i ∈ Region.ready .any ops listed, i < m ∧ ∃ o, ops[i]? = some o ∧ StepE P ops w0 (sps i) i o a fs ∧
      ∀ v lo hi, Sp.fits (sps i) v → AnyE P ops Q w0 sps m fuel (listed.setIfInBounds i true) (a.put o.dst v) (upd fs i (Sp.fact w0 (sps i) v lo hi)) (updI iv i (lo, hi)))

where
  notWaits {listed : Array Bool} {i j : Nat} (hc : closedL .any ops listed) (hr : i ∈ Region.ready .any ops listed) (hj : j ∈ Region.ready .any ops listed) : reachB .any ops i ops.size j = false := by
    cases hb : reachB .any ops i ops.size j with
    | false => rfl
    | true =>
      exfalso
      obtain ⟨_, oj, hoj, hall⟩ := mem_ready.1 hj
      have h3 := reachB_spec hc _ _ hb (fun o ho e he hb => by rw [hoj] at ho; injection ho with ho; subst ho; exact hall e he hb)
      have h4 := (mem_ready.1 hr).1
      rcases Nat.lt_or_ge i listed.size with h' | h'
      · simp [h'] at h3 h4; rw [h4] at h3; cases h3
      · simp [Array.getElem?_eq_none h'] at h3
  earlyOf {listed : Array Bool} {m i j : Nat} (htail : tailOk .any ops m = true) (him : i < m) (hj : j ∈ Region.ready .any ops listed) (hnr : reachB .any ops i ops.size j = false) : j < m := by
    rcases Nat.lt_or_ge j m with h | h
    · exact h
    · exfalso
      obtain ⟨_, oj, hoj, _⟩ := mem_ready.1 hj
      have hjs : j < ops.size := (Array.getElem?_eq_some_iff.1 hoj).1
      have h1 := List.all_eq_true.1 htail j (List.mem_range.2 hjs)
      simp only [Bool.or_eq_true, decide_eq_true_eq] at h1
      have h2 := List.all_eq_true.1 (h1.resolve_left (by omega)) i (List.mem_range.2 him)
      rw [hnr] at h2; cases h2

/-! The moves. -/
end
end
end Go.Proofs.Ytjmmegnonlbdnaa
