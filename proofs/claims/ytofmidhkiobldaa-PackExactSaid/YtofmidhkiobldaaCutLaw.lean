/-
  An octagon cut by packs, in plain words.
-/
import Derived.Test.YtofmidhkiobldaaRPacks
import Derived.Test.YtofmidhkiobldaaCloseLaw
namespace Go.Proofs.Ytofmidhkiobldaa
open Go.RowKit

def setV (f : Nat → Int) (v : Int) (i : Nat) : Nat → Int := fun j => if (j : Int) = v then (i : Int) else f j
def ofRow (f : Nat → Int) (l : List Int) (i j : Nat) : Nat → Int := (l.take j).foldl (fun f v => setV f v i) f
def ofRows (ps : List (List Int)) (k : Nat) : Nat → Int := (List.range k).foldl (fun f i => ofRow f (rowL ps i) i (rowL ps i).length) (fun _ => 0)
theorem ofRow_zero (f : Nat → Int) (l : List Int) (i : Nat) : ofRow f l i 0 = f := by simp [ofRow]
theorem ofRow_succ (f : Nat → Int) (l : List Int) (i j : Nat) (hj : j < l.length) : ofRow f l i (j + 1) = setV (ofRow f l i j) (gI l j) i := by
  unfold ofRow gI
  rw [List.take_succ_eq_append_getElem hj, List.foldl_append]; simp [hj]
theorem ofRows_succ (ps : List (List Int)) (k : Nat) : ofRows ps (k + 1) = ofRow (ofRows ps k) (rowL ps k) k (rowL ps k).length := by
  unfold ofRows
  rw [List.range_succ, List.foldl_append]; rfl

def cutK (N : Nat) (f : Nat → Int) (m : List Int) (k : Nat) : List Int := (List.range m.length).map (fun p => if p < k ∧ f (p / N / 2) ≠ f (p % N / 2) then 9223372036854775807 else gI m p)
theorem cutK_len (N : Nat) (f : Nat → Int) (m : List Int) (k : Nat) : (cutK N f m k).length = m.length := by simp [cutK]
theorem cutK_zero (N : Nat) (f : Nat → Int) (m : List Int) : cutK N f m 0 = m := by
  apply List.ext_getElem
  · simp [cutK]
  · intro i h1 h2
    simp [cutK, gI, h2]
theorem cutK_same {N : Nat} {f : Nat → Int} {m : List Int} {k : Nat} (h : f (k / N / 2) = f (k % N / 2)) : cutK N f m (k + 1) = cutK N f m k := by
  unfold cutK
  apply List.map_congr_left
  intro p _
  by_cases e : p = k
  · subst e; simp [h]
  · have : (p < k + 1) ↔ (p < k) := by omega
    simp [this]
theorem cutK_get {N : Nat} {f : Nat → Int} {m : List Int} {k i : Nat} (h : i < (cutK N f m k).length) : (cutK N f m k)[i] = if i < k ∧ f (i / N / 2) ≠ f (i % N / 2) then 9223372036854775807 else gI m i := by simp [cutK]
theorem cutK_set {N : Nat} {f : Nat → Int} {m : List Int} {k : Nat} (h : f (k / N / 2) ≠ f (k % N / 2)) : cutK N f m (k + 1) = (cutK N f m k).set k 9223372036854775807 := by
  apply List.ext_getElem
  · simp [cutK]
  · intro i h1 h2
    rw [List.getElem_set, cutK_get, cutK_get]
    by_cases e : k = i
    · subst e; simp [h]
    · have : (i < k + 1) ↔ (i < k) := by omega
      simp [this, e]
/-- The octagon, closed, without what is told between packs. -/
def cutO (o : O) (ps : List (List Int)) : O :=
  if (closeO o).e = true then closeO o else ⟨o.n, false, cutK (2 * o.n).toNat (ofRows ps ps.length) (closeO o).m ((2 * o.n).toNat * (2 * o.n).toNat)⟩
def cutErr (o : O) (ps : List (List Int)) : Int := if check o ≠ 0 then check o else packErr o.n ps
def cutAns (o : O) (ps : List (List Int)) : O := if cutErr o ps = 0 then cutO o ps else ⟨0, false, []⟩
theorem packErr_in {n : Int} {ps : List (List Int)} (h : packErr n ps = 0) : 0 ≤ n ∧ n ≤ 64 ∧ (∀ i, i < ps.length → ∀ j, j < (rowL ps i).length → 0 ≤ gI (rowL ps i) j ∧ gI (rowL ps i) j < n) := by
  by_cases h1 : 0 ≤ n ∧ n ≤ 64
  · refine ⟨h1.1, h1.2, fun i hi j hj => ?_⟩
    cases h2 : rowP n ps i
    · rw [packErr_row hi h2] at h; simp at h
    · unfold rowP at h2
      rw [Bool.and_eq_true] at h2
      have h3 := List.all_eq_true.1 h2.2 j (List.mem_range.2 hj)
      unfold cellP at h3
      simp only [Bool.and_eq_true, decide_eq_true_eq] at h3
      exact h3.1.1
  · rw [packErr_n h1] at h; simp at h
end Go.Proofs.Ytofmidhkiobldaa
