/-
  What closing does to the cells: as many, all bounds, none raised.
  An octagon cut by packs, in plain words.
-/
import Derived.Test.YtofmidhkiobldaaClose
import Derived.Test.YtofmidhkiobldaaRPacks
namespace Go.Proofs.Ytofmidhkiobldaa
section
open Go.RowKit

theorem gI_set (xs : List Int) (k : Nat) (v : Int) (i : Nat) : gI (xs.set k v) i = if i = k ∧ k < xs.length then v else gI xs i := by
  unfold gI
  simp only [Int.toNat_natCast, List.getD, List.getElem?_set]
  by_cases h : k = i
  · subst h
    by_cases hk : k < xs.length
    · simp [hk]
    · simp [hk, List.getElem?_eq_none (show xs.length ≤ k by omega)]
  · rw [if_neg h, if_neg (fun e => h e.1.symm)]
theorem AllB.set' {xs : List Int} (h : AllB xs) {k : Nat} {v : Int} (hv : isBound v = true) : AllB (xs.set k v) := fun i => by
  rw [gI_set]
  split
  · exact hv
  · exact h i
/-- No cell is above. -/
def Le (ys xs : List Int) : Prop := ∀ i : Nat, gI ys i ≤ gI xs i
theorem Le.refl (xs : List Int) : Le xs xs := fun _ => Int.le_refl _
theorem Le.trans {a b c : List Int} (h : Le a b) (k : Le b c) : Le a c := fun i => Int.le_trans (h i) (k i)
theorem Le.set {xs : List Int} {k : Nat} {v : Int} (h : v ≤ gI xs k) : Le (xs.set k v) xs := fun i => by
  rw [gI_set]
  split
  · rename_i e; rw [e.1]; exact h
  · exact Int.le_refl _

/-- As many cells, all bounds, none above. -/
structure Low (ys xs : List Int) : Prop where
  len : ys.length = xs.length
  all : AllB xs → AllB ys
  le : AllB xs → Le ys xs
theorem Low.refl (xs : List Int) : Low xs xs := ⟨rfl, id, fun _ => Le.refl xs⟩
theorem Low.trans {a b c : List Int} (h : Low a b) (k : Low b c) : Low a c := ⟨h.len.trans k.len, fun x => h.all (k.all x), fun x => (h.le (k.all x)).trans (k.le x)⟩
theorem Low.rep {f : Nat → List Int → List Int} (h : ∀ i x, Low (f i x) x) : ∀ (t : Nat) (x : List Int), Low (rep f t x) x
  | 0, x => Low.refl x
  | t + 1, x => (h t _).trans (Low.rep h t x)
theorem Low.set {xs : List Int} {k : Nat} {v : Int} (h : AllB xs → isBound v = true ∧ v ≤ gI xs k) : Low (xs.set k v) xs :=
  ⟨List.length_set, fun x => x.set' (h x).1, fun x => Le.set (h x).2⟩

theorem pStep_low (N k i j : Nat) (xs : List Int) : Low (pStep N k i j xs) xs :=
  Low.set fun h => ⟨isBound_min (h _) (isBound_plus _ _), Int.min_le_left _ _⟩
theorem paths_low (N t : Nat) (xs : List Int) : Low (paths N t xs) xs :=
  Low.rep (fun k x => Low.rep (fun i x => Low.rep (fun j x => pStep_low N k i j x) N x) N x) t xs
theorem mStep_low (N i j : Nat) (xs : List Int) : Low (mStep N i j xs) xs := by
  unfold mStep
  refine ⟨by simp, fun h => (h.set' (isBound_min (h _) (h _))).set' (isBound_min (h _) (h _)), fun h => ?_⟩
  intro p
  rw [gI_set, gI_set]
  split
  · rename_i e; rw [e.1]; exact Int.min_le_right _ _
  · split
    · rename_i e; rw [e.1]; exact Int.min_le_left _ _
    · exact Int.le_refl _
theorem mirrors_low (N t : Nat) (xs : List Int) : Low (mirrors N t xs) xs := Low.rep (fun i x => Low.rep (fun j x => mStep_low N i j x) N x) t xs
theorem even_le {a : Int} (h : isBound a = true) : even a ≤ a := by
  have h1 := near_of h
  unfold even
  rw [h1]
  split <;> omega
theorem eStep_low (N i : Nat) (xs : List Int) : Low (eStep N i xs) xs := Low.set fun h => ⟨isBound_even _, even_le (h _)⟩
theorem evens_low (N t : Nat) (xs : List Int) : Low (evens N t xs) xs := Low.rep (fun i x => eStep_low N i x) t xs
theorem sStep_low (N i j : Nat) (xs : List Int) : Low (sStep N i j xs) xs := by
  unfold sStep
  split
  · exact Low.refl _
  · exact Low.set fun h => ⟨isBound_min (h _) (isBound_half _), Int.min_le_left _ _⟩
theorem strengthens_low (N t : Nat) (xs : List Int) : Low (strengthens N t xs) xs := Low.rep (fun i x => Low.rep (fun j x => sStep_low N i j x) N x) t xs
theorem closeM_low {N : Nat} {xs ys : List Int} (h : closeM N xs = some ys) : Low ys xs := by
  unfold closeM at h
  split at h
  · cases h
  · split at h
    · cases h
    · injection h with h
      subst h
      exact (strengthens_low _ _ _).trans ((evens_low _ _ _).trans ((mirrors_low _ _ _).trans (paths_low _ _ _)))
theorem closeO_n (o : O) : (closeO o).n = o.n := by
  unfold closeO; split
  · rfl
  · split <;> rfl
theorem closeO_e {o : O} (h : o.e = true) : closeO o = ⟨o.n, true, []⟩ := by unfold closeO; rw [if_pos h]
/-- Closed: empty without cells; or the cells of the closed matrix. -/
theorem closeO_cases (o : O) : closeO o = ⟨o.n, true, []⟩ ∨ (o.e = false ∧ ∃ ys, closeM (2 * o.n).toNat o.m = some ys ∧ closeO o = ⟨o.n, false, ys⟩) := by
  cases he : o.e with
  | true => exact .inl (closeO_e he)
  | false =>
    unfold closeO
    rw [if_neg (by simp [he])]
    cases h : closeM (2 * o.n).toNat o.m with
    | none => exact .inl rfl
    | some ys => exact .inr ⟨rfl, ys, rfl, rfl⟩
theorem closeO_len {o : O} (h : check o = 0) (he : (closeO o).e = false) : (closeO o).m.length = o.m.length ∧ o.e = false := by
  rcases closeO_cases o with h1 | ⟨h0, ys, h1, h2⟩
  · rw [h1] at he; cases he
  · rw [h2]; exact ⟨(closeM_low h1).len, h0⟩
theorem closeO_m_le {o : O} : (closeO o).m.length ≤ o.m.length := by
  rcases closeO_cases o with h1 | ⟨h0, ys, h1, h2⟩
  · rw [h1]; simp
  · rw [h2]; exact Nat.le_of_eq (closeM_low h1).len

/-- What closing hands back: an octagon closed, or nothing. -/
def closedO (o : O) : O := if check o = 0 then closeO o else ⟨0, false, []⟩
theorem closedO_ok {o : O} (h : check o = 0) : closedO o = closeO o := by unfold closedO; rw [if_pos h]
theorem closedO_m_le (o : O) : (closedO o).m.length ≤ o.m.length := by
  unfold closedO
  split
  · exact closeO_m_le
  · simp

/-- An octagon of the call's own memory. -/
def OctOwn (w : World) (o : O) (e : Ending) (w' : World) : Prop := ∃ A1 c1, e = .returned (.agg #[.int .i64 o.n, .bool o.e, .slice A1 o.m.length c1]) ∧ Own w' w.heap.size A1 c1 o.m ∧ Below w.heap.size w w'
theorem OctOwn.res {w w' : World} {o : O} {e : Ending} (h : OctOwn w o e w') : OctRes w o e w' := by
  obtain ⟨A1, c1, he, ho, hb⟩ := h
  exact ⟨A1, c1, he, ho.rd, hb⟩

theorem close_all (o : O) (A : Option Addr) (c : Nat) (w : World) (hx : Rd w w.heap.size A o.m) (hm : o.m.length ≤ 17592186044416) :
    Calls Try.prog 19 #[.agg #[.int .i64 o.n, .bool o.e, .slice A o.m.length c]] w (CloseRes w (closedO o) (check o)) := close_any o A c w hx hm
end
section
open Go.RowKit

def setV (f : Nat → Int) (v : Int) (i : Nat) : Nat → Int := fun j => if (j : Int) = v then (i : Int) else f j
def ofRow (f : Nat → Int) (l : List Int) (i j : Nat) : Nat → Int := (l.take j).foldl (fun f v => setV f v i) f
def ofRows (ps : List (List Int)) (k : Nat) : Nat → Int := (List.range k).foldl (fun f i => ofRow f (rowL ps i) i (rowL ps i).length) (fun _ => 0)
theorem ofRow_zero (f : Nat → Int) (l : List Int) (i : Nat) : ofRow f l i 0 = f := by simp [ofRow]
theorem ofRow_succ (f : Nat → Int) (l : List Int) (i j : Nat) (hj : j < l.length) : ofRow f l i (j + 1) = setV (ofRow f l i j) (gI l j) i := by
  unfold ofRow gI
  rw [List.take_succ_eq_append_getElem hj, List.foldl_append]; simp [hj]
theorem ofRows_succ (ps : List (List Int)) (k : Nat) : ofRows ps (k + 1) = ofRow (ofRows ps k) (rowL ps k) k (rowL ps k).length := by
  unfold ofRows
  rw [List.range_succ, List.foldl_append]; rfl

def cutK (N : Nat) (f : Nat → Int) (m : List Int) (k : Nat) : List Int := (List.range m.length).map (fun p => if p < k ∧ f (p / N / 2) ≠ f (p % N / 2) then 9223372036854775807 else gI m p)
theorem cutK_len (N : Nat) (f : Nat → Int) (m : List Int) (k : Nat) : (cutK N f m k).length = m.length := by simp [cutK]
theorem cutK_zero (N : Nat) (f : Nat → Int) (m : List Int) : cutK N f m 0 = m := by
  apply List.ext_getElem
  · simp [cutK]
  · intro i h1 h2
    simp [cutK, gI, h2]
theorem cutK_same {N : Nat} {f : Nat → Int} {m : List Int} {k : Nat} (h : f (k / N / 2) = f (k % N / 2)) : cutK N f m (k + 1) = cutK N f m k := by
  unfold cutK
  apply List.map_congr_left
  intro p _
  by_cases e : p = k
  · subst e; simp [h]
  · have : (p < k + 1) ↔ (p < k) := by omega
    simp [this]
theorem cutK_get {N : Nat} {f : Nat → Int} {m : List Int} {k i : Nat} (h : i < (cutK N f m k).length) : (cutK N f m k)[i] = if i < k ∧ f (i / N / 2) ≠ f (i % N / 2) then 9223372036854775807 else gI m i := by simp [cutK]
theorem cutK_set {N : Nat} {f : Nat → Int} {m : List Int} {k : Nat} (h : f (k / N / 2) ≠ f (k % N / 2)) : cutK N f m (k + 1) = (cutK N f m k).set k 9223372036854775807 := by
  apply List.ext_getElem
  · simp [cutK]
  · intro i h1 h2
    rw [List.getElem_set, cutK_get, cutK_get]
    by_cases e : k = i
    · subst e; simp [h]
    · have : (i < k + 1) ↔ (i < k) := by omega
      simp [this, e]
/-- The octagon, closed, without what is told between packs. -/
def cutO (o : O) (ps : List (List Int)) : O :=
  if (closeO o).e = true then closeO o else ⟨o.n, false, cutK (2 * o.n).toNat (ofRows ps ps.length) (closeO o).m ((2 * o.n).toNat * (2 * o.n).toNat)⟩
def cutErr (o : O) (ps : List (List Int)) : Int := if check o ≠ 0 then check o else packErr o.n ps
def cutAns (o : O) (ps : List (List Int)) : O := if cutErr o ps = 0 then cutO o ps else ⟨0, false, []⟩
theorem packErr_in {n : Int} {ps : List (List Int)} (h : packErr n ps = 0) : 0 ≤ n ∧ n ≤ 64 ∧ (∀ i, i < ps.length → ∀ j, j < (rowL ps i).length → 0 ≤ gI (rowL ps i) j ∧ gI (rowL ps i) j < n) := by
  by_cases h1 : 0 ≤ n ∧ n ≤ 64
  · refine ⟨h1.1, h1.2, fun i hi j hj => ?_⟩
    cases h2 : rowP n ps i
    · rw [packErr_row hi h2] at h; simp at h
    · unfold rowP at h2
      rw [Bool.and_eq_true] at h2
      have h3 := List.all_eq_true.1 h2.2 j (List.mem_range.2 hj)
      unfold cellP at h3
      simp only [Bool.and_eq_true, decide_eq_true_eq] at h3
      exact h3.1.1
  · rw [packErr_n h1] at h; simp at h
end
end Go.Proofs.Ytofmidhkiobldaa
