/-
  What closing does to the cells: as many, all bounds, none raised.
-/
import Derived.Test.YtjmmegnonlbdnaaClose
namespace Go.Proofs.Ytjmmegnonlbdnaa
open Go.RowKit

theorem gI_set (xs : List Int) (k : Nat) (v : Int) (i : Nat) : gI (xs.set k v) i = if i = k ∧ k < xs.length then v else gI xs i := by
  unfold gI
  simp only [Int.toNat_natCast, List.getD, List.getElem?_set]
  by_cases h : k = i
  · subst h
    by_cases hk : k < xs.length
    · simp [hk]
    · simp [hk]
  · rw [if_neg h, if_neg (fun e => h e.1.symm)]
theorem AllB.set' {xs : List Int} (h : AllB xs) {k : Nat} {v : Int} (hv : isBound v = true) : AllB (xs.set k v) := fun i => by
  rw [gI_set]
  split
  · exact hv
  · exact h i
/-- No cell is above. -/
def Le (ys xs : List Int) : Prop := ∀ i : Nat, gI ys i ≤ gI xs i
theorem Le.refl (xs : List Int) : Le xs xs := fun _ => Int.le_refl _
theorem Le.trans {a b c : List Int} (h : Le a b) (k : Le b c) : Le a c := fun i => Int.le_trans (h i) (k i)
theorem Le.set {xs : List Int} {k : Nat} {v : Int} (h : v ≤ gI xs k) : Le (xs.set k v) xs := fun i => by
  rw [gI_set]
  split
  · rename_i e; rw [e.1]; exact h
  · exact Int.le_refl _

/-- As many cells, all bounds, none above. -/
structure Low (ys xs : List Int) : Prop where
  len : ys.length = xs.length
  all : AllB xs → AllB ys
  le : AllB xs → Le ys xs
theorem Low.refl (xs : List Int) : Low xs xs := ⟨rfl, id, fun _ => Le.refl xs⟩
theorem Low.trans {a b c : List Int} (h : Low a b) (k : Low b c) : Low a c := ⟨h.len.trans k.len, fun x => h.all (k.all x), fun x => (h.le (k.all x)).trans (k.le x)⟩
theorem Low.rep {f : Nat → List Int → List Int} (h : ∀ i x, Low (f i x) x) : ∀ (t : Nat) (x : List Int), Low (rep f t x) x
  | 0, x => Low.refl x
  | t + 1, x => (h t _).trans (Low.rep h t x)
theorem Low.set {xs : List Int} {k : Nat} {v : Int} (h : AllB xs → isBound v = true ∧ v ≤ gI xs k) : Low (xs.set k v) xs :=
  ⟨List.length_set, fun x => x.set' (h x).1, fun x => Le.set (h x).2⟩

theorem pStep_low (N k i j : Nat) (xs : List Int) : Low (pStep N k i j xs) xs :=
  Low.set fun h => ⟨isBound_min (h _) (isBound_plus _ _), Int.min_le_left _ _⟩
theorem paths_low (N t : Nat) (xs : List Int) : Low (paths N t xs) xs :=
  Low.rep (fun k x => Low.rep (fun i x => Low.rep (fun j x => pStep_low N k i j x) N x) N x) t xs
theorem mStep_low (N i j : Nat) (xs : List Int) : Low (mStep N i j xs) xs := by
  unfold mStep
  refine ⟨by simp, fun h => (h.set' (isBound_min (h _) (h _))).set' (isBound_min (h _) (h _)), fun h => ?_⟩
  intro p
  rw [gI_set, gI_set]
  split
  · rename_i e; rw [e.1]; exact Int.min_le_right _ _
  · split
    · rename_i e; rw [e.1]; exact Int.min_le_left _ _
    · exact Int.le_refl _
theorem mirrors_low (N t : Nat) (xs : List Int) : Low (mirrors N t xs) xs := Low.rep (fun i x => Low.rep (fun j x => mStep_low N i j x) N x) t xs
theorem even_le {a : Int} (h : isBound a = true) : even a ≤ a := by
  have h1 := near_of h
  unfold even
  rw [h1]
  split <;> omega
theorem eStep_low (N i : Nat) (xs : List Int) : Low (eStep N i xs) xs := Low.set fun h => ⟨isBound_even _, even_le (h _)⟩
theorem evens_low (N t : Nat) (xs : List Int) : Low (evens N t xs) xs := Low.rep (fun i x => eStep_low N i x) t xs
theorem sStep_low (N i j : Nat) (xs : List Int) : Low (sStep N i j xs) xs := by
  unfold sStep
  split
  · exact Low.refl _
  · exact Low.set fun h => ⟨isBound_min (h _) (isBound_half _), Int.min_le_left _ _⟩
theorem strengthens_low (N t : Nat) (xs : List Int) : Low (strengthens N t xs) xs := Low.rep (fun i x => Low.rep (fun j x => sStep_low N i j x) N x) t xs
theorem closeM_low {N : Nat} {xs ys : List Int} (h : closeM N xs = some ys) : Low ys xs := by
  unfold closeM at h
  split at h
  · cases h
  · split at h
    · cases h
    · injection h with h
      subst h
      exact (strengthens_low _ _ _).trans ((evens_low _ _ _).trans ((mirrors_low _ _ _).trans (paths_low _ _ _)))
theorem closeO_n (o : O) : (closeO o).n = o.n := by
  unfold closeO; split
  · rfl
  · split <;> rfl
theorem closeO_e {o : O} (h : o.e = true) : closeO o = ⟨o.n, true, []⟩ := by unfold closeO; rw [if_pos h]
/-- Closed: empty without cells; or the cells of the closed matrix. -/
theorem closeO_cases (o : O) : closeO o = ⟨o.n, true, []⟩ ∨ (o.e = false ∧ ∃ ys, closeM (2 * o.n).toNat o.m = some ys ∧ closeO o = ⟨o.n, false, ys⟩) := by
  cases he : o.e with
  | true => exact .inl (closeO_e he)
  | false =>
    unfold closeO
    rw [if_neg (by simp [he])]
    cases h : closeM (2 * o.n).toNat o.m with
    | none => exact .inl rfl
    | some ys => exact .inr ⟨rfl, ys, rfl, rfl⟩
theorem closeO_len {o : O} (_h : check o = 0) (he : (closeO o).e = false) : (closeO o).m.length = o.m.length ∧ o.e = false := by
  rcases closeO_cases o with h1 | ⟨h0, ys, h1, h2⟩
  · rw [h1] at he; cases he
  · rw [h2]; exact ⟨(closeM_low h1).len, h0⟩
theorem closeO_m_le {o : O} : (closeO o).m.length ≤ o.m.length := by
  rcases closeO_cases o with h1 | ⟨h0, ys, h1, h2⟩
  · rw [h1]; simp
  · rw [h2]; exact Nat.le_of_eq (closeM_low h1).len

/-- What closing hands back: an octagon closed, or nothing. -/
def closedO (o : O) : O := if check o = 0 then closeO o else ⟨0, false, []⟩
theorem closedO_ok {o : O} (h : check o = 0) : closedO o = closeO o := by unfold closedO; rw [if_pos h]
theorem close_all (o : O) (A : Option Addr) (c : Nat) (w : World) (hx : Rd w w.heap.size A o.m) (hm : o.m.length ≤ 17592186044416) :
    Calls Try.prog 19 #[.agg #[.int .i64 o.n, .bool o.e, .slice A o.m.length c]] w (CloseRes w (closedO o) (check o)) := close_any o A c w hx hm



end Go.Proofs.Ytjmmegnonlbdnaa
