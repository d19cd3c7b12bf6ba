/-
  What closing does to the cells: as many, all bounds, none raised.
  order.Entails: what it answers.
  What an octagon is narrowed to may be, and is entailed by what entails it: plain.
-/
import Derived.Test.YtnmpgijiimglcaaGreatClose
namespace Go.Proofs.YtnmpgijiimglcaaGreat
section
open Go.RowKit

theorem gI_set (xs : List Int) (k : Nat) (v : Int) (i : Nat) : gI (xs.set k v) i = if i = k ∧ k < xs.length then v else gI xs i := by
  unfold gI
  simp only [Int.toNat_natCast, List.getD, List.getElem?_set]
  by_cases h : k = i
  · subst h
    by_cases hk : k < xs.length
    · simp [hk]
    · simp [hk, List.getElem?_eq_none (show xs.length ≤ k by omega)]
  · rw [if_neg h, if_neg (fun e => h e.1.symm)]
theorem AllB.set' {xs : List Int} (h : AllB xs) {k : Nat} {v : Int} (hv : isBound v = true) : AllB (xs.set k v) := fun i => by
  rw [gI_set]
  split
  · exact hv
  · exact h i
/-- No cell is above. -/
def Le (ys xs : List Int) : Prop := ∀ i : Nat, gI ys i ≤ gI xs i
theorem Le.refl (xs : List Int) : Le xs xs := fun _ => Int.le_refl _
theorem Le.trans {a b c : List Int} (h : Le a b) (k : Le b c) : Le a c := fun i => Int.le_trans (h i) (k i)
theorem Le.set {xs : List Int} {k : Nat} {v : Int} (h : v ≤ gI xs k) : Le (xs.set k v) xs := fun i => by
  rw [gI_set]
  split
  · rename_i e; rw [e.1]; exact h
  · exact Int.le_refl _

/-- As many cells, all bounds, none above. -/
structure Low (ys xs : List Int) : Prop where
  len : ys.length = xs.length
  all : AllB xs → AllB ys
  le : AllB xs → Le ys xs
theorem Low.refl (xs : List Int) : Low xs xs := ⟨rfl, id, fun _ => Le.refl xs⟩
theorem Low.trans {a b c : List Int} (h : Low a b) (k : Low b c) : Low a c := ⟨h.len.trans k.len, fun x => h.all (k.all x), fun x => (h.le (k.all x)).trans (k.le x)⟩
theorem Low.rep {f : Nat → List Int → List Int} (h : ∀ i x, Low (f i x) x) : ∀ (t : Nat) (x : List Int), Low (rep f t x) x
  | 0, x => Low.refl x
  | t + 1, x => (h t _).trans (Low.rep h t x)
theorem Low.set {xs : List Int} {k : Nat} {v : Int} (h : AllB xs → isBound v = true ∧ v ≤ gI xs k) : Low (xs.set k v) xs :=
  ⟨List.length_set, fun x => x.set' (h x).1, fun x => Le.set (h x).2⟩

theorem pStep_low (N k i j : Nat) (xs : List Int) : Low (pStep N k i j xs) xs :=
  Low.set fun h => ⟨isBound_min (h _) (isBound_plus _ _), Int.min_le_left _ _⟩
theorem paths_low (N t : Nat) (xs : List Int) : Low (paths N t xs) xs :=
  Low.rep (fun k x => Low.rep (fun i x => Low.rep (fun j x => pStep_low N k i j x) N x) N x) t xs
theorem mStep_low (N i j : Nat) (xs : List Int) : Low (mStep N i j xs) xs := by
  unfold mStep
  refine ⟨by simp, fun h => (h.set' (isBound_min (h _) (h _))).set' (isBound_min (h _) (h _)), fun h => ?_⟩
  intro p
  rw [gI_set, gI_set]
  split
  · rename_i e; rw [e.1]; exact Int.min_le_right _ _
  · split
    · rename_i e; rw [e.1]; exact Int.min_le_left _ _
    · exact Int.le_refl _
theorem mirrors_low (N t : Nat) (xs : List Int) : Low (mirrors N t xs) xs := Low.rep (fun i x => Low.rep (fun j x => mStep_low N i j x) N x) t xs
theorem even_le {a : Int} (h : isBound a = true) : even a ≤ a := by
  have h1 := near_of h
  unfold even
  rw [h1]
  split <;> omega
theorem eStep_low (N i : Nat) (xs : List Int) : Low (eStep N i xs) xs := Low.set fun h => ⟨isBound_even _, even_le (h _)⟩
theorem evens_low (N t : Nat) (xs : List Int) : Low (evens N t xs) xs := Low.rep (fun i x => eStep_low N i x) t xs
theorem sStep_low (N i j : Nat) (xs : List Int) : Low (sStep N i j xs) xs := by
  unfold sStep
  split
  · exact Low.refl _
  · exact Low.set fun h => ⟨isBound_min (h _) (isBound_half _), Int.min_le_left _ _⟩
theorem strengthens_low (N t : Nat) (xs : List Int) : Low (strengthens N t xs) xs := Low.rep (fun i x => Low.rep (fun j x => sStep_low N i j x) N x) t xs
theorem closeM_low {N : Nat} {xs ys : List Int} (h : closeM N xs = some ys) : Low ys xs := by
  unfold closeM at h
  split at h
  · cases h
  · split at h
    · cases h
    · injection h with h
      subst h
      exact (strengthens_low _ _ _).trans ((evens_low _ _ _).trans ((mirrors_low _ _ _).trans (paths_low _ _ _)))
theorem closeO_n (o : O) : (closeO o).n = o.n := by
  unfold closeO; split
  · rfl
  · split <;> rfl
theorem closeO_e {o : O} (h : o.e = true) : closeO o = ⟨o.n, true, []⟩ := by unfold closeO; rw [if_pos h]
/-- Closed: empty without cells; or the cells of the closed matrix. -/
theorem closeO_cases (o : O) : closeO o = ⟨o.n, true, []⟩ ∨ (o.e = false ∧ ∃ ys, closeM (2 * o.n).toNat o.m = some ys ∧ closeO o = ⟨o.n, false, ys⟩) := by
  cases he : o.e with
  | true => exact .inl (closeO_e he)
  | false =>
    unfold closeO
    rw [if_neg (by simp [he])]
    cases h : closeM (2 * o.n).toNat o.m with
    | none => exact .inl rfl
    | some ys => exact .inr ⟨rfl, ys, rfl, rfl⟩
/-- An octagon of the call's own memory. -/
def OctOwn (w : World) (o : O) (e : Ending) (w' : World) : Prop := ∃ A1 c1, e = .returned (.agg #[.int .i64 o.n, .bool o.e, .slice A1 o.m.length c1]) ∧ Own w' w.heap.size A1 c1 o.m ∧ Below w.heap.size w w'
end
section
open Go.RowKit
end
section
open Go.RowKit

theorem check_rows {n : Int} {m : List Int} (h : check ⟨n, false, m⟩ = 0) : rowsOk ⟨n, false, m⟩ (2 * n).toNat = true := by
  unfold check at h
  split at h
  · omega
  · rw [if_neg (by simp)] at h
    split at h
    · assumption
    · omega
theorem idxc_ok {n : Int} {N i j : Nat} (hN : (N : Int) = 2 * n) : 2 * n * (i : Int) + (j : Int) = ((i * N + j : Nat) : Int) := by
  rw [← hN, Int.natCast_add, Int.natCast_mul, Int.mul_comm]
theorem cellOk_nat {n : Int} {e : Bool} {m : List Int} {N : Nat} (hN : (N : Int) = 2 * n) (i j : Nat) :
    cellOk ⟨n, e, m⟩ (i : Int) (j : Int) = (isBound (gI m ((i * N + j : Nat) : Int)) && !(decide (i = j) && (gI m ((i * N + j : Nat) : Int) != 0)) && (gI m ((i * N + j : Nat) : Int) == gI m ((nx j * N + nx i : Nat) : Int))) := by
  unfold cellOk
  dsimp only
  rw [xor1_nx, xor1_nx, idxc_ok hN, idxc_ok hN]
  have e : decide ((i : Int) = (j : Int)) = decide (i = j) := by rw [decide_eq_decide]; omega
  rw [e]
/-- The cells of an octagon that may be. -/
structure Cells (N : Nat) (m : List Int) : Prop where
  len : m.length = N * N
  bd : ∀ i j : Nat, i < N → j < N → isBound (gI m ((i * N + j : Nat) : Int)) = true
  diag : ∀ i : Nat, i < N → gI m ((i * N + i : Nat) : Int) = 0
  mir : ∀ i j : Nat, i < N → j < N → gI m ((i * N + j : Nat) : Int) = gI m ((nx j * N + nx i : Nat) : Int)
theorem size_nat {n : Int} {N : Nat} (hN : (N : Int) = 2 * n) : 4 * n * n = ((N * N : Nat) : Int) := by
  rw [Int.natCast_mul, hN]; rw [show (4 : Int) = 2 * 2 from rfl]; simp only [Int.mul_assoc, Int.mul_left_comm]
theorem cells_of {n : Int} {m : List Int} {N : Nat} (hN : (N : Int) = 2 * n) (h : check ⟨n, false, m⟩ = 0) : Cells N m := by
  obtain ⟨h0, h1, _, h3⟩ := check_ok h
  have hl := h3 rfl
  dsimp only at h0 h1 hl
  have hr := check_rows h
  have hNt : (2 * n).toNat = N := by omega
  rw [hNt] at hr
  have key : ∀ i j : Nat, i < N → j < N → cellOk ⟨n, false, m⟩ (i : Int) (j : Int) = true := fun i j hi hj => by
    unfold rowsOk at hr
    have hrow := List.all_eq_true.1 hr i (List.mem_range.2 hi)
    unfold rowOk at hrow
    rw [hNt] at hrow
    exact List.all_eq_true.1 hrow j (List.mem_range.2 hj)
  refine ⟨by have := size_nat hN; omega, fun i j hi hj => ?_, fun i hi => ?_, fun i j hi hj => ?_⟩
  · have := key i j hi hj
    rw [cellOk_nat hN] at this
    simp only [Bool.and_eq_true] at this
    exact this.1.1
  · have := key i i hi hi
    rw [cellOk_nat hN] at this
    simp only [Bool.and_eq_true, Bool.not_eq_true', Bool.and_eq_false_imp, decide_eq_true_eq, forall_const, bne_eq_false_iff_eq] at this
    exact this.1.2
  · have := key i j hi hj
    rw [cellOk_nat hN] at this
    simp only [Bool.and_eq_true, beq_iff_eq] at this
    exact this.2
theorem check_of {n : Int} {m : List Int} {N : Nat} (hN : (N : Int) = 2 * n) (hn : N ≤ 128) (h : Cells N m) : check ⟨n, false, m⟩ = 0 := by
  have hNt : (2 * n).toNat = N := by omega
  refine check_good (by omega) (by omega) (by have := size_nat hN; have := h.len; omega) ?_
  unfold rowsOk
  rw [hNt]
  refine List.all_eq_true.2 fun i hi => ?_
  unfold rowOk
  refine List.all_eq_true.2 fun j hj => ?_
  have hi' := List.mem_range.1 hi
  have hj' := List.mem_range.1 hj
  rw [cellOk_nat hN]
  simp only [Bool.and_eq_true, Bool.not_eq_true', Bool.and_eq_false_imp, decide_eq_true_eq, bne_eq_false_iff_eq, beq_iff_eq]
  exact ⟨⟨h.bd i j hi' hj', fun e => by subst e; exact h.diag i hi'⟩, h.mir i j hi' hj'⟩

theorem lt_sq {N i j : Nat} (hi : i < N) (hj : j < N) : i * N + j < N * N := by
  have := Nat.mul_le_mul_right N (show i + 1 ≤ N from hi)
  rw [Nat.add_mul] at this; omega
end
end Go.Proofs.YtnmpgijiimglcaaGreat
