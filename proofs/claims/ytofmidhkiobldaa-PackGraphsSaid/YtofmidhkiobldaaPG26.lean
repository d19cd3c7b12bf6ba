/-
  order.Entails: what it answers.
  What an octagon is narrowed to may be, and is entailed by what entails it: plain.
-/
import Derived.Test.YtofmidhkiobldaaPG23
namespace Go.Proofs.Ytofmidhkiobldaa
section
open Go.RowKit

def aboveB (xs ys : List Int) (k : Nat) : Bool := (List.range k).all fun i => decide (gI xs i ≤ gI ys i)
theorem aboveB_succ (xs ys : List Int) (k : Nat) : aboveB xs ys (k + 1) = (aboveB xs ys k && decide (gI xs k ≤ gI ys k)) := by
  unfold aboveB; rw [List.range_succ, List.all_append]; simp
theorem aboveB_no {xs ys : List Int} {k n : Nat} (hk : k < n) (h : gI ys k < gI xs k) : aboveB xs ys n = false := by
  unfold aboveB
  rw [List.all_eq_false]
  exact ⟨k, List.mem_range.2 hk, by simpa using h⟩
theorem aboveB_iff {xs ys : List Int} {n : Nat} : aboveB xs ys n = true ↔ ∀ k : Nat, k < n → gI xs k ≤ gI ys k := by
  unfold aboveB
  rw [List.all_eq_true]
  exact ⟨fun h k hk => by simpa using h k (List.mem_range.2 hk), fun h k hk => by simpa using h k (List.mem_range.1 hk)⟩
/-- Of octagons that may be, of one size. -/
def entailsF (a b : O) : Bool := if (closeO a).e || b.e then (closeO a).e else aboveB (closeO a).m b.m (closeO a).m.length
def entAns (a b : O) : Bool × Int := if pairErr a b = 0 then (entailsF a b, 0) else (false, pairErr a b)

theorem cells_pair {a b : O} (h : pairErr a b = 0) (hc : (closeO a).e = false) (hb : b.e = false) : (closeO a).m.length = b.m.length := by
  obtain ⟨k1, k2, k3⟩ := pair_ok h
  obtain ⟨h1, h2⟩ := closeO_len k1 hc
  obtain ⟨_, _, _, l1⟩ := check_ok k1
  obtain ⟨_, _, _, l2⟩ := check_ok k2
  have := l1 h2
  have := l2 hb
  rw [k3] at *
  omega
end
section
open Go.RowKit

theorem check_rows {n : Int} {m : List Int} (h : check ⟨n, false, m⟩ = 0) : rowsOk ⟨n, false, m⟩ (2 * n).toNat = true := by
  unfold check at h
  split at h
  · omega
  · rw [if_neg (by simp)] at h
    split at h
    · assumption
    · omega
theorem idxc_ok {n : Int} {N i j : Nat} (hN : (N : Int) = 2 * n) : 2 * n * (i : Int) + (j : Int) = ((i * N + j : Nat) : Int) := by
  rw [← hN, Int.natCast_add, Int.natCast_mul, Int.mul_comm]
theorem cellOk_nat {n : Int} {e : Bool} {m : List Int} {N : Nat} (hN : (N : Int) = 2 * n) (i j : Nat) :
    cellOk ⟨n, e, m⟩ (i : Int) (j : Int) = (isBound (gI m ((i * N + j : Nat) : Int)) && !(decide (i = j) && (gI m ((i * N + j : Nat) : Int) != 0)) && (gI m ((i * N + j : Nat) : Int) == gI m ((nx j * N + nx i : Nat) : Int))) := by
  unfold cellOk
  dsimp only
  rw [xor1_nx, xor1_nx, idxc_ok hN, idxc_ok hN]
  have e : decide ((i : Int) = (j : Int)) = decide (i = j) := by rw [decide_eq_decide]; omega
  rw [e]
/-- The cells of an octagon that may be. -/
structure Cells (N : Nat) (m : List Int) : Prop where
  len : m.length = N * N
  bd : ∀ i j : Nat, i < N → j < N → isBound (gI m ((i * N + j : Nat) : Int)) = true
  diag : ∀ i : Nat, i < N → gI m ((i * N + i : Nat) : Int) = 0
  mir : ∀ i j : Nat, i < N → j < N → gI m ((i * N + j : Nat) : Int) = gI m ((nx j * N + nx i : Nat) : Int)
theorem size_nat {n : Int} {N : Nat} (hN : (N : Int) = 2 * n) : 4 * n * n = ((N * N : Nat) : Int) := by
  rw [Int.natCast_mul, hN]; rw [show (4 : Int) = 2 * 2 from rfl]; simp only [Int.mul_assoc, Int.mul_left_comm]
theorem cells_of {n : Int} {m : List Int} {N : Nat} (hN : (N : Int) = 2 * n) (h : check ⟨n, false, m⟩ = 0) : Cells N m := by
  obtain ⟨h0, h1, _, h3⟩ := check_ok h
  have hl := h3 rfl
  dsimp only at h0 h1 hl
  have hr := check_rows h
  have hNt : (2 * n).toNat = N := by omega
  rw [hNt] at hr
  have key : ∀ i j : Nat, i < N → j < N → cellOk ⟨n, false, m⟩ (i : Int) (j : Int) = true := fun i j hi hj => by
    unfold rowsOk at hr
    have hrow := List.all_eq_true.1 hr i (List.mem_range.2 hi)
    unfold rowOk at hrow
    rw [hNt] at hrow
    exact List.all_eq_true.1 hrow j (List.mem_range.2 hj)
  refine ⟨by have := size_nat hN; omega, fun i j hi hj => ?_, fun i hi => ?_, fun i j hi hj => ?_⟩
  · have := key i j hi hj
    rw [cellOk_nat hN] at this
    simp only [Bool.and_eq_true] at this
    exact this.1.1
  · have := key i i hi hi
    rw [cellOk_nat hN] at this
    simp only [Bool.and_eq_true, Bool.not_eq_true', Bool.and_eq_false_imp, decide_eq_true_eq, forall_const, bne_eq_false_iff_eq] at this
    exact this.1.2
  · have := key i j hi hj
    rw [cellOk_nat hN] at this
    simp only [Bool.and_eq_true, beq_iff_eq] at this
    exact this.2
theorem check_of {n : Int} {m : List Int} {N : Nat} (hN : (N : Int) = 2 * n) (hn : N ≤ 128) (h : Cells N m) : check ⟨n, false, m⟩ = 0 := by
  have hNt : (2 * n).toNat = N := by omega
  refine check_good (by omega) (by omega) (by have := size_nat hN; have := h.len; omega) ?_
  unfold rowsOk
  rw [hNt]
  refine List.all_eq_true.2 fun i hi => ?_
  unfold rowOk
  refine List.all_eq_true.2 fun j hj => ?_
  have hi' := List.mem_range.1 hi
  have hj' := List.mem_range.1 hj
  rw [cellOk_nat hN]
  simp only [Bool.and_eq_true, Bool.not_eq_true', Bool.and_eq_false_imp, decide_eq_true_eq, bne_eq_false_iff_eq, beq_iff_eq]
  exact ⟨⟨h.bd i j hi' hj', fun e => by subst e; exact h.diag i hi'⟩, h.mir i j hi' hj'⟩

theorem lt_sq {N i j : Nat} (hi : i < N) (hj : j < N) : i * N + j < N * N := by
  have := Nat.mul_le_mul_right N (show i + 1 ≤ N from hi)
  rw [Nat.add_mul] at this; omega
theorem nx_lt' {n : Int} {N i : Nat} (hN : (N : Int) = 2 * n) (hi : i < N) : nx i < N := nx_lt hN hi
def narF (x y : Int) (_ : Bool) : Int := if x = 9223372036854775807 then y else x
theorem narrow_cells {n : Int} {m m' : List Int} {N : Nat} (hN : (N : Int) = 2 * n) (h : Cells N m) (h' : Cells N m') : Cells N (cellsF narF n m m') := by
  have hg : ∀ i j : Nat, i < N → j < N → gI (cellsF narF n m m') ((i * N + j : Nat) : Int) = narF (gI m ((i * N + j : Nat) : Int)) (gI m' ((i * N + j : Nat) : Int)) false := fun i j hi hj => by
    rw [cellsF_get _ _ _ _ (by rw [h.len]; exact lt_sq hi hj)]; rfl
  refine ⟨by rw [cellsF_len]; exact h.len, fun i j hi hj => ?_, fun i hi => ?_, fun i j hi hj => ?_⟩
  · rw [hg i j hi hj]; unfold narF; split
    · exact h'.bd i j hi hj
    · exact h.bd i j hi hj
  · rw [hg i i hi hi, h.diag i hi, h'.diag i hi]; rfl
  · rw [hg i j hi hj, hg (nx j) (nx i) (nx_lt hN hj) (nx_lt hN hi), ← h.mir i j hi hj, ← h'.mir i j hi hj]

theorem narrowO_cases {a b : O} (hp : pairErr a b = 0) : (narrowO a b).1 = if a.e then a else if b.e then b else ⟨a.n, false, cellsF narF a.n a.m b.m⟩ := by
  unfold narrowO
  rw [if_neg (by simpa using hp)]
  split
  · rfl
  · split <;> rfl
theorem pair_sym {a b : O} (h : pairErr a b = 0) : pairErr b a = 0 := by
  obtain ⟨h1, h2, h3⟩ := pair_ok h
  exact pairErr_0 h2 h1 h3.symm
/-- What is narrowed to may be, of the same size. -/
theorem narrow_pair {a b : O} (hp : pairErr a b = 0) : pairErr b (narrowO a b).1 = 0 := by
  obtain ⟨h1, h2, h3⟩ := pair_ok hp
  rw [narrowO_cases hp]
  split
  · exact pair_sym hp
  · rename_i ha
    split
    · exact pairErr_0 h2 h2 rfl
    · rename_i hb
      obtain ⟨n, e, m⟩ := a
      obtain ⟨n', e', m'⟩ := b
      simp only [Bool.not_eq_true] at ha hb
      dsimp only at h3 ha hb
      subst h3; subst ha; subst hb
      obtain ⟨N, hN⟩ : ∃ N : Nat, (N : Int) = 2 * n := ⟨(2 * n).toNat, by obtain ⟨h0, _⟩ := check_ok h1; dsimp only at h0; omega⟩
      have hn : N ≤ 128 := by obtain ⟨_, h0, _⟩ := check_ok h1; dsimp only at h0; omega
      exact pairErr_0 h2 (check_of hN hn (narrow_cells hN (cells_of hN h1) (cells_of hN h2))) rfl
theorem gI_lt {xs : List Int} {k : Nat} (h : gI xs k ≠ 0) : k < xs.length := by
  rcases Nat.lt_or_ge k xs.length with h' | h'
  · exact h'
  · exact absurd (by unfold gI; simp [List.getD, List.getElem?_eq_none h']) h
/-- What entails an octagon entails what it is narrowed to. -/
theorem entails_narrow {a b : O} (hp : pairErr a b = 0) (h : entailsF b a = true) : entailsF b (narrowO a b).1 = true := by
  obtain ⟨h1, h2, h3⟩ := pair_ok hp
  rw [narrowO_cases hp]
  split
  · exact h
  · rename_i ha
    split
    · rename_i hb
      unfold entailsF
      rw [closeO_e hb]; rfl
    · rename_i hb
      unfold entailsF at h ⊢
      simp only [Bool.not_eq_true] at ha hb
      rw [ha] at h
      dsimp only
      simp only [Bool.or_false] at h ⊢
      split at h
      · rename_i hc; rw [if_pos hc]; exact h
      · rename_i hc
        rw [if_neg hc]
        simp only [Bool.not_eq_true] at hc
        rw [aboveB_iff] at h ⊢
        have hl : (closeO b).m.length = b.m.length := (closeO_len h2 hc).1
        have hl2 : (closeO b).m.length = a.m.length := cells_pair (pair_sym hp) hc ha
        intro k hk
        rw [cellsF_get _ _ _ _ (by omega)]
        have e1 := h k hk
        rcases closeO_cases b with e | ⟨_, ys, e2, e3⟩
        · rw [e] at hc; cases hc
        · have e4 := (closeM_low e2).le (check_bounds h2) k
          rw [e3] at e1 ⊢
          dsimp only at e1 ⊢
          unfold narF
          split
          · exact e4
          · exact e1
/-- No cell of what is narrowed to is above. -/
theorem narrow_le {a b : O} (hp : pairErr a b = 0) (ha : a.e = false) (hn : (narrowO a b).1.e = false) : (narrowO a b).1.m.length = a.m.length ∧ ∀ k : Nat, k < a.m.length → gI (narrowO a b).1.m k ≤ gI a.m k := by
  obtain ⟨h1, h2, h3⟩ := pair_ok hp
  have e := narrowO_cases hp
  rw [if_neg (by simp [ha])] at e
  by_cases hb : b.e = true
  · rw [if_pos hb] at e; rw [e, hb] at hn; cases hn
  · rw [if_neg hb] at e
    rw [e]
    refine ⟨cellsF_len _ _ _ _, fun k hk => ?_⟩
    rw [cellsF_get _ _ _ _ hk]
    unfold narF
    split
    · rename_i e; rw [e]
      have := check_bounds h2 k
      unfold isBound at this
      rw [decide_eq_true_eq] at this
      omega
    · exact Int.le_refl _
end
end Go.Proofs.Ytofmidhkiobldaa
