/-
  Where gnomonref13 tells that no sum saturated, none did. Plain.
-/
import Derived.Test.YtjmmegnonlbdnaaRef13s
import Derived.Test.YtjmmegnonlbdnaaTight
namespace Go.Proofs.Ytjmmegnonlbdnaa
open Go.RowKit

section
variable {N k : Nat} {xs : List Int} (hl : xs.length = N * N) (hb : AllB xs) (hk : k < N) (h0 : G N xs k k = 0)
include hb h0
theorem newP_col (a : Nat) : newP N k xs a k = G N xs a k := by
  unfold newP; rw [h0, plus_zero_r (bG hb _ _ _)]; exact Int.min_self _
theorem newP_row (b : Nat) : newP N k xs k b = G N xs k b := by
  unfold newP; rw [h0, plus_zero_l (bG hb _ _ _)]; exact Int.min_self _
include hk
theorem pRow_mid {i : Nat} (hi : i < N) {ys : List Int} (hly : ys.length = N * N) (hq : ∀ a b : Nat, a < N → b < N → G N ys a b = if a < i then newP N k xs a b else G N xs a b) :
    ∀ j, j ≤ N → (pRow N k i j ys).length = N * N ∧ ∀ a b : Nat, a < N → b < N → G N (pRow N k i j ys) a b = if a < i ∨ (a = i ∧ b < j) then newP N k xs a b else G N xs a b
  | 0, _ => ⟨hly, fun a b ha hb' => by
    show G N ys a b = _
    rw [hq a b ha hb']
    by_cases h : a < i
    · rw [if_pos h, if_pos (.inl h)]
    · rw [if_neg h, if_neg (by omega)]⟩
  | j + 1, hj => by
    obtain ⟨hlz, hz⟩ := pRow_mid hi hly hq j (by omega)
    show (pStep N k i j (pRow N k i j ys)).length = _ ∧ ∀ a b : Nat, _ → _ → G N (pStep N k i j (pRow N k i j ys)) a b = _
    generalize pRow N k i j ys = zs at *
    refine ⟨by unfold pStep; rw [List.length_set]; exact hlz, fun a b ha hb' => ?_⟩
    unfold pStep
    rw [G_set hlz hi (by omega) _ hb']
    by_cases h2 : a = i ∧ b = j
    · obtain ⟨rfl, rfl⟩ := h2
      rw [if_pos ⟨rfl, rfl⟩, if_pos (by omega)]
      show min (G N zs a b) (plus (G N zs a k) (G N zs k b)) = _
      have e1 : G N zs a b = G N xs a b := by rw [hz a b ha hb', if_neg (by omega)]
      have e2 : G N zs a k = G N xs a k := by
        rw [hz a k ha hk]
        split
        · exact newP_col hb h0 a
        · rfl
      have e3 : G N zs k b = G N xs k b := by
        rw [hz k b hk hb']
        split
        · exact newP_row hb h0 b
        · rfl
      rw [e1, e2, e3]; rfl
    · rw [if_neg h2, hz a b ha hb']
      by_cases h : a < i ∨ (a = i ∧ b < j)
      · rw [if_pos h, if_pos (by omega)]
      · rw [if_neg h, if_neg (by omega)]
include hl
theorem pMat_mid : ∀ i, i ≤ N → (pMat N k i xs).length = N * N ∧ ∀ a b : Nat, a < N → b < N → G N (pMat N k i xs) a b = if a < i then newP N k xs a b else G N xs a b
  | 0, _ => ⟨hl, fun a b _ _ => by rw [if_neg (by omega)]; rfl⟩
  | i + 1, hi => by
    obtain ⟨h1, h2⟩ := pMat_mid i (by omega)
    obtain ⟨h3, h4⟩ := pRow_mid hb hk h0 (i := i) (by omega) h1 h2 N (Nat.le_refl _)
    refine ⟨h3, fun a b ha hb' => (h4 a b ha hb').trans ?_⟩
    by_cases h : a < i + 1
    · rw [if_pos h, if_pos (by omega)]
    · rw [if_neg h, if_neg (by omega)]
end

/-- What strengthening keeps on its way. -/
def SKeep (N : Nat) (E zs : List Int) : Prop := zs.length = N * N ∧ AllB zs ∧ ∀ a, a < N → G N zs a (nx a) = G N E a (nx a)
theorem SKeep.step {N : Nat} (hN : N % 2 = 0) {E zs : List Int} (h : SKeep N E zs) {i j : Nat} (hi : i < N) (hj : j < N) : SKeep N E (sStep N i j zs) := by
  obtain ⟨h1, h2, h3⟩ := h
  have lo := sStep_low N i j zs
  refine ⟨lo.len.trans h1, lo.all h2, fun a ha => ?_⟩
  rw [← h3 a ha]
  unfold sStep
  split
  · rfl
  · rw [G_set h1 hi hj _ (nxl hN ha)]
    by_cases e : a = i ∧ nx a = j
    · obtain ⟨rfl, rfl⟩ := e
      rw [if_pos ⟨rfl, rfl⟩, nx_nx]
      exact Int.min_eq_left (half_twice_ge (h2 _))
    · rw [if_neg e]
theorem SKeep.row {N : Nat} (hN : N % 2 = 0) {E zs : List Int} (h : SKeep N E zs) {i : Nat} (hi : i < N) : ∀ j, j ≤ N → SKeep N E (sRow N i j zs)
  | 0, _ => h
  | j + 1, hj => (SKeep.row hN h hi j (by omega)).step hN hi (by omega)
theorem SKeep.mat {N : Nat} (hN : N % 2 = 0) {E : List Int} (h : SKeep N E E) : ∀ i, i ≤ N → SKeep N E (strengthens N i E)
  | 0, _ => h
  | i + 1, hi => (SKeep.mat hN h i (by omega)).row hN (by omega) N (Nat.le_refl _)

theorem calm_noSat {N : Nat} (hN : N % 2 = 0) {xs ys : List Int} (h : Cells N xs) (hb : AllB xs) (hc : closeM N xs = some ys) (hk : calmO N xs) : NoSat N xs := by
  obtain ⟨h1, h2, h3⟩ := hk
  have hd : ∀ i, i < N → 0 ≤ G N (paths N N xs) i i := by
    unfold closeM at hc
    split at hc
    · cases hc
    · rename_i hneg
      intro i hi
      have lm := mirrors_low N N (paths N N xs)
      have g1 := negs_no (by simpa using hneg) i hi
      have g2 := lm.le ((paths_low N N xs).all hb) (i * N + i)
      unfold G at *
      omega
  have bE : AllB (evens N N (mirrors N N (paths N N xs))) := (evens_low _ _ _).all ((mirrors_low _ _ _).all ((paths_low _ _ _).all hb))
  have lE : (evens N N (mirrors N N (paths N N xs))).length = N * N := (evens_low _ _ _).len.trans ((mirrors_low _ _ _).len.trans ((paths_low _ _ _).len.trans h.len))
  refine ⟨fun k i j hk hi hj => ?_, fun i j hi hj hij => ?_, fun i hi => h2 i hi⟩
  · have q := h1 k hk i hi j hj
    have hB := (paths_low N k xs).all hb
    have d := paths_diag h hb hd (k := k) (by omega) hk
    have l := paths_len (k := k) h
    obtain ⟨m1, m2⟩ := pMat_mid l hB hk d i (by omega)
    obtain ⟨_, m4⟩ := pRow_mid hB hk d hi m1 m2 j (by omega)
    have e1 : G N (pRow N k i j (pMat N k i (paths N k xs))) i k = G N (paths N k xs) i k := by
      rw [m4 i k hi hk]
      split
      · exact newP_col hB d i
      · rfl
    have e2 : G N (pRow N k i j (pMat N k i (paths N k xs))) k j = G N (paths N k xs) k j := by
      rw [m4 k j hk hj]
      split
      · exact newP_row hB d j
      · rfl
    rw [← e1, ← e2]
    exact q
  · have q := h3 i hi j hj hij
    obtain ⟨_, _, s3⟩ := (SKeep.mat hN ⟨lE, bE, fun _ _ => rfl⟩ i (by omega)).row hN hi j (by omega)
    have e1 := s3 i hi
    have e2 := s3 (nx j) (nxl hN hj)
    rw [nx_nx] at e2
    rw [← e1, ← e2]
    exact q
end Go.Proofs.Ytjmmegnonlbdnaa
