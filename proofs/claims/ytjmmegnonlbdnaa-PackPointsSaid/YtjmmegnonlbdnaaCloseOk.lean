/-
  An octagon that may be, closed, may be: plain.
-/
import Derived.Test.YtjmmegnonlbdnaaBPP21
namespace Go.Proofs.Ytjmmegnonlbdnaa
open Go.RowKit

/-- The cell (i, j) of N rows. -/
def G (N : Nat) (xs : List Int) (i j : Nat) : Int := gI xs ((i * N + j : Nat) : Int)
theorem idx_inj {N i j a b : Nat} (hj : j < N) (hb : b < N) (h : i * N + j = a * N + b) : i = a ∧ j = b := by
  rcases Nat.lt_trichotomy i a with h1 | h1 | h1
  · exfalso
    have := Nat.mul_le_mul_right N (show i + 1 ≤ a from h1)
    rw [Nat.add_mul] at this; omega
  · subst h1; exact ⟨rfl, by omega⟩
  · exfalso
    have := Nat.mul_le_mul_right N (show a + 1 ≤ i from h1)
    rw [Nat.add_mul] at this; omega
theorem G_set {N : Nat} {xs : List Int} (hl : xs.length = N * N) {i j : Nat} (hi : i < N) (hj : j < N) (v : Int) {a b : Nat} (hb : b < N) :
    G N (xs.set (i * N + j) v) a b = if a = i ∧ b = j then v else G N xs a b := by
  unfold G
  rw [gI_set]
  have hlt : i * N + j < xs.length := by rw [hl]; exact lt_sq hi hj
  by_cases h : a = i ∧ b = j
  · rw [if_pos h, if_pos ⟨by rw [h.1, h.2], hlt⟩]
  · rw [if_neg h, if_neg (fun e => h ?_)]
    obtain ⟨e1, e2⟩ := idx_inj hb hj e.1
    exact ⟨e1, e2⟩
theorem nx_nx (i : Nat) : nx (nx i) = i := by
  unfold nx
  split <;> split <;> omega
theorem nx_ne (i : Nat) : nx i ≠ i := by
  unfold nx
  split <;> omega
theorem nx_inj {i j : Nat} (h : nx i = nx j) : i = j := by rw [← nx_nx i, h, nx_nx]
theorem nxl {N i : Nat} (hN : N % 2 = 0) (hi : i < N) : nx i < N := by
  unfold nx; split <;> omega
theorem rep_inv {α : Type} {f : Nat → α → α} {P : Nat → α → Prop} : ∀ (t : Nat) (x : α), P 0 x → (∀ i x, i < t → P i x → P (i + 1) (f i x)) → P t (rep f t x)
  | 0, _, h, _ => h
  | t + 1, x, h, hs => hs t _ (by omega) (rep_inv t x h (fun i x hi => hs i x (by omega)))

/-- Both cells that say the same are the same. -/
def Sym (N : Nat) (xs : List Int) : Prop := ∀ i j : Nat, i < N → j < N → G N xs i j = G N xs (nx j) (nx i)

theorem mirrors_sym {N : Nat} (hN : N % 2 = 0) {xs : List Int} (hl : xs.length = N * N) : Sym N (mirrors N N xs) := by
  have key := rep_inv (f := fun i => mRow N i N) (P := fun i ys => ys.length = N * N ∧ ∀ a b : Nat, a < N → b < N → a < i → G N ys a b = G N ys (nx b) (nx a)) N xs ⟨hl, fun a b _ _ h => by omega⟩ ?_
  · intro i j hi hj
    exact key.2 i j hi hj hi
  · intro i ys hi ⟨hly, hq⟩
    have row := rep_inv (f := fun j => mStep N i j) (P := fun j zs => zs.length = N * N ∧ ∀ a b : Nat, a < N → b < N → (a < i ∨ (a = i ∧ b < j)) → G N zs a b = G N zs (nx b) (nx a)) N ys ⟨hly, fun a b ha hb h => hq a b ha hb (by omega)⟩ ?_
    · exact ⟨row.1, fun a b ha hb h => row.2 a b ha hb (by omega)⟩
    · intro j zs hj ⟨hlz, hz⟩
      have hni := nxl hN hi
      have hnj := nxl hN hj
      refine ⟨by unfold mStep; rw [List.length_set, List.length_set]; exact hlz, fun a b ha hb h => ?_⟩
      have hna := nxl hN ha
      have hnb := nxl hN hb
      unfold mStep
      rw [G_set (by rw [List.length_set]; exact hlz) hnj hni _ hb, G_set hlz hi hj _ hb, G_set (by rw [List.length_set]; exact hlz) hnj hni _ hna, G_set hlz hi hj _ hna]
      by_cases e1 : a = nx j ∧ b = nx i
      · obtain ⟨rfl, rfl⟩ := e1
        rw [if_pos ⟨rfl, rfl⟩, nx_nx, nx_nx]
        split
        · rfl
        · rw [if_pos ⟨rfl, rfl⟩]
      · rw [if_neg e1]
        by_cases e2 : a = i ∧ b = j
        · obtain ⟨rfl, rfl⟩ := e2
          rw [if_pos ⟨rfl, rfl⟩, if_pos ⟨rfl, rfl⟩]
        · rw [if_neg e2, if_neg (fun e => e2 ⟨nx_inj e.2, nx_inj e.1⟩), if_neg (fun e => e1 ⟨by rw [← e.2, nx_nx], by rw [← e.1, nx_nx]⟩)]
          exact hz a b ha hb (by omega)

theorem eStep_sym {N : Nat} (hN : N % 2 = 0) {xs : List Int} (hl : xs.length = N * N) {i : Nat} (hi : i < N) (h : Sym N xs) : Sym N (eStep N i xs) := by
  intro a b ha hb
  have hna := nxl hN ha
  have hnb := nxl hN hb
  have hni := nxl hN hi
  unfold eStep
  rw [G_set hl hi hni _ hb, G_set hl hi hni _ hna]
  by_cases e : a = i ∧ b = nx i
  · rw [if_pos e, if_pos ⟨by rw [e.2, nx_nx], by rw [e.1]⟩]
  · rw [if_neg e, if_neg (fun k => e ⟨nx_inj k.2, by rw [← k.1, nx_nx]⟩)]
    exact h a b ha hb
theorem evens_sym {N : Nat} (hN : N % 2 = 0) {xs : List Int} (hl : xs.length = N * N) (h : Sym N xs) : Sym N (evens N N xs) :=
  (rep_inv (f := fun i => eStep N i) (P := fun _ ys => ys.length = N * N ∧ Sym N ys) N xs ⟨hl, h⟩ fun i ys hi hy => ⟨by unfold eStep; rw [List.length_set]; exact hy.1, eStep_sym hN hy.1 hi hy.2⟩).2
theorem evens_diag {N : Nat} (hN : N % 2 = 0) {xs : List Int} (hl : xs.length = N * N) (h : ∀ i, i < N → G N xs i i = 0) : ∀ i, i < N → G N (evens N N xs) i i = 0 :=
  (rep_inv (f := fun i => eStep N i) (P := fun _ ys => ys.length = N * N ∧ ∀ i, i < N → G N ys i i = 0) N xs ⟨hl, h⟩ fun i ys hi hy => ⟨by unfold eStep; rw [List.length_set]; exact hy.1, fun a ha => by
    unfold eStep
    rw [G_set hy.1 hi (nxl hN hi) _ ha, if_neg (fun e => nx_ne i (by rw [← e.2, e.1]))]
    exact hy.2 a ha⟩).2

theorem plus_comm (a b : Int) : plus a b = plus b a := by
  unfold plus
  rw [Int.add_comm (near a) (near b)]
  by_cases h : near a = 9223372036854775807 ∨ near b = 9223372036854775807
  · rw [if_pos h, if_pos h.symm]
  · rw [if_neg h, if_neg (fun e => h e.symm)]
theorem half_twice_ge {x : Int} (h : isBound x = true) : x ≤ half (plus x x) := by
  have hx := near_of h
  unfold isBound at h
  rw [decide_eq_true_eq] at h
  by_cases hi : x = 9223372036854775807
  · subst hi; decide
  · rw [plus_fin (by rw [hx]; exact hi) (by rw [hx]; exact hi), hx]
    unfold half
    rw [near_near]
    unfold near
    (repeat' split) <;> omega
/-- What strengthening makes of each cell. -/
def strong (N : Nat) (xs : List Int) (a b : Nat) : Int := if a = b then G N xs a b else min (G N xs a b) (half (plus (G N xs a (nx a)) (G N xs (nx b) b)))
theorem strong_nx {N : Nat} {xs : List Int} (h : AllB xs) (a : Nat) : strong N xs a (nx a) = G N xs a (nx a) := by
  unfold strong
  rw [if_neg (fun e => nx_ne a e.symm), nx_nx]
  exact Int.min_eq_left (half_twice_ge (h _))
theorem strengthens_G {N : Nat} (hN : N % 2 = 0) {xs : List Int} (hl : xs.length = N * N) (hb : AllB xs) : ∀ a b : Nat, a < N → b < N → G N (strengthens N N xs) a b = strong N xs a b := by
  have key := rep_inv (f := fun i => sRow N i N) (P := fun i ys => ys.length = N * N ∧ ∀ a b : Nat, a < N → b < N → G N ys a b = if a < i then strong N xs a b else G N xs a b) N xs ⟨hl, fun a b _ _ => by rw [if_neg (by omega)]⟩ ?_
  · intro a b ha hb'
    exact (key.2 a b ha hb').trans (by rw [if_pos ha])
  · intro i ys hi ⟨hly, hq⟩
    have row := rep_inv (f := fun j => sStep N i j) (P := fun j zs => zs.length = N * N ∧ ∀ a b : Nat, a < N → b < N → G N zs a b = if a < i ∨ (a = i ∧ b < j) then strong N xs a b else G N xs a b) N ys ⟨hly, fun a b ha hb' => by
      rw [hq a b ha hb']
      by_cases h : a < i
      · rw [if_pos h, if_pos (.inl h)]
      · rw [if_neg h, if_neg (by omega)]⟩ ?_
    · refine ⟨row.1, fun a b ha hb' => ?_⟩
      refine (row.2 a b ha hb').trans ?_
      by_cases h : a < i + 1
      · rw [if_pos h, if_pos (by omega)]
      · rw [if_neg h, if_neg (by omega)]
    · intro j zs hj ⟨hlz, hz⟩
      have hni := nxl hN hi
      have hnj := nxl hN hj
      have u : ∀ a : Nat, a < N → G N zs a (nx a) = G N xs a (nx a) := fun a ha => by
        rw [hz a (nx a) ha (nxl hN ha)]
        split
        · exact strong_nx hb a
        · rfl
      refine ⟨by unfold sStep; split; exact hlz; rw [List.length_set]; exact hlz, fun a b ha hb' => ?_⟩
      unfold sStep
      by_cases hij : i = j
      · rw [if_pos hij, hz a b ha hb']
        by_cases h : a < i ∨ (a = i ∧ b < j)
        · rw [if_pos h, if_pos (by omega)]
        · rw [if_neg h]
          by_cases h2 : a = i ∧ b = j
          · rw [if_pos (by omega)]
            unfold strong
            rw [if_pos (by omega)]
          · rw [if_neg (by omega)]
      · rw [if_neg hij, G_set hlz hi hj _ hb']
        by_cases h2 : a = i ∧ b = j
        · obtain ⟨rfl, rfl⟩ := h2
          rw [if_pos ⟨rfl, rfl⟩, if_pos (by omega)]
          unfold strong
          rw [if_neg hij]
          show min (G N zs a b) (half (plus (G N zs a (nx a)) (G N zs (nx b) b))) = _
          rw [hz a b ha hb', if_neg (by omega), u a ha]
          have := u (nx b) hnj
          rw [nx_nx] at this
          rw [this]
        · rw [if_neg h2, hz a b ha hb']
          by_cases h : a < i ∨ (a = i ∧ b < j)
          · rw [if_pos h, if_pos (by omega)]
          · rw [if_neg h, if_neg (by omega)]
theorem strong_sym {N : Nat} (_hN : N % 2 = 0) {xs : List Int} (h : Sym N xs) {a b : Nat} (ha : a < N) (hb : b < N) : strong N xs a b = strong N xs (nx b) (nx a) := by
  unfold strong
  by_cases e : a = b
  · subst e
    rw [if_pos rfl, if_pos rfl]
    exact h a a ha ha
  · rw [if_neg e, if_neg (fun k => e (nx_inj k).symm), nx_nx, nx_nx, h a b ha hb, plus_comm]

theorem negs_no {N : Nat} {xs : List Int} : ∀ {t : Nat}, negs N xs t = false → ∀ i, i < t → 0 ≤ G N xs i i
  | t + 1, h, i, hi => by
    unfold negs at h
    rw [Bool.or_eq_false_iff] at h
    by_cases e : i = t
    · subst e
      exact Int.not_lt.1 (of_decide_eq_false h.2)
    · exact negs_no h.1 i (by omega)

theorem closeM_cells {N : Nat} (hN : N % 2 = 0) {xs ys : List Int} (h : Cells N xs) (hb : AllB xs) (hc : closeM N xs = some ys) : Cells N ys := by
  have low := closeM_low hc
  have hb' := low.all hb
  have hlen : ys.length = N * N := low.len.trans h.len
  unfold closeM at hc
  split at hc
  · cases hc
  · rename_i hneg
    split at hc
    · cases hc
    · injection hc with hc
      have lp := paths_low N N xs
      have lm := mirrors_low N N (paths N N xs)
      have le := evens_low N N (mirrors N N (paths N N xs))
      have l1 := lp.len.trans h.len
      have l2 := lm.len.trans l1
      have l3 := le.len.trans l2
      have b3 := le.all (lm.all (lp.all hb))
      have s2 := mirrors_sym hN l1
      have s3 := evens_sym hN l2 s2
      have d2 : ∀ i, i < N → G N (mirrors N N (paths N N xs)) i i = 0 := fun i hi => by
        have g1 := negs_no (by simpa using hneg) i hi
        have g2 := (lm.trans lp).le hb (i * N + i)
        have g3 := h.diag i hi
        rw [g3] at g2
        exact Int.le_antisymm g2 g1
      have d3 := evens_diag hN l2 d2
      have f := strengthens_G hN l3 b3
      subst hc
      refine ⟨hlen, fun i j _ _ => hb' _, fun i hi => ?_, fun i j hi hj => ?_⟩
      · have e := f i i hi hi
        unfold strong at e
        rw [if_pos rfl, d3 i hi] at e
        exact e
      · have e1 := f i j hi hj
        have e2 := f (nx j) (nx i) (nxl hN hj) (nxl hN hi)
        rw [strong_sym hN s3 hi hj, ← e2] at e1
        exact e1

/-- Closed it may be. -/
theorem closeO_check {o : O} (h : check o = 0) : check (closeO o) = 0 := by
  obtain ⟨h0, h1, _, _⟩ := check_ok h
  rcases closeO_cases o with e | ⟨he, ys, e1, e2⟩
  · rw [e]; exact check_e0 ⟨h0, h1⟩
  · rw [e2]
    obtain ⟨n, e, m⟩ := o
    dsimp only at *
    subst he
    obtain ⟨N, hN⟩ : ∃ N : Nat, (N : Int) = 2 * n := ⟨(2 * n).toNat, by omega⟩
    have hNt : (2 * n).toNat = N := by omega
    rw [hNt] at e1
    exact check_of hN (by omega) (closeM_cells (by omega) (cells_of hN h) (check_bounds h) e1)
end Go.Proofs.Ytjmmegnonlbdnaa
