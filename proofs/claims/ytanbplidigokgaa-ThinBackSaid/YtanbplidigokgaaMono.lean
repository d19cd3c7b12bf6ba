/-
  Closing keeps the order of the cells; so each cell that a thin octagon keeps is needed.
-/
import Derived.Test.YtanbplidigokgaaNeeded
namespace Go.Proofs.Ytanbplidigokgaa
open Go.RowKit

/-- As many cells, all bounds, none of the first above. -/
structure R (xs ys : List Int) : Prop where
  len : xs.length = ys.length
  a : AllB xs
  b : AllB ys
  le : Le xs ys
theorem R.rep {f : Nat → List Int → List Int} (h : ∀ i x y, R x y → R (f i x) (f i y)) : ∀ (t : Nat) (x y : List Int), R x y → R (rep f t x) (rep f t y)
  | 0, _, _, k => k
  | t + 1, x, y, k => h t _ _ (R.rep h t x y k)
theorem R.set {xs ys : List Int} (h : R xs ys) (k : Nat) {u v : Int} (hu : isBound u = true) (hv : isBound v = true) (hl : u ≤ v) : R (xs.set k u) (ys.set k v) :=
  ⟨by rw [List.length_set, List.length_set]; exact h.len, h.a.set' hu, h.b.set' hv, fun i => by
    rw [gI_set, gI_set, h.len]
    split
    · exact hl
    · exact h.le i⟩
theorem near_mono {a b : Int} (h : a ≤ b) : near a ≤ near b := by
  unfold near
  split <;> split <;> (try split) <;> (try split) <;> omega
theorem near_top (a : Int) : near a ≤ 9223372036854775807 := by
  unfold near
  split
  · omega
  · split <;> omega
theorem plus_mono {a b c d : Int} (h : a ≤ b) (k : c ≤ d) : plus a c ≤ plus b d := by
  have h1 := near_mono h
  have h2 := near_mono k
  have h3 := near_top b
  have h4 := near_top d
  unfold plus
  by_cases e : near b = 9223372036854775807 ∨ near d = 9223372036854775807
  · rw [if_pos e]
    split
    · exact Int.le_refl _
    · exact near_top _
  · rw [if_neg e, if_neg (by omega)]
    exact near_mono (by omega)
theorem half_mono {a b : Int} (h : a ≤ b) : half a ≤ half b := by
  have h1 := near_mono h
  have h3 := near_top b
  unfold half
  split <;> split <;> omega
theorem even_mono {a b : Int} (h : a ≤ b) : even a ≤ even b := by
  have h1 := near_mono h
  have h3 := near_top b
  unfold even
  split <;> split <;> omega
theorem min_mono {a b c d : Int} (h : a ≤ b) (k : c ≤ d) : min a c ≤ min b d := by omega
section
variable {xs ys : List Int} (h : R xs ys)
include h
theorem pStep_mono (N k i j : Nat) : R (pStep N k i j xs) (pStep N k i j ys) :=
  h.set _ (isBound_min (h.a _) (isBound_plus _ _)) (isBound_min (h.b _) (isBound_plus _ _)) (min_mono (h.le _) (plus_mono (h.le _) (h.le _)))
theorem paths_mono (N t : Nat) : R (paths N t xs) (paths N t ys) :=
  R.rep (fun k x y h => R.rep (fun i x y h => R.rep (fun j x y h => pStep_mono h N k i j) N x y h) N x y h) t xs ys h
theorem mStep_mono (N i j : Nat) : R (mStep N i j xs) (mStep N i j ys) :=
  (h.set _ (isBound_min (h.a _) (h.a _)) (isBound_min (h.b _) (h.b _)) (min_mono (h.le _) (h.le _))).set _ (isBound_min (h.a _) (h.a _)) (isBound_min (h.b _) (h.b _)) (min_mono (h.le _) (h.le _))
theorem mirrors_mono (N t : Nat) : R (mirrors N t xs) (mirrors N t ys) := R.rep (fun i x y h => R.rep (fun j x y h => mStep_mono h N i j) N x y h) t xs ys h
theorem eStep_mono (N i : Nat) : R (eStep N i xs) (eStep N i ys) := h.set _ (isBound_even _) (isBound_even _) (even_mono (h.le _))
theorem evens_mono (N t : Nat) : R (evens N t xs) (evens N t ys) := R.rep (fun i x y h => eStep_mono h N i) t xs ys h
theorem sStep_mono (N i j : Nat) : R (sStep N i j xs) (sStep N i j ys) := by
  unfold sStep
  split
  · exact h
  · exact h.set _ (isBound_min (h.a _) (isBound_half _)) (isBound_min (h.b _) (isBound_half _)) (min_mono (h.le _) (half_mono (plus_mono (h.le _) (h.le _))))
theorem strengthens_mono (N t : Nat) : R (strengthens N t xs) (strengthens N t ys) := R.rep (fun i x y h => R.rep (fun j x y h => sStep_mono h N i j) N x y h) t xs ys h
theorem negs_mono (N : Nat) : ∀ t, negs N ys t = true → negs N xs t = true
  | 0, k => k
  | t + 1, k => by
    unfold negs at k ⊢
    rw [Bool.or_eq_true, decide_eq_true_eq] at *
    rcases k with k | k
    · exact .inl (negs_mono N t k)
    · exact .inr (Int.lt_of_le_of_lt (h.le _) k)
theorem sideNegs_mono (N : Nat) : ∀ t, sideNegs N ys t = true → sideNegs N xs t = true
  | 0, k => k
  | t + 1, k => by
    unfold sideNegs at k ⊢
    rw [Bool.or_eq_true, decide_eq_true_eq] at *
    rcases k with k | k
    · exact .inl (Int.lt_of_le_of_lt (plus_mono (h.le _) (h.le _)) k)
    · exact .inr (sideNegs_mono N t k)
theorem closeM_mono (N : Nat) {zs : List Int} (hc : closeM N xs = some zs) : ∃ ws, closeM N ys = some ws ∧ R zs ws := by
  have h1 := mirrors_mono (paths_mono h N N) N N
  have h2 := evens_mono h1 N N
  unfold closeM at *
  split at hc
  · cases hc
  · rename_i c1
    split at hc
    · cases hc
    · rename_i c2
      injection hc with hc
      subst hc
      rw [if_neg (fun e => c1 (negs_mono h1 N N e)), if_neg (fun e => c2 (sideNegs_mono h2 N N e))]
      exact ⟨_, rfl, strengthens_mono h2 N N⟩
end
theorem list_ext {xs ys : List Int} (hl : xs.length = ys.length) (h : ∀ i : Nat, gI xs i = gI ys i) : xs = ys := by
  refine List.ext_getElem hl fun i h1 h2 => ?_
  have := h i
  simpa [gI, h1, h2] using this
theorem Le.anti {xs ys : List Int} (hl : xs.length = ys.length) (h : Le xs ys) (k : Le ys xs) : xs = ys :=
  list_ext hl fun i => Int.le_antisymm (h i) (k i)

theorem AllB.of_cells {N : Nat} {n : Int} {m : List Int} (hN : (N : Int) = 2 * n) (hn : N ≤ 128) (h : Cells N m) : AllB m := by
  have := check_bounds (check_of hN hn h)
  exact this

theorem openM_R {N i j : Nat} {xs ys : List Int} (h : R xs ys) : R (openM N i j xs) (openM N i j ys) :=
  (h.set _ (by decide) (by decide) (Int.le_refl _)).set _ (by decide) (by decide) (Int.le_refl _)
theorem AllB.le_inf {xs : List Int} (h : AllB xs) (i : Nat) : gI xs i ≤ 9223372036854775807 := by
  have := h i
  unfold isBound at this
  simp only [decide_eq_true_eq] at this
  omega
theorem openM_up {N i j : Nat} {xs : List Int} (h : AllB xs) : R xs (openM N i j xs) := by
  have e : ∀ (k : Nat) {ys : List Int}, R xs ys → R xs (ys.set k 9223372036854775807) := fun k ys r => ⟨by rw [List.length_set]; exact r.len, r.a, r.b.set' (by decide), fun p => by
    rw [gI_set]
    split
    · exact h.le_inf p
    · exact r.le p⟩
  exact e _ (e _ ⟨rfl, h, h, Le.refl _⟩)
theorem R.trans {a b c : List Int} (h : R a b) (k : R b c) : R a c := ⟨h.len.trans k.len, h.a, k.b, h.le.trans k.le⟩
theorem stepT_up {n : Int} {N : Nat} {cm out : List Int} (h : AllB out) (x : Cel N) : R out (stepT n N cm out x) := by
  unfold stepT
  split
  · exact openM_up h
  · exact ⟨rfl, h, h, Le.refl _⟩
theorem foldT_up {n : Int} {N : Nat} {cm : List Int} : ∀ (xs : List (Cel N)) {out : List Int}, AllB out → R out (xs.foldl (stepT n N cm) out)
  | [], out, h => ⟨rfl, h, h, Le.refl _⟩
  | x :: xs, out, h => (stepT_up h x).trans (foldT_up xs (stepT_up h x).b)
/-- What closing tells stays. -/
theorem foldT_close {n : Int} {N : Nat} {cm : List Int} : ∀ (xs : List (Cel N)) {out : List Int}, closeO ⟨n, false, out⟩ = ⟨n, false, cm⟩ → closeO ⟨n, false, xs.foldl (stepT n N cm) out⟩ = ⟨n, false, cm⟩
  | [], _, h => h
  | x :: xs, out, h => foldT_close xs (by
    unfold stepT
    split
    · rename_i e; exact (eqO_iff _ _).1 e
    · exact h)
theorem closeM_of {n : Int} {m cm : List Int} (h : closeO ⟨n, false, m⟩ = ⟨n, false, cm⟩) : closeM (2 * n).toNat m = some cm := by
  rcases closeO_cases ⟨n, false, m⟩ with e | ⟨_, ys, e1, e2⟩
  · rw [e] at h; cases h
  · rw [e2] at h; injection h with _ _ h; subst h; exact e1
theorem closeO_of_some {n : Int} {m cm : List Int} (h : closeM (2 * n).toNat m = some cm) : closeO ⟨n, false, m⟩ = ⟨n, false, cm⟩ := by
  unfold closeO; dsimp only; rw [if_neg (by simp), h]

/-- The heart: a cell that was kept is needed ever after. -/
theorem kept_needed {n : Int} {N i j : Nat} {cm out t : List Int} (hc : closeO ⟨n, false, cm⟩ = ⟨n, false, cm⟩) (r1 : R cm out) (r2 : R out t)
    (hk : eqO (closeO ⟨n, false, openM N i j out⟩) ⟨n, false, cm⟩ = false) : eqO (closeO ⟨n, false, openM N i j t⟩) ⟨n, false, cm⟩ = false := by
  rw [← Bool.not_eq_true] at hk ⊢
  intro e
  apply hk
  rw [eqO_iff] at *
  have ra : R cm (openM N i j out) := r1.trans (openM_up r1.b)
  have rb : R (openM N i j out) (openM N i j t) := openM_R r2
  obtain ⟨da, ea, fa⟩ := closeM_mono ra _ (closeM_of hc)
  obtain ⟨db, eb, fb⟩ := closeM_mono rb _ ea
  have := closeM_of e
  rw [eb] at this
  injection this with this
  subst this
  rw [closeO_of_some ea, Le.anti fa.len.symm fb.le fa.le]
theorem openM_inf {N i j : Nat} {xs : List Int} (hl : xs.length = N * N) (hi : i < N) (hj : j < N) : gI (openM N i j xs) ((i * N + j : Nat) : Int) = 9223372036854775807 := by
  have h := lt_sq hi hj
  unfold openM
  rw [gI_set]
  split
  · rfl
  · rw [gI_set, if_pos ⟨rfl, by rw [hl]; exact h⟩]
/-- A cell that is left at the end was tried, and kept. -/
theorem left_needed {n : Int} {N : Nat} {cm : List Int} (hc : closeO ⟨n, false, cm⟩ = ⟨n, false, cm⟩) (hb : AllB cm) (hl : cm.length = N * N) (x : Cel N) :
    ∀ (xs : List (Cel N)) {out : List Int}, R cm out → x ∈ xs → gI (xs.foldl (stepT n N cm) out) ((x.1.1 * N + x.1.2 : Nat) : Int) ≠ 9223372036854775807 →
      eqO (closeO ⟨n, false, openM N x.1.1 x.1.2 (xs.foldl (stepT n N cm) out)⟩) ⟨n, false, cm⟩ = false
  | y :: xs, out, r, hx, hne => by
    have rs := stepT_up (n := n) (cm := cm) r.b y
    rcases List.mem_cons.1 hx with rfl | hx
    · cases hk : eqO (closeO ⟨n, false, openM N x.1.1 x.1.2 out⟩) ⟨n, false, cm⟩
      · exact kept_needed hc r (rs.trans (foldT_up xs rs.b)) hk
      · exfalso
        apply hne
        have e : stepT n N cm out x = openM N x.1.1 x.1.2 out := by unfold stepT; rw [if_pos hk]
        have up := foldT_up (n := n) (cm := cm) xs rs.b
        have h1 := up.le (x.1.1 * N + x.1.2)
        have h2 := up.b.le_inf (x.1.1 * N + x.1.2)
        rw [e, openM_inf (by rw [← r.len]; exact hl) x.2.1 x.2.2.1] at h1
        rw [List.foldl_cons, e]
        rw [e] at h2
        exact Int.le_antisymm h2 h1
    · exact left_needed hc hb hl x xs (r.trans rs) hx hne
theorem mem_rowC {N : Nat} {m : List Int} {i : Nat} {x : Cel N} : ∀ {t : Nat}, t ≤ N → (x ∈ rowC N m i t ↔ x.1.1 = i ∧ x.1.2 < t ∧ keepC N m x.1.1 x.1.2 = true)
  | 0, _ => by simp [rowC]
  | t + 1, ht => by
    rw [rowC, List.mem_append, mem_rowC (t := t) (by omega)]
    obtain ⟨⟨a, b⟩, h1, h2, h3⟩ := x
    dsimp only at h1 h2 h3
    constructor
    · rintro (⟨e1, e2, e3⟩ | h)
      · exact ⟨e1, by omega, e3⟩
      · by_cases hk : keepC N m i t = true
        · rw [if_pos hk] at h
          unfold celOf at h
          split at h
          · rw [List.mem_singleton] at h
            have h' := congrArg Subtype.val h
            dsimp only at h'
            injection h' with e1 e2
            subst e1; subst e2
            exact ⟨rfl, by dsimp only; omega, hk⟩
          · cases h
        · rw [if_neg hk] at h; cases h
    · rintro ⟨e1, e2, e3⟩
      dsimp only at e1 e2 e3
      subst e1
      by_cases e : b = t
      · subst e
        right
        rw [if_pos e3, celOf, dif_pos ⟨h1, h2, h3⟩]
        exact List.mem_singleton.2 rfl
      · exact .inl ⟨rfl, by dsimp only; omega, e3⟩
theorem mem_matC {N : Nat} {m : List Int} {x : Cel N} : ∀ {t : Nat}, t ≤ N → (x ∈ matC N m t ↔ x.1.1 < t ∧ keepC N m x.1.1 x.1.2 = true)
  | 0, _ => by simp [matC]
  | t + 1, ht => by
    rw [matC, List.mem_append, mem_matC (t := t) (by omega), mem_rowC (Nat.le_refl N)]
    have h2 := x.2.2.1
    constructor
    · rintro (⟨e1, e2⟩ | ⟨e1, e2, e3⟩)
      · exact ⟨by omega, e2⟩
      · exact ⟨by omega, e3⟩
    · rintro ⟨e1, e2⟩
      by_cases e : x.1.1 = t
      · exact .inr ⟨e, h2, e2⟩
      · exact .inl ⟨by omega, e2⟩
theorem keepC_le {N : Nat} {m m' : List Int} (hb : AllB m') (h : Le m m') {i j : Nat} (k : keepC N m' i j = true) : keepC N m i j = true := by
  unfold keepC at *
  simp only [Bool.and_eq_true, decide_eq_true_eq] at *
  refine ⟨k.1, k.2.1, fun e => k.2.2 ?_⟩
  have h1 := h (i * N + j)
  rw [e] at h1
  exact Int.le_antisymm (hb.le_inf _) h1
theorem rowC_le {N : Nat} {m m' : List Int} (hb : AllB m') (h : Le m m') (i : Nat) : ∀ t, (rowC N m' i t).length ≤ (rowC N m i t).length
  | 0 => Nat.le_refl _
  | t + 1 => by
    rw [rowC, rowC, List.length_append, List.length_append]
    have := rowC_le (N := N) hb h i t
    by_cases k : keepC N m' i t = true
    · rw [if_pos k, if_pos (keepC_le hb h k)]; omega
    · rw [if_neg k]; simp; omega
theorem matC_le {N : Nat} {m m' : List Int} (hb : AllB m') (h : Le m m') : ∀ t, (matC N m' t).length ≤ (matC N m t).length
  | 0 => Nat.le_refl _
  | t + 1 => by
    rw [matC, matC, List.length_append, List.length_append]
    have := matC_le (N := N) hb h t
    have := rowC_le (N := N) hb h t N
    omega

/-- Of an octagon that may be, whose closure is closed: thin, it closes to the same; each of its cells is needed; it has no more cells. -/
theorem thin_law {o : O} {N : Nat} (hN : (N : Int) = 2 * o.n) (hk : check o = 0) (hc : closeO (closeO o) = closeO o) :
    check (thinO o) = 0 ∧ closeO (thinO o) = closeO o ∧ (thinO o).n = o.n ∧ (thinO o).e = (closeO o).e ∧
      ((closeO o).e = false → (matC N (thinO o).m N).length ≤ (matC N (closeO o).m N).length ∧ ∀ x ∈ matC N (thinO o).m N, needAns (thinO o) (x.1.1 : Int) (x.1.2 : Int) = (true, 0)) := by
  have hkc := closeO_check hk
  have hcn := closeO_n o
  obtain ⟨n0, n1, -, -⟩ := check_ok hk
  have hn : N ≤ 128 := by omega
  have hNt : (2 * o.n).toNat = N := by omega
  cases he : (closeO o).e
  · have ht : thinO o = ⟨o.n, false, thinM o.n N (closeO o).m (matC N (closeO o).m N)⟩ := by unfold thinO; rw [if_neg (by simp [he]), hNt]
    rw [ht]
    generalize closeO o = c at *
    obtain ⟨cn, ce, cm⟩ := c
    dsimp only at *
    subst he
    subst hcn
    have hC := cells_of hN hkc
    have hb := AllB.of_cells hN hn hC
    have hev : N % 2 = 0 := by omega
    have hT := thinM_cells (n := o.n) hev hC (matC N cm N)
    have hkt := check_of hN hn hT
    have hct : closeO ⟨o.n, false, thinM o.n N cm (matC N cm N)⟩ = ⟨o.n, false, cm⟩ := foldT_close _ hc
    have hup : R cm (thinM o.n N cm (matC N cm N)) := foldT_up _ hb
    refine ⟨hkt, hct, rfl, rfl, fun _ => ⟨matC_le hup.b hup.le N, fun x hx => ?_⟩⟩
    have hm := (mem_matC (Nat.le_refl N)).1 hx
    have hxc : x ∈ matC N cm N := (mem_matC (Nat.le_refl N)).2 ⟨x.2.1, keepC_le hup.b hup.le hm.2⟩
    have hne : gI (thinM o.n N cm (matC N cm N)) ((x.1.1 * N + x.1.2 : Nat) : Int) ≠ 9223372036854775807 := by
      have := hm.2
      unfold keepC at this
      simp only [Bool.and_eq_true, decide_eq_true_eq] at this
      exact this.2.2
    have hnd := left_needed hc hb hC.len x (matC N cm N) ⟨rfl, hb, hb, Le.refl _⟩ hxc hne
    have hbad : badCell ⟨o.n, false, thinM o.n N cm (matC N cm N)⟩ (x.1.1 : Int) (x.1.2 : Int) = false := by
      obtain ⟨⟨i, j⟩, h1, h2, h3⟩ := x
      dsimp only at h1 h2 h3
      unfold badCell
      simp only [Bool.or_eq_false_iff, decide_eq_false_iff_not, beq_eq_false_iff_ne]
      refine ⟨trivial, by omega, by omega, by omega, by omega, by omega⟩
    unfold needAns
    rw [if_pos hkt, if_neg (by rw [hbad]; decide), hct]
    dsimp only
    rw [hNt, Int.toNat_natCast, Int.toNat_natCast]
    unfold thinM at *
    rw [hnd]
    rfl
  · have ht : thinO o = closeO o := by unfold thinO; rw [if_pos he]
    rw [ht]
    exact ⟨hkc, hc, hcn, he, fun h => by cases h⟩
end Go.Proofs.Ytanbplidigokgaa
