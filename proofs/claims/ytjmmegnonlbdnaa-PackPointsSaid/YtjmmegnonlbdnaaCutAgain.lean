/-
  An octagon that is cut again is the same, where nothing saturates; cut by one pack of all it is closed; points stay. Plain.
-/
import Derived.Test.YtjmmegnonlbdnaaBPP20
import Derived.Test.YtjmmegnonlbdnaaCalmLaw
import Derived.Test.YtjmmegnonlbdnaaSound
namespace Go.Proofs.Ytjmmegnonlbdnaa
open Go.RowKit

theorem cnx_half (i : Nat) : nx i / 2 = i / 2 := by unfold nx; split <;> omega
theorem cat_lt {N i j : Nat} (hi : i < N) (hj : j < N) : i * N + j < N * N := by
  have : (i + 1) * N ≤ N * N := Nat.mul_le_mul_right N hi
  rw [Nat.add_mul] at this; omega
theorem cat_div {N i j : Nat} (hj : j < N) : (i * N + j) / N = i := by
  rw [Nat.mul_comm, Nat.mul_add_div (by omega), Nat.div_eq_of_lt hj]; omega
theorem cat_mod {N i j : Nat} (hj : j < N) : (i * N + j) % N = j := by
  rw [Nat.mul_comm, Nat.mul_add_mod]; exact Nat.mod_eq_of_lt hj
theorem cgI_at {xs : List Int} {k : Nat} (h : k < xs.length) : gI xs (k : Int) = xs[k] := by unfold gI; simp [h]
theorem cutK_G {N : Nat} {f : Nat → Int} {m : List Int} (hl : m.length = N * N) {i j : Nat} (hi : i < N) (hj : j < N) :
    G N (cutK N f m (N * N)) i j = if f (i / 2) ≠ f (j / 2) then 9223372036854775807 else G N m i j := by
  have hp := cat_lt hi hj
  have hlt : i * N + j < (cutK N f m (N * N)).length := by rw [cutK_len, hl]; exact hp
  unfold G
  rw [cgI_at hlt, cutK_get hlt, cat_div hj, cat_mod hj]
  by_cases e : f (i / 2) = f (j / 2) <;> simp [e, hp]
theorem AllB.ofCells {N : Nat} {m : List Int} (h : Cells N m) : AllB m := fun k => by
  by_cases hk : k < N * N
  · have hN : 0 < N := by
      rcases Nat.eq_zero_or_pos N with e | e
      · subst e; simp at hk
      · exact e
    have h1 := h.bd (k / N) (k % N) (Nat.div_lt_of_lt_mul hk) (Nat.mod_lt _ hN)
    have h2 : k / N * N + k % N = k := by rw [Nat.mul_comm]; exact Nat.div_add_mod k N
    rw [h2] at h1; exact h1
  · have : gI m (k : Int) = 0 := by
      unfold gI
      rw [Int.toNat_natCast, List.getD_eq_getElem?_getD, List.getElem?_eq_none (by rw [h.len]; omega)]; rfl
    rw [this]; decide
theorem paths_id {N : Nat} {xs : List Int} (c : Cells N xs) (tri : Tri N xs) : paths N N xs = xs := rep_id N fun k hk => rep_id N fun i hi => rep_id N fun j hj => by
  unfold pStep
  have hle : G N xs i j ≤ plus (G N xs i k) (G N xs k j) := leS_plus (c.b hi hj) (c.b hi hk) (c.b hk hj) (tri i j k hi hj hk) (Int.le_refl _) (Int.le_refl _)
  rw [show min (gI xs ((i * N + j : Nat) : Int)) (plus (gI xs ((i * N + k : Nat) : Int)) (gI xs ((k * N + j : Nat) : Int))) = gI xs ((i * N + j : Nat) : Int) from Int.min_eq_left hle, set_same]
theorem cutK_self {N : Nat} {f : Nat → Int} {m zs : List Int} (hl : m.length = N * N) (hz : zs.length = N * N) (h : ∀ i j, i < N → j < N → f (i / 2) = f (j / 2) → G N zs i j = G N m i j) :
    cutK N f zs (N * N) = cutK N f m (N * N) := by
  refine List.ext_getElem (by rw [cutK_len, cutK_len, hl, hz]) fun k h1 h2 => ?_
  rw [cutK_get h1, cutK_get h2]
  rw [cutK_len, hz] at h1
  have hN : 0 < N := by
    rcases Nat.eq_zero_or_pos N with e | e
    · subst e; simp at h1
    · exact e
  by_cases e : f (k / N / 2) = f (k % N / 2)
  · rw [if_neg (by simp [e]), if_neg (by simp [e])]
    have h3 := h (k / N) (k % N) (Nat.div_lt_of_lt_mul h1) (Nat.mod_lt _ hN) e
    have h4 : k / N * N + k % N = k := by rw [Nat.mul_comm]; exact Nat.div_add_mod k N
    unfold G at h3
    rw [h4] at h3; exact h3
  · rw [if_pos ⟨h1, e⟩, if_pos ⟨h1, e⟩]

theorem cutK_cells {N : Nat} (hN : N % 2 = 0) {ys : List Int} (c : Cells N ys) (f : Nat → Int) : Cells N (cutK N f ys (N * N)) := by
  have hG : ∀ {i j}, i < N → j < N → G N (cutK N f ys (N * N)) i j = if f (i / 2) ≠ f (j / 2) then 9223372036854775807 else G N ys i j := fun hi hj => cutK_G c.len hi hj
  refine ⟨by rw [cutK_len, c.len], fun i j hi hj => ?_, fun i hi => ?_, fun i j hi hj => ?_⟩
  · show isBound (G N _ i j) = true
    rw [hG hi hj]; split
    · decide
    · exact c.b hi hj
  · show G N _ i i = 0
    rw [hG hi hi, if_neg (by simp)]; exact c.d hi
  · show G N _ i j = G N _ (nx j) (nx i)
    rw [hG hi hj, hG (nxl hN hj) (nxl hN hi), cnx_half, cnx_half, c.sym i j hi hj]
    by_cases e : f (i / 2) = f (j / 2)
    · simp [e]
    · rw [if_pos e, if_pos (fun q => e q.symm)]

/-- What is tight, cut: closed and cut again it is the same. -/
theorem cut_tight {N : Nat} (hN : N % 2 = 0) {ys : List Int} (h : Tight N ys) (f : Nat → Int) :
    ∃ zs, closeM N (cutK N f ys (N * N)) = some zs ∧ zs.length = N * N ∧ cutK N f zs (N * N) = cutK N f ys (N * N) := by
  have c := h.cells
  have hG : ∀ {i j}, i < N → j < N → G N (cutK N f ys (N * N)) i j = if f (i / 2) ≠ f (j / 2) then 9223372036854775807 else G N ys i j := fun hi hj => cutK_G c.len hi hj
  have hGs : ∀ {i j}, i < N → j < N → f (i / 2) = f (j / 2) → G N (cutK N f ys (N * N)) i j = G N ys i j := fun hi hj e => by rw [hG hi hj, if_neg (by simp [e])]
  have hGd : ∀ {i j}, i < N → j < N → f (i / 2) ≠ f (j / 2) → G N (cutK N f ys (N * N)) i j = 9223372036854775807 := fun hi hj e => by rw [hG hi hj, if_pos e]
  have hl : (cutK N f ys (N * N)).length = N * N := by rw [cutK_len, c.len]
  have hnx : ∀ {i}, i < N → G N (cutK N f ys (N * N)) i (nx i) = G N ys i (nx i) := fun hi => hGs hi (nxl hN hi) (by rw [cnx_half])
  have hxn : ∀ {i}, i < N → G N (cutK N f ys (N * N)) (nx i) i = G N ys (nx i) i := fun hi => hGs (nxl hN hi) hi (by rw [cnx_half])
  have cx := cutK_cells hN c f
  generalize cutK N f ys (N * N) = xs at *
  have tx : Tri N xs := fun i j k hi hj hk => by
    by_cases e1 : f (i / 2) = f (k / 2)
    · by_cases e2 : f (k / 2) = f (j / 2)
      · rw [hGs hi hj (e1.trans e2), hGs hi hk e1, hGs hk hj e2]; exact h.tri i j k hi hj hk
      · exact .inr (.inl (hGd hk hj e2))
    · exact .inl (hGd hi hk e1)
  have bx := AllB.ofCells cx
  have he : evens N N xs = xs := rep_id N fun i hi => by
    unfold eStep
    have e := h.ev i hi
    rw [← hnx hi] at e
    unfold G at e
    rw [e, set_same]
  refine ⟨strengthens N N xs, ?_, (strengthens_low N N xs).len.trans hl, ?_⟩
  · unfold closeM
    rw [paths_id cx tx, mirrors_id hN cx.sym, negs_of (fun i hi => cx.d hi) N (Nat.le_refl _), he, sideNegs_of (fun i hi => ?_) N (Nat.le_refl _)]
    · rfl
    · have ht := tx i i (nx i) hi hi (nxl hN hi)
      rw [cx.d hi] at ht
      exact leS_plus (by decide) (cx.b hi (nxl hN hi)) (cx.b (nxl hN hi) hi) ht (Int.le_refl _) (Int.le_refl _)
  · have h2 := cutK_self (f := f) (m := xs) (zs := strengthens N N xs) hl ((strengthens_low N N xs).len.trans hl) fun i j hi hj e => by
      rw [strengthens_G hN hl bx i j hi hj]
      unfold strong
      split
      · rfl
      · rename_i hij
        rw [hnx hi, hxn hj, hGs hi hj e]
        exact Int.min_eq_left (h.str i j hi hj hij)
    rw [h2]
    refine List.ext_getElem (by rw [cutK_len]) fun k h1 h3 => ?_
    have hk : k < N * N := by rw [cutK_len, hl] at h1; exact h1
    have hN0 : 0 < N := by
      rcases Nat.eq_zero_or_pos N with e | e
      · subst e; simp at hk
      · exact e
    have h4 : k / N * N + k % N = k := by rw [Nat.mul_comm]; exact Nat.div_add_mod k N
    rw [cutK_get h1]
    by_cases e : f (k / N / 2) = f (k % N / 2)
    · rw [if_neg (by simp [e]), cgI_at h3]
    · rw [if_pos ⟨hk, e⟩]
      have h5 := hGd (Nat.div_lt_of_lt_mul hk) (Nat.mod_lt k hN0) e
      unfold G at h5
      rw [h4, cgI_at h3] at h5; exact h5.symm

theorem cut_again {o : O} (ps : List (List Int)) (hk : check o = 0) (ns : o.e = false → (closeO o).e = false → NoSat (2 * o.n).toNat o.m) : cutO (cutO o ps) ps = cutO o ps := by
  rcases closeO_cases o with h | ⟨he, ys, hc, h⟩
  · have e1 : cutO o ps = ⟨o.n, true, []⟩ := by unfold cutO; rw [h, if_pos rfl]
    rw [e1]
    unfold cutO
    rw [closeO_e rfl, if_pos rfl]
  · have nh := ns he (by rw [h])
    obtain ⟨n, e, m⟩ := o
    dsimp only at he hc h nh
    subst he
    obtain ⟨n0, n1, -, -⟩ := check_ok hk
    dsimp only at n0 n1
    have hN : ((2 * n).toNat : Int) = 2 * n := by omega
    have hN2 : (2 * n).toNat % 2 = 0 := by omega
    have cm := cells_of hN hk
    have T := closeM_tight hN2 cm (AllB.ofCells cm) hc nh
    have e1 : cutO ⟨n, false, m⟩ ps = ⟨n, false, cutK (2 * n).toNat (ofRows ps ps.length) ys ((2 * n).toNat * (2 * n).toNat)⟩ := by unfold cutO; rw [h, if_neg (by simp)]
    rw [e1]
    obtain ⟨zs, h1, h2, h3⟩ := cut_tight hN2 T (ofRows ps ps.length)
    unfold cutO
    rw [closeO_some h1, if_neg (by simp)]
    dsimp only
    rw [h3]

theorem ofRow_zeros (l : List Int) : ∀ j, j ≤ l.length → ofRow (fun _ => 0) l 0 j = fun _ => 0
  | 0, _ => ofRow_zero _ _ _
  | j + 1, hj => by
    rw [ofRow_succ _ _ _ _ (by omega), ofRow_zeros l j (by omega)]
    funext k
    unfold setV
    split <;> rfl
theorem cut_all (o : O) (l : List Int) : cutO o [l] = closeO o := by
  have hf : ofRows [l] [l].length = fun _ => 0 := by
    rw [show [l].length = 0 + 1 from rfl, ofRows_succ, show ofRows [l] 0 = fun _ => 0 from rfl, ofRow_zeros _ _ (Nat.le_refl _)]
  unfold cutO
  rw [hf]
  split
  · rfl
  · rename_i h
    have h2 : (closeO o).e = false := by simpa using h
    have h3 : cutK (2 * o.n).toNat (fun _ => 0) (closeO o).m ((2 * o.n).toNat * (2 * o.n).toNat) = (closeO o).m := by
      refine List.ext_getElem (cutK_len ..) fun k h4 h5 => ?_
      rw [cutK_get h4, if_neg (by simp), cgI_at h5]
    rw [h3]
    have h4 := closeO_n o
    generalize closeO o = c at *
    obtain ⟨cn, ce, cm⟩ := c
    dsimp only at h2 h4
    rw [h2, h4]

theorem cut_has {o : O} {x : List Int} (ps : List (List Int)) (hk : check o = 0) (hx : HasO o x) : HasO (cutO o ps) x := by
  obtain ⟨h1, h2, h3⟩ := closeO_has hk hx
  rcases closeO_cases o with h | ⟨he, ys, hc, h⟩
  · rw [h] at h1; simp at h1
  · obtain ⟨n, e, m⟩ := o
    dsimp only at he hc h
    subst he
    obtain ⟨n0, n1, -, -⟩ := check_ok hk
    dsimp only at n0 n1
    have hN : ((2 * n).toNat : Int) = 2 * n := by omega
    have hN2 : (2 * n).toNat % 2 = 0 := by omega
    have cm := cells_of hN hk
    have cy := closeM_cells hN2 cm (AllB.ofCells cm) hc
    rw [h] at h1 h2 h3
    have e1 : cutO ⟨n, false, m⟩ ps = ⟨n, false, cutK (2 * n).toNat (ofRows ps ps.length) ys ((2 * n).toNat * (2 * n).toNat)⟩ := by unfold cutO; rw [h, if_neg (by simp)]
    rw [e1]
    refine ⟨rfl, h2, fun i j hi hj => ?_⟩
    dsimp only at hi hj ⊢
    rw [cutK_G cy.len hi hj]
    split
    · exact .inl rfl
    · exact h3 i j hi hj

theorem cut_form {o : O} (ps : List (List Int)) (hk : check o = 0) : check (cutO o ps) = 0 ∧ (cutO o ps).n = o.n := by
  rcases closeO_cases o with h | ⟨he, ys, hc, h⟩
  · have hk2 := closeO_check hk
    have e1 : cutO o ps = closeO o := by unfold cutO; rw [h, if_pos rfl]
    rw [e1]
    exact ⟨hk2, closeO_n o⟩
  · obtain ⟨n, e, m⟩ := o
    dsimp only at he hc h
    subst he
    obtain ⟨n0, n1, -, -⟩ := check_ok hk
    dsimp only at n0 n1
    have hN : ((2 * n).toNat : Int) = 2 * n := by omega
    have hN2 : (2 * n).toNat % 2 = 0 := by omega
    have cm := cells_of hN hk
    have cy := closeM_cells hN2 cm (AllB.ofCells cm) hc
    have e1 : cutO ⟨n, false, m⟩ ps = ⟨n, false, cutK (2 * n).toNat (ofRows ps ps.length) ys ((2 * n).toNat * (2 * n).toNat)⟩ := by unfold cutO; rw [h, if_neg (by simp)]
    rw [e1]
    exact ⟨check_of hN (by omega) (cutK_cells hN2 cy _), rfl⟩
theorem cut_calm {o : O} (ps : List (List Int)) (hk : check o = 0) (hc : o.e = false → (closeO o).e = false → calmO (2 * o.n).toNat o.m) : cutO (cutO o ps) ps = cutO o ps :=
  cut_again ps hk fun he hce => by
    rcases closeO_cases o with h | ⟨_, ys, hcm, _⟩
    · rw [h] at hce; cases hce
    · have q := hc he hce
      obtain ⟨n, e, m⟩ := o
      dsimp only at he hcm q ⊢
      subst he
      obtain ⟨n0, n1, -, -⟩ := check_ok hk
      dsimp only at n0 n1
      have hN : ((2 * n).toNat : Int) = 2 * n := by omega
      have cm := cells_of hN hk
      exact calm_noSat (by omega) cm (AllB.ofCells cm) hcm q
theorem packErr_all : ∀ n : Fin 64, packErr ((n.val + 1 : Nat) : Int) [(List.range (n.val + 1)).map (fun (i : Nat) => (i : Int))] = 0 := by decide +kernel
end Go.Proofs.Ytjmmegnonlbdnaa
