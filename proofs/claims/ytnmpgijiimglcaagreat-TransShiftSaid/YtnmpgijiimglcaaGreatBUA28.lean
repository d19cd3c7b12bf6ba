/-
  Where the cells are small closing saturates nowhere: a cell of the paths is the weight of a walk without a vertex twice. Plain.
  A shift there and back is the closed octagon, where the cells are small. Plain.
  The document's Bound of octagons that may be: what it answers, and which block alone it changes.
  gnomonref16.bound: a variable bounded by a range, in place.
  gnomonref16.atMost: what it answers, in place.
  gnomonref15: what the document's ranges tell of a closed octagon.
  gnomonref16.unlike: what it answers.
  gnomonref16.closed, There, assume, Assume: what they answer.
  gnomonref16.Edge of an edge at which nothing happens: the closed octagon.
-/
import Derived.Test.YtnmpgijiimglcaaGreatTight
import Derived.Test.YtnmpgijiimglcaaGreatBUA27
import Derived.Test.YtnmpgijiimglcaaGreatBUA24
import Derived.Test.YtnmpgijiimglcaaGreatBUA16
import Derived.Test.YtnmpgijiimglcaaGreatRTop
import Derived.Test.YtnmpgijiimglcaaGreatBUA19
import Derived.Test.YtnmpgijiimglcaaGreatBUA03
import Derived.Test.YtnmpgijiimglcaaGreatUnlikeV
import Derived.Test.YtnmpgijiimglcaaGreatBUA01
import Derived.Test.YtnmpgijiimglcaaGreatBUA08
import Derived.Test.YtnmpgijiimglcaaGreatRef13
import Derived.Test.YtnmpgijiimglcaaGreatBUA06
import Derived.Test.YtnmpgijiimglcaaGreatBUA23
namespace Go.Proofs.YtnmpgijiimglcaaGreat
section
open Go.RowKit

/-- A walk and what it weighs. -/
inductive Wk (N : Nat) (xs : List Int) : Nat → List Nat → Nat → Int → Prop
  | nil {i j : Nat} : G N xs i j ≠ 9223372036854775807 → Wk N xs i [] j (G N xs i j)
  | cons {i a j : Nat} {l : List Nat} {w : Int} : G N xs i a ≠ 9223372036854775807 → Wk N xs a l j w → Wk N xs i (a :: l) j (G N xs i a + w)

section
variable {N : Nat} {xs : List Int}
theorem Wk.append {k j : Nat} {l2 : List Nat} {w2 : Int} (h2 : Wk N xs k l2 j w2) : ∀ {l : List Nat} {i : Nat} {w1 : Int}, Wk N xs i l k w1 → Wk N xs i (l ++ k :: l2) j (w1 + w2)
  | [], i, w1, h => by
    cases h with
    | nil h => exact .cons h h2
  | a :: l, i, w1, h => by
    cases h with
    | cons h1 h3 =>
      rw [Int.add_assoc]
      exact .cons h1 (Wk.append h2 h3)
theorem Wk.split {k j : Nat} {l2 : List Nat} : ∀ {l : List Nat} {i : Nat} {w : Int}, Wk N xs i (l ++ k :: l2) j w → ∃ w1 w2, w = w1 + w2 ∧ Wk N xs i l k w1 ∧ Wk N xs k l2 j w2
  | [], i, w, h => by
    cases h with
    | cons h1 h2 => exact ⟨_, _, rfl, .nil h1, h2⟩
  | a :: l, i, w, h => by
    cases h with
    | cons h1 h2 =>
      obtain ⟨w1, w2, e, k1, k2⟩ := Wk.split h2
      subst e
      exact ⟨_, _, (Int.add_assoc _ _ _).symm, .cons h1 k1, k2⟩
/-- No cell is more than 2^40 in size, if it isn't without end. -/
def SmallM (xs : List Int) : Prop := ∀ p : Nat, gI xs (p : Int) = 9223372036854775807 ∨ (-1099511627776 ≤ gI xs (p : Int) ∧ gI xs (p : Int) ≤ 1099511627776)
theorem Wk.bound (hs : SmallM xs) : ∀ {l : List Nat} {i j : Nat} {w : Int}, Wk N xs i l j w → -(((l.length : Int) + 1) * 1099511627776) ≤ w ∧ w ≤ ((l.length : Int) + 1) * 1099511627776
  | [], i, j, w, h => by
    cases h with
    | nil h =>
      have := hs (i * N + j)
      unfold G at *
      rw [List.length_nil]
      omega
  | a :: l, i, j, w, h => by
    cases h with
    | cons h1 h2 =>
      have := hs (i * N + a)
      have := Wk.bound hs h2
      unfold G at *
      rw [List.length_cons]
      omega

theorem dup_cut : ∀ l : List Nat, ¬ l.Nodup → ∃ p a q r, l = p ++ a :: (q ++ a :: r)
  | [], h => absurd List.nodup_nil h
  | x :: t, h => by
    by_cases m : x ∈ t
    · obtain ⟨q, r, e⟩ := List.append_of_mem m
      exact ⟨[], x, q, r, by rw [e]; rfl⟩
    · have : ¬ t.Nodup := fun k => h (List.nodup_cons.2 ⟨m, k⟩)
      obtain ⟨p, a, q, r, e⟩ := dup_cut t this
      exact ⟨x :: p, a, q, r, by rw [e]; rfl⟩
theorem nodup_len : ∀ (k : Nat) (l : List Nat), l.Nodup → (∀ x, x ∈ l → x < k) → l.length ≤ k
  | 0, l, _, h => by
    cases l with
    | nil => simp
    | cons a t => exact absurd (h a (by simp)) (by omega)
  | k + 1, l, hn, h => by
    have h1 := nodup_len k (l.erase k) (hn.erase k) fun x hx => by
      have h2 := (hn.mem_erase_iff).1 hx
      have := h x h2.2
      have := h2.1
      omega
    have h3 := List.length_erase (a := k) (l := l)
    split at h3 <;> omega

theorem sat_small {a b : Int} (ha : a = 9223372036854775807 ∨ (-1000000000000000000 ≤ a ∧ a ≤ 1000000000000000000)) (hb : b = 9223372036854775807 ∨ (-1000000000000000000 ≤ b ∧ b ≤ 1000000000000000000)) : sat a b = false := by
  have e1 : near a = a := by unfold near; split <;> (try split) <;> omega
  have e2 : near b = b := by unfold near; split <;> (try split) <;> omega
  unfold sat
  rw [e1, e2]
  by_cases h : a = 9223372036854775807 ∨ b = 9223372036854775807
  · rw [decide_eq_true h]; rfl
  · rw [decide_eq_false h, decide_eq_false (by omega)]; rfl
end

section
variable {N : Nat} {xs : List Int} (h : Cells N xs) (hb : AllB xs) (hd : ∀ i, i < N → 0 ≤ G N (paths N N xs) i i)
/-- No sum of the first rounds saturates. -/
def NsTo (N : Nat) (xs : List Int) (K : Nat) : Prop := ∀ k i j : Nat, k < K → i < N → j < N → sat (G N (paths N k xs) i k) (G N (paths N k xs) k j) = false
include h hb hd
theorem walk_low : ∀ (k : Nat), k ≤ N → NsTo N xs k → ∀ (n : Nat) (l : List Nat), l.length ≤ n → (∀ x, x ∈ l → x < k) → ∀ {i j : Nat} {w : Int}, i < N → j < N → Wk N xs i l j w → G N (paths N k xs) i j ≤ w ∧ G N (paths N k xs) i j ≠ 9223372036854775807
  | 0, _, _, _, l, _, hl, i, j, w, _, _, hw => by
    cases l with
    | cons a t => exact absurd (hl a (by simp)) (by omega)
    | nil =>
      cases hw with
      | nil q => exact ⟨Int.le_refl _, q⟩
  | k + 1, hk, ns, 0, l, hn, _, i, j, w, hi, hj, hw => by
    cases l with
    | cons a t => simp at hn
    | nil =>
      have h1 := walk_low k (by omega) (fun k' i j q => ns k' i j (by omega)) 0 [] (by simp) (by simp) hi hj hw
      have h2 := paths_succ h hb hd (k := k) (by omega) hi hj
      unfold newP at h2
      have h3 := bnd ((paths_low N k xs).all hb (i * N + j))
      unfold G at *
      omega
  | k + 1, hk, ns, n + 1, l, hn, hl, i, j, w, hi, hj, hw => by
    have hk' : k < N := by omega
    have h2 := paths_succ h hb hd (k := k) (by omega) hi hj
    by_cases m : k ∈ l
    · obtain ⟨p, q, e⟩ := List.append_of_mem m
      subst e
      obtain ⟨w1, w2, ew, k1, k2⟩ := hw.split
      have e1 := walk_low (k + 1) hk ns n p (by simp at hn; omega) (fun x hx => hl x (by simp [hx])) hi hk' k1
      have e2 := walk_low (k + 1) hk ns n q (by simp at hn; omega) (fun x hx => hl x (by simp [hx])) hk' hj k2
      have hB := (paths_low N k xs).all hb
      have d := paths_diag h hb hd (k := k) (by omega) hk'
      have f1 := paths_succ h hb hd (k := k) (by omega) hi hk'
      have f2 := paths_succ h hb hd (k := k) (by omega) hk' hj
      unfold newP at f1 f2 h2
      rw [d, plus_zero_r (bG hB _ _ _), Int.min_self] at f1
      rw [d, plus_zero_l (bG hB _ _ _), Int.min_self] at f2
      rw [f1] at e1
      rw [f2] at e2
      have c := plus_calm (bG hB N i k) (bG hB N k j) (ns k i j (by omega) hi hj)
      omega
    · have h1 := walk_low k (by omega) (fun k' i j q => ns k' i j (by omega)) (n + 1) l hn (fun x hx => by
        have := hl x hx
        have : x ≠ k := fun e => m (e ▸ hx)
        omega) hi hj hw
      unfold newP at h2
      have h3 := bnd ((paths_low N k xs).all hb (i * N + j))
      unfold G at *
      omega
theorem walk_of : ∀ (k : Nat), k ≤ N → NsTo N xs k → ∀ {i j : Nat}, i < N → j < N → G N (paths N k xs) i j ≠ 9223372036854775807 → ∃ l, (∀ x, x ∈ l → x < k) ∧ Wk N xs i l j (G N (paths N k xs) i j)
  | 0, _, _, i, j, _, _, hne => ⟨[], by simp, .nil hne⟩
  | k + 1, hk, ns, i, j, hi, hj, hne => by
    have hk' : k < N := by omega
    have hB := (paths_low N k xs).all hb
    have ih := fun {i j : Nat} (hi : i < N) (hj : j < N) => walk_of k (by omega) (fun k' i j q => ns k' i j (by omega)) (i := i) (j := j) hi hj
    have h2 := paths_succ h hb hd (k := k) (by omega) hi hj
    unfold newP at h2
    have c := plus_calm (bG hB N i k) (bG hB N k j) (ns k i j (by omega) hi hj)
    by_cases le : G N (paths N k xs) i j ≤ plus (G N (paths N k xs) i k) (G N (paths N k xs) k j)
    · rw [Int.min_eq_left le] at h2
      rw [h2] at hne ⊢
      obtain ⟨l, hl, hw⟩ := ih hi hj hne
      exact ⟨l, fun x hx => by have := hl x hx; omega, hw⟩
    · rw [Int.min_eq_right (by omega)] at h2
      have b0 := bnd_top (bG hB N i j)
      obtain ⟨q1, q2, q3⟩ : G N (paths N k xs) i k ≠ 9223372036854775807 ∧ G N (paths N k xs) k j ≠ 9223372036854775807 ∧ plus (G N (paths N k xs) i k) (G N (paths N k xs) k j) = G N (paths N k xs) i k + G N (paths N k xs) k j := by omega
      obtain ⟨l1, hl1, hw1⟩ := ih hi hk' q1
      obtain ⟨l2, hl2, hw2⟩ := ih hk' hj q2
      refine ⟨l1 ++ k :: l2, fun x hx => ?_, ?_⟩
      · simp only [List.mem_append, List.mem_cons] at hx
        rcases hx with hx | hx | hx
        · have := hl1 x hx; omega
        · omega
        · have := hl2 x hx; omega
      · rw [h2, q3]
        exact Wk.append hw2 hw1
theorem walk_short (k : Nat) (hk : k ≤ N) (ns : NsTo N xs k) : ∀ (n : Nat) (l : List Nat), l.length ≤ n → (∀ x, x ∈ l → x < k) → ∀ {i j : Nat} {w : Int}, i < N → j < N → Wk N xs i l j w → ∃ l' w', l'.Nodup ∧ (∀ x, x ∈ l' → x < k) ∧ Wk N xs i l' j w' ∧ w' ≤ w
  | 0, l, hn, hl, i, j, w, _, _, hw => by
    cases l with
    | cons a t => simp at hn
    | nil => exact ⟨[], w, List.nodup_nil, by simp, hw, Int.le_refl _⟩
  | n + 1, l, hn, hl, i, j, w, hi, hj, hw => by
    by_cases nd : l.Nodup
    · exact ⟨l, w, nd, hl, hw, Int.le_refl _⟩
    · obtain ⟨p, a, q, r, e⟩ := dup_cut l nd
      subst e
      obtain ⟨w1, w2, e1, k1, k2⟩ := hw.split
      obtain ⟨w3, w4, e2, k3, k4⟩ := k2.split
      have ha : a < k := hl a (by simp)
      have c := (walk_low h hb hd k hk ns q.length q (Nat.le_refl _) (fun x hx => hl x (by simp [hx])) (by omega) (by omega) k3).1
      rw [paths_diag h hb hd hk (by omega)] at c
      obtain ⟨l', w', g1, g2, g3, g4⟩ := walk_short k hk ns n (p ++ a :: r) (by simp at hn ⊢; omega) (fun x hx => hl x (by
        simp only [List.mem_append, List.mem_cons] at hx ⊢
        rcases hx with hx | hx | hx
        · exact .inl hx
        · exact .inr (.inl hx)
        · exact .inr (.inr (.inr (.inr hx))))) hi hj (Wk.append k4 k1)
      exact ⟨l', w', g1, g2, g3, by omega⟩
theorem walk_small (hs : SmallM xs) (hN : N ≤ 128) {k : Nat} (hk : k ≤ N) (ns : NsTo N xs k) {i j : Nat} (hi : i < N) (hj : j < N) : G N (paths N k xs) i j = 9223372036854775807 ∨ (-141836999983104 ≤ G N (paths N k xs) i j ∧ G N (paths N k xs) i j ≤ 141836999983104) := by
  by_cases hne : G N (paths N k xs) i j = 9223372036854775807
  · exact .inl hne
  · obtain ⟨l, hl, hw⟩ := walk_of h hb hd k hk ns hi hj hne
    obtain ⟨l', w', g1, g2, g3, g4⟩ := walk_short h hb hd k hk ns l.length l (Nat.le_refl _) hl hi hj hw
    have b := g3.bound hs
    have hl' := nodup_len k l' g1 g2
    have c := (walk_low h hb hd k hk ns l'.length l' (Nat.le_refl _) g2 hi hj g3).1
    exact .inr (by omega)
theorem nsTo_small (hs : SmallM xs) (hN : N ≤ 128) : ∀ k, k ≤ N → NsTo N xs k
  | 0, _ => fun k _ _ q => absurd q (by omega)
  | K + 1, hK => by
    have ih := nsTo_small hs hN K (by omega)
    intro k i j hk hi hj
    by_cases e : k = K
    · subst e
      have s1 := walk_small h hb hd hs hN (k := k) (by omega) ih hi (show k < N by omega)
      have s2 := walk_small h hb hd hs hN (k := k) (by omega) ih (show k < N by omega) hj
      exact sat_small (by omega) (by omega)
    · exact ih k i j (by omega) hi hj
end

theorem even_small {x : Int} (hb : isBound x = true) (hx : x = 9223372036854775807 ∨ (-141836999983104 ≤ x ∧ x ≤ 141836999983104)) : even x = 9223372036854775807 ∨ (-141836999983106 ≤ even x ∧ even x ≤ 141836999983106) := by
  have := even_fin hb
  omega
theorem half_small {a b : Int} (ha : isBound a = true) (hb : isBound b = true) (h1 : a = 9223372036854775807 ∨ (-141836999983106 ≤ a ∧ a ≤ 141836999983106)) (h2 : b = 9223372036854775807 ∨ (-141836999983106 ≤ b ∧ b ≤ 141836999983106)) : half (plus a b) = 9223372036854775807 ∨ (-141836999983108 ≤ half (plus a b) ∧ half (plus a b) ≤ 141836999983108) := by
  have c := plus_calm ha hb (sat_small (by omega) (by omega))
  rcases c with c | c | c
  · left; rw [c.2]; decide
  · left; rw [c.2]; decide
  · right
    rw [c.2.2.1]
    have e : near (a + b) = a + b := by unfold near; split <;> (try split) <;> omega
    unfold half
    rw [e]
    split <;> omega

/-- Closing a matrix of small cells, if it isn't empty: nothing saturates, and what comes out is small. -/
theorem noSat_small {N : Nat} (hN : N % 2 = 0) (hn : N ≤ 128) {xs ys : List Int} (h : Cells N xs) (hb : AllB xs) (hs : SmallM xs) (hc : closeM N xs = some ys) : NoSat N xs ∧ ∀ i j : Nat, i < N → j < N → G N ys i j = 9223372036854775807 ∨ (-141836999983108 ≤ G N ys i j ∧ G N ys i j ≤ 141836999983108) := by
  unfold closeM at hc
  split at hc
  · cases hc
  · rename_i hneg
    split at hc
    · cases hc
    · injection hc with hc
      have lp := paths_low N N xs
      have lm := mirrors_low N N (paths N N xs)
      have l1 := lp.len.trans h.len
      have bP := lp.all hb
      have hd : ∀ i, i < N → 0 ≤ G N (paths N N xs) i i := fun i hi => by
        have g1 := negs_no (by simpa using hneg) i hi
        have g2 := lm.le bP (i * N + i)
        unfold G at *
        omega
      have ns := nsTo_small h hb hd hs hn N (Nat.le_refl _)
      have sm := fun (i j : Nat) (hi : i < N) (hj : j < N) => walk_small h hb hd hs hn (Nat.le_refl _) ns hi hj
      have sP := paths_sym h hb hd hN ns
      have hm := mirrors_id hN sP
      have gE := evens_G hN l1
      have le := evens_low N N (paths N N xs)
      have bE := le.all bP
      have sE : ∀ i j : Nat, i < N → j < N → G N (evens N N (paths N N xs)) i j = 9223372036854775807 ∨ (-141836999983106 ≤ G N (evens N N (paths N N xs)) i j ∧ G N (evens N N (paths N N xs)) i j ≤ 141836999983106) := fun i j hi hj => by
        rw [gE i j hi hj]
        split
        · exact even_small (bG bP _ _ _) (sm i j hi hj)
        · have := sm i j hi hj; omega
      refine ⟨⟨ns, fun i j hi hj hij => ?_, fun i hi => ?_⟩, fun i j hi hj => ?_⟩
      · rw [hm]
        have s1 := sE i (nx i) hi (nxl hN hi)
        have s2 := sE (nx j) j (nxl hN hj) hj
        exact sat_small (by omega) (by omega)
      · rw [hm]
        have s1 := sE i (nx i) hi (nxl hN hi)
        have s2 := sE (nx i) i (nxl hN hi) hi
        exact sat_small (by omega) (by omega)
      · rw [hm] at hc
        have f := strengthens_G hN (le.len.trans l1) bE i j hi hj
        rw [← hc, f]
        unfold strong
        have s0 := sE i j hi hj
        have s1 := half_small (bG bE _ _ _) (bG bE _ _ _) (sE i (nx i) hi (nxl hN hi)) (sE (nx j) j (nxl hN hj) hj)
        split <;> omega

/-! ### A tight matrix shifted. -/
theorem plus_small {a b : Int} (ha : -1000000000000000000 ≤ a ∧ a ≤ 1000000000000000000) (hb : -1000000000000000000 ≤ b ∧ b ≤ 1000000000000000000) : plus a b = a + b := by
  have e1 : near a = a := by unfold near; split <;> (try split) <;> omega
  have e2 : near b = b := by unfold near; split <;> (try split) <;> omega
  unfold plus
  rw [e1, e2, if_neg (by omega)]
  unfold near
  split <;> (try split) <;> omega
theorem byK_nxk (d : Nat) (k : Int) (i : Nat) : byK d k (nx i) = -byK d k i := byK_nx d k i
theorem byK_neg (d : Nat) (k : Int) (i : Nat) : byK d (-k) i = -byK d k i := by
  unfold byK
  split <;> (try split) <;> omega
theorem byK_small (d : Nat) {k : Int} (hk : -2147483648 ≤ k ∧ k ≤ 2147483648) (i : Nat) : -2147483648 ≤ byK d k i ∧ byK d k i ≤ 2147483648 := by
  unfold byK
  split <;> (try split) <;> omega
section
variable {N : Nat} {c : List Int} (sm : ∀ i j : Nat, i < N → j < N → G N c i j = 9223372036854775807 ∨ (-141836999983108 ≤ G N c i j ∧ G N c i j ≤ 141836999983108))
include sm
theorem shift_val (h : Cells N c) (d : Nat) {k : Int} (hk : -2147483648 ≤ k ∧ k ≤ 2147483648) {a b : Nat} (ha : a < N) (hb : b < N) :
    (G N c a b = 9223372036854775807 ∧ G N (shiftM N d k c) a b = 9223372036854775807) ∨ (G N c a b ≠ 9223372036854775807 ∧ G N (shiftM N d k c) a b = G N c a b + byK d k a - byK d k b) := by
  rw [shiftM_G h.len ha hb]
  have s := sm a b ha hb
  have k1 := byK_small d hk a
  have k2 := byK_small d hk b
  by_cases e : G N c a b = 9223372036854775807
  · left; rw [if_neg (by omega)]; exact ⟨e, e⟩
  · right
    refine ⟨e, ?_⟩
    by_cases eab : a = b
    · subst eab
      rw [if_neg (by omega)]; omega
    · rw [if_pos ⟨eab, e⟩, plus_small (by omega) (by omega)]
      omega
theorem Tight.shift (hN : N % 2 = 0) (h : Tight N c) (d : Nat) {k : Int} (hk : -2147483648 ≤ k ∧ k ≤ 2147483648) : Tight N (shiftM N d k c) := by
  have hc := h.cells
  have hc' := shiftM_cells (dst := d) (k := k) hN hc
  have val := fun {a b : Nat} (ha : a < N) (hb : b < N) => shift_val sm hc d hk ha hb
  refine ⟨hc', fun i j l hi hj hl => ?_, fun i hi => ?_, fun i j hi hj hij => ?_⟩
  · have v1 := val hi hj
    have v2 := val hi hl
    have v3 := val hl hj
    have t := h.tri i j l hi hj hl
    have s1 := sm i j hi hj
    have k1 := byK_small d hk i
    have k2 := byK_small d hk j
    unfold LeS at *
    omega
  · have v := val hi (nxl hN hi)
    have e := h.ev i hi
    have n := byK_nxk d k i
    have f1 := even_fin (hc.b hi (nxl hN hi))
    have f2 := even_fin (hc'.b hi (nxl hN hi))
    omega
  · have v0 := val hi hj
    have v1 := val hi (nxl hN hi)
    have v2 := val (nxl hN hj) hj
    have n1 := byK_nxk d k i
    have n2 := byK_nxk d k j
    have s := h.str i j hi hj hij
    have s0 := sm i j hi hj
    have s1 := sm i (nx i) hi (nxl hN hi)
    have s2 := sm (nx j) j (nxl hN hj) hj
    have k1 := byK_small d hk i
    have k2 := byK_small d hk j
    have e1 := h.ev i hi
    have e2 := h.ev (nx j) (nxl hN hj)
    rw [nx_nx] at e2
    have f1 := even_fin (hc.b hi (nxl hN hi))
    have f2 := even_fin (hc.b (nxl hN hj) hj)
    have b0 := bnd (hc'.b hi hj)
    have q1 := half_sum (hc.b hi (nxl hN hi)) (hc.b (nxl hN hj) hj) (sat_small (by omega) (by omega)) (G N c i (nx i) / 2) (G N c (nx j) j / 2) (fun _ => by omega) (fun _ => by omega)
    have q2 := half_sum (hc'.b hi (nxl hN hi)) (hc'.b (nxl hN hj) hj) (sat_small (by omega) (by omega)) (G N c i (nx i) / 2 + byK d k i) (G N c (nx j) j / 2 - byK d k j) (fun _ => by omega) (fun _ => by omega)
    omega
theorem shift_back (h : Cells N c) (d : Nat) {k : Int} (hk : -2147483648 ≤ k ∧ k ≤ 2147483648) (hN : N % 2 = 0) : shiftM N d (-k) (shiftM N d k c) = c := by
  have hc' := shiftM_cells (dst := d) (k := k) hN h
  refine G_ext (by rw [shiftM_len, hc'.len]) h.len fun a b ha hb => ?_
  have v := shift_val sm h d hk ha hb
  have s := sm a b ha hb
  have k1 := byK_small d hk a
  have k2 := byK_small d hk b
  have n1 := byK_neg d k a
  have n2 := byK_neg d k b
  rw [shiftM_G hc'.len ha hb, n1, n2]
  by_cases eab : a = b
  · subst eab
    rw [if_neg (by omega)]
    omega
  · by_cases e : G N c a b = 9223372036854775807
    · rw [if_neg (by omega)]; omega
    · rw [if_pos ⟨eab, by omega⟩, plus_small (by omega) (by omega)]
      omega
end
end
section
open Go.RowKit

def shE (kd v k : Int) : Edg := ⟨0, 0, kd, v, -1, 0, v, 0, -1, k⟩
theorem shE_right {n v k : Int} : rightT n (shE 4 v k) = true ↔ (0 ≤ v ∧ v < n) := by
  unfold rightT rightE shE
  simp [wDst, wArr, wOp, wA, wB, opdOk, opdNo]
  omega
theorem shE_right5 {n v k : Int} : rightT n (shE 5 v k) = true ↔ (0 ≤ v ∧ v < n) := by
  unfold rightT rightE shE
  simp [wDst, wArr, wOp, wA, wB, opdOk, opdNo]
  omega
theorem shE_err {o : O} {v k : Int} (h : transErr o (shE 4 v k) = 0) : check o = 0 ∧ 0 ≤ v ∧ v < o.n := by
  unfold transErr at h
  by_cases hc : check o = 0
  · rw [if_neg (by simp [hc])] at h
    by_cases hr : rightT o.n (shE 4 v k) = true
    · exact ⟨hc, shE_right.1 hr⟩
    · rw [if_neg hr] at h; cases h
  · rw [if_pos hc] at h; exact absurd h hc
theorem shE_err5 {o : O} {v k : Int} (h : transErr o (shE 5 v k) = 0) : check o = 0 ∧ 0 ≤ v ∧ v < o.n := by
  unfold transErr at h
  by_cases hc : check o = 0
  · rw [if_neg (by simp [hc])] at h
    by_cases hr : rightT o.n (shE 5 v k) = true
    · exact ⟨hc, shE_right5.1 hr⟩
    · rw [if_neg hr] at h; cases h
  · rw [if_pos hc] at h; exact absurd h hc
theorem shE_ok {o : O} {v k : Int} (hc : check o = 0) (h0 : 0 ≤ v) (h1 : v < o.n) : transErr o (shE 5 v k) = 0 := by
  unfold transErr
  rw [if_neg (by simp [hc]), if_pos (shE_right5.2 ⟨h0, h1⟩)]
theorem closeO_emptyO (n : Int) : closeO (emptyO n) = emptyO n := by unfold closeO emptyO; rfl

theorem shift_there_back {o : O} {v k : Int} (hs : SmallM o.m) (hk : -2147483648 ≤ k ∧ k ≤ 2147483647) (h : transErr o (shE 4 v k) = 0) :
    transErr (transAns o (shE 4 v k)) (shE 5 v k) = 0 ∧ transAns (transAns o (shE 4 v k)) (shE 5 v k) = closeO o := by
  obtain ⟨hc, v0, v1⟩ := shE_err h
  obtain ⟨d, rfl⟩ : ∃ d : Nat, v = (d : Int) := ⟨v.toNat, by omega⟩
  obtain ⟨n0, n1, _, _⟩ := check_ok hc
  obtain ⟨N, hN⟩ : ∃ N : Nat, (N : Int) = 2 * o.n := ⟨(2 * o.n).toNat, by omega⟩
  have hNt : (2 * o.n).toNat = N := by omega
  have e1 : transAns o (shE 4 d k) = transO o (shE 4 d k) := by unfold transAns; rw [if_pos h]
  rw [e1]
  clear e1 h
  rcases closeO_cases o with e | ⟨oe, ys, hM, e⟩
  · have e2 : transO o (shE 4 d k) = emptyO o.n := by unfold transO; rw [e]; rfl
    rw [e2, e]
    have h5 : transErr (emptyO o.n) (shE 5 d k) = 0 := shE_ok (o := emptyO o.n) (check_e0 ⟨n0, n1⟩) v0 v1
    refine ⟨h5, ?_⟩
    unfold transAns
    rw [if_pos h5]
    unfold transO
    rw [closeO_emptyO]
    rfl
  · rw [hNt] at hM
    obtain ⟨n, oe', m⟩ := o
    dsimp only at *
    subst oe
    have hcl := cells_of hN hc
    have hcb := check_bounds hc
    dsimp only at hcb
    obtain ⟨ns, sm⟩ := noSat_small (by omega) (by omega) hcl hcb hs hM
    have T := closeM_tight (by omega) hcl hcb hM ns
    have TS := T.shift sm (by omega) d (k := k) (by omega)
    have e2 : transO ⟨n, false, m⟩ (shE 4 d k) = ⟨n, false, shiftM N d k ys⟩ := by
      unfold transO
      rw [e]
      rw [if_neg (by simp)]
      unfold shE
      rw [edge_self (by omega) (by omega), hNt, closeO_tight hN TS]
    rw [e2, e]
    have h5 : transErr ⟨n, false, shiftM N d k ys⟩ (shE 5 d k) = 0 := shE_ok (OkO.of_cells hN (by omega) TS.cells).ok v0 v1
    refine ⟨h5, ?_⟩
    unfold transAns
    rw [if_pos h5]
    unfold transO
    rw [closeO_tight hN TS, if_neg (by simp)]
    unfold shE
    rw [edge_self5 (by omega) (by omega), hNt, shift_back sm T.cells d (by omega) (by omega), closeO_tight hN T]
end
section
open Go.RowKit
attribute [local go_sem ↓] Go.wp_at_zero Go.wp_at_succ

theorem grown3 {W : World} {g : Nat} {v0 v1 v2 : Value} : W.grownBy (((W.setCell ⟨g, 0, none⟩ v0).setCell ⟨g, 1, none⟩ v1).setCell ⟨g, 2, none⟩ v2) (some g) :=
  ((grown_setCell W ⟨g, 0, none⟩ v0).trans (grown_setCell _ ⟨g, 1, none⟩ v1)).trans (grown_setCell _ ⟨g, 2, none⟩ v2)
/-- What stood is kept, but for the row that came in. -/
def rowB (A : Option Addr) : Option Nat := A.map (·.block)
theorem Blk.kept {w w' : World} {g : Nat} {t : TypeId} {cs : Array Value} {row : Option Nat} (h : Blk w g t cs) (hg : w.grownBy w' row) (hr : row ≠ some g) : Blk w' g t cs :=
  (hg.block g h.lt (fun e => hr e.symm)).trans h
/-- The frame of a walk that changes one row in place: the row is now A1. -/
def Fr (w W : World) (A A1 : Option Addr) : Prop := (A1 = A ∨ ∀ k, rowB A1 = some k → w.heap.size ≤ k) ∧ w.grownBy W (rowB A)
section
variable {w W W' : World} {A A1 A2 : Option Addr} {g base c : Nat} {v0 v1 v2 : Value} {m : List Int}
theorem Fr.refl (w : World) (A : Option Addr) : Fr w w A A := ⟨.inl rfl, World.grownBy.refl _ _⟩
theorem Fr.size (h : Fr w W A A1) : w.heap.size ≤ W.heap.size := h.2.size
theorem Fr.below (h : Fr w W A A1) (hb : Below W.heap.size W W') : Fr w W' A A1 := ⟨h.1, h.2.trans (grown_of_below hb _)⟩
theorem Fr.call (h : Fr w W A A1) (ha : A2 = A1 ∨ ∀ k, rowB A2 = some k → W.heap.size ≤ k) (hg : W.grownBy W' (rowB A1)) : Fr w W' A A2 := by
  refine ⟨?_, h.2.andThen hg (fun j e => ?_)⟩
  · rcases ha with rfl | ha
    · exact h.1
    · exact .inr (fun k e => Nat.le_trans h.size (ha k e))
  · rcases h.1 with rfl | h1
    · exact .inr e
    · exact .inl (h1 j e)
theorem Fr.set3 (h : Fr w W A A1) (hg : w.heap.size ≤ g) : Fr w (((W.setCell ⟨g, 0, none⟩ v0).setCell ⟨g, 1, none⟩ v1).setCell ⟨g, 2, none⟩ v2) A A1 :=
  ⟨h.1, h.2.andThen grown3 (fun j e => .inl (by injection e with e; omega))⟩
theorem Fr.made (h : Fr w W A A1) (hb : Below W.heap.size W W') (hn : Own W' W.heap.size A2 c m) : Fr w W' A A2 := by
  refine ⟨.inr (fun k e => ?_), h.2.trans (grown_of_below hb _)⟩
  rcases hn.form with ⟨rfl, _⟩ | ⟨g, rfl, h1, _⟩
  · cases e
  · simp only [rowB, Option.map_some, Option.some.injEq] at e
    have := h.size
    omega
end
end
section
open Go.RowKit
attribute [local go_sem ↓] Go.wp_at_zero Go.wp_at_succ
end
section
open Go.RowKit
attribute [local go_sem ↓] Go.wp_at_zero Go.wp_at_succ
end
section
open Go.RowKit
attribute [local go_sem ↓] Go.wp_at_zero Go.wp_at_succ
end
section
open Go.RowKit
attribute [local go_sem ↓] Go.wp_at_zero Go.wp_at_succ
end
section
open Go.RowKit
attribute [local go_sem ↓] Go.wp_at_zero Go.wp_at_succ

section
variable {P : Program} {ops : Array Oper} {Q : Exit → Act → World → Prop} {S : Bool → World → Prop} {j : Nat}
end
set_option maxRecDepth 8000 in
set_option maxHeartbeats 1000000 in
theorem rclosed_ok (o : O) (ok : check o = 0) (A : Option Addr) (cap : Nat) (w : World) (hx : Rd w w.heap.size A o.m) (hm : o.m.length ≤ 17592186044416) :
    Calls Tryz.prog 64 #[.agg #[.int .i64 o.n, .bool o.e, .slice A o.m.length cap]] w (OctOwn w (closeO o)) := by
  obtain ⟨p0, p1, hb0, hsz⟩ := new_two w #[.int .i64 o.n, .bool o.e, .slice A o.m.length cap] #[.int .i64 0, .bool false, .slice none 0 0] 24 24
  have HSZ := hid hsz
  have hx0 := hx.up hb0
  have HC := hid (fun W (h : Rd W W.heap.size A o.m) => r13_any o A cap W h hm ok)
  clear hsz hx ok
  generalize closeO o = r at *
  go_enter Tryz.func64, Tryz.ntmps64
  obtain ⟨x0, x1, x2, fx⟩ := octbox p0
  go_wp2_with fail
  clear x0 x1 x2 fx
  generalize (w.alloc (Obj.cells #[.int .i64 o.n, .bool o.e, .slice A o.m.length cap] 24)).alloc (Obj.cells #[.int .i64 0, .bool false, .slice none 0 0] 24) = w0 at *
  (with_reducible refine (HC.out w0 hx0).mono ?_)
  clear HC
  rintro e1 w1 ⟨A1, c1, s1, rfl, own, hb1⟩
  replace p1 := p1.later hb1
  replace hb0 := bup hb0 hb1
  have n3 := new1 w1 (.cells #[.int .i64 r.n, .bool r.e, .slice A1 r.m.length c1] 24)
  replace p1 := p1.later n3
  replace own := own.below n3
  replace hb0 := bup hb0 n3
  obtain ⟨x0, x1, x2, fx⟩ := octbox p1
  go_wp2
  clear x0 x1 x2 fx
  have q3 := p1.set3 (v0 := .int .i64 r.n) (v1 := .bool r.e) (v2 := .slice A1 r.m.length c1)
  have o3 := own.far3 (g := w.heap.size + 1) (v0 := .int .i64 r.n) (v1 := .bool r.e) (v2 := .slice A1 r.m.length c1) (own_blk' own p1 (by decide))
  obtain ⟨z0, z1, z2, fz⟩ := octbox q3
  refine bodyPost_ret (v := .agg #[.int .i64 r.n, .bool r.e, .slice A1 r.m.length c1]) (by simp [results, Tryz.results64, go_sem, z0, z1, z2]) rfl ⟨A1, c1, rfl, o3.less (show w.heap.size ≤ w0.heap.size by have := HSZ.out; omega), hb0.trans (below3 (by omega) hb0.size)⟩
end
section
open Go.RowKit
attribute [local go_sem ↓] Go.wp_at_zero Go.wp_at_succ

set_option maxRecDepth 8000 in
set_option maxHeartbeats 4000000 in
theorem rnop_ok (o : O) (ok : check o = 0) (fr te dst arr op av an bv bn : Int) (A : Option Addr) (cap : Nat) (w : World) (hx : Rd w w.heap.size A o.m) (hm : o.m.length ≤ 17592186044416) :
    Calls Tryz.prog 29 #[.agg #[.int .i64 o.n, .bool o.e, .slice A o.m.length cap], .agg #[.int .i64 fr, .int .i64 te, .int .i64 1, .int .i64 dst, .int .i64 arr, .int .i64 op, .int .i64 av, .int .i64 an, .int .i64 bv, .int .i64 bn]] w (OctOwn w (closeO o)) := by
  have HC := hid (fun W (h : Rd W W.heap.size A o.m) => rclosed_ok o ok A cap W h hm)
  generalize closeO o = C at *
  obtain ⟨p0, p1, p2, hb0, hsz⟩ := new_three w #[.int .i64 o.n, .bool o.e, .slice A o.m.length cap] #[.int .i64 fr, .int .i64 te, .int .i64 1, .int .i64 dst, .int .i64 arr, .int .i64 op, .int .i64 av, .int .i64 an, .int .i64 bv, .int .i64 bn] #[.int .i64 0, .bool false, .slice none 0 0] 24 44 24
  replace hx := hx.up hb0
  clear hsz
  go_enter Tryz.func29, Tryz.ntmps29
  obtain ⟨p0_0, p0_1, p0_2, p0_f⟩ := octbox p0
  go_wp2_with fail
  clear p0_0 p0_1 p0_2 p0_f
  generalize ((w.alloc (Obj.cells #[.int .i64 o.n, .bool o.e, .slice A o.m.length cap] 24)).alloc (Obj.cells #[.int .i64 fr, .int .i64 te, .int .i64 1, .int .i64 dst, .int .i64 arr, .int .i64 op, .int .i64 av, .int .i64 an, .int .i64 bv, .int .i64 bn] 44)).alloc (Obj.cells #[.int .i64 0, .bool false, .slice none 0 0] 24) = w1 at *
  (with_reducible refine (HC.out w1 hx).mono ?_)
  rintro e_w2 w2 ⟨A1, c1, rfl, own, hb_w2⟩
  replace own := own.less hb0.size
  clear hx HC
  replace p0 := p0.later hb_w2
  replace p1 := p1.later hb_w2
  replace p2 := p2.later hb_w2
  replace hb0 := bup hb0 hb_w2
  clear hb_w2
  obtain ⟨p5, hbn, -⟩ := new_one w2 #[.int .i64 C.n, .bool C.e, .slice A1 C.m.length c1] 24
  replace p0 := p0.later hbn
  replace p1 := p1.later hbn
  replace p2 := p2.later hbn
  replace own := own.below hbn
  replace hb0 := bup hb0 hbn
  obtain ⟨n, e, m⟩ := C
  dsimp only at *
  cases e
  · obtain ⟨p5_0, p5_1, p5_2, p5_f⟩ := octbox p5
    obtain ⟨p1_0, p1_1, p1_2, p1_3, p1_4, p1_5, p1_6, p1_7, p1_8, p1_9, p1_f⟩ := edgbox p1
    obtain ⟨p2_0, p2_1, p2_2, p2_f⟩ := octbox p2
    go_wp2
    clear p5_0 p5_1 p5_2 p5_f p1_0 p1_1 p1_2 p1_3 p1_4 p1_5 p1_6 p1_7 p1_8 p1_9 p1_f p2_0 p2_1 p2_2 p2_f
    have o9 := own.far3 (g := w.heap.size + 1 + 1) (v0 := .int .i64 n) (v1 := .bool false) (v2 := .slice A1 m.length c1) (own_blk' own p2 (by decide))
    have q9 := p2.set3 (v0 := .int .i64 n) (v1 := .bool false) (v2 := .slice A1 m.length c1)
    have hb9 := hb0.trans (below3 (W := w2.alloc (Obj.cells #[.int .i64 n, .bool false, .slice A1 m.length c1] 24)) (g := w.heap.size + 1 + 1) (v0 := .int .i64 n) (v1 := .bool false) (v2 := .slice A1 m.length c1) (by omega) hb0.size)
    obtain ⟨z0, z1, z2, fz⟩ := octbox q9
    refine bodyPost_ret (v := .agg #[.int .i64 n, .bool false, .slice A1 m.length c1]) (by simp [results, Tryz.results29, go_sem, z0, z1, z2]) rfl ?_
    exact ⟨_, _, rfl, o9, hb9⟩
  · obtain ⟨p5_0, p5_1, p5_2, p5_f⟩ := octbox p5
    obtain ⟨p1_0, p1_1, p1_2, p1_3, p1_4, p1_5, p1_6, p1_7, p1_8, p1_9, p1_f⟩ := edgbox p1
    obtain ⟨p2_0, p2_1, p2_2, p2_f⟩ := octbox p2
    go_wp2
    clear p5_0 p5_1 p5_2 p5_f p1_0 p1_1 p1_2 p1_3 p1_4 p1_5 p1_6 p1_7 p1_8 p1_9 p1_f p2_0 p2_1 p2_2 p2_f
    have o9 := own.far3 (g := w.heap.size + 1 + 1) (v0 := .int .i64 n) (v1 := .bool true) (v2 := .slice A1 m.length c1) (own_blk' own p2 (by decide))
    have q9 := p2.set3 (v0 := .int .i64 n) (v1 := .bool true) (v2 := .slice A1 m.length c1)
    have hb9 := hb0.trans (below3 (W := w2.alloc (Obj.cells #[.int .i64 n, .bool true, .slice A1 m.length c1] 24)) (g := w.heap.size + 1 + 1) (v0 := .int .i64 n) (v1 := .bool true) (v2 := .slice A1 m.length c1) (by omega) hb0.size)
    obtain ⟨z0, z1, z2, fz⟩ := octbox q9
    refine bodyPost_ret (v := .agg #[.int .i64 n, .bool true, .slice A1 m.length c1]) (by simp [results, Tryz.results29, go_sem, z0, z1, z2]) rfl ?_
    exact ⟨_, _, rfl, o9, hb9⟩
end
end Go.Proofs.YtnmpgijiimglcaaGreat
