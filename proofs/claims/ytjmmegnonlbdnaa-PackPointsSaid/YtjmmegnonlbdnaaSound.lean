/-
  A point of an octagon is one of the octagon closed. Plain.
-/
import Derived.Test.YtjmmegnonlbdnaaCloseOk
namespace Go.Proofs.Ytjmmegnonlbdnaa
open Go.RowKit

/-- A point's number on a side. -/
def sideX (x : List Int) (i : Nat) : Int := if i % 2 = 0 then gI x ((i / 2 : Nat) : Int) else -gI x ((i / 2 : Nat) : Int)
theorem sideX_nx (x : List Int) (i : Nat) : sideX x (nx i) = -sideX x i := by
  unfold sideX nx
  by_cases h : i % 2 = 0
  · rw [if_pos h, if_pos h, if_neg (by omega), show (i + 1) / 2 = i / 2 by omega]
  · rw [if_neg h, if_neg h, if_pos (by omega), show (i - 1) / 2 = i / 2 by omega, Int.neg_neg]
/-- How far a point's sides are apart. -/
def apartX (x : List Int) (i j : Nat) : Int := sideX x i - sideX x j
/-- A bound lets a number be. -/
def Lets (c d : Int) : Prop := c = 9223372036854775807 ∨ d ≤ c
/-- The matrix has the point. -/
def HasM (N : Nat) (m x : List Int) : Prop := ∀ i j : Nat, i < N → j < N → Lets (G N m i j) (apartX x i j)

theorem bndS {a : Int} (h : isBound a = true) : a = 9223372036854775807 ∨ (-4611686018427387904 ≤ a ∧ a ≤ 4611686018427387904) := by
  unfold isBound at h; exact of_decide_eq_true h
theorem lets_min {a b d : Int} (h : Lets a d) (k : Lets b d) (ha : isBound a = true) (hb : isBound b = true) : Lets (min a b) d := by
  have := bndS ha
  have := bndS hb
  unfold Lets at *; omega
theorem lets_near {s d : Int} (h : d ≤ s) : Lets (near s) d := by
  unfold Lets near
  split
  · omega
  · split <;> omega
theorem lets_plus {a b d e : Int} (ha : isBound a = true) (hb : isBound b = true) (h : Lets a d) (k : Lets b e) : Lets (plus a b) (d + e) := by
  have h1 := near_of ha
  have h2 := near_of hb
  unfold plus
  rw [h1, h2]
  split
  · exact .inl rfl
  · unfold Lets at h k
    exact lets_near (by omega)
theorem lets_even {a d : Int} (ha : isBound a = true) (h : Lets a (2 * d)) : Lets (even a) (2 * d) := by
  have h1 := near_of ha
  unfold even Lets at *
  rw [h1]
  split <;> omega
theorem lets_half {a d : Int} (ha : isBound a = true) (h : Lets a (2 * d)) : Lets (half a) d := by
  have h1 := near_of ha
  unfold half Lets at *
  rw [h1]
  split <;> omega

section
variable {N : Nat} {xs x : List Int}
theorem HasM.set (hl : xs.length = N * N) (h : HasM N xs x) {i j : Nat} (hi : i < N) (hj : j < N) {v : Int} (hv : Lets v (apartX x i j)) : HasM N (xs.set (i * N + j) v) x := fun a b ha hb => by
  rw [G_set hl hi hj v hb]
  split
  · rename_i e; rw [e.1, e.2]; exact hv
  · exact h a b ha hb
/-- A step that keeps the size, the bounds, the point. -/
def Keeps (N : Nat) (x xs ys : List Int) : Prop := xs.length = N * N → AllB xs → HasM N xs x → ys.length = N * N ∧ AllB ys ∧ HasM N ys x
theorem Keeps.rep {f : Nat → List Int → List Int} : ∀ (t : Nat) (_ : ∀ i zs, i < t → Keeps N x zs (f i zs)) (zs : List Int), Keeps N x zs (rep f t zs)
  | 0, _, _, hl, hb, hx => ⟨hl, hb, hx⟩
  | t + 1, hf, zs, hl, hb, hx => by
    obtain ⟨h1, h2, h3⟩ := Keeps.rep t (fun i zs hi => hf i zs (by omega)) zs hl hb hx
    exact hf t _ (by omega) h1 h2 h3
theorem pStep_keeps {k i j : Nat} (hk : k < N) (hi : i < N) (hj : j < N) (zs : List Int) : Keeps N x zs (pStep N k i j zs) := fun hl hb hx => by
  have h1 := pStep_low N k i j zs
  refine ⟨h1.len.trans hl, h1.all hb, hx.set hl hi hj (lets_min (hx i j hi hj) ?_ (hb _) (isBound_plus _ _))⟩
  have := lets_plus (hb (i * N + k)) (hb (k * N + j)) (hx i k hi hk) (hx k j hk hj)
  have e : apartX x i k + apartX x k j = apartX x i j := by unfold apartX; omega
  rwa [e] at this
theorem paths_keeps (zs : List Int) : Keeps N x zs (paths N N zs) :=
  Keeps.rep N (fun _k zs hk => Keeps.rep N (fun _i zs hi => Keeps.rep N (fun _j zs hj => pStep_keeps hk hi hj zs) zs) zs) zs
theorem apartX_nx (x : List Int) (i j : Nat) : apartX x (nx j) (nx i) = apartX x i j := by unfold apartX; rw [sideX_nx, sideX_nx]; omega
theorem mStep_keeps (hN : N % 2 = 0) {i j : Nat} (hi : i < N) (hj : j < N) (zs : List Int) : Keeps N x zs (mStep N i j zs) := fun hl hb hx => by
  have h1 := mStep_low N i j zs
  have k1 := hx i j hi hj
  have k2 := hx (nx j) (nx i) (nxl hN hj) (nxl hN hi)
  rw [apartX_nx] at k2
  have k3 := lets_min k1 k2 (hb _) (hb _)
  refine ⟨h1.len.trans hl, h1.all hb, (hx.set hl hi hj k3).set (by rw [List.length_set]; exact hl) (nxl hN hj) (nxl hN hi) (by rw [apartX_nx]; exact k3)⟩
theorem mirrors_keeps (hN : N % 2 = 0) (zs : List Int) : Keeps N x zs (mirrors N N zs) :=
  Keeps.rep N (fun _i zs hi => Keeps.rep N (fun _j zs hj => mStep_keeps hN hi hj zs) zs) zs
theorem apartX_two (x : List Int) (i : Nat) : apartX x i (nx i) = 2 * sideX x i := by unfold apartX; rw [sideX_nx]; omega
theorem eStep_keeps (hN : N % 2 = 0) {i : Nat} (hi : i < N) (zs : List Int) : Keeps N x zs (eStep N i zs) := fun hl hb hx => by
  have h1 := eStep_low N i zs
  have k1 := hx i (nx i) hi (nxl hN hi)
  rw [apartX_two] at k1
  exact ⟨h1.len.trans hl, h1.all hb, hx.set hl hi (nxl hN hi) (by rw [apartX_two]; exact lets_even (hb _) k1)⟩
theorem evens_keeps (hN : N % 2 = 0) (zs : List Int) : Keeps N x zs (evens N N zs) := Keeps.rep N (fun _i zs hi => eStep_keeps hN hi zs) zs
theorem sStep_keeps (hN : N % 2 = 0) {i j : Nat} (hi : i < N) (hj : j < N) (zs : List Int) : Keeps N x zs (sStep N i j zs) := fun hl hb hx => by
  have h1 := sStep_low N i j zs
  refine ⟨h1.len.trans hl, h1.all hb, ?_⟩
  unfold sStep
  split
  · exact hx
  · refine hx.set hl hi hj (lets_min (hx i j hi hj) (lets_half (isBound_plus _ _) ?_) (hb _) (isBound_half _))
    have k1 := hx i (nx i) hi (nxl hN hi)
    have k2 := hx (nx j) j (nxl hN hj) hj
    have := lets_plus (hb (i * N + nx i)) (hb (nx j * N + j)) k1 k2
    have e : apartX x i (nx i) + apartX x (nx j) j = 2 * apartX x i j := by unfold apartX; rw [sideX_nx, sideX_nx]; omega
    rwa [e] at this
theorem strengthens_keeps (hN : N % 2 = 0) (zs : List Int) : Keeps N x zs (strengthens N N zs) :=
  Keeps.rep N (fun _i zs hi => Keeps.rep N (fun _j zs hj => sStep_keeps hN hi hj zs) zs) zs
theorem negs_has (hx : HasM N xs x) : ∀ t, t ≤ N → negs N xs t = false
  | 0, _ => rfl
  | t + 1, ht => by
    unfold negs
    rw [negs_has hx t (by omega), Bool.false_or, decide_eq_false_iff_not]
    have := hx t t (by omega) (by omega)
    unfold Lets apartX G at this
    omega
theorem sideNegs_has (hN : N % 2 = 0) (hb : AllB xs) (hx : HasM N xs x) : ∀ t, t ≤ N → sideNegs N xs t = false
  | 0, _ => rfl
  | t + 1, ht => by
    unfold sideNegs
    rw [sideNegs_has hN hb hx t (by omega), Bool.or_false, decide_eq_false_iff_not]
    have h1 := hx t (nx t) (by omega) (nxl hN (by omega))
    have h2 := hx (nx t) t (nxl hN (by omega)) (by omega)
    have := lets_plus (hb (t * N + nx t)) (hb (nx t * N + t)) h1 h2
    have e : apartX x t (nx t) + apartX x (nx t) t = 0 := by unfold apartX; omega
    rw [e] at this
    unfold Lets at this
    omega
/-- The points stay. -/
theorem closeM_has (hN : N % 2 = 0) (hl : xs.length = N * N) (hb : AllB xs) (hx : HasM N xs x) : ∃ ys, closeM N xs = some ys ∧ HasM N ys x := by
  obtain ⟨l1, b1, x1⟩ := paths_keeps (x := x) xs hl hb hx
  obtain ⟨l2, b2, x2⟩ := mirrors_keeps hN (x := x) _ l1 b1 x1
  obtain ⟨l3, b3, x3⟩ := evens_keeps hN (x := x) _ l2 b2 x2
  obtain ⟨_, _, x4⟩ := strengthens_keeps hN (x := x) _ l3 b3 x3
  unfold closeM
  rw [negs_has x2 N (Nat.le_refl _), sideNegs_has hN b3 x3 N (Nat.le_refl _)]
  exact ⟨_, rfl, x4⟩
end

/-- An octagon that may be has a point. -/
def HasO (o : O) (x : List Int) : Prop := o.e = false ∧ (x.length : Int) = o.n ∧ HasM (2 * o.n).toNat o.m x
theorem closeO_has {o : O} {x : List Int} (hc : check o = 0) (h : HasO o x) : HasO (closeO o) x := by
  obtain ⟨he, hl, hx⟩ := h
  obtain ⟨n, e, m⟩ := o
  dsimp only at *
  subst he
  obtain ⟨h0, h1, _, _⟩ := check_ok hc
  dsimp only at h0 h1
  obtain ⟨N, hN⟩ : ∃ N : Nat, (N : Int) = 2 * n := ⟨(2 * n).toNat, by omega⟩
  have hNt : (2 * n).toNat = N := by omega
  rw [hNt] at hx
  have cs := cells_of hN hc
  obtain ⟨ys, hy, hx'⟩ := closeM_has (by omega) cs.len (check_bounds hc) hx
  rw [closeO_some (by rw [hNt]; exact hy)]
  exact ⟨rfl, hl, by dsimp only; rw [hNt]; exact hx'⟩
end Go.Proofs.Ytjmmegnonlbdnaa
