/-
  A point of an octagon is one of the octagon closed. Plain.
  A point that takes an edge is one of what is known behind it. Plain.
-/
import Derived.Test.YtnmpgijiimglcaaGreatBUA08
import Derived.Test.YtnmpgijiimglcaaGreatBUA12
namespace Go.Proofs.YtnmpgijiimglcaaGreat
section
open Go.RowKit

/-- A point's number on a side. -/
def sideX (x : List Int) (i : Nat) : Int := if i % 2 = 0 then gI x ((i / 2 : Nat) : Int) else -gI x ((i / 2 : Nat) : Int)
theorem sideX_nx (x : List Int) (i : Nat) : sideX x (nx i) = -sideX x i := by
  unfold sideX nx
  by_cases h : i % 2 = 0
  · rw [if_pos h, if_pos h, if_neg (by omega), show (i + 1) / 2 = i / 2 by omega]
  · rw [if_neg h, if_neg h, if_pos (by omega), show (i - 1) / 2 = i / 2 by omega, Int.neg_neg]
/-- How far a point's sides are apart. -/
def apartX (x : List Int) (i j : Nat) : Int := sideX x i - sideX x j
/-- A bound lets a number be. -/
def Lets (c d : Int) : Prop := c = 9223372036854775807 ∨ d ≤ c
/-- The matrix has the point. -/
def HasM (N : Nat) (m x : List Int) : Prop := ∀ i j : Nat, i < N → j < N → Lets (G N m i j) (apartX x i j)

theorem bndS {a : Int} (h : isBound a = true) : a = 9223372036854775807 ∨ (-4611686018427387904 ≤ a ∧ a ≤ 4611686018427387904) := by
  unfold isBound at h; exact of_decide_eq_true h
theorem lets_min {a b d : Int} (h : Lets a d) (k : Lets b d) (ha : isBound a = true) (hb : isBound b = true) : Lets (min a b) d := by
  have := bndS ha
  have := bndS hb
  unfold Lets at *; omega
theorem lets_near {s d : Int} (h : d ≤ s) : Lets (near s) d := by
  unfold Lets near
  split
  · omega
  · split <;> omega
theorem lets_plus {a b d e : Int} (ha : isBound a = true) (hb : isBound b = true) (h : Lets a d) (k : Lets b e) : Lets (plus a b) (d + e) := by
  have h1 := near_of ha
  have h2 := near_of hb
  unfold plus
  rw [h1, h2]
  split
  · exact .inl rfl
  · unfold Lets at h k
    exact lets_near (by omega)
theorem lets_even {a d : Int} (ha : isBound a = true) (h : Lets a (2 * d)) : Lets (even a) (2 * d) := by
  have h1 := near_of ha
  unfold even Lets at *
  rw [h1]
  split <;> omega
theorem lets_half {a d : Int} (ha : isBound a = true) (h : Lets a (2 * d)) : Lets (half a) d := by
  have h1 := near_of ha
  unfold half Lets at *
  rw [h1]
  split <;> omega

section
variable {N : Nat} {xs x : List Int}
theorem HasM.set (hl : xs.length = N * N) (h : HasM N xs x) {i j : Nat} (hi : i < N) (hj : j < N) {v : Int} (hv : Lets v (apartX x i j)) : HasM N (xs.set (i * N + j) v) x := fun a b ha hb => by
  rw [G_set hl hi hj v hb]
  split
  · rename_i e; rw [e.1, e.2]; exact hv
  · exact h a b ha hb
/-- A step that keeps the size, the bounds, the point. -/
def Keeps (N : Nat) (x xs ys : List Int) : Prop := xs.length = N * N → AllB xs → HasM N xs x → ys.length = N * N ∧ AllB ys ∧ HasM N ys x
theorem Keeps.rep {f : Nat → List Int → List Int} : ∀ (t : Nat) (_ : ∀ i zs, i < t → Keeps N x zs (f i zs)) (zs : List Int), Keeps N x zs (rep f t zs)
  | 0, _, _, hl, hb, hx => ⟨hl, hb, hx⟩
  | t + 1, hf, zs, hl, hb, hx => by
    obtain ⟨h1, h2, h3⟩ := Keeps.rep t (fun i zs hi => hf i zs (by omega)) zs hl hb hx
    exact hf t _ (by omega) h1 h2 h3
theorem pStep_keeps {k i j : Nat} (hk : k < N) (hi : i < N) (hj : j < N) (zs : List Int) : Keeps N x zs (pStep N k i j zs) := fun hl hb hx => by
  have h1 := pStep_low N k i j zs
  refine ⟨h1.len.trans hl, h1.all hb, hx.set hl hi hj (lets_min (hx i j hi hj) ?_ (hb _) (isBound_plus _ _))⟩
  have := lets_plus (hb (i * N + k)) (hb (k * N + j)) (hx i k hi hk) (hx k j hk hj)
  have e : apartX x i k + apartX x k j = apartX x i j := by unfold apartX; omega
  rwa [e] at this
theorem paths_keeps (zs : List Int) : Keeps N x zs (paths N N zs) :=
  Keeps.rep N (fun _k zs hk => Keeps.rep N (fun _i zs hi => Keeps.rep N (fun _j zs hj => pStep_keeps hk hi hj zs) zs) zs) zs
theorem apartX_nx (x : List Int) (i j : Nat) : apartX x (nx j) (nx i) = apartX x i j := by unfold apartX; rw [sideX_nx, sideX_nx]; omega
theorem mStep_keeps (hN : N % 2 = 0) {i j : Nat} (hi : i < N) (hj : j < N) (zs : List Int) : Keeps N x zs (mStep N i j zs) := fun hl hb hx => by
  have h1 := mStep_low N i j zs
  have k1 := hx i j hi hj
  have k2 := hx (nx j) (nx i) (nxl hN hj) (nxl hN hi)
  rw [apartX_nx] at k2
  have k3 := lets_min k1 k2 (hb _) (hb _)
  refine ⟨h1.len.trans hl, h1.all hb, (hx.set hl hi hj k3).set (by rw [List.length_set]; exact hl) (nxl hN hj) (nxl hN hi) (by rw [apartX_nx]; exact k3)⟩
theorem mirrors_keeps (hN : N % 2 = 0) (zs : List Int) : Keeps N x zs (mirrors N N zs) :=
  Keeps.rep N (fun _i zs hi => Keeps.rep N (fun _j zs hj => mStep_keeps hN hi hj zs) zs) zs
theorem apartX_two (x : List Int) (i : Nat) : apartX x i (nx i) = 2 * sideX x i := by unfold apartX; rw [sideX_nx]; omega
theorem eStep_keeps (hN : N % 2 = 0) {i : Nat} (hi : i < N) (zs : List Int) : Keeps N x zs (eStep N i zs) := fun hl hb hx => by
  have h1 := eStep_low N i zs
  have k1 := hx i (nx i) hi (nxl hN hi)
  rw [apartX_two] at k1
  exact ⟨h1.len.trans hl, h1.all hb, hx.set hl hi (nxl hN hi) (by rw [apartX_two]; exact lets_even (hb _) k1)⟩
theorem evens_keeps (hN : N % 2 = 0) (zs : List Int) : Keeps N x zs (evens N N zs) := Keeps.rep N (fun _i zs hi => eStep_keeps hN hi zs) zs
theorem sStep_keeps (hN : N % 2 = 0) {i j : Nat} (hi : i < N) (hj : j < N) (zs : List Int) : Keeps N x zs (sStep N i j zs) := fun hl hb hx => by
  have h1 := sStep_low N i j zs
  refine ⟨h1.len.trans hl, h1.all hb, ?_⟩
  unfold sStep
  split
  · exact hx
  · refine hx.set hl hi hj (lets_min (hx i j hi hj) (lets_half (isBound_plus _ _) ?_) (hb _) (isBound_half _))
    have k1 := hx i (nx i) hi (nxl hN hi)
    have k2 := hx (nx j) j (nxl hN hj) hj
    have := lets_plus (hb (i * N + nx i)) (hb (nx j * N + j)) k1 k2
    have e : apartX x i (nx i) + apartX x (nx j) j = 2 * apartX x i j := by unfold apartX; rw [sideX_nx, sideX_nx]; omega
    rwa [e] at this
theorem strengthens_keeps (hN : N % 2 = 0) (zs : List Int) : Keeps N x zs (strengthens N N zs) :=
  Keeps.rep N (fun _i zs hi => Keeps.rep N (fun _j zs hj => sStep_keeps hN hi hj zs) zs) zs
theorem negs_has (hx : HasM N xs x) : ∀ t, t ≤ N → negs N xs t = false
  | 0, _ => rfl
  | t + 1, ht => by
    unfold negs
    rw [negs_has hx t (by omega), Bool.false_or, decide_eq_false_iff_not]
    have := hx t t (by omega) (by omega)
    unfold Lets apartX G at this
    omega
theorem sideNegs_has (hN : N % 2 = 0) (hb : AllB xs) (hx : HasM N xs x) : ∀ t, t ≤ N → sideNegs N xs t = false
  | 0, _ => rfl
  | t + 1, ht => by
    unfold sideNegs
    rw [sideNegs_has hN hb hx t (by omega), Bool.or_false, decide_eq_false_iff_not]
    have h1 := hx t (nx t) (by omega) (nxl hN (by omega))
    have h2 := hx (nx t) t (nxl hN (by omega)) (by omega)
    have := lets_plus (hb (t * N + nx t)) (hb (nx t * N + t)) h1 h2
    have e : apartX x t (nx t) + apartX x (nx t) t = 0 := by unfold apartX; omega
    rw [e] at this
    unfold Lets at this
    omega
/-- The points stay. -/
theorem closeM_has (hN : N % 2 = 0) (hl : xs.length = N * N) (hb : AllB xs) (hx : HasM N xs x) : ∃ ys, closeM N xs = some ys ∧ HasM N ys x := by
  obtain ⟨l1, b1, x1⟩ := paths_keeps (x := x) xs hl hb hx
  obtain ⟨l2, b2, x2⟩ := mirrors_keeps hN (x := x) _ l1 b1 x1
  obtain ⟨l3, b3, x3⟩ := evens_keeps hN (x := x) _ l2 b2 x2
  obtain ⟨_, _, x4⟩ := strengthens_keeps hN (x := x) _ l3 b3 x3
  unfold closeM
  rw [negs_has x2 N (Nat.le_refl _), sideNegs_has hN b3 x3 N (Nat.le_refl _)]
  exact ⟨_, rfl, x4⟩
end

/-- An octagon that may be has a point. -/
def HasO (o : O) (x : List Int) : Prop := o.e = false ∧ (x.length : Int) = o.n ∧ HasM (2 * o.n).toNat o.m x
theorem closeO_has {o : O} {x : List Int} (hc : check o = 0) (h : HasO o x) : HasO (closeO o) x := by
  obtain ⟨he, hl, hx⟩ := h
  obtain ⟨n, e, m⟩ := o
  dsimp only at *
  subst he
  obtain ⟨h0, h1, _, _⟩ := check_ok hc
  dsimp only at h0 h1
  obtain ⟨N, hN⟩ : ∃ N : Nat, (N : Int) = 2 * n := ⟨(2 * n).toNat, by omega⟩
  have hNt : (2 * n).toNat = N := by omega
  rw [hNt] at hx
  have cs := cells_of hN hc
  obtain ⟨ys, hy, hx'⟩ := closeM_has (by omega) cs.len (check_bounds hc) hx
  rw [closeO_some (by rw [hNt]; exact hy)]
  exact ⟨rfl, hl, by dsimp only; rw [hNt]; exact hx'⟩
end
section
open Go.RowKit

theorem sideX_even (x : List Int) (v : Nat) : sideX x (2 * v) = gI x (v : Int) := by
  unfold sideX; rw [if_pos (by omega), show 2 * v / 2 = v by omega]
theorem sideX_odd (x : List Int) (v : Nat) : sideX x (2 * v + 1) = -gI x (v : Int) := by
  unfold sideX; rw [if_neg (by omega), show (2 * v + 1) / 2 = v by omega]
theorem sideX_far (x : List Int) (d : Nat) (u : Int) {i : Nat} (h : i / 2 ≠ d) : sideX (x.set d u) i = sideX x i := by
  have e : gI (x.set d u) ((i / 2 : Nat) : Int) = gI x ((i / 2 : Nat) : Int) := by rw [gI_set, if_neg (fun q => h q.1)]
  unfold sideX; rw [e]
theorem gI_at (x : List Int) (d : Nat) (u : Int) (h : d < x.length) : gI (x.set d u) (d : Int) = u := by rw [gI_set, if_pos ⟨rfl, h⟩]

section
variable {n : Int} {o : O} {x : List Int}
theorem HasO.form (h : HasO o x) (ok : OkO n o) : ∃ (N : Nat) (m : List Int), (N : Int) = 2 * n ∧ N ≤ 128 ∧ o = ⟨n, false, m⟩ ∧ Cells N m ∧ HasM N m x ∧ (x.length : Int) = n := by
  rcases ok.form with rfl | ⟨N, m, hN, hn, rfl, hc⟩
  · exact absurd h.1 (by simp [emptyO])
  · have := h.2.2
    dsimp only at this
    rw [show (2 * n).toNat = N by omega] at this
    exact ⟨N, m, hN, hn, rfl, hc, this, h.2.1⟩
theorem HasO.mk_ {N : Nat} {m : List Int} (hN : (N : Int) = 2 * n) (hx : HasM N m x) (hl : (x.length : Int) = n) : HasO ⟨n, false, m⟩ x :=
  ⟨rfl, hl, by dsimp only; rw [show (2 * n).toNat = N by omega]; exact hx⟩
theorem HasO.with_ (h : HasO o x) (ok : OkO n o) {i j : Nat} (hi : (i : Int) < 2 * n) (hj : (j : Int) < 2 * n) {c : Int} (hc : Lets (near c) (apartX x i j)) : HasO (withO o i j c) x := by
  obtain ⟨N, m, hN, hn, rfl, hm, hx, hl⟩ := h.form ok
  unfold withO
  rw [if_neg (by simp)]
  by_cases hij : i = j
  · subst hij
    rw [if_pos rfl]
    have e : apartX x i i = 0 := by unfold apartX; omega
    rw [e] at hc
    rw [if_neg (by unfold Lets near at hc; repeat' split at hc
                   all_goals omega)]
    exact h
  · rw [if_neg hij]
    dsimp only
    rw [show (2 * n).toNat = N by omega]
    refine HasO.mk_ hN (fun a b ha hb => ?_) hl
    rw [boundM_G (by omega) hm.len (by omega) (by omega) c ha hb]
    split
    · have k : Lets (min (G N m i j) (near c)) (apartX x i j) := lets_min (hx i j (by omega) (by omega)) hc (hm.bd i j (by omega) (by omega)) (isBound_near _)
      rename_i e
      rcases e with ⟨rfl, rfl⟩ | ⟨rfl, rfl⟩
      · exact k
      · rw [apartX_nx]; exact k
    · exact hx a b ha hb
theorem HasO.close_ (h : HasO o x) (ok : OkO n o) : HasO (closeO o) x := closeO_has ok.ok h
theorem HasO.forget (h : HasO o x) (ok : OkO n o) (v : Nat) (u : Int) : HasO (forgetO o v) (x.set v u) := by
  obtain ⟨N, m, hN, hn, e, hm, hx, hl⟩ := (h.close_ ok).form ok.close
  unfold forgetO
  rw [e, if_neg (by simp)]
  rw [ok.n_]
  dsimp only
  rw [show (2 * n).toNat = N by omega]
  refine HasO.mk_ hN (fun a b ha hb => ?_) (by rw [List.length_set]; exact hl)
  rw [forgetM_G hm.len ha hb]
  split
  · exact .inl rfl
  · rename_i q
    by_cases eab : a = b
    · subst eab
      have := hx a a ha hb
      unfold apartX at *
      rw [show sideX (x.set v u) a - sideX (x.set v u) a = sideX x a - sideX x a by omega]
      exact this
    · unfold apartX
      rw [sideX_far _ _ _ (fun k => q ⟨eab, .inl k⟩), sideX_far _ _ _ (fun k => q ⟨eab, .inr k⟩)]
      exact hx a b ha hb
/-- A range has a number. -/
def InR (r : Rg) (u : Int) : Prop := (r.hl = true → r.lo ≤ u) ∧ (r.hh = true → u ≤ r.hi)
theorem lets_twice {u hi : Int} (h : u ≤ hi) : Lets (near (twiceB hi)) (2 * u) := by
  unfold twiceB
  split
  · exact .inl (by decide)
  · split
    · exact lets_near (by omega)
    · exact lets_near (by omega)
theorem lets_twice_neg {u lo : Int} (h : lo ≤ u) : Lets (near (twiceB (negB lo))) (2 * -u) := by
  unfold negB
  split
  · exact .inl (by decide)
  · exact lets_twice (by omega)
theorem HasO.ranged (h : HasO o x) (ok : OkO n o) {v : Nat} (hv : (v : Int) < n) {r : Rg} (hr : InR r (gI x (v : Int))) : HasO (rangedO o v r) x := by
  have h1 : HasO (hiO o v r) x := by
    unfold hiO
    split
    · rename_i q
      refine h.with_ ok (by omega) (by omega) ?_
      have e : apartX x (2 * v) (2 * v + 1) = 2 * gI x (v : Int) := by unfold apartX; rw [sideX_even, sideX_odd]; omega
      rw [e]
      exact lets_twice (hr.2 q)
    · exact h
  unfold rangedO
  split
  · rename_i q
    refine h1.with_ (ok.hi_ hv r) (by omega) (by omega) ?_
    have e : apartX x (2 * v + 1) (2 * v) = 2 * -gI x (v : Int) := by unfold apartX; rw [sideX_even, sideX_odd]; omega
    rw [e]
    exact lets_twice_neg (hr.1 q)
  · exact h1
theorem HasO.give (h : HasO o x) (ok : OkO n o) {v : Nat} (hv : (v : Int) < n) {r : Rg} {u : Int} (hr : InR r u) : HasO (giveO o v r) (x.set v u) := by
  have hlen : (x.length : Int) = n := h.2.1.trans ok.n_
  have hk := h.forget ok v u
  refine (hk.ranged (ok.forget v) hv ?_).close_ ((ok.forget v).ranged hv r)
  rw [gI_at _ _ _ (by omega)]
  exact hr
end
def opdX (x : List Int) (v n : Int) : Int := if 0 ≤ v then gI x v else n
section
variable {n : Int} {o : O} {x : List Int}
/-- a at most b: the point stays. -/
theorem HasO.atMost (h : HasO o x) (ok : OkO n o) {av an bv bn : Int} {s : Bool} (ha : av < n) (hb : bv < n) (hab : 0 ≤ av ∨ 0 ≤ bv) (ia : -9223372036854775808 ≤ opdX x av an ∧ opdX x av an ≤ 9223372036854775807) (ib : -9223372036854775808 ≤ opdX x bv bn ∧ opdX x bv bn ≤ 9223372036854775807)
    (hc : opdX x av an ≤ opdX x bv bn + lessD s) : HasO (atMostO o av an bv bn s) x := by
  unfold opdX lessD at *
  unfold atMostO lessD
  by_cases h1 : 0 ≤ av
  · rw [if_pos h1] at *
    by_cases h2 : 0 ≤ bv
    · rw [if_pos h2] at *
      split
      · rename_i e
        subst e
        cases s with
        | true => simp at hc; omega
        | false => exact h
      · refine h.with_ ok (by omega) (by omega) ?_
        have e : apartX x (2 * av.toNat) (2 * bv.toNat) = gI x av - gI x bv := by unfold apartX; rw [sideX_even, sideX_even, Int.toNat_of_nonneg h1, Int.toNat_of_nonneg h2]
        rw [e]
        exact lets_near (by omega)
    · rw [if_neg h2] at *
      cases s with
      | true =>
        simp only [if_true, Bool.true_and] at *
        rw [if_neg (by rw [decide_eq_true_eq]; omega)]
        refine h.ranged ok (by omega) ⟨fun q => (by cases q), fun _ => ?_⟩
        rw [Int.toNat_of_nonneg h1]; exact hc
      | false =>
        simp only [Bool.false_and, Bool.false_eq_true, if_false] at *
        refine h.ranged ok (by omega) ⟨fun q => (by cases q), fun _ => ?_⟩
        rw [Int.toNat_of_nonneg h1]; exact hc
  · have h2 : 0 ≤ bv := by omega
    rw [if_neg h1] at *
    rw [if_pos h2] at *
    cases s with
    | true =>
      simp only [if_true, Bool.true_and] at *
      rw [if_neg (by rw [decide_eq_true_eq]; omega)]
      refine h.ranged ok (by omega) ⟨fun _ => ?_, fun q => (by cases q)⟩
      rw [Int.toNat_of_nonneg h2]; show an - -1 ≤ _; omega
    | false =>
      simp only [Bool.false_and, Bool.false_eq_true, if_false] at *
      refine h.ranged ok (by omega) ⟨fun _ => ?_, fun q => (by cases q)⟩
      rw [Int.toNat_of_nonneg h2]; show an - 0 ≤ _; omega
theorem HasO.unlike (h : HasO o x) (ok : OkO n o) {av an bv bn : Int} (ha : av < n) (hb : bv < n) (hab : 0 ≤ av ∨ 0 ≤ bv) (ia : -9223372036854775808 ≤ opdX x av an ∧ opdX x av an ≤ 9223372036854775807) (ib : -9223372036854775808 ≤ opdX x bv bn ∧ opdX x bv bn ≤ 9223372036854775807)
    (hc : opdX x av an ≠ opdX x bv bn) : HasO (unlikeO o av an bv bn) x := by
  obtain ⟨N, m, hN, hn, rfl, hm, hx, hl⟩ := h.form ok
  have hNN : (2 * n).toNat = N := by omega
  have vars : ∀ av an bv bn : Int, 0 ≤ av → 0 ≤ bv → av < n → bv < n → (-9223372036854775808 ≤ opdX x av an ∧ opdX x av an ≤ 9223372036854775807) → (-9223372036854775808 ≤ opdX x bv bn ∧ opdX x bv bn ≤ 9223372036854775807) → opdX x av an ≠ opdX x bv bn → HasO (unlikeVarsO ⟨n, false, m⟩ av an bv bn) x := by
    intro av an bv bn h0 h1 ha hb ia ib hc
    unfold unlikeVarsO
    rw [if_neg (by rintro rfl; apply hc; unfold opdX; rw [if_pos h0, if_pos h0])]
    dsimp only
    rw [hNN]
    have e1 : opdX x av an = sideX x (2 * av.toNat) := by unfold opdX; rw [if_pos h0, sideX_even, Int.toNat_of_nonneg h0]
    have e2 : opdX x bv bn = sideX x (2 * bv.toNat) := by unfold opdX; rw [if_pos h1, sideX_even, Int.toNat_of_nonneg h1]
    have k1 := hx (2 * av.toNat) (2 * bv.toNat) (by omega) (by omega)
    have k2 := hx (2 * bv.toNat) (2 * av.toNat) (by omega) (by omega)
    unfold Lets apartX at k1 k2
    have p1 : HasO (if G N m (2 * av.toNat) (2 * bv.toNat) = 0 then atMostO ⟨n, false, m⟩ av an bv bn true else ⟨n, false, m⟩) x ∧ OkO n (if G N m (2 * av.toNat) (2 * bv.toNat) = 0 then atMostO ⟨n, false, m⟩ av an bv bn true else ⟨n, false, m⟩) := by
      split
      · exact ⟨h.atMost ok ha hb (.inl h0) ia ib (by unfold lessD; simp; omega), ok.atMost ha hb (.inl h0)⟩
      · exact ⟨h, ok⟩
    split
    · exact p1.1.atMost p1.2 hb ha (.inl h1) ib ia (by unfold lessD; simp; omega)
    · exact p1.1
  have nums : ∀ av an bv bn : Int, 0 ≤ av → bv < 0 → av < n → (-9223372036854775808 ≤ opdX x av an ∧ opdX x av an ≤ 9223372036854775807) → (-9223372036854775808 ≤ opdX x bv bn ∧ opdX x bv bn ≤ 9223372036854775807) → opdX x av an ≠ opdX x bv bn → HasO (unlikeNumO ⟨n, false, m⟩ av an bv bn) x := by
    intro av an bv bn h0 h1 ha ia ib hc
    have hb : bv < n := by omega
    unfold unlikeNumO
    dsimp only
    rw [hNN]
    have e1 : opdX x av an = gI x ((av.toNat : Nat) : Int) := by unfold opdX; rw [if_pos h0, Int.toNat_of_nonneg h0]
    have e2 : opdX x bv bn = bn := by unfold opdX; rw [if_neg (by omega)]
    have k1 := hx (2 * av.toNat) (2 * av.toNat + 1) (by omega) (by omega)
    have k2 := hx (2 * av.toNat + 1) (2 * av.toNat) (by omega) (by omega)
    have q1 := lets_half (d := gI x ((av.toNat : Nat) : Int)) (hm.bd (2 * av.toNat) (2 * av.toNat + 1) (by omega) (by omega)) (by
      have e : apartX x (2 * av.toNat) (2 * av.toNat + 1) = 2 * gI x ((av.toNat : Nat) : Int) := by unfold apartX; rw [sideX_even, sideX_odd]; omega
      rw [← e]; exact k1)
    have q2 := lets_half (d := -gI x ((av.toNat : Nat) : Int)) (hm.bd (2 * av.toNat + 1) (2 * av.toNat) (by omega) (by omega)) (by
      have e : apartX x (2 * av.toNat + 1) (2 * av.toNat) = 2 * -gI x ((av.toNat : Nat) : Int) := by unfold apartX; rw [sideX_even, sideX_odd]; omega
      rw [← e]; exact k2)
    have w1 : (varR N m av.toNat).hh = true → gI x ((av.toNat : Nat) : Int) ≤ (varR N m av.toNat).hi := fun q => by
      unfold varR sidesR at q ⊢
      simp only [Bool.not_eq_true', decide_eq_false_iff_not] at q
      rw [if_neg q]
      exact q1.resolve_left q
    have w2 : (varR N m av.toNat).hl = true → (varR N m av.toNat).lo ≤ gI x ((av.toNat : Nat) : Int) := fun q => by
      unfold varR sidesR at q ⊢
      simp only [Bool.not_eq_true', decide_eq_false_iff_not] at q
      rw [if_neg q]
      have := q2.resolve_left q
      show -half (G N m (2 * av.toNat + 1) (2 * av.toNat)) ≤ _
      unfold G
      omega
    have p1 : HasO (if (varR N m av.toNat).hh && decide ((varR N m av.toNat).hi = bn) then atMostO ⟨n, false, m⟩ av an bv bn true else ⟨n, false, m⟩) x ∧ OkO n (if (varR N m av.toNat).hh && decide ((varR N m av.toNat).hi = bn) then atMostO ⟨n, false, m⟩ av an bv bn true else ⟨n, false, m⟩) := by
      split
      · rename_i q
        simp only [Bool.and_eq_true, decide_eq_true_eq] at q
        have := w1 q.1
        exact ⟨h.atMost ok ha hb (.inl h0) ia ib (by unfold lessD; simp; omega), ok.atMost ha hb (.inl h0)⟩
      · exact ⟨h, ok⟩
    split
    · rename_i q
      simp only [Bool.and_eq_true, decide_eq_true_eq] at q
      have := w2 q.1
      exact p1.1.atMost p1.2 hb ha (.inr h0) ib ia (by unfold lessD; simp; omega)
    · exact p1.1
  unfold unlikeO
  split
  · rw [if_neg (by omega)]
    exact nums bv bn av an (by omega) (by omega) hb ib ia (Ne.symm hc)
  · split
    · exact vars av an bv bn (by omega) (by omega) ha hb ia ib hc
    · exact nums av an bv bn (by omega) (by omega) ha ia ib hc
/-- Where a comparison holds. -/
theorem HasO.assumes (h : HasO o x) (ok : OkO n o) {op av an bv bn : Int} (hop : 1 ≤ op ∧ op ≤ 6) (ha : av < n) (hb : bv < n) (ia : -9223372036854775808 ≤ opdX x av an ∧ opdX x av an ≤ 9223372036854775807) (ib : -9223372036854775808 ≤ opdX x bv bn ∧ opdX x bv bn ≤ 9223372036854775807)
    (hc : cmpB op (opdX x av an) (opdX x bv bn) = true) : HasO (assumesO o op av an bv bn) x := by
  unfold assumesO
  by_cases hn : av < 0 ∧ bv < 0
  · rw [if_pos hn]
    have e1 : opdX x av an = an := by unfold opdX; rw [if_neg (by omega)]
    have e2 : opdX x bv bn = bn := by unfold opdX; rw [if_neg (by omega)]
    rw [e1, e2] at hc
    rw [if_pos hc]
    exact h
  · rw [if_neg hn]
    have hab : 0 ≤ av ∨ 0 ≤ bv := by omega
    unfold cmpB at hc
    have d0 : lessD false = 0 := rfl
    have d1 : lessD true = -1 := rfl
    by_cases o3 : op = 3
    · subst o3
      simp at hc
      rw [if_pos rfl]
      have h1 := h.atMost (s := false) ok ha hb hab ia ib (by omega)
      have k1 := ok.atMost (s := false) (an := an) (bn := bn) ha hb hab
      exact (h1.atMost k1 hb ha hab.symm ib ia (by omega)).close_ (k1.atMost hb ha hab.symm)
    · rw [if_neg o3]
      by_cases o4 : op = 4
      · subst o4
        simp at hc
        rw [if_pos rfl]
        exact (h.unlike ok ha hb hab ia ib hc).close_ (ok.unlike ha hb hab)
      · rw [if_neg o4]
        by_cases o5 : op = 5
        · subst o5
          simp at hc
          rw [if_pos rfl]
          exact (h.atMost ok hb ha hab.symm ib ia (by omega)).close_ (ok.atMost hb ha hab.symm)
        · rw [if_neg o5]
          by_cases o1 : op = 1
          · subst o1
            simp at hc
            rw [if_pos rfl]
            exact (h.atMost ok ha hb hab ia ib (by omega)).close_ (ok.atMost ha hb hab)
          · rw [if_neg o1]
            by_cases o6 : op = 6
            · subst o6
              simp at hc
              rw [if_pos rfl]
              exact (h.atMost ok hb ha hab.symm ib ia (by omega)).close_ (ok.atMost hb ha hab.symm)
            · rw [if_neg o6]
              have : op = 2 := by omega
              subst this
              simp at hc
              exact (h.atMost ok ha hb hab ia ib (by omega)).close_ (ok.atMost ha hb hab)
end
end
end Go.Proofs.YtnmpgijiimglcaaGreat
