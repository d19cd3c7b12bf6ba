/-
  A point that takes an edge is one of what is known behind it. Plain.
-/
import Derived.Test.YtnmpgijiimglcaaGreatBTS16
import Derived.Test.YtnmpgijiimglcaaGreatSound
namespace Go.Proofs.YtnmpgijiimglcaaGreat
open Go.RowKit

theorem sideX_even (x : List Int) (v : Nat) : sideX x (2 * v) = gI x (v : Int) := by
  unfold sideX; rw [if_pos (by omega), show 2 * v / 2 = v by omega]
theorem sideX_odd (x : List Int) (v : Nat) : sideX x (2 * v + 1) = -gI x (v : Int) := by
  unfold sideX; rw [if_neg (by omega), show (2 * v + 1) / 2 = v by omega]
theorem sideX_far (x : List Int) (d : Nat) (u : Int) {i : Nat} (h : i / 2 ≠ d) : sideX (x.set d u) i = sideX x i := by
  have e : gI (x.set d u) ((i / 2 : Nat) : Int) = gI x ((i / 2 : Nat) : Int) := by rw [gI_set, if_neg (fun q => h q.1)]
  unfold sideX; rw [e]
theorem gI_at (x : List Int) (d : Nat) (u : Int) (h : d < x.length) : gI (x.set d u) (d : Int) = u := by rw [gI_set, if_pos ⟨rfl, h⟩]

section
variable {n : Int} {o : O} {x : List Int}
theorem HasO.form (h : HasO o x) (ok : OkO n o) : ∃ (N : Nat) (m : List Int), (N : Int) = 2 * n ∧ N ≤ 128 ∧ o = ⟨n, false, m⟩ ∧ Cells N m ∧ HasM N m x ∧ (x.length : Int) = n := by
  rcases ok.form with rfl | ⟨N, m, hN, hn, rfl, hc⟩
  · exact absurd h.1 (by simp [emptyO])
  · have := h.2.2
    dsimp only at this
    rw [show (2 * n).toNat = N by omega] at this
    exact ⟨N, m, hN, hn, rfl, hc, this, h.2.1⟩
theorem HasO.mk_ {N : Nat} {m : List Int} (hN : (N : Int) = 2 * n) (hx : HasM N m x) (hl : (x.length : Int) = n) : HasO ⟨n, false, m⟩ x :=
  ⟨rfl, hl, by dsimp only; rw [show (2 * n).toNat = N by omega]; exact hx⟩
theorem HasO.with_ (h : HasO o x) (ok : OkO n o) {i j : Nat} (hi : (i : Int) < 2 * n) (hj : (j : Int) < 2 * n) {c : Int} (hc : Lets (near c) (apartX x i j)) : HasO (withO o i j c) x := by
  obtain ⟨N, m, hN, hn, rfl, hm, hx, hl⟩ := h.form ok
  unfold withO
  rw [if_neg (by simp)]
  by_cases hij : i = j
  · subst hij
    rw [if_pos rfl]
    have e : apartX x i i = 0 := by unfold apartX; omega
    rw [e] at hc
    rw [if_neg (by unfold Lets near at hc; repeat' split at hc
                   all_goals omega)]
    exact h
  · rw [if_neg hij]
    dsimp only
    rw [show (2 * n).toNat = N by omega]
    refine HasO.mk_ hN (fun a b ha hb => ?_) hl
    rw [boundM_G (by omega) hm.len (by omega) (by omega) c ha hb]
    split
    · have k : Lets (min (G N m i j) (near c)) (apartX x i j) := lets_min (hx i j (by omega) (by omega)) hc (hm.bd i j (by omega) (by omega)) (isBound_near _)
      rename_i e
      rcases e with ⟨rfl, rfl⟩ | ⟨rfl, rfl⟩
      · exact k
      · rw [apartX_nx]; exact k
    · exact hx a b ha hb
theorem HasO.close_ (h : HasO o x) (ok : OkO n o) : HasO (closeO o) x := closeO_has ok.ok h
theorem HasO.forget (h : HasO o x) (ok : OkO n o) (v : Nat) (u : Int) : HasO (forgetO o v) (x.set v u) := by
  obtain ⟨N, m, hN, hn, e, hm, hx, hl⟩ := (h.close_ ok).form ok.close
  unfold forgetO
  rw [e, if_neg (by simp)]
  rw [ok.n_]
  dsimp only
  rw [show (2 * n).toNat = N by omega]
  refine HasO.mk_ hN (fun a b ha hb => ?_) (by rw [List.length_set]; exact hl)
  rw [forgetM_G hm.len ha hb]
  split
  · exact .inl rfl
  · rename_i q
    by_cases eab : a = b
    · subst eab
      have := hx a a ha hb
      unfold apartX at *
      rw [show sideX (x.set v u) a - sideX (x.set v u) a = sideX x a - sideX x a by omega]
      exact this
    · unfold apartX
      rw [sideX_far _ _ _ (fun k => q ⟨eab, .inl k⟩), sideX_far _ _ _ (fun k => q ⟨eab, .inr k⟩)]
      exact hx a b ha hb
/-- A range has a number. -/
def InR (r : Rg) (u : Int) : Prop := (r.hl = true → r.lo ≤ u) ∧ (r.hh = true → u ≤ r.hi)
theorem lets_twice {u hi : Int} (h : u ≤ hi) : Lets (near (twiceB hi)) (2 * u) := by
  unfold twiceB
  split
  · exact .inl (by decide)
  · split
    · exact lets_near (by omega)
    · exact lets_near (by omega)
theorem lets_twice_neg {u lo : Int} (h : lo ≤ u) : Lets (near (twiceB (negB lo))) (2 * -u) := by
  unfold negB
  split
  · exact .inl (by decide)
  · exact lets_twice (by omega)
theorem HasO.ranged (h : HasO o x) (ok : OkO n o) {v : Nat} (hv : (v : Int) < n) {r : Rg} (hr : InR r (gI x (v : Int))) : HasO (rangedO o v r) x := by
  have h1 : HasO (hiO o v r) x := by
    unfold hiO
    split
    · rename_i q
      refine h.with_ ok (by omega) (by omega) ?_
      have e : apartX x (2 * v) (2 * v + 1) = 2 * gI x (v : Int) := by unfold apartX; rw [sideX_even, sideX_odd]; omega
      rw [e]
      exact lets_twice (hr.2 q)
    · exact h
  unfold rangedO
  split
  · rename_i q
    refine h1.with_ (ok.hi_ hv r) (by omega) (by omega) ?_
    have e : apartX x (2 * v + 1) (2 * v) = 2 * -gI x (v : Int) := by unfold apartX; rw [sideX_even, sideX_odd]; omega
    rw [e]
    exact lets_twice_neg (hr.1 q)
  · exact h1
theorem HasO.give (h : HasO o x) (ok : OkO n o) {v : Nat} (hv : (v : Int) < n) {r : Rg} {u : Int} (hr : InR r u) : HasO (giveO o v r) (x.set v u) := by
  have hlen : (x.length : Int) = n := h.2.1.trans ok.n_
  have hk := h.forget ok v u
  refine (hk.ranged (ok.forget v) hv ?_).close_ ((ok.forget v).ranged hv r)
  rw [gI_at _ _ _ (by omega)]
  exact hr
end
def opdX (x : List Int) (v n : Int) : Int := if 0 ≤ v then gI x v else n
section
variable {n : Int} {o : O} {x : List Int}
/-- a at most b: the point stays. -/
theorem HasO.atMost (h : HasO o x) (ok : OkO n o) {av an bv bn : Int} {s : Bool} (ha : av < n) (hb : bv < n) (hab : 0 ≤ av ∨ 0 ≤ bv) (ia : -9223372036854775808 ≤ opdX x av an ∧ opdX x av an ≤ 9223372036854775807) (ib : -9223372036854775808 ≤ opdX x bv bn ∧ opdX x bv bn ≤ 9223372036854775807)
    (hc : opdX x av an ≤ opdX x bv bn + lessD s) : HasO (atMostO o av an bv bn s) x := by
  unfold opdX lessD at *
  unfold atMostO lessD
  by_cases h1 : 0 ≤ av
  · rw [if_pos h1] at *
    by_cases h2 : 0 ≤ bv
    · rw [if_pos h2] at *
      split
      · rename_i e
        subst e
        cases s with
        | true => simp at hc; omega
        | false => exact h
      · refine h.with_ ok (by omega) (by omega) ?_
        have e : apartX x (2 * av.toNat) (2 * bv.toNat) = gI x av - gI x bv := by unfold apartX; rw [sideX_even, sideX_even, Int.toNat_of_nonneg h1, Int.toNat_of_nonneg h2]
        rw [e]
        exact lets_near (by omega)
    · rw [if_neg h2] at *
      cases s with
      | true =>
        simp only [if_true, Bool.true_and] at *
        rw [if_neg (by rw [decide_eq_true_eq]; omega)]
        refine h.ranged ok (by omega) ⟨fun q => (by cases q), fun _ => ?_⟩
        rw [Int.toNat_of_nonneg h1]; exact hc
      | false =>
        simp only [Bool.false_and, Bool.false_eq_true, if_false] at *
        refine h.ranged ok (by omega) ⟨fun q => (by cases q), fun _ => ?_⟩
        rw [Int.toNat_of_nonneg h1]; exact hc
  · have h2 : 0 ≤ bv := by omega
    rw [if_neg h1] at *
    rw [if_pos h2] at *
    cases s with
    | true =>
      simp only [if_true, Bool.true_and] at *
      rw [if_neg (by rw [decide_eq_true_eq]; omega)]
      refine h.ranged ok (by omega) ⟨fun _ => ?_, fun q => (by cases q)⟩
      rw [Int.toNat_of_nonneg h2]; show an - -1 ≤ _; omega
    | false =>
      simp only [Bool.false_and, Bool.false_eq_true, if_false] at *
      refine h.ranged ok (by omega) ⟨fun _ => ?_, fun q => (by cases q)⟩
      rw [Int.toNat_of_nonneg h2]; show an - 0 ≤ _; omega
theorem HasO.unlike (h : HasO o x) (ok : OkO n o) {av an bv bn : Int} (ha : av < n) (hb : bv < n) (hab : 0 ≤ av ∨ 0 ≤ bv) (ia : -9223372036854775808 ≤ opdX x av an ∧ opdX x av an ≤ 9223372036854775807) (ib : -9223372036854775808 ≤ opdX x bv bn ∧ opdX x bv bn ≤ 9223372036854775807)
    (hc : opdX x av an ≠ opdX x bv bn) : HasO (unlikeO o av an bv bn) x := by
  obtain ⟨N, m, hN, hn, rfl, hm, hx, hl⟩ := h.form ok
  have hNN : (2 * n).toNat = N := by omega
  have vars : ∀ av an bv bn : Int, 0 ≤ av → 0 ≤ bv → av < n → bv < n → (-9223372036854775808 ≤ opdX x av an ∧ opdX x av an ≤ 9223372036854775807) → (-9223372036854775808 ≤ opdX x bv bn ∧ opdX x bv bn ≤ 9223372036854775807) → opdX x av an ≠ opdX x bv bn → HasO (unlikeVarsO ⟨n, false, m⟩ av an bv bn) x := by
    intro av an bv bn h0 h1 ha hb ia ib hc
    unfold unlikeVarsO
    rw [if_neg (by rintro rfl; apply hc; unfold opdX; rw [if_pos h0, if_pos h0])]
    dsimp only
    rw [hNN]
    have e1 : opdX x av an = sideX x (2 * av.toNat) := by unfold opdX; rw [if_pos h0, sideX_even, Int.toNat_of_nonneg h0]
    have e2 : opdX x bv bn = sideX x (2 * bv.toNat) := by unfold opdX; rw [if_pos h1, sideX_even, Int.toNat_of_nonneg h1]
    have k1 := hx (2 * av.toNat) (2 * bv.toNat) (by omega) (by omega)
    have k2 := hx (2 * bv.toNat) (2 * av.toNat) (by omega) (by omega)
    unfold Lets apartX at k1 k2
    have p1 : HasO (if G N m (2 * av.toNat) (2 * bv.toNat) = 0 then atMostO ⟨n, false, m⟩ av an bv bn true else ⟨n, false, m⟩) x ∧ OkO n (if G N m (2 * av.toNat) (2 * bv.toNat) = 0 then atMostO ⟨n, false, m⟩ av an bv bn true else ⟨n, false, m⟩) := by
      split
      · exact ⟨h.atMost ok ha hb (.inl h0) ia ib (by unfold lessD; simp; omega), ok.atMost ha hb (.inl h0)⟩
      · exact ⟨h, ok⟩
    split
    · exact p1.1.atMost p1.2 hb ha (.inl h1) ib ia (by unfold lessD; simp; omega)
    · exact p1.1
  have nums : ∀ av an bv bn : Int, 0 ≤ av → bv < 0 → av < n → (-9223372036854775808 ≤ opdX x av an ∧ opdX x av an ≤ 9223372036854775807) → (-9223372036854775808 ≤ opdX x bv bn ∧ opdX x bv bn ≤ 9223372036854775807) → opdX x av an ≠ opdX x bv bn → HasO (unlikeNumO ⟨n, false, m⟩ av an bv bn) x := by
    intro av an bv bn h0 h1 ha ia ib hc
    have hb : bv < n := by omega
    unfold unlikeNumO
    dsimp only
    rw [hNN]
    have e1 : opdX x av an = gI x ((av.toNat : Nat) : Int) := by unfold opdX; rw [if_pos h0, Int.toNat_of_nonneg h0]
    have e2 : opdX x bv bn = bn := by unfold opdX; rw [if_neg (by omega)]
    have k1 := hx (2 * av.toNat) (2 * av.toNat + 1) (by omega) (by omega)
    have k2 := hx (2 * av.toNat + 1) (2 * av.toNat) (by omega) (by omega)
    have q1 := lets_half (d := gI x ((av.toNat : Nat) : Int)) (hm.bd (2 * av.toNat) (2 * av.toNat + 1) (by omega) (by omega)) (by
      have e : apartX x (2 * av.toNat) (2 * av.toNat + 1) = 2 * gI x ((av.toNat : Nat) : Int) := by unfold apartX; rw [sideX_even, sideX_odd]; omega
      rw [← e]; exact k1)
    have q2 := lets_half (d := -gI x ((av.toNat : Nat) : Int)) (hm.bd (2 * av.toNat + 1) (2 * av.toNat) (by omega) (by omega)) (by
      have e : apartX x (2 * av.toNat + 1) (2 * av.toNat) = 2 * -gI x ((av.toNat : Nat) : Int) := by unfold apartX; rw [sideX_even, sideX_odd]; omega
      rw [← e]; exact k2)
    have w1 : (varR N m av.toNat).hh = true → gI x ((av.toNat : Nat) : Int) ≤ (varR N m av.toNat).hi := fun q => by
      unfold varR sidesR at q ⊢
      simp only [Bool.not_eq_true', decide_eq_false_iff_not] at q
      rw [if_neg q]
      exact q1.resolve_left q
    have w2 : (varR N m av.toNat).hl = true → (varR N m av.toNat).lo ≤ gI x ((av.toNat : Nat) : Int) := fun q => by
      unfold varR sidesR at q ⊢
      simp only [Bool.not_eq_true', decide_eq_false_iff_not] at q
      rw [if_neg q]
      have := q2.resolve_left q
      show -half (G N m (2 * av.toNat + 1) (2 * av.toNat)) ≤ _
      unfold G
      omega
    have p1 : HasO (if (varR N m av.toNat).hh && decide ((varR N m av.toNat).hi = bn) then atMostO ⟨n, false, m⟩ av an bv bn true else ⟨n, false, m⟩) x ∧ OkO n (if (varR N m av.toNat).hh && decide ((varR N m av.toNat).hi = bn) then atMostO ⟨n, false, m⟩ av an bv bn true else ⟨n, false, m⟩) := by
      split
      · rename_i q
        simp only [Bool.and_eq_true, decide_eq_true_eq] at q
        have := w1 q.1
        exact ⟨h.atMost ok ha hb (.inl h0) ia ib (by unfold lessD; simp; omega), ok.atMost ha hb (.inl h0)⟩
      · exact ⟨h, ok⟩
    split
    · rename_i q
      simp only [Bool.and_eq_true, decide_eq_true_eq] at q
      have := w2 q.1
      exact p1.1.atMost p1.2 hb ha (.inr h0) ib ia (by unfold lessD; simp; omega)
    · exact p1.1
  unfold unlikeO
  split
  · rw [if_neg (by omega)]
    exact nums bv bn av an (by omega) (by omega) hb ib ia (Ne.symm hc)
  · split
    · exact vars av an bv bn (by omega) (by omega) ha hb ia ib hc
    · exact nums av an bv bn (by omega) (by omega) ha ia ib hc
end
end Go.Proofs.YtnmpgijiimglcaaGreat
