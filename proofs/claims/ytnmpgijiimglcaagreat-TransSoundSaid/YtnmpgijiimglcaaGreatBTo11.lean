import Derived.Test.YtnmpgijiimglcaaGreatBTo10
import Derived.Test.YtnmpgijiimglcaaGreatBTo08
namespace Go.Proofs.YtnmpgijiimglcaaGreat
section
open Go.RowKit
set_option maxRecDepth 100000
set_option maxHeartbeats 8000000
theorem sideX_even (x : List Int) (v : Nat) : sideX x (2 * v) = gI x (v : Int) := by
 unfold sideX; rw [if_pos (by omega), show 2 * v / 2 = v by omega]
theorem sideX_odd (x : List Int) (v : Nat) : sideX x (2 * v + 1) = -gI x (v : Int) := by
 unfold sideX; rw [if_neg (by omega), show (2 * v + 1) / 2 = v by omega]
theorem sideX_far (x : List Int) (d : Nat) (u : Int) {i : Nat} (h : i / 2 ≠ d) : sideX (x.set d u) i = sideX x i := by
 have e : gI (x.set d u) ((i / 2 : Nat) : Int) = gI x ((i / 2 : Nat) : Int) := by rw [gI_set, if_neg (fun q => h q.1)]
 unfold sideX; rw [e]
theorem gI_at (x : List Int) (d : Nat) (u : Int) (h : d < x.length) : gI (x.set d u) (d : Int) = u := by rw [gI_set, if_pos ⟨rfl, h⟩]
section
variable {n : Int} {o : O} {x : List Int}
theorem HasO.form (h : HasO o x) (ok : OkO n o) : ∃ (N : Nat) (m : List Int), (N : Int) = 2 * n ∧ N ≤ 128 ∧ o = ⟨n, false, m⟩ ∧ Cells N m ∧ HasM N m x ∧ (x.length : Int) = n := by
 rcases ok.form with rfl | ⟨N, m, hN, hn, rfl, hc⟩
 ·exact absurd h.1 (by simp [emptyO])
 ·have := h.2.2
  dsimp only at this
  rw [show (2 * n).toNat = N by omega] at this
  exact ⟨N, m, hN, hn, rfl, hc, this, h.2.1⟩
theorem HasO.mk_ {N : Nat} {m : List Int} (hN : (N : Int) = 2 * n) (hx : HasM N m x) (hl : (x.length : Int) = n) : HasO ⟨n, false, m⟩ x :=
 ⟨rfl, hl, by dsimp only; rw [show (2 * n).toNat = N by omega]; exact hx⟩
theorem HasO.with_ (h : HasO o x) (ok : OkO n o) {i j : Nat} (hi : (i : Int) < 2 * n) (hj : (j : Int) < 2 * n) {c : Int} (hc : Lets (near c) (apartX x i j)) : HasO (withO o i j c) x := by
 obtain ⟨N, m, hN, hn, rfl, hm, hx, hl⟩ := h.form ok
 unfold withO
 rw [if_neg (by simp)]
 by_cases hij : i = j
 ·subst hij
  rw [if_pos rfl]
  have e : apartX x i i = 0 := by unfold apartX; omega
  rw [e] at hc
  rw [if_neg (by (unfold Lets near at hc; repeat' split at hc) <;> omega)]
  exact h
 ·rw [if_neg hij]
  dsimp only
  rw [show (2 * n).toNat = N by omega]
  refine HasO.mk_ hN (fun a b ha hb => ?_) hl
  rw [boundM_G (by omega) hm.len (by omega) (by omega) c ha hb]
  split
  ·have k : Lets (min (G N m i j) (near c)) (apartX x i j) := lets_min (hx i j (by omega) (by omega)) hc (hm.bd i j (by omega) (by omega)) (isBound_near _)
   rename_i e
   rcases e with ⟨rfl, rfl⟩ | ⟨rfl, rfl⟩
   ·exact k
   ·rw [apartX_nx]; exact k
  ·exact hx a b ha hb
theorem HasO.close_ (h : HasO o x) (ok : OkO n o) : HasO (closeO o) x := closeO_has ok.ok h
theorem HasO.forget (h : HasO o x) (ok : OkO n o) (v : Nat) (u : Int) : HasO (forgetO o v) (x.set v u) := by
 obtain ⟨N, m, hN, hn, e, hm, hx, hl⟩ := (h.close_ ok).form ok.close
 unfold forgetO
 rw [e, if_neg (by simp)]
 rw [ok.n_]
 dsimp only
 rw [show (2 * n).toNat = N by omega]
 refine HasO.mk_ hN (fun a b ha hb => ?_) (by rw [List.length_set]; exact hl)
 rw [forgetM_G hm.len ha hb]
 split
 ·exact .inl rfl
 ·rename_i q
  by_cases eab : a = b
  ·subst eab
   have := hx a a ha hb
   unfold apartX at *
   rw [show sideX (x.set v u) a - sideX (x.set v u) a = sideX x a - sideX x a by omega]
   exact this
  ·unfold apartX
   rw [sideX_far _ _ _ (fun k => q ⟨eab, .inl k⟩), sideX_far _ _ _ (fun k => q ⟨eab, .inr k⟩)]
   exact hx a b ha hb
def InR (r : Rg) (u : Int) : Prop := (r.hl = true → r.lo ≤ u) ∧ (r.hh = true → u ≤ r.hi)
theorem lets_twice {u hi : Int} (h : u ≤ hi) : Lets (near (twiceB hi)) (2 * u) := by
 unfold twiceB
 split
 ·exact .inl (by decide)
 ·split
  ·exact lets_near (by omega)
  ·exact lets_near (by omega)
theorem lets_twice_neg {u lo : Int} (h : lo ≤ u) : Lets (near (twiceB (negB lo))) (2 * -u) := by
 unfold negB
 split
 ·exact .inl (by decide)
 ·exact lets_twice (by omega)
theorem HasO.ranged (h : HasO o x) (ok : OkO n o) {v : Nat} (hv : (v : Int) < n) {r : Rg} (hr : InR r (gI x (v : Int))) : HasO (rangedO o v r) x := by
 have h1 : HasO (hiO o v r) x := by
  unfold hiO
  split
  ·rename_i q
   refine h.with_ ok (by omega) (by omega) ?_
   have e : apartX x (2 * v) (2 * v + 1) = 2 * gI x (v : Int) := by unfold apartX; rw [sideX_even, sideX_odd]; omega
   rw [e]
   exact lets_twice (hr.2 q)
  ·exact h
 unfold rangedO
 split
 ·rename_i q
  refine h1.with_ (ok.hi_ hv r) (by omega) (by omega) ?_
  have e : apartX x (2 * v + 1) (2 * v) = 2 * -gI x (v : Int) := by unfold apartX; rw [sideX_even, sideX_odd]; omega
  rw [e]
  exact lets_twice_neg (hr.1 q)
 ·exact h1
theorem HasO.give (h : HasO o x) (ok : OkO n o) {v : Nat} (hv : (v : Int) < n) {r : Rg} {u : Int} (hr : InR r u) : HasO (giveO o v r) (x.set v u) := by
 have hlen : (x.length : Int) = n := h.2.1.trans ok.n_
 have hk := h.forget ok v u
 refine (hk.ranged (ok.forget v) hv ?_).close_ ((ok.forget v).ranged hv r)
 rw [gI_at _ _ _ (by omega)]
 exact hr
end
def opdX (x : List Int) (v n : Int) : Int := if 0 ≤ v then gI x v else n
section
variable {n : Int} {o : O} {x : List Int}
theorem HasO.atMost (h : HasO o x) (ok : OkO n o) {av an bv bn : Int} {s : Bool} (ha : av < n) (hb : bv < n) (hab : 0 ≤ av ∨ 0 ≤ bv) (ia : -9223372036854775808 ≤ opdX x av an ∧ opdX x av an ≤ 9223372036854775807) (ib : -9223372036854775808 ≤ opdX x bv bn ∧ opdX x bv bn ≤ 9223372036854775807)
  (hc : opdX x av an ≤ opdX x bv bn + lessD s) : HasO (atMostO o av an bv bn s) x := by
 unfold opdX lessD at *
 unfold atMostO lessD
 by_cases h1 : 0 ≤ av
 ·rw [if_pos h1] at *
  by_cases h2 : 0 ≤ bv
  ·rw [if_pos h2] at *
   split
   ·rename_i e
    subst e
    cases s with
    | true => simp at hc; omega
    | false => exact h
   ·refine h.with_ ok (by omega) (by omega) ?_
    have e : apartX x (2 * av.toNat) (2 * bv.toNat) = gI x av - gI x bv := by unfold apartX; rw [sideX_even, sideX_even, Int.toNat_of_nonneg h1, Int.toNat_of_nonneg h2]
    rw [e]
    exact lets_near (by omega)
  ·rw [if_neg h2] at *
   cases s with
   | true =>
    simp only [if_true, Bool.true_and] at *
    rw [if_neg (by rw [decide_eq_true_eq]; omega)]
    refine h.ranged ok (by omega) ⟨fun q => (by cases q), fun _ => ?_⟩
    rw [Int.toNat_of_nonneg h1]; exact hc
   | false =>
    simp only [Bool.false_and, Bool.false_eq_true, if_false] at *
    refine h.ranged ok (by omega) ⟨fun q => (by cases q), fun _ => ?_⟩
    rw [Int.toNat_of_nonneg h1]; exact hc
 ·have h2 : 0 ≤ bv := by omega
  rw [if_neg h1] at *
  rw [if_pos h2] at *
  cases s with
  | true =>
   simp only [if_true, Bool.true_and] at *
   rw [if_neg (by rw [decide_eq_true_eq]; omega)]
   refine h.ranged ok (by omega) ⟨fun _ => ?_, fun q => (by cases q)⟩
   rw [Int.toNat_of_nonneg h2]; show an - -1 ≤ _; omega
  | false =>
   simp only [Bool.false_and, Bool.false_eq_true, if_false] at *
   refine h.ranged ok (by omega) ⟨fun _ => ?_, fun q => (by cases q)⟩
   rw [Int.toNat_of_nonneg h2]; show an - 0 ≤ _; omega
theorem HasO.unlike (h : HasO o x) (ok : OkO n o) {av an bv bn : Int} (ha : av < n) (hb : bv < n) (hab : 0 ≤ av ∨ 0 ≤ bv) (ia : -9223372036854775808 ≤ opdX x av an ∧ opdX x av an ≤ 9223372036854775807) (ib : -9223372036854775808 ≤ opdX x bv bn ∧ opdX x bv bn ≤ 9223372036854775807)
  (hc : opdX x av an ≠ opdX x bv bn) : HasO (unlikeO o av an bv bn) x := by
 obtain ⟨N, m, hN, hn, rfl, hm, hx, hl⟩ := h.form ok
 have hNN : (2 * n).toNat = N := by omega
 have vars : ∀ av an bv bn : Int, 0 ≤ av → 0 ≤ bv → av < n → bv < n → (-9223372036854775808 ≤ opdX x av an ∧ opdX x av an ≤ 9223372036854775807) → (-9223372036854775808 ≤ opdX x bv bn ∧ opdX x bv bn ≤ 9223372036854775807) → opdX x av an ≠ opdX x bv bn → HasO (unlikeVarsO ⟨n, false, m⟩ av an bv bn) x := by
  intro av an bv bn h0 h1 ha hb ia ib hc
  unfold unlikeVarsO
  rw [if_neg (by rintro rfl; apply hc; unfold opdX; rw [if_pos h0, if_pos h0])]
  dsimp only
  rw [hNN]
  have e1 : opdX x av an = sideX x (2 * av.toNat) := by unfold opdX; rw [if_pos h0, sideX_even, Int.toNat_of_nonneg h0]
  have e2 : opdX x bv bn = sideX x (2 * bv.toNat) := by unfold opdX; rw [if_pos h1, sideX_even, Int.toNat_of_nonneg h1]
  have k1 := hx (2 * av.toNat) (2 * bv.toNat) (by omega) (by omega)
  have k2 := hx (2 * bv.toNat) (2 * av.toNat) (by omega) (by omega)
  unfold Lets apartX at k1 k2
  have p1 : HasO (if G N m (2 * av.toNat) (2 * bv.toNat) = 0 then atMostO ⟨n, false, m⟩ av an bv bn true else ⟨n, false, m⟩) x ∧ OkO n (if G N m (2 * av.toNat) (2 * bv.toNat) = 0 then atMostO ⟨n, false, m⟩ av an bv bn true else ⟨n, false, m⟩) := by
   split
   ·exact ⟨h.atMost ok ha hb (.inl h0) ia ib (by unfold lessD; simp; omega), ok.atMost ha hb (.inl h0)⟩
   ·exact ⟨h, ok⟩
  split
  ·exact p1.1.atMost p1.2 hb ha (.inl h1) ib ia (by unfold lessD; simp; omega)
  ·exact p1.1
 have nums : ∀ av an bv bn : Int, 0 ≤ av → bv < 0 → av < n → (-9223372036854775808 ≤ opdX x av an ∧ opdX x av an ≤ 9223372036854775807) → (-9223372036854775808 ≤ opdX x bv bn ∧ opdX x bv bn ≤ 9223372036854775807) → opdX x av an ≠ opdX x bv bn → HasO (unlikeNumO ⟨n, false, m⟩ av an bv bn) x := by
  intro av an bv bn h0 h1 ha ia ib hc
  have hb : bv < n := by omega
  unfold unlikeNumO
  dsimp only
  rw [hNN]
  have e1 : opdX x av an = gI x ((av.toNat : Nat) : Int) := by unfold opdX; rw [if_pos h0, Int.toNat_of_nonneg h0]
  have e2 : opdX x bv bn = bn := by unfold opdX; rw [if_neg (by omega)]
  have k1 := hx (2 * av.toNat) (2 * av.toNat + 1) (by omega) (by omega)
  have k2 := hx (2 * av.toNat + 1) (2 * av.toNat) (by omega) (by omega)
  have q1 := lets_half (d := gI x ((av.toNat : Nat) : Int)) (hm.bd (2 * av.toNat) (2 * av.toNat + 1) (by omega) (by omega)) (by
   have e : apartX x (2 * av.toNat) (2 * av.toNat + 1) = 2 * gI x ((av.toNat : Nat) : Int) := by unfold apartX; rw [sideX_even, sideX_odd]; omega
   rw [← e]; exact k1)
  have q2 := lets_half (d := -gI x ((av.toNat : Nat) : Int)) (hm.bd (2 * av.toNat + 1) (2 * av.toNat) (by omega) (by omega)) (by
   have e : apartX x (2 * av.toNat + 1) (2 * av.toNat) = 2 * -gI x ((av.toNat : Nat) : Int) := by unfold apartX; rw [sideX_even, sideX_odd]; omega
   rw [← e]; exact k2)
  have w1 : (varR N m av.toNat).hh = true → gI x ((av.toNat : Nat) : Int) ≤ (varR N m av.toNat).hi := fun q => by
   unfold varR sidesR at q ⊢
   simp only [Bool.not_eq_true', decide_eq_false_iff_not] at q
   rw [if_neg q]
   exact q1.resolve_left q
  have w2 : (varR N m av.toNat).hl = true → (varR N m av.toNat).lo ≤ gI x ((av.toNat : Nat) : Int) := fun q => by
   unfold varR sidesR at q ⊢
   simp only [Bool.not_eq_true', decide_eq_false_iff_not] at q
   rw [if_neg q]
   have := q2.resolve_left q
   show -half (G N m (2 * av.toNat + 1) (2 * av.toNat)) ≤ _
   unfold G
   omega
  have p1 : HasO (if (varR N m av.toNat).hh && decide ((varR N m av.toNat).hi = bn) then atMostO ⟨n, false, m⟩ av an bv bn true else ⟨n, false, m⟩) x ∧ OkO n (if (varR N m av.toNat).hh && decide ((varR N m av.toNat).hi = bn) then atMostO ⟨n, false, m⟩ av an bv bn true else ⟨n, false, m⟩) := by
   split
   ·rename_i q
    simp only [Bool.and_eq_true, decide_eq_true_eq] at q
    have := w1 q.1
    exact ⟨h.atMost ok ha hb (.inl h0) ia ib (by unfold lessD; simp; omega), ok.atMost ha hb (.inl h0)⟩
   ·exact ⟨h, ok⟩
  split
  ·rename_i q
   simp only [Bool.and_eq_true, decide_eq_true_eq] at q
   have := w2 q.1
   exact p1.1.atMost p1.2 hb ha (.inr h0) ib ia (by unfold lessD; simp; omega)
  ·exact p1.1
 unfold unlikeO
 split
 ·rw [if_neg (by omega)]
  exact nums bv bn av an (by omega) (by omega) hb ib ia (Ne.symm hc)
 ·split
  ·exact vars av an bv bn (by omega) (by omega) ha hb ia ib hc
  ·exact nums av an bv bn (by omega) (by omega) ha ia ib hc
theorem HasO.assumes (h : HasO o x) (ok : OkO n o) {op av an bv bn : Int} (hop : 1 ≤ op ∧ op ≤ 6) (ha : av < n) (hb : bv < n) (ia : -9223372036854775808 ≤ opdX x av an ∧ opdX x av an ≤ 9223372036854775807) (ib : -9223372036854775808 ≤ opdX x bv bn ∧ opdX x bv bn ≤ 9223372036854775807)
  (hc : cmpB op (opdX x av an) (opdX x bv bn) = true) : HasO (assumesO o op av an bv bn) x := by
 unfold assumesO
 by_cases hn : av < 0 ∧ bv < 0
 ·rw [if_pos hn]
  have e1 : opdX x av an = an := by unfold opdX; rw [if_neg (by omega)]
  have e2 : opdX x bv bn = bn := by unfold opdX; rw [if_neg (by omega)]
  rw [e1, e2] at hc
  rw [if_pos hc]
  exact h
 ·rw [if_neg hn]
  have hab : 0 ≤ av ∨ 0 ≤ bv := by omega
  unfold cmpB at hc
  have d0 : lessD false = 0 := rfl
  have d1 : lessD true = -1 := rfl
  by_cases o3 : op = 3
  ·subst o3
   simp at hc
   rw [if_pos rfl]
   have h1 := h.atMost (s := false) ok ha hb hab ia ib (by omega)
   have k1 := ok.atMost (s := false) (an := an) (bn := bn) ha hb hab
   exact (h1.atMost k1 hb ha hab.symm ib ia (by omega)).close_ (k1.atMost hb ha hab.symm)
  ·rw [if_neg o3]
   by_cases o4 : op = 4
   ·subst o4
    simp at hc
    rw [if_pos rfl]
    exact (h.unlike ok ha hb hab ia ib hc).close_ (ok.unlike ha hb hab)
   ·rw [if_neg o4]
    by_cases o5 : op = 5
    ·subst o5
     simp at hc
     rw [if_pos rfl]
     exact (h.atMost ok hb ha hab.symm ib ia (by omega)).close_ (ok.atMost hb ha hab.symm)
    ·rw [if_neg o5]
     by_cases o1 : op = 1
     ·subst o1
      simp at hc
      rw [if_pos rfl]
      exact (h.atMost ok ha hb hab ia ib (by omega)).close_ (ok.atMost ha hb hab)
     ·rw [if_neg o1]
      by_cases o6 : op = 6
      ·subst o6
       simp at hc
       rw [if_pos rfl]
       exact (h.atMost ok hb ha hab.symm ib ia (by omega)).close_ (ok.atMost hb ha hab.symm)
      ·rw [if_neg o6]
       have : op = 2 := by omega
       subst this
       simp at hc
       exact (h.atMost ok ha hb hab ia ib (by omega)).close_ (ok.atMost ha hb hab)
end
end
section
open Go.RowKit
set_option maxRecDepth 100000
set_option maxHeartbeats 8000000
theorem bnd {a : Int} (h : isBound a = true) : a = 9223372036854775807 ∨ (-4611686018427387904 ≤ a ∧ a ≤ 4611686018427387904) := by
 unfold isBound at h; exact of_decide_eq_true h
theorem set_same (xs : List Int) (k : Nat) : xs.set k (gI xs (k : Int)) = xs := by
 refine List.ext_getElem (by simp) fun i h1 h2 => ?_
 rw [List.getElem_set]
 split
 ·rename_i e; subst e; unfold gI; simp [h2]
 ·rfl
section
variable {N : Nat} {xs : List Int}
theorem Cells.b (h : Cells N xs) {i j : Nat} (hi : i < N) (hj : j < N) : isBound (G N xs i j) = true := h.bd i j hi hj
end
end
section
open Go.RowKit
set_option maxRecDepth 100000
set_option maxHeartbeats 8000000
section
variable {n : Int} {o : O} {x : List Int}
theorem sideX_new (x : List Int) (d : Nat) (u : Int) (h : d < x.length) : sideX (x.set d u) (2 * d) = u := by rw [sideX_even, gI_at _ _ _ h]
theorem HasO.link (h : HasO o x) (ok : OkO n o) {d j : Nat} (hd : (d : Int) < n) (hj : (j : Int) < 2 * n) (hne : j / 2 ≠ d) (k : Int) : HasO (linkO o (2 * d) j k) (x.set d (sideX x j + k)) := by
 have hlen : (x.length : Int) = n := h.2.1.trans ok.n_
 unfold linkO
 rw [show 2 * d / 2 = d by omega]
 have h1 := h.forget ok d (sideX x j + k)
 have k1 := ok.forget d
 have e : apartX (x.set d (sideX x j + k)) (2 * d) j = k := by unfold apartX; rw [sideX_new _ _ _ (by omega), sideX_far _ _ _ hne]; omega
 have e' : apartX (x.set d (sideX x j + k)) j (2 * d) = -k := by unfold apartX at *; omega
 have h2 := h1.with_ k1 (i := 2 * d) (j := j) (c := k) (by omega) hj (by rw [e]; exact lets_near (Int.le_refl _))
 have k2 := k1.with_ (i := 2 * d) (j := j) (by omega) hj k
 exact (h2.with_ k2 (c := -k) hj (by omega) (by rw [e']; exact lets_near (Int.le_refl _))).close_ (k2.with_ hj (by omega) (-k))
theorem sideX_by {x : List Int} {d : Nat} (k : Int) (hd : d < x.length) (a : Nat) : sideX (x.set d (gI x (d : Int) + k)) a = sideX x a + byK d k a := by
 unfold byK
 by_cases e : a / 2 = d
 ·subst e
  rw [if_pos rfl]
  unfold sideX
  rw [gI_at _ _ _ hd]
  split <;> omega
 ·rw [sideX_far _ _ _ e, if_neg e, Int.add_zero]
theorem HasO.shift (h : HasO o x) (ok : OkO n o) {d y : Nat} (hd : (d : Int) < n) (hy : (y : Int) < n) (k : Int) : HasO (shiftO o d y k) (x.set d (gI x (y : Int) + k)) := by
 unfold shiftO
 split
 ·exact h.forget ok d _
 ·rename_i hk
  split
  ·rename_i hne
   have := h.link ok (d := d) (j := 2 * y) hd (by omega) (by omega) k
   rw [sideX_even] at this
   exact this
  ·rename_i hne
   obtain rfl : y = d := by omega
   obtain ⟨N, m, hN, hn, rfl, hm, hx, hl⟩ := h.form ok
   dsimp only
   rw [show (2 * n).toNat = N by omega]
   refine HasO.close_ (n := n) (HasO.mk_ hN (fun a b ha hb => ?_) (by rw [List.length_set]; exact hl)) (OkO.of_cells hN hn (shiftM_cells (by omega) hm))
   rw [shiftM_G hm.len ha hb]
   have e : apartX (x.set y (gI x (y : Int) + k)) a b = apartX x a b + (byK y k a - byK y k b) := by
    unfold apartX; rw [sideX_by k (by omega), sideX_by k (by omega)]; omega
   have hb' : isBound (byK y k a - byK y k b) = true := by
    unfold isBound byK
    rw [decide_eq_true_eq]
    repeat' split
    all_goals omega
   by_cases c : a ≠ b ∧ G N m a b ≠ 9223372036854775807
   ·rw [if_pos c, e]
    exact lets_plus (hm.bd a b ha hb) hb' (hx a b ha hb) (.inr (Int.le_refl _))
   ·rw [if_neg c]
    by_cases eab : a = b
    ·subst eab
     rw [e, show byK y k a - byK y k a = 0 by omega, Int.add_zero]
     exact hx a a ha ha
    ·exact .inl (by omega)
theorem HasO.turns (h : HasO o x) (ok : OkO n o) {d : Nat} (hd : (d : Int) < n) : HasO (turnsO o d) (x.set d (-gI x (d : Int))) := by
 obtain ⟨N, m, hN, hn, rfl, hm, hx, hl⟩ := h.form ok
 unfold turnsO
 dsimp only
 rw [show (2 * n).toNat = N by omega]
 refine HasO.close_ (n := n) (HasO.mk_ hN (fun a b ha hb => ?_) (by rw [List.length_set]; exact hl)) (OkO.of_cells hN hn (turnM_cells (by omega) hm))
 rw [turnM_G hm.len ha hb]
 have e : ∀ a, sideX (x.set d (-gI x (d : Int))) a = sideX x (otherV d a) := fun a => by
  unfold otherV
  by_cases e : a / 2 = d
  ·rw [if_pos e, sideX_nx]
   subst e
   unfold sideX
   rw [gI_at _ _ _ (by omega)]
   split <;> omega
  ·rw [if_neg e, sideX_far _ _ _ e]
 have := hx (otherV d a) (otherV d b) (otherV_lt (by omega) ha) (otherV_lt (by omega) hb)
 unfold apartX at *
 rw [e, e]; exact this
theorem inR_sides {up down t : Int} (h : Lets up t) (k : Lets down (-t)) : InR (sidesR up down) t := by
 unfold InR sidesR
 refine ⟨fun q => ?_, fun q => ?_⟩
 ·simp only [Bool.not_eq_true', decide_eq_false_iff_not] at q
  dsimp only
  rw [if_neg q]
  have := k.resolve_left q
  omega
 ·simp only [Bool.not_eq_true', decide_eq_false_iff_not] at q
  dsimp only
  rw [if_neg q]
  exact h.resolve_left q
section
variable {N : Nat} {m : List Int} (hm : Cells N m) (hx : HasM N m x)
include hm hx
theorem inR_var {v : Nat} (hv : 2 * v + 1 < N) : InR (varR N m v) (gI x (v : Int)) := by
 refine inR_sides (lets_half (hm.bd _ _ (by omega) hv) ?_) (lets_half (hm.bd _ _ hv (by omega)) ?_)
 ·have e : apartX x (2 * v) (2 * v + 1) = 2 * gI x (v : Int) := by unfold apartX; rw [sideX_even, sideX_odd]; omega
  rw [← e]; exact hx _ _ (by omega) hv
 ·have e : apartX x (2 * v + 1) (2 * v) = 2 * -gI x (v : Int) := by unfold apartX; rw [sideX_even, sideX_odd]; omega
  rw [← e]; exact hx _ _ hv (by omega)
omit hm hx in
theorem var_lo {v : Nat} (_hv : 2 * v + 1 < N) : -9223372036854775808 < (varR N m v).lo := by
 have hb := isBound_half (G N m (2 * v + 1) (2 * v))
 unfold isBound at hb
 rw [decide_eq_true_eq] at hb
 unfold varR sidesR
 dsimp only
 split <;> omega
omit hm in
theorem inR_sum {u v : Nat} (hu : 2 * u + 1 < N) (hv : 2 * v + 1 < N) : InR (sumR N m u v) (gI x (u : Int) + gI x (v : Int)) := by
 refine inR_sides ?_ ?_
 ·have e : apartX x (2 * u) (2 * v + 1) = gI x (u : Int) + gI x (v : Int) := by unfold apartX; rw [sideX_even, sideX_odd]; omega
  rw [← e]; exact hx _ _ (by omega) hv
 ·have e : apartX x (2 * u + 1) (2 * v) = -(gI x (u : Int) + gI x (v : Int)) := by unfold apartX; rw [sideX_even, sideX_odd]; omega
  rw [← e]; exact hx _ _ hu (by omega)
omit hm in
theorem inR_diff {u v : Nat} (hu : 2 * u + 1 < N) (hv : 2 * v + 1 < N) : InR (diffR N m u v) (gI x (u : Int) - gI x (v : Int)) := by
 refine inR_sides ?_ ?_
 ·have e : apartX x (2 * u) (2 * v) = gI x (u : Int) - gI x (v : Int) := by unfold apartX; rw [sideX_even, sideX_even]
  rw [← e]; exact hx _ _ (by omega) (by omega)
 ·have e : apartX x (2 * u + 1) (2 * v + 1) = -(gI x (u : Int) - gI x (v : Int)) := by unfold apartX; rw [sideX_odd, sideX_odd]; omega
  rw [← e]; exact hx _ _ hu hv
theorem inR_opd {v k : Int} (hv : 0 ≤ v → 2 * v + 1 < (N : Int)) : InR (opdR N m v k) (opdX x v k) := by
 unfold opdR opdX
 split
 ·rename_i h0
  have := inR_var hm hx (v := v.toNat) (by have := hv h0; omega)
  rw [Int.toNat_of_nonneg h0] at this
  exact this
 ·exact ⟨fun _ => Int.le_refl _, fun _ => Int.le_refl _⟩
end
theorem inR_turned {r : Rg} {t : Int} (h : InR r t) (hlo : -9223372036854775808 < r.lo) : InR (turnedR r) (-t) := by
 unfold InR turnedR negB at *
 dsimp only
 refine ⟨fun q => ?_, fun q => ?_⟩
 ·have := h.2 q
  split <;> omega
 ·have := h.1 q
  split <;> omega
theorem HasO.pair (h : HasO o x) (ok : OkO n o) {i j : Nat} (hi : (i : Int) < 2 * n) (hj : (j : Int) < 2 * n) {r : Rg} (hr : InR r (apartX x i j)) : HasO (pairO o i j r) x := by
 have e : apartX x j i = -apartX x i j := by unfold apartX; omega
 have h1 : HasO (if r.hh then withO o i j r.hi else o) x ∧ OkO n (if r.hh then withO o i j r.hi else o) := by
  split
  ·rename_i q
   exact ⟨h.with_ ok hi hj (lets_near (hr.2 q)), ok.with_ hi hj _⟩
  ·exact ⟨h, ok⟩
 unfold pairO
 dsimp only
 split
 ·rename_i q
  refine h1.1.with_ h1.2 hj hi ?_
  rw [e]
  have := hr.1 q
  unfold negB
  split
  ·exact .inl (by decide)
  ·exact lets_near (by omega)
 ·exact h1.1
theorem gI_far (x : List Int) {d u : Nat} (v : Int) (h : u ≠ d) : gI (x.set d v) (u : Int) = gI x (u : Int) := by rw [gI_set, if_neg (fun q => h q.1)]
theorem HasO.sums (h : HasO o x) (ok : OkO n o) {d u w : Nat} (hd : (d : Int) < n) (hu : (u : Int) < n) (hw : (w : Int) < n) (b : Bool) {t : Int} (ht : t = if b then gI x (u : Int) - gI x (w : Int) else gI x (u : Int) + gI x (w : Int)) : HasO (sumsO o d u w b) (x.set d t) := by
 obtain ⟨N, m, hN, hn, rfl, hm, hx, hl⟩ := h.form ok
 have hNN : (2 * n).toNat = N := by omega
 unfold sumsO
 dsimp only
 rw [hNN]
 have a0 : InR (if b then diffR N m u w else sumR N m u w) t := by
  rw [ht]
  cases b
  ·exact inR_sum hx (by omega) (by omega)
  ·exact inR_diff hx (by omega) (by omega)
 have f1 := h.forget ok d t
 have f2 := ok.forget d
 have g1 := f1.ranged f2 hd (r := if b then diffR N m u w else sumR N m u w) (by rw [gI_at _ _ _ (by omega)]; exact a0)
 have g2 := f2.ranged hd (if b then diffR N m u w else sumR N m u w)
 have hs : (((if b then 2 * w + 1 else 2 * w : Nat)) : Int) < 2 * n := by cases b <;> simp <;> omega
 have p1 : HasO (if u ≠ w ∧ w ≠ d then pairO (rangedO (forgetO ⟨n, false, m⟩ d) d (if b then diffR N m u w else sumR N m u w)) (2 * d) (if b then 2 * w + 1 else 2 * w) (varR N m u) else rangedO (forgetO ⟨n, false, m⟩ d) d (if b then diffR N m u w else sumR N m u w)) (x.set d t) ∧
   OkO n (if u ≠ w ∧ w ≠ d then pairO (rangedO (forgetO ⟨n, false, m⟩ d) d (if b then diffR N m u w else sumR N m u w)) (2 * d) (if b then 2 * w + 1 else 2 * w) (varR N m u) else rangedO (forgetO ⟨n, false, m⟩ d) d (if b then diffR N m u w else sumR N m u w)) := by
  split
  ·rename_i q
   refine ⟨g1.pair g2 (by omega) hs ?_, g2.pair (by omega) hs _⟩
   have e : apartX (x.set d t) (2 * d) (if b then 2 * w + 1 else 2 * w) = gI x (u : Int) := by
    unfold apartX
    rw [sideX_new _ _ _ (by omega)]
    cases b
    ·simp only [Bool.false_eq_true, if_false] at *
     rw [sideX_even, gI_far _ _ q.2]; omega
    ·simp only [if_true] at *
     rw [sideX_odd, gI_far _ _ q.2]; omega
   rw [e]
   exact inR_var hm hx (by omega)
  ·exact ⟨g1, g2⟩
 generalize (if u ≠ w ∧ w ≠ d then pairO (rangedO (forgetO ⟨n, false, m⟩ d) d (if b then diffR N m u w else sumR N m u w)) (2 * d) (if b then 2 * w + 1 else 2 * w) (varR N m u) else rangedO (forgetO ⟨n, false, m⟩ d) d (if b then diffR N m u w else sumR N m u w)) = d1 at *
 split
 ·rename_i q
  refine HasO.close_ (p1.1.pair p1.2 (by omega) (by omega) ?_) (p1.2.pair (by omega) (by omega) _)
  have e : apartX (x.set d t) (2 * d) (2 * u) = if b then -gI x (w : Int) else gI x (w : Int) := by
   unfold apartX
   rw [sideX_new _ _ _ (by omega), sideX_even, gI_far _ _ q.2]
   cases b
   ·simp only [Bool.false_eq_true, if_false] at *; omega
   ·simp only [if_true] at *; omega
  rw [e]
  have hv := inR_var hm hx (v := w) (by omega)
  cases b
  ·exact hv
  ·exact inR_turned hv (var_lo (by omega))
 ·exact p1.1.close_ p1.2
end
theorem mul_between {s t lo hi : Int} (h : lo ≤ t) (k : t ≤ hi) : min (s * lo) (s * hi) ≤ s * t ∧ s * t ≤ max (s * lo) (s * hi) := by
 by_cases h0 : 0 ≤ s
 ·have h1 := Int.mul_le_mul_of_nonneg_left h h0
  have h2 := Int.mul_le_mul_of_nonneg_left k h0
  omega
 ·have h1 := Int.mul_le_mul_of_nonpos_left (show s ≤ 0 by omega) h
  have h2 := Int.mul_le_mul_of_nonpos_left (show s ≤ 0 by omega) k
  omega
theorem inR_mul {a b : Rg} {s t : Int} (h : InR a s) (k : InR b t) : InR (mulR a b) (s * t) := by
 unfold mulR
 split
 ·rename_i q
  unfold nearR at q
  simp only [Bool.and_eq_true] at q
  obtain ⟨⟨⟨q1, q2⟩, q3⟩, q4⟩ := q
  have a1 := h.1 q1.1
  have a2 := h.2 q2.1
  have b1 := k.1 q3.1
  have b2 := k.2 q4.1
  have m1 := mul_between (s := s) b1 b2
  have m2 := mul_between (s := b.lo) a1 a2
  have m3 := mul_between (s := b.hi) a1 a2
  rw [Int.mul_comm b.lo a.lo, Int.mul_comm b.lo a.hi, Int.mul_comm b.lo s] at m2
  rw [Int.mul_comm b.hi a.lo, Int.mul_comm b.hi a.hi, Int.mul_comm b.hi s] at m3
  generalize s * t = st at *
  generalize a.lo * b.lo = p1 at *
  generalize a.lo * b.hi = p2 at *
  generalize a.hi * b.lo = p3 at *
  generalize a.hi * b.hi = p4 at *
  generalize s * b.lo = p5 at *
  generalize s * b.hi = p6 at *
  refine ⟨fun _ => ?_, fun _ => ?_⟩ <;> dsimp only <;> omega
 ·exact ⟨fun q => (by cases q), fun q => (by cases q)⟩
theorem one_only {b : Rg} {t : Int} (h : InR b t) (hk : oneOf b ≠ 0) : t = oneOf b ∧ 0 < oneOf b := by
 unfold oneOf at *
 split at hk
 ·rename_i q
  rw [if_pos q]
  simp only [Bool.and_eq_true, decide_eq_true_eq] at q
  obtain ⟨⟨⟨q1, q2⟩, q3⟩, q4⟩ := q
  have := h.1 q1
  have := h.2 q2
  omega
 ·exact absurd rfl hk
theorem inR_div {a b : Rg} {s t : Int} (h : InR a s) (k : InR b t) : InR (divR a b) (s.tdiv t) := by
 unfold divR
 split
 ·exact ⟨fun q => (by cases q), fun q => (by cases q)⟩
 ·rename_i hk
  obtain ⟨rfl, hp⟩ := one_only k hk
  refine ⟨fun q => ?_, fun q => ?_⟩
  ·dsimp only at q ⊢
   rw [if_pos q]
   exact Int.tdiv_le_tdiv hp (h.1 q)
  ·dsimp only at q ⊢
   rw [if_pos q]
   exact Int.tdiv_le_tdiv hp (h.2 q)
theorem tmod_bd {s k : Int} (hk : 0 < k) : 1 - k ≤ s.tmod k ∧ s.tmod k ≤ k - 1 ∧ (0 ≤ s → 0 ≤ s.tmod k ∧ s.tmod k ≤ s) ∧ (s ≤ 0 → s.tmod k ≤ 0) := by
 have key : ∀ u : Int, 0 ≤ u → 0 ≤ u.tmod k ∧ u.tmod k < k ∧ u.tmod k ≤ u := fun u hu => by
  refine ⟨Int.tmod_nonneg k hu, Int.tmod_lt_of_pos u hk, ?_⟩
  have := Int.mul_tdiv_add_tmod u k
  have h2 := Int.mul_nonneg (Int.le_of_lt hk) (Int.tdiv_nonneg hu (Int.le_of_lt hk))
  omega
 by_cases h0 : 0 ≤ s
 ·have := key s h0
  refine ⟨by omega, by omega, fun _ => ⟨this.1, this.2.2⟩, fun h => by omega⟩
 ·have := key (-s) (by omega)
  rw [Int.neg_tmod] at this
  exact ⟨by omega, by omega, fun h => absurd h h0, fun _ => by omega⟩
theorem inR_rem {a b : Rg} {s t : Int} (h : InR a s) (k : InR b t) : InR (remR a b) (s.tmod t) := by
 unfold remR
 split
 ·exact ⟨fun q => (by cases q), fun q => (by cases q)⟩
 ·rename_i hk
  obtain ⟨rfl, hp⟩ := one_only k hk
  obtain ⟨t1, t2, t3, t4⟩ := tmod_bd (s := s) hp
  refine ⟨fun _ => ?_, fun _ => ?_⟩
  ·dsimp only
   split
   ·rename_i q
    simp only [Bool.and_eq_true, decide_eq_true_eq] at q
    have := h.1 q.1
    exact (t3 (by omega)).1
   ·exact t1
  ·dsimp only
   split
   ·rename_i q
    simp only [Bool.and_eq_true, decide_eq_true_eq] at q
    have := h.2 q.1
    exact t4 (by omega)
   ·split
    ·rename_i q
     simp only [Bool.and_eq_true, decide_eq_true_eq] at q
     have := h.1 q.2.1
     have := h.2 q.1
     have := (t3 (by omega)).2
     omega
    ·exact t2
def Behind (e : Edg) (x y : List Int) : Prop :=
 e.kd ≠ 14 ∧ (e.kd = 12 → cmpB e.op (opdX x e.av e.an) (opdX x e.bv e.bn) = true) ∧
 (if e.kd = 9 ∨ e.kd = 10 then ∃ v, y = x.set e.dst.toNat v
  else if e.kd = 2 then y = x.set e.dst.toNat (opdX x e.av e.an)
  else if 3 ≤ e.kd ∧ e.kd ≤ 8 then (kindW e.kd (opdX x e.av e.an) (opdX x e.bv e.bn)).2 = 0 ∧ y = x.set e.dst.toNat (kindW e.kd (opdX x e.av e.an) (opdX x e.bv e.bn)).1
  else y = x)
def I64s (x : List Int) : Prop := ∀ i : Nat, -9223372036854775808 ≤ gI x (i : Int) ∧ gI x (i : Int) ≤ 9223372036854775807
theorem opdX_i64 {x : List Int} (hx : I64s x) {v k : Int} (hk : -9223372036854775808 ≤ k ∧ k ≤ 9223372036854775807) : -9223372036854775808 ≤ opdX x v k ∧ opdX x v k ≤ 9223372036854775807 := by
 unfold opdX
 split
 ·rename_i h
  have := hx v.toNat
  rwa [Int.toNat_of_nonneg h] at this
 ·exact hk
theorem fit_ok {a : Int} (h : (fit a).2 = 0) : (fit a).1 = a ∧ inI a = true := by
 unfold fit at *
 split at h
 ·rename_i q; rw [if_pos q]; exact ⟨rfl, q⟩
 ·cases h
theorem HasO.number {n : Int} {o : O} {x : List Int} (h : HasO o x) (ok : OkO n o) {d : Nat} (hd : (d : Int) < n) {kd a b : Int} (hk : (kindW kd a b).2 = 0) : HasO (numberO o kd d a b) (x.set d (kindW kd a b).1) := by
 unfold numberO
 rw [if_pos hk]
 exact h.give ok hd ⟨fun _ => Int.le_refl _, fun _ => Int.le_refl _⟩
theorem kind_num {x : List Int} {v k : Int} (h : v < 0) : opdX x v k = k := by unfold opdX; rw [if_neg (by omega)]
theorem kind_var {x : List Int} {v k : Int} (h : 0 ≤ v) : opdX x v k = gI x ((v.toNat : Nat) : Int) := by unfold opdX; rw [if_pos h, Int.toNat_of_nonneg h]
theorem divW_ok {a b : Int} (h : (divW a b).2 = 0) : (divW a b).1 = a.tdiv b := by
 unfold divW at *
 split at h
 ·rename_i q; rw [if_pos q]
 ·rename_i q; exact absurd h q
theorem remW_ok {a b : Int} (h : (remW a b).2 = 0) : (remW a b).1 = a.tmod b := by
 unfold remW at *
 split at h
 ·rename_i q; rw [if_pos q]
 ·rename_i q; exact absurd h q
theorem rest_in {N : Nat} {m x : List Int} (hm : Cells N m) (hx : HasM N m x) {v : Nat} (hv : 2 * v + 1 < N) {k : Int} : InR (restR k (varR N m v)) (k - gI x (v : Int)) := by
 have hr := inR_var hm hx hv
 generalize varR N m v = r at *
 unfold restR
 refine ⟨fun q => ?_, fun q => ?_⟩
 ·dsimp only at q ⊢
  simp only [Bool.and_eq_true, decide_eq_true_eq] at q
  rw [if_pos q.1]
  have e : (subW k r.hi).1 = k - r.hi := (fit_ok q.2).1
  rw [e]
  have := hr.2 q.1
  omega
 ·dsimp only at q ⊢
  simp only [Bool.and_eq_true, decide_eq_true_eq] at q
  rw [if_pos q.1]
  have e : (subW k r.lo).1 = k - r.lo := (fit_ok q.2).1
  rw [e]
  have := hr.1 q.1
  omega
theorem HasO.adds {n : Int} {o : O} {x : List Int} (h : HasO o x) (ok : OkO n o) {d : Nat} (hd : (d : Int) < n) {av an bv bn : Int} (ha : av < n) (hb : bv < n) (hab : 0 ≤ av ∨ 0 ≤ bv) (b : Bool)
  {t : Int} (ht : t = if b then opdX x av an - opdX x bv bn else opdX x av an + opdX x bv bn) : HasO (addsO o b d av an bv bn) (x.set d t) := by
 unfold addsO
 by_cases h0 : 0 ≤ av
 ·rw [if_pos h0]
  rw [kind_var h0] at ht
  by_cases h1 : 0 ≤ bv
  ·rw [if_pos h1]
   rw [kind_var h1] at ht
   exact h.sums ok hd (by omega) (by omega) b ht
  ·rw [if_neg h1]
   rw [kind_num (by omega)] at ht
   cases b with
   | true =>
    simp only [if_true] at *
    split
    ·rw [ht, show gI x ((av.toNat : Nat) : Int) - bn = gI x ((av.toNat : Nat) : Int) + -bn by omega]
     exact h.shift ok hd (by omega) _
    ·exact h.give ok hd ⟨fun q => (by cases q), fun q => (by cases q)⟩
   | false =>
    simp only [Bool.false_eq_true, if_false] at *
    rw [ht]
    exact h.shift ok hd (by omega) _
 ·rw [if_neg h0]
  have h1 : 0 ≤ bv := by omega
  rw [kind_num (by omega), kind_var h1] at ht
  cases b with
  | true =>
   simp only [if_true] at *
   rw [ht]
   obtain ⟨N, m, hN, hn, rfl, hm, hx, hl⟩ := h.form ok
   refine h.give ok hd ?_
   dsimp only
   rw [show (2 * n).toNat = N by omega]
   exact rest_in hm hx (by omega)
  | false =>
   simp only [Bool.false_eq_true, if_false] at *
   rw [ht, Int.add_comm]
   exact h.shift ok hd (by omega) _
theorem edge_sound {n : Int} {o : O} {x y : List Int} {e : Edg} (h : HasO o x) (ok : OkO n o) (hr : rightT n e = true) (hx : I64s x) (hea : -9223372036854775808 ≤ e.an ∧ e.an ≤ 9223372036854775807) (heb : -9223372036854775808 ≤ e.bn ∧ e.bn ≤ 9223372036854775807) (hy : Behind e x y) : HasO (edgeO o e) y := by
 have ha := right_a hr
 have hb := right_b hr
 have hd := fun hk => right_dst hr hk
 have hn := ok.rng
 dsimp only at ha hb hd
 obtain ⟨y1, y2, y3⟩ := hy
 unfold edgeO
 rw [if_neg y1]
 by_cases k9 : e.kd = 9 ∨ e.kd = 10
 ·rw [if_pos k9] at *
  obtain ⟨v, rfl⟩ := y3
  exact h.forget ok _ _
 ·rw [if_neg k9] at *
  by_cases k12 : e.kd = 12
  ·rw [if_pos k12]
   rw [if_neg (by omega), if_neg (by omega)] at y3
   subst y3
   refine h.assumes ok ?_ (by omega) (by omega) (opdX_i64 hx hea) (opdX_i64 hx heb) (y2 k12)
   unfold rightT rightE wOp at hr
   simp only [Bool.and_eq_true] at hr
   have := hr.1.1.2
   rw [decide_eq_true k12] at this
   simpa using this
  ·rw [if_neg k12]
   by_cases k2 : e.kd = 2
   ·rw [if_pos k2] at *
    have := hd (by omega)
    subst y3
    split
    ·rename_i q
     rw [kind_num q]
     exact h.give ok (by omega) ⟨fun _ => Int.le_refl _, fun _ => Int.le_refl _⟩
    ·split
     ·rename_i q1 q
      rw [kind_var (by omega), q]
      have e2 : x.set e.dst.toNat (gI x ((e.dst.toNat : Nat) : Int)) = x := set_same _ _
      rw [e2]; exact h
     ·rename_i q1 q
      have := h.link ok (d := e.dst.toNat) (j := 2 * e.av.toNat) (by omega) (by omega) (by omega) 0
      rw [sideX_even, Int.add_zero] at this
      rw [kind_var (by omega)]
      exact this
   ·rw [if_neg k2] at *
    by_cases k3 : e.kd = 3
    ·rw [if_pos (by omega)] at y3
     obtain ⟨y3, rfl⟩ := y3
     rw [if_pos k3]
     have := hd (by omega)
     have e1 : (kindW e.kd (opdX x e.av e.an) (opdX x e.bv e.bn)) = negW (opdX x e.av e.an) := by unfold kindW; rw [if_pos k3]
     split
     ·rename_i q
      rw [k3, kind_num q] at *
      have e4 : kindW 3 e.an (opdX x e.bv e.bn) = kindW 3 e.an e.bn := rfl
      rw [e4] at *
      exact h.number ok (by omega) y3
     ·rename_i q
      rw [e1] at y3 ⊢
      rw [show (negW (opdX x e.av e.an)).1 = -opdX x e.av e.an from (fit_ok y3).1]
      split
      ·rename_i q2
       rw [kind_var (by omega), q2]
       exact h.turns ok (by omega)
      ·rename_i q2
       have := h.link ok (d := e.dst.toNat) (j := 2 * e.av.toNat + 1) (by omega) (by omega) (by omega) 0
       rw [sideX_odd, Int.add_zero] at this
       rw [kind_var (by omega)]
       exact this
    ·rw [if_neg k3]
     by_cases k4 : e.kd = 4 ∨ e.kd = 5
     ·rw [if_pos (by omega)] at y3
      obtain ⟨y3, rfl⟩ := y3
      rw [if_pos k4]
      have := hd (by omega)
      split
      ·rename_i q
       rw [kind_num q.1, kind_num q.2] at *
       exact h.number ok (by omega) y3
      ·refine h.adds ok (by omega) (by omega) (by omega) (by omega) _ ?_
       rcases k4 with k | k
       ·rw [k] at y3 ⊢
        have e1 : kindW 4 (opdX x e.av e.an) (opdX x e.bv e.bn) = fit (opdX x e.av e.an + opdX x e.bv e.bn) := rfl
        rw [e1] at *
        rw [(fit_ok y3).1]; rfl
       ·rw [k] at y3 ⊢
        have e1 : kindW 5 (opdX x e.av e.an) (opdX x e.bv e.bn) = fit (opdX x e.av e.an - opdX x e.bv e.bn) := rfl
        rw [e1] at *
        rw [(fit_ok y3).1]; rfl
     ·rw [if_neg k4]
      by_cases k6 : e.kd = 6 ∨ e.kd = 7 ∨ e.kd = 8
      ·rw [if_pos (by omega)] at y3
       obtain ⟨y3, rfl⟩ := y3
       rw [if_pos k6]
       have := hd (by omega)
       split
       ·rename_i q
        rw [kind_num q.1, kind_num q.2] at *
        exact h.number ok (by omega) y3
       ·obtain ⟨N, m, hN, hn', rfl, hm, hx', hl⟩ := h.form ok
        unfold productsO
        refine h.give ok (by omega) ?_
        dsimp only
        rw [show (2 * n).toNat = N by omega]
        have r1 := inR_opd hm hx' (v := e.av) (k := e.an) (by omega)
        have r2 := inR_opd hm hx' (v := e.bv) (k := e.bn) (by omega)
        rcases k6 with k | k | k
        ·rw [k] at y3 ⊢
         have e1 : kindW 6 (opdX x e.av e.an) (opdX x e.bv e.bn) = fit (opdX x e.av e.an * opdX x e.bv e.bn) := rfl
         rw [e1] at *
         rw [(fit_ok y3).1]
         exact inR_mul r1 r2
        ·rw [k] at y3 ⊢
         have e1 : kindW 7 (opdX x e.av e.an) (opdX x e.bv e.bn) = divW (opdX x e.av e.an) (opdX x e.bv e.bn) := rfl
         rw [e1] at *
         rw [divW_ok y3]
         exact inR_div r1 r2
        ·rw [k] at y3 ⊢
         have e1 : kindW 8 (opdX x e.av e.an) (opdX x e.bv e.bn) = remW (opdX x e.av e.an) (opdX x e.bv e.bn) := rfl
         rw [e1] at *
         rw [remW_ok y3]
         exact inR_rem r1 r2
      ·rw [if_neg k6]
       rw [if_neg (by
        unfold rightT rightE at hr
        simp only [Bool.and_eq_true, decide_eq_true_eq] at hr
        omega)] at y3
       subst y3
       exact h
end
end Go.Proofs.YtnmpgijiimglcaaGreat
