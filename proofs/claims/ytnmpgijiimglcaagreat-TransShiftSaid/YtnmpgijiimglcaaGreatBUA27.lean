/-
  A point that takes an edge is one of what is known behind it: sums, products, the edge. Plain.
  The octagon of one point, behind edges. Plain.
-/
import Derived.Test.YtnmpgijiimglcaaGreatBUA26
import Derived.Test.YtnmpgijiimglcaaGreatTight
namespace Go.Proofs.YtnmpgijiimglcaaGreat
section
open Go.RowKit

section
variable {n : Int} {o : O} {x : List Int}
theorem sideX_new (x : List Int) (d : Nat) (u : Int) (h : d < x.length) : sideX (x.set d u) (2 * d) = u := by rw [sideX_even, gI_at _ _ _ h]
theorem HasO.link (h : HasO o x) (ok : OkO n o) {d j : Nat} (hd : (d : Int) < n) (hj : (j : Int) < 2 * n) (hne : j / 2 ≠ d) (k : Int) : HasO (linkO o (2 * d) j k) (x.set d (sideX x j + k)) := by
  have hlen : (x.length : Int) = n := h.2.1.trans ok.n_
  unfold linkO
  rw [show 2 * d / 2 = d by omega]
  have h1 := h.forget ok d (sideX x j + k)
  have k1 := ok.forget d
  have e : apartX (x.set d (sideX x j + k)) (2 * d) j = k := by unfold apartX; rw [sideX_new _ _ _ (by omega), sideX_far _ _ _ hne]; omega
  have e' : apartX (x.set d (sideX x j + k)) j (2 * d) = -k := by unfold apartX at *; omega
  have h2 := h1.with_ k1 (i := 2 * d) (j := j) (c := k) (by omega) hj (by rw [e]; exact lets_near (Int.le_refl _))
  have k2 := k1.with_ (i := 2 * d) (j := j) (by omega) hj k
  exact (h2.with_ k2 (c := -k) hj (by omega) (by rw [e']; exact lets_near (Int.le_refl _))).close_ (k2.with_ hj (by omega) (-k))
theorem sideX_by {x : List Int} {d : Nat} (k : Int) (hd : d < x.length) (a : Nat) : sideX (x.set d (gI x (d : Int) + k)) a = sideX x a + byK d k a := by
  unfold byK
  by_cases e : a / 2 = d
  · subst e
    rw [if_pos rfl]
    unfold sideX
    rw [gI_at _ _ _ hd]
    split <;> omega
  · rw [sideX_far _ _ _ e, if_neg e, Int.add_zero]
theorem HasO.shift (h : HasO o x) (ok : OkO n o) {d y : Nat} (hd : (d : Int) < n) (hy : (y : Int) < n) (k : Int) : HasO (shiftO o d y k) (x.set d (gI x (y : Int) + k)) := by
  unfold shiftO
  split
  · exact h.forget ok d _
  · rename_i hk
    split
    · rename_i hne
      have := h.link ok (d := d) (j := 2 * y) hd (by omega) (by omega) k
      rw [sideX_even] at this
      exact this
    · rename_i hne
      obtain rfl : y = d := by omega
      obtain ⟨N, m, hN, hn, rfl, hm, hx, hl⟩ := h.form ok
      dsimp only
      rw [show (2 * n).toNat = N by omega]
      refine HasO.close_ (n := n) (HasO.mk_ hN (fun a b ha hb => ?_) (by rw [List.length_set]; exact hl)) (OkO.of_cells hN hn (shiftM_cells (by omega) hm))
      rw [shiftM_G hm.len ha hb]
      have e : apartX (x.set y (gI x (y : Int) + k)) a b = apartX x a b + (byK y k a - byK y k b) := by
        unfold apartX; rw [sideX_by k (by omega), sideX_by k (by omega)]; omega
      have hb' : isBound (byK y k a - byK y k b) = true := by
        unfold isBound byK
        rw [decide_eq_true_eq]
        repeat' split
        all_goals omega
      by_cases c : a ≠ b ∧ G N m a b ≠ 9223372036854775807
      · rw [if_pos c, e]
        exact lets_plus (hm.bd a b ha hb) hb' (hx a b ha hb) (.inr (Int.le_refl _))
      · rw [if_neg c]
        by_cases eab : a = b
        · subst eab
          rw [e, show byK y k a - byK y k a = 0 by omega, Int.add_zero]
          exact hx a a ha ha
        · exact .inl (by omega)
theorem HasO.turns (h : HasO o x) (ok : OkO n o) {d : Nat} (hd : (d : Int) < n) : HasO (turnsO o d) (x.set d (-gI x (d : Int))) := by
  obtain ⟨N, m, hN, hn, rfl, hm, hx, hl⟩ := h.form ok
  unfold turnsO
  dsimp only
  rw [show (2 * n).toNat = N by omega]
  refine HasO.close_ (n := n) (HasO.mk_ hN (fun a b ha hb => ?_) (by rw [List.length_set]; exact hl)) (OkO.of_cells hN hn (turnM_cells (by omega) hm))
  rw [turnM_G hm.len ha hb]
  have e : ∀ a, sideX (x.set d (-gI x (d : Int))) a = sideX x (otherV d a) := fun a => by
    unfold otherV
    by_cases e : a / 2 = d
    · rw [if_pos e, sideX_nx]
      subst e
      unfold sideX
      rw [gI_at _ _ _ (by omega)]
      split <;> omega
    · rw [if_neg e, sideX_far _ _ _ e]
  have := hx (otherV d a) (otherV d b) (otherV_lt (by omega) ha) (otherV_lt (by omega) hb)
  unfold apartX at *
  rw [e, e]; exact this
theorem inR_sides {up down t : Int} (h : Lets up t) (k : Lets down (-t)) : InR (sidesR up down) t := by
  unfold InR sidesR
  refine ⟨fun q => ?_, fun q => ?_⟩
  · simp only [Bool.not_eq_true', decide_eq_false_iff_not] at q
    dsimp only
    rw [if_neg q]
    have := k.resolve_left q
    omega
  · simp only [Bool.not_eq_true', decide_eq_false_iff_not] at q
    dsimp only
    rw [if_neg q]
    exact h.resolve_left q
section
variable {N : Nat} {m : List Int} (hm : Cells N m) (hx : HasM N m x)
include hm hx
theorem inR_var {v : Nat} (hv : 2 * v + 1 < N) : InR (varR N m v) (gI x (v : Int)) := by
  refine inR_sides (lets_half (hm.bd _ _ (by omega) hv) ?_) (lets_half (hm.bd _ _ hv (by omega)) ?_)
  · have e : apartX x (2 * v) (2 * v + 1) = 2 * gI x (v : Int) := by unfold apartX; rw [sideX_even, sideX_odd]; omega
    rw [← e]; exact hx _ _ (by omega) hv
  · have e : apartX x (2 * v + 1) (2 * v) = 2 * -gI x (v : Int) := by unfold apartX; rw [sideX_even, sideX_odd]; omega
    rw [← e]; exact hx _ _ hv (by omega)
omit hm hx in
theorem var_lo {v : Nat} (_hv : 2 * v + 1 < N) : -9223372036854775808 < (varR N m v).lo := by
  have hb := isBound_half (G N m (2 * v + 1) (2 * v))
  unfold isBound at hb
  rw [decide_eq_true_eq] at hb
  unfold varR sidesR
  dsimp only
  split <;> omega
omit hm in
theorem inR_sum {u v : Nat} (hu : 2 * u + 1 < N) (hv : 2 * v + 1 < N) : InR (sumR N m u v) (gI x (u : Int) + gI x (v : Int)) := by
  refine inR_sides ?_ ?_
  · have e : apartX x (2 * u) (2 * v + 1) = gI x (u : Int) + gI x (v : Int) := by unfold apartX; rw [sideX_even, sideX_odd]; omega
    rw [← e]; exact hx _ _ (by omega) hv
  · have e : apartX x (2 * u + 1) (2 * v) = -(gI x (u : Int) + gI x (v : Int)) := by unfold apartX; rw [sideX_even, sideX_odd]; omega
    rw [← e]; exact hx _ _ hu (by omega)
omit hm in
theorem inR_diff {u v : Nat} (hu : 2 * u + 1 < N) (hv : 2 * v + 1 < N) : InR (diffR N m u v) (gI x (u : Int) - gI x (v : Int)) := by
  refine inR_sides ?_ ?_
  · have e : apartX x (2 * u) (2 * v) = gI x (u : Int) - gI x (v : Int) := by unfold apartX; rw [sideX_even, sideX_even]
    rw [← e]; exact hx _ _ (by omega) (by omega)
  · have e : apartX x (2 * u + 1) (2 * v + 1) = -(gI x (u : Int) - gI x (v : Int)) := by unfold apartX; rw [sideX_odd, sideX_odd]; omega
    rw [← e]; exact hx _ _ hu hv
end
theorem inR_turned {r : Rg} {t : Int} (h : InR r t) (hlo : -9223372036854775808 < r.lo) : InR (turnedR r) (-t) := by
  unfold InR turnedR negB at *
  dsimp only
  refine ⟨fun q => ?_, fun q => ?_⟩
  · have := h.2 q
    split <;> omega
  · have := h.1 q
    split <;> omega
theorem HasO.pair (h : HasO o x) (ok : OkO n o) {i j : Nat} (hi : (i : Int) < 2 * n) (hj : (j : Int) < 2 * n) {r : Rg} (hr : InR r (apartX x i j)) : HasO (pairO o i j r) x := by
  have e : apartX x j i = -apartX x i j := by unfold apartX; omega
  have h1 : HasO (if r.hh then withO o i j r.hi else o) x ∧ OkO n (if r.hh then withO o i j r.hi else o) := by
    split
    · rename_i q
      exact ⟨h.with_ ok hi hj (lets_near (hr.2 q)), ok.with_ hi hj _⟩
    · exact ⟨h, ok⟩
  unfold pairO
  dsimp only
  split
  · rename_i q
    refine h1.1.with_ h1.2 hj hi ?_
    rw [e]
    have := hr.1 q
    unfold negB
    split
    · exact .inl (by decide)
    · exact lets_near (by omega)
  · exact h1.1
theorem gI_far (x : List Int) {d u : Nat} (v : Int) (h : u ≠ d) : gI (x.set d v) (u : Int) = gI x (u : Int) := by rw [gI_set, if_neg (fun q => h q.1)]
theorem HasO.sums (h : HasO o x) (ok : OkO n o) {d u w : Nat} (hd : (d : Int) < n) (hu : (u : Int) < n) (hw : (w : Int) < n) (b : Bool) {t : Int} (ht : t = if b then gI x (u : Int) - gI x (w : Int) else gI x (u : Int) + gI x (w : Int)) : HasO (sumsO o d u w b) (x.set d t) := by
  obtain ⟨N, m, hN, hn, rfl, hm, hx, hl⟩ := h.form ok
  have hNN : (2 * n).toNat = N := by omega
  unfold sumsO
  dsimp only
  rw [hNN]
  have hrng : InR (if b then diffR N m u w else sumR N m u w) t := by
    rw [ht]
    cases b
    · exact inR_sum hx (by omega) (by omega)
    · exact inR_diff hx (by omega) (by omega)
  have f1 := h.forget ok d t
  have f2 := ok.forget d
  have g1 := f1.ranged f2 hd (r := if b then diffR N m u w else sumR N m u w) (by rw [gI_at _ _ _ (by omega)]; exact hrng)
  have g2 := f2.ranged hd (if b then diffR N m u w else sumR N m u w)
  have hs : (((if b then 2 * w + 1 else 2 * w : Nat)) : Int) < 2 * n := by cases b <;> simp <;> omega
  have p1 : HasO (if u ≠ w ∧ w ≠ d then pairO (rangedO (forgetO ⟨n, false, m⟩ d) d (if b then diffR N m u w else sumR N m u w)) (2 * d) (if b then 2 * w + 1 else 2 * w) (varR N m u) else rangedO (forgetO ⟨n, false, m⟩ d) d (if b then diffR N m u w else sumR N m u w)) (x.set d t) ∧
      OkO n (if u ≠ w ∧ w ≠ d then pairO (rangedO (forgetO ⟨n, false, m⟩ d) d (if b then diffR N m u w else sumR N m u w)) (2 * d) (if b then 2 * w + 1 else 2 * w) (varR N m u) else rangedO (forgetO ⟨n, false, m⟩ d) d (if b then diffR N m u w else sumR N m u w)) := by
    split
    · rename_i q
      refine ⟨g1.pair g2 (by omega) hs ?_, g2.pair (by omega) hs _⟩
      have e : apartX (x.set d t) (2 * d) (if b then 2 * w + 1 else 2 * w) = gI x (u : Int) := by
        unfold apartX
        rw [sideX_new _ _ _ (by omega)]
        cases b
        · simp only [Bool.false_eq_true, if_false] at *
          rw [sideX_even, gI_far _ _ q.2]; omega
        · simp only [if_true] at *
          rw [sideX_odd, gI_far _ _ q.2]; omega
      rw [e]
      exact inR_var hm hx (by omega)
    · exact ⟨g1, g2⟩
  generalize (if u ≠ w ∧ w ≠ d then pairO (rangedO (forgetO ⟨n, false, m⟩ d) d (if b then diffR N m u w else sumR N m u w)) (2 * d) (if b then 2 * w + 1 else 2 * w) (varR N m u) else rangedO (forgetO ⟨n, false, m⟩ d) d (if b then diffR N m u w else sumR N m u w)) = d1 at *
  split
  · rename_i q
    refine HasO.close_ (p1.1.pair p1.2 (by omega) (by omega) ?_) (p1.2.pair (by omega) (by omega) _)
    have e : apartX (x.set d t) (2 * d) (2 * u) = if b then -gI x (w : Int) else gI x (w : Int) := by
      unfold apartX
      rw [sideX_new _ _ _ (by omega), sideX_even, gI_far _ _ q.2]
      cases b
      · simp only [Bool.false_eq_true, if_false] at *; omega
      · simp only [if_true] at *; omega
    rw [e]
    have hv := inR_var hm hx (v := w) (by omega)
    cases b
    · exact hv
    · exact inR_turned hv (var_lo (by omega))
  · exact p1.1.close_ p1.2
end
/-- Where a point goes behind an edge that it takes. -/
def Behind (e : Edg) (x y : List Int) : Prop :=
  e.kd ≠ 14 ∧ (e.kd = 12 → cmpB e.op (opdX x e.av e.an) (opdX x e.bv e.bn) = true) ∧
  (if e.kd = 9 ∨ e.kd = 10 then ∃ v, y = x.set e.dst.toNat v
   else if e.kd = 2 then y = x.set e.dst.toNat (opdX x e.av e.an)
   else if 3 ≤ e.kd ∧ e.kd ≤ 8 then (kindW e.kd (opdX x e.av e.an) (opdX x e.bv e.bn)).2 = 0 ∧ y = x.set e.dst.toNat (kindW e.kd (opdX x e.av e.an) (opdX x e.bv e.bn)).1
   else y = x)
theorem fit_ok {a : Int} (h : (fit a).2 = 0) : (fit a).1 = a ∧ inI a = true := by
  unfold fit at *
  split at h
  · rename_i q; rw [if_pos q]; exact ⟨rfl, q⟩
  · cases h
theorem HasO.number {n : Int} {o : O} {x : List Int} (h : HasO o x) (ok : OkO n o) {d : Nat} (hd : (d : Int) < n) {kd a b : Int} (hk : (kindW kd a b).2 = 0) : HasO (numberO o kd d a b) (x.set d (kindW kd a b).1) := by
  unfold numberO
  rw [if_pos hk]
  exact h.give ok hd ⟨fun _ => Int.le_refl _, fun _ => Int.le_refl _⟩
theorem kind_num {x : List Int} {v k : Int} (h : v < 0) : opdX x v k = k := by unfold opdX; rw [if_neg (by omega)]
theorem kind_var {x : List Int} {v k : Int} (h : 0 ≤ v) : opdX x v k = gI x ((v.toNat : Nat) : Int) := by unfold opdX; rw [if_pos h, Int.toNat_of_nonneg h]
theorem rest_in {N : Nat} {m x : List Int} (hm : Cells N m) (hx : HasM N m x) {v : Nat} (hv : 2 * v + 1 < N) {k : Int} : InR (restR k (varR N m v)) (k - gI x (v : Int)) := by
  have hr := inR_var hm hx hv
  generalize varR N m v = r at *
  unfold restR
  refine ⟨fun q => ?_, fun q => ?_⟩
  · dsimp only at q ⊢
    simp only [Bool.and_eq_true, decide_eq_true_eq] at q
    rw [if_pos q.1]
    have e : (subW k r.hi).1 = k - r.hi := (fit_ok q.2).1
    rw [e]
    have := hr.2 q.1
    omega
  · dsimp only at q ⊢
    simp only [Bool.and_eq_true, decide_eq_true_eq] at q
    rw [if_pos q.1]
    have e : (subW k r.lo).1 = k - r.lo := (fit_ok q.2).1
    rw [e]
    have := hr.1 q.1
    omega
theorem HasO.adds {n : Int} {o : O} {x : List Int} (h : HasO o x) (ok : OkO n o) {d : Nat} (hd : (d : Int) < n) {av an bv bn : Int} (ha : av < n) (hb : bv < n) (hab : 0 ≤ av ∨ 0 ≤ bv) (b : Bool)
    {t : Int} (ht : t = if b then opdX x av an - opdX x bv bn else opdX x av an + opdX x bv bn) : HasO (addsO o b d av an bv bn) (x.set d t) := by
  unfold addsO
  by_cases h0 : 0 ≤ av
  · rw [if_pos h0]
    rw [kind_var h0] at ht
    by_cases h1 : 0 ≤ bv
    · rw [if_pos h1]
      rw [kind_var h1] at ht
      exact h.sums ok hd (by omega) (by omega) b ht
    · rw [if_neg h1]
      rw [kind_num (by omega)] at ht
      cases b with
      | true =>
        simp only [if_true] at *
        split
        · rw [ht, show gI x ((av.toNat : Nat) : Int) - bn = gI x ((av.toNat : Nat) : Int) + -bn by omega]
          exact h.shift ok hd (by omega) _
        · exact h.give ok hd ⟨fun q => (by cases q), fun q => (by cases q)⟩
      | false =>
        simp only [Bool.false_eq_true, if_false] at *
        rw [ht]
        exact h.shift ok hd (by omega) _
  · rw [if_neg h0]
    have h1 : 0 ≤ bv := by omega
    rw [kind_num (by omega), kind_var h1] at ht
    cases b with
    | true =>
      simp only [if_true] at *
      rw [ht]
      obtain ⟨N, m, hN, hn, rfl, hm, hx, hl⟩ := h.form ok
      refine h.give ok hd ?_
      dsimp only
      rw [show (2 * n).toNat = N by omega]
      exact rest_in hm hx (by omega)
    | false =>
      simp only [Bool.false_eq_true, if_false] at *
      rw [ht, Int.add_comm]
      exact h.shift ok hd (by omega) _
end
section
open Go.RowKit

/-- Each cell is without end, or just how far the point's sides are apart. -/
def ExactM (N : Nat) (m y : List Int) : Prop := ∀ a b : Nat, a < N → b < N → G N m a b = 9223372036854775807 ∨ G N m a b = apartX y a b
def SmallX (y : List Int) : Prop := ∀ a : Nat, -1152921504606846976 ≤ sideX y a ∧ sideX y a ≤ 1152921504606846976
theorem plus_exact {a b p q : Int} (ha : a = 9223372036854775807 ∨ a = p) (hb : b = 9223372036854775807 ∨ b = q) (hp : -4611686018427387904 ≤ p ∧ p ≤ 4611686018427387904) (hq : -4611686018427387904 ≤ q ∧ q ≤ 4611686018427387904) (hs : -4611686018427387904 ≤ p + q ∧ p + q ≤ 4611686018427387904) :
    (plus a b = 9223372036854775807 ∨ plus a b = p + q) ∧ sat a b = false := by
  have n1 : near 9223372036854775807 = 9223372036854775807 := by decide
  have n2 : ∀ z : Int, -4611686018427387904 ≤ z ∧ z ≤ 4611686018427387904 → near z = z := fun z hz => by unfold near; rw [if_neg (by omega), if_neg (by omega)]
  rcases ha with rfl | rfl
  · exact ⟨.inl (plus_l n1), by unfold sat; rw [n1]; simp⟩
  · rcases hb with rfl | rfl
    · exact ⟨.inl (plus_r n1), by unfold sat; rw [n1]; simp⟩
    · refine ⟨.inr ?_, ?_⟩
      · rw [plus_fin (by rw [n2 _ hp]; omega) (by rw [n2 _ hq]; omega), n2 _ hp, n2 _ hq, n2 _ hs]
      · unfold sat
        rw [n2 _ hp, n2 _ hq]
        simp only [Bool.and_eq_false_iff, decide_eq_false_iff_not]
        right; omega
section
variable {N : Nat} {y : List Int} (hy : SmallX y)
include hy
theorem apart_small (a b : Nat) : -2305843009213693952 ≤ apartX y a b ∧ apartX y a b ≤ 2305843009213693952 := by
  have h1 := hy a
  have h2 := hy b
  unfold apartX; omega
/-- A step that keeps size, and exactness. -/
def KeepX (N : Nat) (y xs ys : List Int) : Prop := xs.length = N * N → ExactM N xs y → ys.length = N * N ∧ ExactM N ys y
omit hy in
theorem KeepX.rep {f : Nat → List Int → List Int} : ∀ (t : Nat) (_ : ∀ i zs, i < t → KeepX N y zs (f i zs)) (zs : List Int), KeepX N y zs (rep f t zs)
  | 0, _, _, hl, hx => ⟨hl, hx⟩
  | t + 1, hf, zs, hl, hx => by
    obtain ⟨h1, h3⟩ := KeepX.rep t (fun i zs hi => hf i zs (by omega)) zs hl hx
    exact hf t _ (by omega) h1 h3
omit hy in
theorem ExactM.set {xs : List Int} (hl : xs.length = N * N) (h : ExactM N xs y) {i j : Nat} (hi : i < N) (hj : j < N) {v : Int} (hv : v = 9223372036854775807 ∨ v = apartX y i j) : ExactM N (xs.set (i * N + j) v) y := fun a b ha hb => by
  rw [G_set hl hi hj v hb]
  split
  · rename_i e; rw [e.1, e.2]; exact hv
  · exact h a b ha hb
theorem x_plus {xs : List Int} (h : ExactM N xs y) {i j k l : Nat} (hi : i < N) (hj : j < N) (hk : k < N) (hl : l < N) : (plus (G N xs i j) (G N xs k l) = 9223372036854775807 ∨ plus (G N xs i j) (G N xs k l) = apartX y i j + apartX y k l) ∧ sat (G N xs i j) (G N xs k l) = false := by
  have h1 := apart_small hy i j
  have h2 := apart_small hy k l
  exact plus_exact (h i j hi hj) (h k l hk hl) (by omega) (by omega) (by omega)
theorem pStep_x {k i j : Nat} (hk : k < N) (hi : i < N) (hj : j < N) (zs : List Int) : KeepX N y zs (pStep N k i j zs) := fun hl hx => by
  refine ⟨(pStep_low N k i j zs).len.trans hl, hx.set hl hi hj ?_⟩
  have h1 := hx i j hi hj
  have h2 := (x_plus hy hx hi hk hk hj).1
  have e : apartX y i k + apartX y k j = apartX y i j := by unfold apartX; omega
  have hb := apart_small hy i j
  rw [e] at h2
  unfold G at *
  omega
theorem paths_x (t : Nat) (ht : t ≤ N) (zs : List Int) : KeepX N y zs (paths N t zs) :=
  KeepX.rep t (fun k zs hk => KeepX.rep N (fun i zs hi => KeepX.rep N (fun j zs hj => pStep_x hy (by omega) hi hj zs) zs) zs) zs
theorem mirrors_x (hN : N % 2 = 0) (zs : List Int) : KeepX N y zs (mirrors N N zs) :=
  KeepX.rep N (fun i zs hi => KeepX.rep N (fun j zs hj => fun hl hx => by
    have k1 := hx i j hi hj
    have k2 := hx (nx j) (nx i) (nxl hN hj) (nxl hN hi)
    rw [apartX_nx] at k2
    have hb := apart_small hy i j
    have k3 : min (gI zs ((i * N + j : Nat) : Int)) (gI zs ((nx j * N + nx i : Nat) : Int)) = 9223372036854775807 ∨ min (gI zs ((i * N + j : Nat) : Int)) (gI zs ((nx j * N + nx i : Nat) : Int)) = apartX y i j := by
      unfold G at *; omega
    exact ⟨(mStep_low N i j zs).len.trans hl, (hx.set hl hi hj k3).set (by rw [List.length_set]; exact hl) (nxl hN hj) (nxl hN hi) (by rw [apartX_nx]; exact k3)⟩) zs) zs
theorem evens_x (hN : N % 2 = 0) (zs : List Int) : KeepX N y zs (evens N N zs) :=
  KeepX.rep N (fun i zs hi => fun hl hx => by
    have k1 := hx i (nx i) hi (nxl hN hi)
    rw [apartX_two] at k1
    refine ⟨(eStep_low N i zs).len.trans hl, hx.set hl hi (nxl hN hi) ?_⟩
    rw [apartX_two]
    have h1 := hy i
    rcases k1 with k | k
    · left; unfold G at k; rw [k]; decide
    · right
      unfold G at k
      rw [k]
      have n2 : near (2 * sideX y i) = 2 * sideX y i := by unfold near; rw [if_neg (by omega), if_neg (by omega)]
      unfold even
      rw [n2, if_neg (by omega)]
      omega) zs
/-- What closing makes of it. -/
theorem exact_close {m : List Int} (hN : N % 2 = 0) (hc : Cells N m) (hb : AllB m) (hx : ExactM N m y) : ∃ ys, closeM N m = some ys ∧ Tight N ys ∧ HasM N ys y ∧ Le ys m := by
  have hM : HasM N m y := fun a b ha hb => (hx a b ha hb).imp id (fun e => Int.le_of_eq e.symm)
  obtain ⟨ys, h1, h2⟩ := closeM_has hN hc.len hb hM
  refine ⟨ys, h1, closeM_tight hN hc hb h1 ?_, h2, (closeM_low h1).le hb⟩
  have p1 := fun k hk => paths_x hy (N := N) k hk m hc.len hx
  obtain ⟨l1, x1⟩ := p1 N (Nat.le_refl _)
  obtain ⟨l2, x2⟩ := mirrors_x hy hN _ l1 x1
  obtain ⟨l3, x3⟩ := evens_x hy hN _ l2 x2
  exact ⟨fun k i j hk hi hj => (x_plus hy (p1 k (by omega)).2 hi hk hk hj).2, fun i j hi hj _ => (x_plus hy x3 hi (nxl hN hi) (nxl hN hj) hj).2, fun i hi => (x_plus hy x3 hi (nxl hN hi) (nxl hN hi) hi).2⟩
end
theorem G_ext {N : Nat} {xs ys : List Int} (h1 : xs.length = N * N) (h2 : ys.length = N * N) (h : ∀ a b : Nat, a < N → b < N → G N xs a b = G N ys a b) : xs = ys := by
  refine List.ext_getElem (by rw [h1, h2]) fun i q1 q2 => ?_
  have hN : 0 < N := by
    rcases Nat.eq_zero_or_pos N with e | e
    · subst e; simp at h1; subst h1; simp at q1
    · exact e
  have hi : i < N * N := by omega
  have := h (i / N) (i % N) (Nat.div_lt_of_lt_mul hi) (Nat.mod_lt _ hN)
  unfold G gI at this
  rw [Nat.div_add_mod' i N, Int.toNat_natCast] at this
  simpa [List.getD, q1, q2] using this
/-- The matrix of one point. -/
def ptM (N : Nat) (y : List Int) : List Int := (List.range (N * N)).map fun p => apartX y (p / N) (p % N)
theorem ptM_len (N : Nat) (y : List Int) : (ptM N y).length = N * N := by simp [ptM]
theorem ptM_G {N : Nat} (y : List Int) {a b : Nat} (ha : a < N) (hb : b < N) : G N (ptM N y) a b = apartX y a b := by
  unfold ptM
  rw [G_range rfl _ ha hb, at_div hb, at_mod hb]
theorem bound_small {z : Int} (h : -4611686018427387904 ≤ z ∧ z ≤ 4611686018427387904) : isBound z = true := by unfold isBound; rw [decide_eq_true_eq]; exact .inr h
theorem ptM_cells {N : Nat} (hN : N % 2 = 0) {y : List Int} (hy : SmallX y) : Cells N (ptM N y) := by
  refine ⟨ptM_len _ _, fun a b ha hb => ?_, fun a ha => ?_, fun a b ha hb => ?_⟩
  · show isBound (G N _ a b) = true
    rw [ptM_G y ha hb]
    have := apart_small hy a b
    exact bound_small (by omega)
  · show G N _ a a = 0
    rw [ptM_G y ha ha]; unfold apartX; omega
  · show G N _ a b = G N _ (nx b) (nx a)
    rw [ptM_G y ha hb, ptM_G y (nxl hN hb) (nxl hN ha), apartX_nx]
theorem cells_all {n : Int} {N : Nat} {m : List Int} (hN : (N : Int) = 2 * n) (hn : N ≤ 128) (h : Cells N m) : AllB m := by
  have := check_bounds (check_of hN hn h)
  exact this
/-- A matrix that is exact closes to the point's, if the closed one is all there. -/
theorem close_pt {n : Int} {N : Nat} {m y : List Int} (hN : (N : Int) = 2 * n) (hn : N ≤ 128) (hy : SmallX y) (hc : Cells N m) (hx : ExactM N m y)
    (hall : ∀ ys, Tight N ys → ExactM N ys y → (∀ a b : Nat, a < N → b < N → G N m a b ≠ 9223372036854775807 → G N ys a b ≠ 9223372036854775807) → ∀ a b : Nat, a < N → b < N → G N ys a b ≠ 9223372036854775807) : closeO ⟨n, false, m⟩ = ⟨n, false, ptM N y⟩ := by
  have hN2 : N % 2 = 0 := by omega
  have hb := cells_all hN hn hc
  obtain ⟨ys, h1, h2, h3, h4⟩ := exact_close hy hN2 hc hb hx
  rw [closeO_some (by rw [show (2 * n).toNat = N by omega]; exact h1)]
  have p1 := paths_x hy (N := N) N (Nat.le_refl _) m hc.len hx
  obtain ⟨l2, x2⟩ := mirrors_x hy hN2 _ p1.1 p1.2
  obtain ⟨l3, x3⟩ := evens_x hy hN2 _ l2 x2
  have hb3 : AllB (evens N N (mirrors N N (paths N N m))) := (evens_low _ _ _).all ((mirrors_low _ _ _).all ((paths_low _ _ _).all hb))
  have key : ∀ a b : Nat, a < N → b < N → G N ys a b = 9223372036854775807 ∨ G N ys a b = apartX y a b := fun a b ha hb' => by
    have e := strengthens_G hN2 l3 hb3 a b ha hb'
    have e2 : ys = strengthens N N (evens N N (mirrors N N (paths N N m))) := by
      unfold closeM at h1
      split at h1
      · cases h1
      · split at h1
        · cases h1
        · injection h1 with h1; exact h1.symm
    rw [e2, e]
    unfold strong
    split
    · exact x3 a b ha hb'
    · have k1 := x3 a b ha hb'
      have k2 := (x_plus hy x3 ha (nxl hN2 ha) (nxl hN2 hb') hb').1
      have e3 : apartX y a (nx a) + apartX y (nx b) b = 2 * apartX y a b := by unfold apartX; rw [sideX_nx, sideX_nx]; omega
      rw [e3] at k2
      have hs := apart_small hy a b
      have k3 : half (plus (G N (evens N N (mirrors N N (paths N N m))) a (nx a)) (G N (evens N N (mirrors N N (paths N N m))) (nx b) b)) = 9223372036854775807 ∨ half (plus (G N (evens N N (mirrors N N (paths N N m))) a (nx a)) (G N (evens N N (mirrors N N (paths N N m))) (nx b) b)) = apartX y a b := by
        rcases k2 with k | k
        · left; rw [k]; decide
        · right
          rw [k]
          have n2 : near (2 * apartX y a b) = 2 * apartX y a b := by unfold near; rw [if_neg (by omega), if_neg (by omega)]
          unfold half
          rw [n2, if_neg (by omega)]
          omega
      omega
  have hall' := hall ys h2 key (fun a b ha hb' q => by
    have := h4 (a * N + b)
    have := bnd (hb (a * N + b))
    unfold G at *; omega)
  congr 1
  refine G_ext h2.cells.len (ptM_len _ _) fun a b ha hb' => ?_
  rw [ptM_G y ha hb']
  exact (key a b ha hb').resolve_left (hall' a b ha hb')
end
end Go.Proofs.YtnmpgijiimglcaaGreat
