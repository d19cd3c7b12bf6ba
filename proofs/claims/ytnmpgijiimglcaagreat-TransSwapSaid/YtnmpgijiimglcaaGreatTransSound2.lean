/-
  A point that takes an edge is one of what is known behind it: sums, products, the edge. Plain.
-/
import Derived.Test.YtnmpgijiimglcaaGreatTransSound
import Derived.Test.YtnmpgijiimglcaaGreatTight
namespace Go.Proofs.YtnmpgijiimglcaaGreat
open Go.RowKit

section
variable {n : Int} {o : O} {x : List Int}
theorem sideX_new (x : List Int) (d : Nat) (u : Int) (h : d < x.length) : sideX (x.set d u) (2 * d) = u := by rw [sideX_even, gI_at _ _ _ h]
theorem HasO.turns (h : HasO o x) (ok : OkO n o) {d : Nat} (hd : (d : Int) < n) : HasO (turnsO o d) (x.set d (-gI x (d : Int))) := by
  obtain ⟨N, m, hN, hn, rfl, hm, hx, hl⟩ := h.form ok
  unfold turnsO
  dsimp only
  rw [show (2 * n).toNat = N by omega]
  refine HasO.close_ (n := n) (HasO.mk_ hN (fun a b ha hb => ?_) (by rw [List.length_set]; exact hl)) (OkO.of_cells hN hn (turnM_cells (by omega) hm))
  rw [turnM_G hm.len ha hb]
  have e : ∀ a, sideX (x.set d (-gI x (d : Int))) a = sideX x (otherV d a) := fun a => by
    unfold otherV
    by_cases e : a / 2 = d
    · rw [if_pos e, sideX_nx]
      subst e
      unfold sideX
      rw [gI_at _ _ _ (by omega)]
      split <;> omega
    · rw [if_neg e, sideX_far _ _ _ e]
  have := hx (otherV d a) (otherV d b) (otherV_lt (by omega) ha) (otherV_lt (by omega) hb)
  unfold apartX at *
  rw [e, e]; exact this
theorem inR_sides {up down t : Int} (h : Lets up t) (k : Lets down (-t)) : InR (sidesR up down) t := by
  unfold InR sidesR
  refine ⟨fun q => ?_, fun q => ?_⟩
  · simp only [Bool.not_eq_true', decide_eq_false_iff_not] at q
    dsimp only
    rw [if_neg q]
    have := k.resolve_left q
    omega
  · simp only [Bool.not_eq_true', decide_eq_false_iff_not] at q
    dsimp only
    rw [if_neg q]
    exact h.resolve_left q
section
variable {N : Nat} {m : List Int} (hm : Cells N m) (hx : HasM N m x)
include hm hx
theorem inR_var {v : Nat} (hv : 2 * v + 1 < N) : InR (varR N m v) (gI x (v : Int)) := by
  refine inR_sides (lets_half (hm.bd _ _ (by omega) hv) ?_) (lets_half (hm.bd _ _ hv (by omega)) ?_)
  · have e : apartX x (2 * v) (2 * v + 1) = 2 * gI x (v : Int) := by unfold apartX; rw [sideX_even, sideX_odd]; omega
    rw [← e]; exact hx _ _ (by omega) hv
  · have e : apartX x (2 * v + 1) (2 * v) = 2 * -gI x (v : Int) := by unfold apartX; rw [sideX_even, sideX_odd]; omega
    rw [← e]; exact hx _ _ hv (by omega)
theorem var_lo {v : Nat} (hv : 2 * v + 1 < N) : -9223372036854775808 < (varR N m v).lo := by
  have hb := isBound_half (G N m (2 * v + 1) (2 * v))
  unfold isBound at hb
  rw [decide_eq_true_eq] at hb
  unfold varR sidesR
  dsimp only
  split <;> omega
theorem inR_sum {u v : Nat} (hu : 2 * u + 1 < N) (hv : 2 * v + 1 < N) : InR (sumR N m u v) (gI x (u : Int) + gI x (v : Int)) := by
  refine inR_sides ?_ ?_
  · have e : apartX x (2 * u) (2 * v + 1) = gI x (u : Int) + gI x (v : Int) := by unfold apartX; rw [sideX_even, sideX_odd]; omega
    rw [← e]; exact hx _ _ (by omega) hv
  · have e : apartX x (2 * u + 1) (2 * v) = -(gI x (u : Int) + gI x (v : Int)) := by unfold apartX; rw [sideX_even, sideX_odd]; omega
    rw [← e]; exact hx _ _ hu (by omega)
theorem inR_diff {u v : Nat} (hu : 2 * u + 1 < N) (hv : 2 * v + 1 < N) : InR (diffR N m u v) (gI x (u : Int) - gI x (v : Int)) := by
  refine inR_sides ?_ ?_
  · have e : apartX x (2 * u) (2 * v) = gI x (u : Int) - gI x (v : Int) := by unfold apartX; rw [sideX_even, sideX_even]
    rw [← e]; exact hx _ _ (by omega) (by omega)
  · have e : apartX x (2 * u + 1) (2 * v + 1) = -(gI x (u : Int) - gI x (v : Int)) := by unfold apartX; rw [sideX_odd, sideX_odd]; omega
    rw [← e]; exact hx _ _ hu hv
end
theorem inR_turned {r : Rg} {t : Int} (h : InR r t) (hlo : -9223372036854775808 < r.lo) : InR (turnedR r) (-t) := by
  unfold InR turnedR negB at *
  dsimp only
  refine ⟨fun q => ?_, fun q => ?_⟩
  · have := h.2 q
    split <;> omega
  · have := h.1 q
    split <;> omega
theorem HasO.pair (h : HasO o x) (ok : OkO n o) {i j : Nat} (hi : (i : Int) < 2 * n) (hj : (j : Int) < 2 * n) {r : Rg} (hr : InR r (apartX x i j)) : HasO (pairO o i j r) x := by
  have e : apartX x j i = -apartX x i j := by unfold apartX; omega
  have h1 : HasO (if r.hh then withO o i j r.hi else o) x ∧ OkO n (if r.hh then withO o i j r.hi else o) := by
    split
    · rename_i q
      exact ⟨h.with_ ok hi hj (lets_near (hr.2 q)), ok.with_ hi hj _⟩
    · exact ⟨h, ok⟩
  unfold pairO
  dsimp only
  split
  · rename_i q
    refine h1.1.with_ h1.2 hj hi ?_
    rw [e]
    have := hr.1 q
    unfold negB
    split
    · exact .inl (by decide)
    · exact lets_near (by omega)
  · exact h1.1
theorem gI_far (x : List Int) {d u : Nat} (v : Int) (h : u ≠ d) : gI (x.set d v) (u : Int) = gI x (u : Int) := by rw [gI_set, if_neg (fun q => h q.1)]
theorem HasO.sums (h : HasO o x) (ok : OkO n o) {d u w : Nat} (hd : (d : Int) < n) (hu : (u : Int) < n) (hw : (w : Int) < n) (b : Bool) {t : Int} (ht : t = if b then gI x (u : Int) - gI x (w : Int) else gI x (u : Int) + gI x (w : Int)) : HasO (sumsO o d u w b) (x.set d t) := by
  obtain ⟨N, m, hN, hn, rfl, hm, hx, hl⟩ := h.form ok
  have hNN : (2 * n).toNat = N := by omega
  unfold sumsO
  dsimp only
  rw [hNN]
  have hrng : InR (if b then diffR N m u w else sumR N m u w) t := by
    rw [ht]
    cases b
    · exact inR_sum hm hx (by omega) (by omega)
    · exact inR_diff hm hx (by omega) (by omega)
  have f1 := h.forget ok d t
  have f2 := ok.forget d
  have g1 := f1.ranged f2 hd (r := if b then diffR N m u w else sumR N m u w) (by rw [gI_at _ _ _ (by omega)]; exact hrng)
  have g2 := f2.ranged hd (if b then diffR N m u w else sumR N m u w)
  have hs : (((if b then 2 * w + 1 else 2 * w : Nat)) : Int) < 2 * n := by cases b <;> simp <;> omega
  have p1 : HasO (if u ≠ w ∧ w ≠ d then pairO (rangedO (forgetO ⟨n, false, m⟩ d) d (if b then diffR N m u w else sumR N m u w)) (2 * d) (if b then 2 * w + 1 else 2 * w) (varR N m u) else rangedO (forgetO ⟨n, false, m⟩ d) d (if b then diffR N m u w else sumR N m u w)) (x.set d t) ∧
      OkO n (if u ≠ w ∧ w ≠ d then pairO (rangedO (forgetO ⟨n, false, m⟩ d) d (if b then diffR N m u w else sumR N m u w)) (2 * d) (if b then 2 * w + 1 else 2 * w) (varR N m u) else rangedO (forgetO ⟨n, false, m⟩ d) d (if b then diffR N m u w else sumR N m u w)) := by
    split
    · rename_i q
      refine ⟨g1.pair g2 (by omega) hs ?_, g2.pair (by omega) hs _⟩
      have e : apartX (x.set d t) (2 * d) (if b then 2 * w + 1 else 2 * w) = gI x (u : Int) := by
        unfold apartX
        rw [sideX_new _ _ _ (by omega)]
        cases b
        · simp only [Bool.false_eq_true, if_false] at *
          rw [sideX_even, gI_far _ _ q.2]; omega
        · simp only [if_true] at *
          rw [sideX_odd, gI_far _ _ q.2]; omega
      rw [e]
      exact inR_var hm hx (by omega)
    · exact ⟨g1, g2⟩
  generalize (if u ≠ w ∧ w ≠ d then pairO (rangedO (forgetO ⟨n, false, m⟩ d) d (if b then diffR N m u w else sumR N m u w)) (2 * d) (if b then 2 * w + 1 else 2 * w) (varR N m u) else rangedO (forgetO ⟨n, false, m⟩ d) d (if b then diffR N m u w else sumR N m u w)) = d1 at *
  split
  · rename_i q
    refine HasO.close_ (p1.1.pair p1.2 (by omega) (by omega) ?_) (p1.2.pair (by omega) (by omega) _)
    have e : apartX (x.set d t) (2 * d) (2 * u) = if b then -gI x (w : Int) else gI x (w : Int) := by
      unfold apartX
      rw [sideX_new _ _ _ (by omega), sideX_even, gI_far _ _ q.2]
      cases b
      · simp only [Bool.false_eq_true, if_false] at *; omega
      · simp only [if_true] at *; omega
    rw [e]
    have hv := inR_var hm hx (v := w) (by omega)
    cases b
    · exact hv
    · exact inR_turned hv (var_lo hm hx (by omega))
  · exact p1.1.close_ p1.2
end
/-- Where a point goes behind an edge that it takes. -/
def Behind (e : Edg) (x y : List Int) : Prop :=
  e.kd ≠ 14 ∧ (e.kd = 12 → cmpB e.op (opdX x e.av e.an) (opdX x e.bv e.bn) = true) ∧
  (if e.kd = 9 ∨ e.kd = 10 then ∃ v, y = x.set e.dst.toNat v
   else if e.kd = 2 then y = x.set e.dst.toNat (opdX x e.av e.an)
   else if 3 ≤ e.kd ∧ e.kd ≤ 8 then (kindW e.kd (opdX x e.av e.an) (opdX x e.bv e.bn)).2 = 0 ∧ y = x.set e.dst.toNat (kindW e.kd (opdX x e.av e.an) (opdX x e.bv e.bn)).1
   else y = x)
theorem HasO.number {n : Int} {o : O} {x : List Int} (h : HasO o x) (ok : OkO n o) {d : Nat} (hd : (d : Int) < n) {kd a b : Int} (hk : (kindW kd a b).2 = 0) : HasO (numberO o kd d a b) (x.set d (kindW kd a b).1) := by
  unfold numberO
  rw [if_pos hk]
  exact h.give ok hd ⟨fun _ => Int.le_refl _, fun _ => Int.le_refl _⟩
end Go.Proofs.YtnmpgijiimglcaaGreat
