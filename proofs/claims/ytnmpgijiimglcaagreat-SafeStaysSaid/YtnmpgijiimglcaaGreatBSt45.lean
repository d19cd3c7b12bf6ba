import Derived.Test.YtnmpgijiimglcaaGreatBSt34
import Derived.Test.YtnmpgijiimglcaaGreatSEdge5
import Derived.Test.YtnmpgijiimglcaaGreatBSt36
import Derived.Test.YtnmpgijiimglcaaGreatTEdgeAll
import Derived.Test.YtnmpgijiimglcaaGreatBSt29
import Derived.Test.YtnmpgijiimglcaaGreatBSt11
import Derived.Test.YtnmpgijiimglcaaGreatBSt08
namespace Go.Proofs.YtnmpgijiimglcaaGreat
section
open Go.RowKit
set_option maxRecDepth 100000
set_option maxHeartbeats 8000000
attribute [local go_sem ↓] Go.wp_at_zero Go.wp_at_succ
def safeB (C : O) (kd av an bv bn sz : Int) : Bool :=
 C.e || (if kd = 14 then false else if kd = 1 ∨ kd = 2 ∨ kd = 9 ∨ kd = 12 ∨ kd = 13 then true
  else if kd = 10 ∨ kd = 11 then placeB (opdR (2 * C.n).toNat C.m av an) sz
  else if kd = 3 then fitsK 3 (opdR (2 * C.n).toNat C.m av an) rg0
  else if kd = 4 then (fitsK 4 (opdR (2 * C.n).toNat C.m av an) (opdR (2 * C.n).toNat C.m bv bn) || (decide (0 ≤ av) && decide (0 ≤ bv) && wholeB (sumR (2 * C.n).toNat C.m av.toNat bv.toNat)))
  else if kd = 5 then (fitsK 5 (opdR (2 * C.n).toNat C.m av an) (opdR (2 * C.n).toNat C.m bv bn) || (decide (0 ≤ av) && decide (0 ≤ bv) && wholeB (diffR (2 * C.n).toNat C.m av.toNat bv.toNat)))
  else fitsK kd (opdR (2 * C.n).toNat C.m av an) (opdR (2 * C.n).toNat C.m bv bn))
theorem sedge_err (o R : O) (fr te kd dst arr op av an bv bn sz er : Int) (her : er ≠ 0) (A : Option Addr) (cap : Nat) (w : World) (hx : Rd w w.heap.size A o.m)
  (HP : ∀ W, w.heap.size ≤ W.heap.size → Rd W W.heap.size A o.m → Calls Tryz.prog 28 #[.agg #[o.n, o.e, .slice A o.m.length cap], .agg #[fr, te, kd, dst, arr, op, av, an, bv, bn]] W (ErrSx W w.heap.size R er)) :
  Calls Tryz.prog 43 #[.agg #[o.n, o.e, .slice A o.m.length cap], .agg #[fr, te, kd, dst, arr, op, av, an, bv, bn], sz] w fun e w' => e = .returned (.tuple #[false, er]) ∧ Below w.heap.size w w' := by
 have HT := hid HP
 clear HP
 have t1 : (er != 0) = true := by simpa using her
 obtain ⟨p0, p1, a2, -⟩ := new_two w #[o.n, o.e, .slice A o.m.length cap] #[fr, te, kd, dst, arr, op, av, an, bv, bn] 24 44
 replace hx := hx.up a2
 go_enter Tryz.func43, Tryz.ntmps43
 obtain ⟨x0, x1, x2, fx⟩ := octbox p0
 obtain ⟨y0, y1, y2, y3, y4, y5, y6, y7, y8, y9, fy⟩ := edgbox p1
 go_wp2_with fail
 clear x0 x1 x2 fx y0 y1 y2 y3 y4 y5 y6 y7 y8 y9 fy
 generalize (w.alloc (Obj.cells #[o.n, o.e, .slice A o.m.length cap] 24)).alloc (Obj.cells #[fr, te, kd, dst, arr, op, av, an, bv, bn] 44) = w1 at *
 (with_reducible refine (HT.out w1 a2.size hx).mono ?_)
 rintro e2 w2 ⟨A1, c1, rfl, sx1, hb2⟩
 replace a2 := bup a2 hb2
 clear hb2 sx1 HT hx p0 p1
 replace a2 := bup a2 (new1 w2 (Obj.cells #[R.n, R.e, .slice A1 R.m.length c1] 24))
 go_wp2
 refine bodyPost_ret (v := .tuple #[false, er]) (by simp [results, Tryz.results43, go_sem]) rfl ⟨rfl, a2⟩
theorem sEdge_all (o : O) (fr te kd dst arr op av an bv bn sz : Int) (ia : I64 an) (ib : I64 bn) (A : Option Addr) (cap : Nat) (w : World) (hx : Rd w w.heap.size A o.m) (hm : o.m.length ≤ 17592186044416) :
  Calls Tryz.prog 43 #[.agg #[o.n, o.e, .slice A o.m.length cap], .agg #[fr, te, kd, dst, arr, op, av, an, bv, bn], sz] w fun e w' =>
   e = .returned (.tuple #[.bool (if transErr o ⟨fr, te, kd, dst, arr, op, av, an, bv, bn⟩ = 0 then safeB (closeO o) kd av an bv bn sz else false), .int .i64 (transErr o ⟨fr, te, kd, dst, arr, op, av, an, bv, bn⟩)]) ∧ Below w.heap.size w w' := by
 have HP := fun W (hW : w.heap.size ≤ W.heap.size) (h : Rd W W.heap.size A o.m) => tEdge_all o fr te kd dst arr op av an bv bn ia ib A cap W h hm w.heap.size hW
 by_cases he : transErr o ⟨fr, te, kd, dst, arr, op, av, an, bv, bn⟩ = 0
 ·rw [if_pos he, he]
  rw [he] at HP
  obtain ⟨hk, hr⟩ := err_right he
  obtain ⟨k1, _, _, ra, rb⟩ := right_facts hr
  obtain ⟨n0, _, _, _⟩ := check_ok hk
  have a0 : av < o.n := by omega
  have a1 : bv < o.n := by omega
  clear he hr ra rb
  generalize transAns o ⟨fr, te, kd, dst, arr, op, av, an, bv, bn⟩ = R at HP
  have hkd : kd = 1 ∨ kd = 2 ∨ kd = 3 ∨ kd = 4 ∨ kd = 5 ∨ kd = 6 ∨ kd = 7 ∨ kd = 8 ∨ kd = 9 ∨ kd = 10 ∨ kd = 11 ∨ kd = 12 ∨ kd = 13 ∨ kd = 14 := by omega
  rcases hkd with rfl | rfl | rfl | rfl | rfl | rfl | rfl | rfl | rfl | rfl | rfl | rfl | rfl | rfl
  ·exact sedgeA_i 1 (by omega) o R fr te dst arr op av an bv bn sz a1 ib hk a0 ia (closeO o) rfl A cap w hx hm HP
  ·exact sedgeA_i 2 (by omega) o R fr te dst arr op av an bv bn sz a1 ib hk a0 ia (closeO o) rfl A cap w hx hm HP
  ·exact sedgeA_3 o R fr te dst arr op av an bv bn sz a1 ib hk a0 ia (closeO o) rfl A cap w hx hm HP
  ·exact sedgeA_4 o R fr te dst arr op av an bv bn sz a1 ib hk a0 ia (closeO o) rfl A cap w hx hm HP
  ·exact sedgeA_5 o R fr te dst arr op av an bv bn sz a1 ib hk a0 ia (closeO o) rfl A cap w hx hm HP
  ·exact sedgeA_m 6 (by omega) o R fr te dst arr op av an bv bn sz a1 ib hk a0 ia (closeO o) rfl A cap w hx hm HP
  ·exact sedgeA_m 7 (by omega) o R fr te dst arr op av an bv bn sz a1 ib hk a0 ia (closeO o) rfl A cap w hx hm HP
  ·exact sedgeA_m 8 (by omega) o R fr te dst arr op av an bv bn sz a1 ib hk a0 ia (closeO o) rfl A cap w hx hm HP
  ·exact sedgeA_i 9 (by omega) o R fr te dst arr op av an bv bn sz a1 ib hk a0 ia (closeO o) rfl A cap w hx hm HP
  ·exact sedgeA_l 10 (by omega) o R fr te dst arr op av an bv bn sz a1 ib hk a0 ia (closeO o) rfl A cap w hx hm HP
  ·exact sedgeA_l 11 (by omega) o R fr te dst arr op av an bv bn sz a1 ib hk a0 ia (closeO o) rfl A cap w hx hm HP
  ·exact sedgeA_i 12 (by omega) o R fr te dst arr op av an bv bn sz a1 ib hk a0 ia (closeO o) rfl A cap w hx hm HP
  ·exact sedgeA_i 13 (by omega) o R fr te dst arr op av an bv bn sz a1 ib hk a0 ia (closeO o) rfl A cap w hx hm HP
  ·exact sedgeA_14 o R fr te dst arr op av an bv bn sz a1 ib hk a0 ia (closeO o) rfl A cap w hx hm HP
 ·rw [if_neg he]
  exact sedge_err o (transAns o ⟨fr, te, kd, dst, arr, op, av, an, bv, bn⟩) fr te kd dst arr op av an bv bn sz _ he A cap w hx HP
end
section
open Go.RowKit
set_option maxRecDepth 100000
set_option maxHeartbeats 8000000
attribute [local go_sem ↓] Go.wp_at_zero Go.wp_at_succ
theorem fit_zero (a : Int) : (fit a).2 = 0 ↔ I64 a := by
 constructor
 ·intro h
  by_cases q : -9223372036854775808 ≤ a ∧ a ≤ 9223372036854775807
  ·exact q
  ·rw [fit_out (by omega)] at h; cases h
 ·intro h; rw [fit_in h]
theorem div_zero (a b : Int) : (divW a b).2 = 0 ↔ divErr a b = 0 := by
 unfold divW
 by_cases h : divErr a b = 0
 ·rw [if_pos h]; simp [h]
 ·rw [if_neg h]
theorem rem_zero (a b : Int) : (remW a b).2 = 0 ↔ divErr a b = 0 := by
 unfold remW
 by_cases h : divErr a b = 0
 ·rw [if_pos h]; simp [h]
 ·rw [if_neg h]
theorem divErr_zero (a b : Int) : divErr a b = 0 ↔ b ≠ 0 ∧ ¬ (a = -9223372036854775808 ∧ b = -1) := by
 unfold divErr
 by_cases h : b = 0
 ·rw [if_pos h]; simp [h]
 ·rw [if_neg h]
  by_cases q : a = -9223372036854775808 ∧ b = -1
  ·rw [if_pos q]; simp [q]
  ·rw [if_neg q]; exact ⟨fun _ => ⟨h, q⟩, fun _ => rfl⟩
theorem mul_line {p q y z L H : Int} (h1 : p ≤ y) (h2 : y ≤ q) (l1 : L ≤ z * p) (l2 : L ≤ z * q) (u1 : z * p ≤ H) (u2 : z * q ≤ H) : L ≤ z * y ∧ z * y ≤ H := by
 rcases Int.le_total 0 z with h | h
 ·have := Int.mul_le_mul_of_nonneg_left h1 h
  have := Int.mul_le_mul_of_nonneg_left h2 h
  omega
 ·have := Int.mul_le_mul_of_nonpos_left h h1
  have := Int.mul_le_mul_of_nonpos_left h h2
  omega
theorem mul_mid {a b c d x y L H : Int} (ha : a ≤ x) (hb : x ≤ b) (hc : c ≤ y) (hd : y ≤ d) (l1 : L ≤ a * c) (u1 : a * c ≤ H) (l2 : L ≤ a * d) (u2 : a * d ≤ H) (l3 : L ≤ b * c) (u3 : b * c ≤ H) (l4 : L ≤ b * d) (u4 : b * d ≤ H) : L ≤ x * y ∧ x * y ≤ H := by
 have k1 := mul_line hc hd l1 l2 u1 u2
 have k2 := mul_line hc hd l3 l4 u3 u4
 rw [Int.mul_comm a y] at k1
 rw [Int.mul_comm b y] at k2
 rw [Int.mul_comm x y]
 exact mul_line ha hb k1.1 k2.1 k1.2 k2.2
theorem fits_sound {kd : Int} (hk : 3 ≤ kd ∧ kd ≤ 8) {r s : Rg} (ir : I64 (loR r) ∧ I64 (hiR r)) {x y : Int} (hx : loR r ≤ x ∧ x ≤ hiR r) (hy : loR s ≤ y ∧ y ≤ hiR s) (h : fitsK kd r s = true) : (doW (kd + 2) x y).2 = 0 := by
 unfold fitsK at h
 generalize loR r = a at *
 generalize hiR r = b at *
 generalize loR s = c at *
 generalize hiR s = d at *
 rw [Bool.and_eq_true] at h
 obtain ⟨-, h⟩ := h
 unfold I64 at ir
 have : kd = 3 ∨ kd = 4 ∨ kd = 5 ∨ kd = 6 ∨ kd = 7 ∨ kd = 8 := by omega
 rcases this with rfl | rfl | rfl | rfl | rfl | rfl
 ·show (fit (-x)).2 = 0
  have h' : -9223372036854775808 < a := by simpa using h
  rw [fit_zero]; unfold I64; omega
 ·have h' : (addW a c).2 = 0 ∧ (addW b d).2 = 0 := by simpa using h
  unfold addW at h'
  rw [fit_zero, fit_zero] at h'
  show (fit (x + y)).2 = 0
  rw [fit_zero]; unfold I64 at *; omega
 ·have h' : (subW a d).2 = 0 ∧ (subW b c).2 = 0 := by simpa using h
  unfold subW at h'
  rw [fit_zero, fit_zero] at h'
  show (fit (x - y)).2 = 0
  rw [fit_zero]; unfold I64 at *; omega
 ·have h' : (((mulW a c).2 = 0 ∧ (mulW a d).2 = 0) ∧ (mulW b c).2 = 0) ∧ (mulW b d).2 = 0 := by simpa using h
  unfold mulW at h'
  rw [fit_zero, fit_zero, fit_zero, fit_zero] at h'
  show (fit (x * y)).2 = 0
  rw [fit_zero]
  obtain ⟨⟨⟨k1, k2⟩, k3⟩, k4⟩ := h'
  exact mul_mid hx.1 hx.2 hy.1 hy.2 k1.1 k1.2 k2.1 k2.2 k3.1 k3.2 k4.1 k4.2
 ·show (divW x y).2 = 0
  rw [div_zero, divErr_zero]
  simp at h
  omega
 ·show (remW x y).2 = 0
  rw [rem_zero, divErr_zero]
  simp at h
  omega
end
section

end
section
open Go.RowKit
set_option maxRecDepth 100000
set_option maxHeartbeats 8000000
structure R (xs ys : List Int) : Prop where
 len : xs.length = ys.length
 a : AllB xs
 b : AllB ys
 le : Le xs ys
theorem R.rep {f : Nat → List Int → List Int} (h : ∀ i x y, R x y → R (f i x) (f i y)) : ∀ (t : Nat) (x y : List Int), R x y → R (rep f t x) (rep f t y)
 | 0, _, _, k => k
 | t + 1, x, y, k => h t _ _ (R.rep h t x y k)
theorem R.set {xs ys : List Int} (h : R xs ys) (k : Nat) {u v : Int} (hu : isBound u = true) (hv : isBound v = true) (hl : u ≤ v) : R (xs.set k u) (ys.set k v) :=
 ⟨by rw [List.length_set, List.length_set]; exact h.len, h.a.set' hu, h.b.set' hv, fun i => by
  rw [gI_set, gI_set, h.len]
  split
  ·exact hl
  ·exact h.le i⟩
theorem near_mono {a b : Int} (h : a ≤ b) : near a ≤ near b := by
 unfold near
 split <;> split <;> (try split) <;> (try split) <;> omega
theorem near_top (a : Int) : near a ≤ 9223372036854775807 := by
 unfold near
 split
 ·omega
 ·split <;> omega
theorem plus_mono {a b c d : Int} (h : a ≤ b) (k : c ≤ d) : plus a c ≤ plus b d := by
 have h1 := near_mono h
 have h2 := near_mono k
 have h3 := near_top b
 have h4 := near_top d
 unfold plus
 by_cases e : near b = 9223372036854775807 ∨ near d = 9223372036854775807
 ·rw [if_pos e]
  split
  ·exact Int.le_refl _
  ·exact near_top _
 ·rw [if_neg e, if_neg (by omega)]
  exact near_mono (by omega)
theorem half_mono {a b : Int} (h : a ≤ b) : half a ≤ half b := by
 have h1 := near_mono h
 have h3 := near_top b
 unfold half
 split <;> split <;> omega
theorem even_mono {a b : Int} (h : a ≤ b) : even a ≤ even b := by
 have h1 := near_mono h
 have h3 := near_top b
 unfold even
 split <;> split <;> omega
theorem min_mono {a b c d : Int} (h : a ≤ b) (k : c ≤ d) : min a c ≤ min b d := by omega
section
variable {xs ys : List Int} (h : R xs ys)
include h
theorem pStep_mono (N k i j : Nat) : R (pStep N k i j xs) (pStep N k i j ys) :=
 h.set _ (isBound_min (h.a _) (isBound_plus _ _)) (isBound_min (h.b _) (isBound_plus _ _)) (min_mono (h.le _) (plus_mono (h.le _) (h.le _)))
theorem paths_mono (N t : Nat) : R (paths N t xs) (paths N t ys) :=
 R.rep (fun k x y h => R.rep (fun i x y h => R.rep (fun j _x _y h => pStep_mono h N k i j) N x y h) N x y h) t xs ys h
theorem mStep_mono (N i j : Nat) : R (mStep N i j xs) (mStep N i j ys) :=
 (h.set _ (isBound_min (h.a _) (h.a _)) (isBound_min (h.b _) (h.b _)) (min_mono (h.le _) (h.le _))).set _ (isBound_min (h.a _) (h.a _)) (isBound_min (h.b _) (h.b _)) (min_mono (h.le _) (h.le _))
theorem mirrors_mono (N t : Nat) : R (mirrors N t xs) (mirrors N t ys) := R.rep (fun i x y h => R.rep (fun j _x _y h => mStep_mono h N i j) N x y h) t xs ys h
theorem eStep_mono (N i : Nat) : R (eStep N i xs) (eStep N i ys) := h.set _ (isBound_even _) (isBound_even _) (even_mono (h.le _))
theorem evens_mono (N t : Nat) : R (evens N t xs) (evens N t ys) := R.rep (fun i _x _y h => eStep_mono h N i) t xs ys h
theorem sStep_mono (N i j : Nat) : R (sStep N i j xs) (sStep N i j ys) := by
 unfold sStep
 split
 ·exact h
 ·exact h.set _ (isBound_min (h.a _) (isBound_half _)) (isBound_min (h.b _) (isBound_half _)) (min_mono (h.le _) (half_mono (plus_mono (h.le _) (h.le _))))
theorem strengthens_mono (N t : Nat) : R (strengthens N t xs) (strengthens N t ys) := R.rep (fun i x y h => R.rep (fun j _x _y h => sStep_mono h N i j) N x y h) t xs ys h
theorem negs_mono (N : Nat) : ∀ t, negs N ys t = true → negs N xs t = true
 | 0, k => k
 | t + 1, k => by
  unfold negs at k ⊢
  rw [Bool.or_eq_true, decide_eq_true_eq] at *
  rcases k with k | k
  ·exact .inl (negs_mono N t k)
  ·exact .inr (Int.lt_of_le_of_lt (h.le _) k)
theorem sideNegs_mono (N : Nat) : ∀ t, sideNegs N ys t = true → sideNegs N xs t = true
 | 0, k => k
 | t + 1, k => by
  unfold sideNegs at k ⊢
  rw [Bool.or_eq_true, decide_eq_true_eq] at *
  rcases k with k | k
  ·exact .inl (Int.lt_of_le_of_lt (plus_mono (h.le _) (h.le _)) k)
  ·exact .inr (sideNegs_mono N t k)
theorem closeM_mono (N : Nat) {zs : List Int} (hc : closeM N xs = some zs) : ∃ ws, closeM N ys = some ws ∧ R zs ws := by
 have h1 := mirrors_mono (paths_mono h N N) N N
 have h2 := evens_mono h1 N N
 unfold closeM at *
 split at hc
 ·cases hc
 ·rename_i c1
  split at hc
  ·cases hc
  ·rename_i c2
   injection hc with hc
   subst hc
   rw [if_neg (fun e => c1 (negs_mono h1 N N e)), if_neg (fun e => c2 (sideNegs_mono h2 N N e))]
   exact ⟨_, rfl, strengthens_mono h2 N N⟩
end
theorem AllB.of_cells {N : Nat} {n : Int} {m : List Int} (hN : (N : Int) = 2 * n) (hn : N ≤ 128) (h : Cells N m) : AllB m := by
 have := check_bounds (check_of hN hn h)
 exact this
theorem closeO_of_some {n : Int} {m cm : List Int} (h : closeM (2 * n).toNat m = some cm) : closeO ⟨n, false, m⟩ = ⟨n, false, cm⟩ := by
 unfold closeO; dsimp only; rw [if_neg (by simp), h]
end
section
open Go.RowKit
set_option maxRecDepth 100000
set_option maxHeartbeats 8000000
theorem sideNegs_no {N : Nat} {xs : List Int} : ∀ {t : Nat}, sideNegs N xs t = false → ∀ i, i < t → 0 ≤ plus (G N xs i (nx i)) (G N xs (nx i) i)
 | 0, _, i, hi => absurd hi (by omega)
 | t + 1, h, i, hi => by
  unfold sideNegs at h
  rw [Bool.or_eq_false_iff] at h
  obtain ⟨h1, h2⟩ := h
  by_cases e : i = t
  ·subst e
   have := of_decide_eq_false h1
   unfold G
   omega
  ·exact sideNegs_no h2 i (by omega)
theorem even_halves {a b : Int} (h : 0 ≤ plus (even a) (even b)) : half (even a) = 9223372036854775807 ∨ half (even b) = 9223372036854775807 ∨ 0 ≤ half (even a) + half (even b) := by
 have h1 := near_cases a
 have h2 := near_cases b
 by_cases ea : near a = 9223372036854775807
 ·have : even a = 9223372036854775807 := by unfold even; rw [if_pos ea]
  rw [this]; exact .inl (by decide)
 ·by_cases eb : near b = 9223372036854775807
  ·have : even b = 9223372036854775807 := by unfold even; rw [if_pos eb]
   rw [this]; exact .inr (.inl (by decide))
  ·right; right
   have e1 : even a = 2 * (near a / 2) := by unfold even; rw [if_neg ea]
   have e2 : even b = 2 * (near b / 2) := by unfold even; rw [if_neg eb]
   generalize near a / 2 = u at *
   generalize near b / 2 = v at *
   have nu : near (even a) = even a := near_of (isBound_even a)
   have nv : near (even b) = even b := near_of (isBound_even b)
   have b1 := bnd (isBound_even a)
   have b2 := bnd (isBound_even b)
   unfold plus at h
   rw [nu, nv, if_neg (by omega)] at h
   unfold half
   rw [nu, nv, if_neg (by omega), if_neg (by omega)]
   unfold near at h
   split at h
   ·omega
   ·omega
theorem ends_order {N : Nat} (hN : N % 2 = 0) {xs ys : List Int} (hl : xs.length = N * N) (hb : AllB xs) (hc : closeM N xs = some ys) {i : Nat} (hi : i < N) :
  half (G N ys i (nx i)) = 9223372036854775807 ∨ half (G N ys (nx i) i) = 9223372036854775807 ∨ 0 ≤ half (G N ys i (nx i)) + half (G N ys (nx i) i) := by
 unfold closeM at hc
 split at hc
 ·cases hc
 ·split at hc
  ·cases hc
  ·rename_i c1 c2
   injection hc with hc
   subst hc
   have l1 := (paths_low N N xs)
   have l2 := (mirrors_low N N (paths N N xs)).trans l1
   have a4 : (mirrors N N (paths N N xs)).length = N * N := l2.len.trans hl
   have hb2 := l2.all hb
   have l3 := (evens_low N N (mirrors N N (paths N N xs)))
   have hl3 : (evens N N (mirrors N N (paths N N xs))).length = N * N := l3.len.trans a4
   have a0 := l3.all hb2
   have hs := sideNegs_no (by simpa using c2) i hi
   have hx := nxl hN hi
   rw [strengthens_G hN hl3 a0 i (nx i) hi hx, strong_nx a0]
   have e2 := strong_nx (N := N) a0 (nx i)
   rw [nx_nx] at e2
   rw [strengthens_G hN hl3 a0 (nx i) i hx hi, e2]
   rw [evens_G hN a4 i (nx i) hi hx, if_pos rfl, evens_G hN a4 (nx i) i hx hi, if_pos (nx_nx i).symm] at hs ⊢
   exact even_halves hs
def SubR (r s : Rg) : Prop := (s.hl = true → r.hl = true ∧ s.lo ≤ r.lo) ∧ (s.hh = true → r.hh = true ∧ r.hi ≤ s.hi)
theorem SubR.refl (r : Rg) : SubR r r := ⟨fun h => ⟨h, Int.le_refl _⟩, fun h => ⟨h, Int.le_refl _⟩⟩
theorem sub_sides {a b c d : Int} (ha : isBound a = true) (hb : isBound b = true) (hac : a ≤ c) (hbd : b ≤ d) (hc : isBound c = true) (hd : isBound d = true) : SubR (sidesR a b) (sidesR c d) := by
 have a1 := bnd ha
 have b1 := bnd hb
 have c1 := bnd hc
 have d1 := bnd hd
 unfold SubR sidesR
 simp only [Bool.not_eq_true', decide_eq_false_iff_not]
 refine ⟨fun h => ⟨by omega, ?_⟩, fun h => ⟨by omega, ?_⟩⟩
 ·rw [if_neg h, if_neg (by omega)]; omega
 ·rw [if_neg h, if_neg (by omega)]; omega
section
variable {N : Nat} {xs ys : List Int} (h : R xs ys)
include h
theorem sub_var (v : Nat) : SubR (varR N xs v) (varR N ys v) := sub_sides (isBound_half _) (isBound_half _) (half_mono (h.le _)) (half_mono (h.le _)) (isBound_half _) (isBound_half _)
theorem sub_sum (u v : Nat) : SubR (sumR N xs u v) (sumR N ys u v) := sub_sides (bG h.a _ _ _) (bG h.a _ _ _) (h.le _) (h.le _) (bG h.b _ _ _) (bG h.b _ _ _)
theorem sub_diff (u v : Nat) : SubR (diffR N xs u v) (diffR N ys u v) := sub_sides (bG h.a _ _ _) (bG h.a _ _ _) (h.le _) (h.le _) (bG h.b _ _ _) (bG h.b _ _ _)
theorem sub_opd (v n : Int) : SubR (opdR N xs v n) (opdR N ys v n) := by
 unfold opdR
 split
 ·exact sub_var h _
 ·exact SubR.refl _
end
theorem sub_ends {r s : Rg} (h : SubR r s) (i : I64 (loR r) ∧ I64 (hiR r)) : loR s ≤ loR r ∧ hiR r ≤ hiR s := by
 obtain ⟨⟨i1, i2⟩, i3, i4⟩ := i
 constructor
 ·by_cases q : s.hl = true
  ·obtain ⟨q1, q2⟩ := h.1 q
   unfold loR; rw [if_pos q, if_pos q1]; exact q2
  ·have : loR s = -9223372036854775808 := by unfold loR; rw [if_neg q]
   omega
 ·by_cases q : s.hh = true
  ·obtain ⟨q1, q2⟩ := h.2 q
   unfold hiR; rw [if_pos q, if_pos q1]; exact q2
  ·have : hiR s = 9223372036854775807 := by unfold hiR; rw [if_neg q]
   omega
theorem wholeB_sub {r s : Rg} (h : SubR r s) (k : wholeB s = true) : wholeB r = true := by
 unfold wholeB at *
 rw [Bool.and_eq_true] at *
 exact ⟨(h.1 k.1).1, (h.2 k.2).1⟩
theorem placeB_sub {r s : Rg} (h : SubR r s) {sz : Int} (k : placeB s sz = true) : placeB r sz = true := by
 unfold placeB at *
 simp only [Bool.and_eq_true, decide_eq_true_eq] at *
 obtain ⟨⟨⟨k1, k2⟩, k3⟩, k4⟩ := k
 obtain ⟨a1, a2⟩ := h.1 k1
 obtain ⟨b1, b2⟩ := h.2 k2
 exact ⟨⟨⟨a1, b1⟩, by omega⟩, by omega⟩
theorem fitsK_sub {kd : Int} (hk : 3 ≤ kd ∧ kd ≤ 8) {r r' s s' : Rg} (ir : I64 (loR r) ∧ I64 (hiR r)) (hr : loR r ≤ loR r' ∧ loR r' ≤ hiR r' ∧ hiR r' ≤ hiR r) (hs : loR s ≤ loR s' ∧ loR s' ≤ hiR s' ∧ hiR s' ≤ hiR s) (h : fitsK kd r s = true) : fitsK kd r' s' = true := by
 have h0 := h
 unfold fitsK at h ⊢
 have snd := fun (x y : Int) hx hy => fits_sound hk ir (x := x) (y := y) hx hy h0
 clear h0
 generalize loR r = a at *
 generalize hiR r = b at *
 generalize loR s = c at *
 generalize hiR s = d at *
 generalize loR r' = a' at *
 generalize hiR r' = b' at *
 generalize loR s' = c' at *
 generalize hiR s' = d' at *
 rw [Bool.and_eq_true] at h
 rw [decide_eq_false (show ¬ b' < a' by omega), decide_eq_false (show ¬ d' < c' by omega), show (!(false || false)) = true from rfl, Bool.true_and]
 obtain ⟨-, h⟩ := h
 unfold I64 at ir
 have s1 := snd a' c' (by omega) (by omega)
 have s2 := snd a' d' (by omega) (by omega)
 have s3 := snd b' c' (by omega) (by omega)
 have s4 := snd b' d' (by omega) (by omega)
 clear snd
 have : kd = 3 ∨ kd = 4 ∨ kd = 5 ∨ kd = 6 ∨ kd = 7 ∨ kd = 8 := by omega
 rcases this with rfl | rfl | rfl | rfl | rfl | rfl
 ·have h' : -9223372036854775808 < a := by simpa using h
  simp; omega
 ·have t1 : (addW a' c').2 = 0 := s1
  have t4 : (addW b' d').2 = 0 := s4
  simp [t1, t4]
 ·have t1 : (subW a' d').2 = 0 := s2
  have t4 : (subW b' c').2 = 0 := s3
  simp [t1, t4]
 ·have t1 : (mulW a' c').2 = 0 := s1
  have t2 : (mulW a' d').2 = 0 := s2
  have t3 : (mulW b' c').2 = 0 := s3
  have t4 : (mulW b' d').2 = 0 := s4
  simp [t1, t2, t3, t4]
 all_goals
  simp at h
  simp
  omega
theorem var_order {N : Nat} (hN : N % 2 = 0) {xs ys : List Int} (hl : xs.length = N * N) (hb : AllB xs) (hc : closeM N xs = some ys) {v : Nat} (hv : 2 * v + 1 < N) : loR (varR N ys v) ≤ hiR (varR N ys v) := by
 have h := ends_order hN hl hb hc (i := 2 * v) (by omega)
 have e : nx (2 * v) = 2 * v + 1 := by unfold nx; rw [if_pos (by omega)]
 rw [e] at h
 have b1 := bnd (isBound_half (G N ys (2 * v) (2 * v + 1)))
 have b2 := bnd (isBound_half (G N ys (2 * v + 1) (2 * v)))
 unfold loR hiR varR sidesR
 generalize half (G N ys (2 * v) (2 * v + 1)) = p at *
 generalize half (G N ys (2 * v + 1) (2 * v)) = q at *
 simp only [Bool.not_eq_true', decide_eq_false_iff_not]
 repeat' split
 all_goals omega
theorem opd_order {N : Nat} (hN : N % 2 = 0) {xs ys : List Int} (hl : xs.length = N * N) (hb : AllB xs) (hc : closeM N xs = some ys) {v : Int} (k : Int) (hv : 0 ≤ v → 2 * v + 1 < (N : Int)) : loR (opdR N ys v k) ≤ hiR (opdR N ys v k) := by
 unfold opdR
 split
 ·rename_i h
  have := hv h
  exact var_order hN hl hb hc (by omega)
 ·exact Int.le_refl k
theorem safeB_sub {n : Int} {N : Nat} (hN : (N : Int) = 2 * n) {zs ws : List Int} (h : R zs ws) {kd av an bv bn sz : Int} (ia : I64 an) (ib : I64 bn)
  (oa : loR (opdR N zs av an) ≤ hiR (opdR N zs av an)) (ob : loR (opdR N zs bv bn) ≤ hiR (opdR N zs bv bn)) (k1 : 1 ≤ kd ∧ kd ≤ 14)
  (hs : safeB ⟨n, false, ws⟩ kd av an bv bn sz = true) : safeB ⟨n, false, zs⟩ kd av an bv bn sz = true := by
 unfold safeB at *
 dsimp only at *
 rw [Bool.false_or, show (2 * n).toNat = N by omega] at *
 have sa := sub_opd (N := N) h av an
 have sb := sub_opd (N := N) h bv bn
 have ra := sub_ends sa (opd_i64R N zs av an ia)
 have rb := sub_ends sb (opd_i64R N zs bv bn ib)
 have ga := opd_i64R N ws av an ia
 by_cases h14 : kd = 14
 ·rw [if_pos h14] at hs; cases hs
 rw [if_neg h14] at hs ⊢
 by_cases h0 : kd = 1 ∨ kd = 2 ∨ kd = 9 ∨ kd = 12 ∨ kd = 13
 ·rw [if_pos h0]
 rw [if_neg h0] at hs ⊢
 by_cases h10 : kd = 10 ∨ kd = 11
 ·rw [if_pos h10] at hs ⊢
  exact placeB_sub sa hs
 rw [if_neg h10] at hs ⊢
 have main : ∀ k, 3 ≤ k ∧ k ≤ 8 → fitsK k (opdR N ws av an) (opdR N ws bv bn) = true → fitsK k (opdR N zs av an) (opdR N zs bv bn) = true := fun k hk q => fitsK_sub hk ga ⟨ra.1, oa, ra.2⟩ ⟨rb.1, ob, rb.2⟩ q
 by_cases h3 : kd = 3
 ·rw [if_pos h3] at hs ⊢
  exact fitsK_sub (by omega) ga ⟨ra.1, oa, ra.2⟩ ⟨Int.le_refl _, by decide, Int.le_refl _⟩ hs
 rw [if_neg h3] at hs ⊢
 by_cases h4 : kd = 4
 ·rw [if_pos h4] at hs ⊢
  rw [Bool.or_eq_true] at hs ⊢
  rcases hs with hs | hs
  ·exact .inl (main 4 (by omega) hs)
  ·rw [Bool.and_eq_true] at hs ⊢
   exact .inr ⟨hs.1, wholeB_sub (sub_sum h _ _) hs.2⟩
 rw [if_neg h4] at hs ⊢
 by_cases h5 : kd = 5
 ·rw [if_pos h5] at hs ⊢
  rw [Bool.or_eq_true] at hs ⊢
  rcases hs with hs | hs
  ·exact .inl (main 5 (by omega) hs)
  ·rw [Bool.and_eq_true] at hs ⊢
   exact .inr ⟨hs.1, wholeB_sub (sub_diff h _ _) hs.2⟩
 rw [if_neg h5] at hs ⊢
 exact main kd (by omega) hs
theorem safeB_none (n : Int) (m : List Int) (kd av an bv bn sz : Int) : safeB ⟨n, true, m⟩ kd av an bv bn sz = true := by unfold safeB; rfl
theorem R.refl {m : List Int} (h : AllB m) : R m m := ⟨rfl, h, h, Le.refl _⟩
theorem bound_R {N : Nat} {m : List Int} (_hN : N % 2 = 0) (hm : Cells N m) (hb : AllB m) {i j : Nat} (hi : i < N) (hj : j < N) (c : Int) : R (boundM N i j c m) m := by
 have e1 : boundV N i j c m = min (G N m i j) (near c) := boundV_min N i j c m
 have b1 : isBound (boundV N i j c m) = true := by
  rw [e1, Int.min_def]
  split
  ·exact hm.bd i j hi hj
  ·have := near_cases c
   unfold isBound; rw [decide_eq_true_eq]; exact this
 have l1 : boundV N i j c m ≤ G N m i j := by rw [e1]; omega
 have l2 : boundV N i j c m ≤ G N m (nx j) (nx i) := by rw [← hm.sym i j hi hj]; exact l1
 have r1 : R (m.set (i * N + j) (boundV N i j c m)) (m.set (i * N + j) (gI m ((i * N + j : Nat) : Int))) := (R.refl hb).set _ b1 (hb _) l1
 rw [set_same] at r1
 have r2 : R ((m.set (i * N + j) (boundV N i j c m)).set (nx j * N + nx i) (boundV N i j c m)) (m.set (nx j * N + nx i) (gI m ((nx j * N + nx i : Nat) : Int))) := r1.set _ b1 (hb _) l2
 rw [set_same] at r2
 exact r2
theorem stays_law {o : O} {i j : Nat} {c : Int} {e : Edg} (sz : Int) (hk : check o = 0) (hi : (i : Int) < 2 * o.n) (hj : (j : Int) < 2 * o.n) (hr : rightT o.n e = true) (ia : I64 e.an) (ib : I64 e.bn)
  (hs : safeB (closeO o) e.kd e.av e.an e.bv e.bn sz = true) : safeB (closeO (withO o i j c)) e.kd e.av e.an e.bv e.bn sz = true := by
 have none_ : safeB (closeO (emptyO o.n)) e.kd e.av e.an e.bv e.bn sz = true := by rw [closeO_e rfl]; exact safeB_none _ _ _ _ _ _ _ _
 have hav := right_a hr
 have hbv := right_b hr
 dsimp only at hav hbv
 have k1 : 1 ≤ e.kd ∧ e.kd ≤ 14 := by
  unfold rightT rightE at hr
  simp only [Bool.and_eq_true, decide_eq_true_eq] at hr
  exact hr.1.1.1.1.1
 have ok : OkO o.n o := ⟨rfl, hk⟩
 rcases ok.form with h | ⟨N, m, hN, hn, h, hm⟩
 ·have : withO o i j c = emptyO o.n := by
   unfold withO
   rw [if_pos (by rw [h]; rfl)]
  rw [this]; exact none_
 ·have he : o.e = false := by rw [h]
  have hmm : o.m = m := by rw [h]
  unfold withO
  rw [he, if_neg (by simp)]
  by_cases hij : i = j
  ·rw [if_pos hij]
   by_cases hc : c < 0
   ·rw [if_pos hc]; exact none_
   ·rw [if_neg hc]; exact hs
  ·rw [if_neg hij, hmm, show (2 * o.n).toNat = N by omega]
   have hb := AllB.of_cells hN hn hm
   have a3 := bound_R (N := N) (by omega) hm hb (i := i) (j := j) (by omega) (by omega) c
   rcases closeO_cases ⟨o.n, false, boundM N i j c m⟩ with q | ⟨-, ys, q1, q2⟩
   ·rw [q]; exact safeB_none _ _ _ _ _ _ _ _
   ·dsimp only at q1 q2
    rw [q2]
    obtain ⟨ws, h1, h2⟩ := closeM_mono a3 _ q1
    have hco : closeO o = ⟨o.n, false, ws⟩ := by
     have e1 : o = ⟨o.n, false, m⟩ := h
     rw [e1]
     exact closeO_of_some h1
    rw [hco] at hs
    rw [show (2 * o.n).toNat = N by omega] at q1
    have hl : (boundM N i j c m).length = N * N := by rw [boundM_len]; exact hm.len
    exact safeB_sub hN h2 ia ib (opd_order (by omega) hl a3.a q1 _ (fun _ => by omega)) (opd_order (by omega) hl a3.a q1 _ (fun _ => by omega)) k1 hs
end
end Go.Proofs.YtnmpgijiimglcaaGreat
