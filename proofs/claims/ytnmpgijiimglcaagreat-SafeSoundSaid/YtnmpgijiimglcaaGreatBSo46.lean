import Derived.Test.YtnmpgijiimglcaaGreatBSo35
import Derived.Test.YtnmpgijiimglcaaGreatBSo36
import Derived.Test.YtnmpgijiimglcaaGreatBSo37
import Derived.Test.YtnmpgijiimglcaaGreatBSo45
import Derived.Test.YtnmpgijiimglcaaGreatBSo25
import Derived.Test.YtnmpgijiimglcaaGreatBSo09
import Derived.Test.YtnmpgijiimglcaaGreatBSo23
import Derived.Test.YtnmpgijiimglcaaGreatBSo30
import Derived.Test.YtnmpgijiimglcaaGreatBSo03
import Derived.Test.YtnmpgijiimglcaaGreatBSo33
import Derived.Test.YtnmpgijiimglcaaGreatBSo08
import Derived.Test.YtnmpgijiimglcaaGreatBSo34
namespace Go.Proofs.YtnmpgijiimglcaaGreat
section
open Go.RowKit
set_option maxRecDepth 100000
set_option maxHeartbeats 8000000
attribute [local go_sem ↓] Go.wp_at_zero Go.wp_at_succ
def safeB (C : O) (kd av an bv bn sz : Int) : Bool :=
 C.e || (if kd = 14 then false else if kd = 1 ∨ kd = 2 ∨ kd = 9 ∨ kd = 12 ∨ kd = 13 then true
  else if kd = 10 ∨ kd = 11 then placeB (opdR (2 * C.n).toNat C.m av an) sz
  else if kd = 3 then fitsK 3 (opdR (2 * C.n).toNat C.m av an) rg0
  else if kd = 4 then (fitsK 4 (opdR (2 * C.n).toNat C.m av an) (opdR (2 * C.n).toNat C.m bv bn) || (decide (0 ≤ av) && decide (0 ≤ bv) && wholeB (sumR (2 * C.n).toNat C.m av.toNat bv.toNat)))
  else if kd = 5 then (fitsK 5 (opdR (2 * C.n).toNat C.m av an) (opdR (2 * C.n).toNat C.m bv bn) || (decide (0 ≤ av) && decide (0 ≤ bv) && wholeB (diffR (2 * C.n).toNat C.m av.toNat bv.toNat)))
  else fitsK kd (opdR (2 * C.n).toNat C.m av an) (opdR (2 * C.n).toNat C.m bv bn))
theorem sedge_err (o R : O) (fr te kd dst arr op av an bv bn sz er : Int) (her : er ≠ 0) (A : Option Addr) (cap : Nat) (w : World) (hx : Rd w w.heap.size A o.m)
  (HP : ∀ W, w.heap.size ≤ W.heap.size → Rd W W.heap.size A o.m → Calls Tryz.prog 28 #[.agg #[o.n, o.e, .slice A o.m.length cap], .agg #[fr, te, kd, dst, arr, op, av, an, bv, bn]] W (ErrSx W w.heap.size R er)) :
  Calls Tryz.prog 43 #[.agg #[o.n, o.e, .slice A o.m.length cap], .agg #[fr, te, kd, dst, arr, op, av, an, bv, bn], sz] w fun e w' => e = .returned (.tuple #[false, er]) ∧ Below w.heap.size w w' := by
 have HT := hid HP
 clear HP
 have t1 : (er != 0) = true := by simpa using her
 obtain ⟨p0, p1, a2, -⟩ := new_two w #[o.n, o.e, .slice A o.m.length cap] #[fr, te, kd, dst, arr, op, av, an, bv, bn] 24 44
 replace hx := hx.up a2
 go_enter Tryz.func43, Tryz.ntmps43
 obtain ⟨x0, x1, x2, fx⟩ := octbox p0
 obtain ⟨y0, y1, y2, y3, y4, y5, y6, y7, y8, y9, fy⟩ := edgbox p1
 go_wp2_with fail
 clear x0 x1 x2 fx y0 y1 y2 y3 y4 y5 y6 y7 y8 y9 fy
 generalize (w.alloc (Obj.cells #[o.n, o.e, .slice A o.m.length cap] 24)).alloc (Obj.cells #[fr, te, kd, dst, arr, op, av, an, bv, bn] 44) = w1 at *
 (with_reducible refine (HT.out w1 a2.size hx).mono ?_)
 rintro e2 w2 ⟨A1, c1, rfl, sx1, hb2⟩
 replace a2 := bup a2 hb2
 clear hb2 sx1 HT hx p0 p1
 replace a2 := bup a2 (new1 w2 (Obj.cells #[R.n, R.e, .slice A1 R.m.length c1] 24))
 go_wp2
 refine bodyPost_ret (v := .tuple #[false, er]) (by simp [results, Tryz.results43, go_sem]) rfl ⟨rfl, a2⟩
theorem sEdge_all (o : O) (fr te kd dst arr op av an bv bn sz : Int) (ia : I64 an) (ib : I64 bn) (A : Option Addr) (cap : Nat) (w : World) (hx : Rd w w.heap.size A o.m) (hm : o.m.length ≤ 17592186044416) :
  Calls Tryz.prog 43 #[.agg #[o.n, o.e, .slice A o.m.length cap], .agg #[fr, te, kd, dst, arr, op, av, an, bv, bn], sz] w fun e w' =>
   e = .returned (.tuple #[.bool (if transErr o ⟨fr, te, kd, dst, arr, op, av, an, bv, bn⟩ = 0 then safeB (closeO o) kd av an bv bn sz else false), .int .i64 (transErr o ⟨fr, te, kd, dst, arr, op, av, an, bv, bn⟩)]) ∧ Below w.heap.size w w' := by
 have HP := fun W (hW : w.heap.size ≤ W.heap.size) (h : Rd W W.heap.size A o.m) => tEdge_all o fr te kd dst arr op av an bv bn ia ib A cap W h hm w.heap.size hW
 by_cases he : transErr o ⟨fr, te, kd, dst, arr, op, av, an, bv, bn⟩ = 0
 ·rw [if_pos he, he]
  rw [he] at HP
  obtain ⟨hk, hr⟩ := err_right he
  obtain ⟨k1, _, _, ra, rb⟩ := right_facts hr
  obtain ⟨n0, _, _, _⟩ := check_ok hk
  have a1 : av < o.n := by omega
  have a0 : bv < o.n := by omega
  clear he hr ra rb
  generalize transAns o ⟨fr, te, kd, dst, arr, op, av, an, bv, bn⟩ = R at HP
  have hkd : kd = 1 ∨ kd = 2 ∨ kd = 3 ∨ kd = 4 ∨ kd = 5 ∨ kd = 6 ∨ kd = 7 ∨ kd = 8 ∨ kd = 9 ∨ kd = 10 ∨ kd = 11 ∨ kd = 12 ∨ kd = 13 ∨ kd = 14 := by omega
  rcases hkd with rfl | rfl | rfl | rfl | rfl | rfl | rfl | rfl | rfl | rfl | rfl | rfl | rfl | rfl
  ·exact sedgeA_i 1 (by omega) o R fr te dst arr op av an bv bn sz a0 ib hk a1 ia (closeO o) rfl A cap w hx hm HP
  ·exact sedgeA_i 2 (by omega) o R fr te dst arr op av an bv bn sz a0 ib hk a1 ia (closeO o) rfl A cap w hx hm HP
  ·exact sedgeA_3 o R fr te dst arr op av an bv bn sz a0 ib hk a1 ia (closeO o) rfl A cap w hx hm HP
  ·exact sedgeA_4 o R fr te dst arr op av an bv bn sz a0 ib hk a1 ia (closeO o) rfl A cap w hx hm HP
  ·exact sedgeA_5 o R fr te dst arr op av an bv bn sz a0 ib hk a1 ia (closeO o) rfl A cap w hx hm HP
  ·exact sedgeA_m 6 (by omega) o R fr te dst arr op av an bv bn sz a0 ib hk a1 ia (closeO o) rfl A cap w hx hm HP
  ·exact sedgeA_m 7 (by omega) o R fr te dst arr op av an bv bn sz a0 ib hk a1 ia (closeO o) rfl A cap w hx hm HP
  ·exact sedgeA_m 8 (by omega) o R fr te dst arr op av an bv bn sz a0 ib hk a1 ia (closeO o) rfl A cap w hx hm HP
  ·exact sedgeA_i 9 (by omega) o R fr te dst arr op av an bv bn sz a0 ib hk a1 ia (closeO o) rfl A cap w hx hm HP
  ·exact sedgeA_l 10 (by omega) o R fr te dst arr op av an bv bn sz a0 ib hk a1 ia (closeO o) rfl A cap w hx hm HP
  ·exact sedgeA_l 11 (by omega) o R fr te dst arr op av an bv bn sz a0 ib hk a1 ia (closeO o) rfl A cap w hx hm HP
  ·exact sedgeA_i 12 (by omega) o R fr te dst arr op av an bv bn sz a0 ib hk a1 ia (closeO o) rfl A cap w hx hm HP
  ·exact sedgeA_i 13 (by omega) o R fr te dst arr op av an bv bn sz a0 ib hk a1 ia (closeO o) rfl A cap w hx hm HP
  ·exact sedgeA_14 o R fr te dst arr op av an bv bn sz a0 ib hk a1 ia (closeO o) rfl A cap w hx hm HP
 ·rw [if_neg he]
  exact sedge_err o (transAns o ⟨fr, te, kd, dst, arr, op, av, an, bv, bn⟩) fr te kd dst arr op av an bv bn sz _ he A cap w hx HP
end
section
open Go.RowKit
set_option maxRecDepth 100000
set_option maxHeartbeats 8000000
attribute [local go_sem ↓] Go.wp_at_zero Go.wp_at_succ
theorem fit_zero (a : Int) : (fit a).2 = 0 ↔ I64 a := by
 constructor
 ·intro h
  by_cases q : -9223372036854775808 ≤ a ∧ a ≤ 9223372036854775807
  ·exact q
  ·rw [fit_out (by omega)] at h; cases h
 ·intro h; rw [fit_in h]
theorem div_zero (a b : Int) : (divW a b).2 = 0 ↔ divErr a b = 0 := by
 unfold divW
 by_cases h : divErr a b = 0
 ·rw [if_pos h]; simp [h]
 ·rw [if_neg h]
theorem rem_zero (a b : Int) : (remW a b).2 = 0 ↔ divErr a b = 0 := by
 unfold remW
 by_cases h : divErr a b = 0
 ·rw [if_pos h]; simp [h]
 ·rw [if_neg h]
theorem divErr_zero (a b : Int) : divErr a b = 0 ↔ b ≠ 0 ∧ ¬ (a = -9223372036854775808 ∧ b = -1) := by
 unfold divErr
 by_cases h : b = 0
 ·rw [if_pos h]; simp [h]
 ·rw [if_neg h]
  by_cases q : a = -9223372036854775808 ∧ b = -1
  ·rw [if_pos q]; simp [q]
  ·rw [if_neg q]; exact ⟨fun _ => ⟨h, q⟩, fun _ => rfl⟩
theorem mul_line {p q y z L H : Int} (h1 : p ≤ y) (h2 : y ≤ q) (l1 : L ≤ z * p) (l2 : L ≤ z * q) (u1 : z * p ≤ H) (u2 : z * q ≤ H) : L ≤ z * y ∧ z * y ≤ H := by
 rcases Int.le_total 0 z with h | h
 ·have := Int.mul_le_mul_of_nonneg_left h1 h
  have := Int.mul_le_mul_of_nonneg_left h2 h
  omega
 ·have := Int.mul_le_mul_of_nonpos_left h h1
  have := Int.mul_le_mul_of_nonpos_left h h2
  omega
theorem mul_mid {a b c d x y L H : Int} (ha : a ≤ x) (hb : x ≤ b) (hc : c ≤ y) (hd : y ≤ d) (l1 : L ≤ a * c) (u1 : a * c ≤ H) (l2 : L ≤ a * d) (u2 : a * d ≤ H) (l3 : L ≤ b * c) (u3 : b * c ≤ H) (l4 : L ≤ b * d) (u4 : b * d ≤ H) : L ≤ x * y ∧ x * y ≤ H := by
 have k1 := mul_line hc hd l1 l2 u1 u2
 have k2 := mul_line hc hd l3 l4 u3 u4
 rw [Int.mul_comm a y] at k1
 rw [Int.mul_comm b y] at k2
 rw [Int.mul_comm x y]
 exact mul_line ha hb k1.1 k2.1 k1.2 k2.2
theorem fits_sound {kd : Int} (hk : 3 ≤ kd ∧ kd ≤ 8) {r s : Rg} (ir : I64 (loR r) ∧ I64 (hiR r)) {x y : Int} (hx : loR r ≤ x ∧ x ≤ hiR r) (hy : loR s ≤ y ∧ y ≤ hiR s) (h : fitsK kd r s = true) : (doW (kd + 2) x y).2 = 0 := by
 unfold fitsK at h
 generalize loR r = a at *
 generalize hiR r = b at *
 generalize loR s = c at *
 generalize hiR s = d at *
 rw [Bool.and_eq_true] at h
 obtain ⟨-, h⟩ := h
 unfold I64 at ir
 have : kd = 3 ∨ kd = 4 ∨ kd = 5 ∨ kd = 6 ∨ kd = 7 ∨ kd = 8 := by omega
 rcases this with rfl | rfl | rfl | rfl | rfl | rfl
 ·show (fit (-x)).2 = 0
  have h' : -9223372036854775808 < a := by simpa using h
  rw [fit_zero]; unfold I64; omega
 ·have h' : (addW a c).2 = 0 ∧ (addW b d).2 = 0 := by simpa using h
  unfold addW at h'
  rw [fit_zero, fit_zero] at h'
  show (fit (x + y)).2 = 0
  rw [fit_zero]; unfold I64 at *; omega
 ·have h' : (subW a d).2 = 0 ∧ (subW b c).2 = 0 := by simpa using h
  unfold subW at h'
  rw [fit_zero, fit_zero] at h'
  show (fit (x - y)).2 = 0
  rw [fit_zero]; unfold I64 at *; omega
 ·have h' : (((mulW a c).2 = 0 ∧ (mulW a d).2 = 0) ∧ (mulW b c).2 = 0) ∧ (mulW b d).2 = 0 := by simpa using h
  unfold mulW at h'
  rw [fit_zero, fit_zero, fit_zero, fit_zero] at h'
  show (fit (x * y)).2 = 0
  rw [fit_zero]
  obtain ⟨⟨⟨k1, k2⟩, k3⟩, k4⟩ := h'
  exact mul_mid hx.1 hx.2 hy.1 hy.2 k1.1 k1.2 k2.1 k2.2 k3.1 k3.2 k4.1 k4.2
 ·show (divW x y).2 = 0
  rw [div_zero, divErr_zero]
  simp at h
  omega
 ·show (remW x y).2 = 0
  rw [rem_zero, divErr_zero]
  simp at h
  omega
end
section
open Go.RowKit
set_option maxRecDepth 100000
set_option maxHeartbeats 8000000
theorem inR_ends {r : Rg} {u : Int} (h : InR r u) (i : I64 u) : loR r ≤ u ∧ u ≤ hiR r := by
 unfold loR hiR
 obtain ⟨h1, h2⟩ := h
 obtain ⟨i1, i2⟩ := i
 constructor
 ·split
  ·rename_i q; exact h1 q
  ·exact i1
 ·split
  ·rename_i q; exact h2 q
  ·exact i2
theorem whole_in {r : Rg} {u : Int} (h : InR r u) (hw : wholeB r = true) : r.lo ≤ u ∧ u ≤ r.hi := by
 unfold wholeB at hw
 rw [Bool.and_eq_true] at hw
 exact ⟨h.1 hw.1, h.2 hw.2⟩
theorem whole_add {N : Nat} {m x : List Int} (hm : Cells N m) (hx : HasM N m x) {u v : Nat} (hu : 2 * u + 1 < N) (hv : 2 * v + 1 < N) (h : wholeB (sumR N m u v) = true) : I64 (gI x (u : Int) + gI x (v : Int)) := by
 have h1 := whole_in (inR_sum hx hu hv) h
 have h2 := sides_i64 (hm.b (i := 2 * u) (j := 2 * v + 1) (by omega) hv) (hm.b (i := 2 * u + 1) (j := 2 * v) hu (by omega))
 unfold sumR at h1
 obtain ⟨⟨a1, a2⟩, b1, b2⟩ := h2
 exact ⟨by omega, by omega⟩
theorem whole_sub {N : Nat} {m x : List Int} (hm : Cells N m) (hx : HasM N m x) {u v : Nat} (hu : 2 * u + 1 < N) (hv : 2 * v + 1 < N) (h : wholeB (diffR N m u v) = true) : I64 (gI x (u : Int) - gI x (v : Int)) := by
 have h1 := whole_in (inR_diff hx hu hv) h
 have h2 := sides_i64 (hm.b (i := 2 * u) (j := 2 * v) (by omega) (by omega)) (hm.b (i := 2 * u + 1) (j := 2 * v + 1) hu hv)
 unfold diffR at h1
 obtain ⟨⟨a1, a2⟩, b1, b2⟩ := h2
 exact ⟨by omega, by omega⟩
theorem doesW_kinds {ls : List (List Int)} {e : Edg} {x : List Int} {input : Int} (hk : 3 ≤ e.kd ∧ e.kd ≤ 8) (h : (kindW e.kd (opdX x e.av e.an) (opdX x e.bv e.bn)).2 = 0) : (doesW ls e x input).1 = 0 := by
 unfold doesW
 rw [if_neg (by omega), if_neg (by omega), if_pos hk, if_pos h]
theorem safe_sound {o : O} {e : Edg} {x : List Int} (sz input : Int) (ls : List (List Int)) (hc : check o = 0) (hr : rightT o.n e = true) (hx : HasO o x) (hI : I64s x) (ia : I64 e.an) (ib : I64 e.bn)
  (hs : safeB (closeO o) e.kd e.av e.an e.bv e.bn sz = true) (hl : e.kd = 10 ∨ e.kd = 11 → ((ls.getD e.arr.toNat []).length : Int) = sz) : (doesW ls e x input).1 = 0 := by
 have ok : OkO o.n (closeO o) := OkO.close ⟨rfl, hc⟩
 have hx2 := closeO_has hc hx
 obtain ⟨N, m, hN, hn, hC, hm, a0, hlen⟩ := hx2.form ok
 have hav : e.av < o.n := by have h := right_a hr; dsimp only at h; omega
 have hbv : e.bv < o.n := by have h := right_b hr; dsimp only at h; omega
 have k1 : 1 ≤ e.kd ∧ e.kd ≤ 14 := by
  unfold rightT rightE at hr
  simp only [Bool.and_eq_true, decide_eq_true_eq] at hr
  exact hr.1.1.1.1.1
 rw [hC] at hs
 unfold safeB at hs
 dsimp only at hs
 rw [Bool.false_or, show (2 * o.n).toNat = N by omega] at hs
 have ea := opdX_i64 hI ia (v := e.av)
 have eb := opdX_i64 hI ib (v := e.bv)
 have ra := inR_opd hm a0 (v := e.av) (k := e.an) (fun _ => by omega)
 have rb := inR_opd hm a0 (v := e.bv) (k := e.bn) (fun _ => by omega)
 have fa := inR_ends ra ea
 have fb := inR_ends rb eb
 have ga := opd_i64R N m e.av e.an ia
 by_cases h14 : e.kd = 14
 ·rw [if_pos h14] at hs; cases hs
 rw [if_neg h14] at hs
 by_cases h0 : e.kd = 1 ∨ e.kd = 2 ∨ e.kd = 9 ∨ e.kd = 12 ∨ e.kd = 13
 ·unfold doesW
  rcases h0 with h | h | h | h | h <;> simp [h]
 rw [if_neg h0] at hs
 by_cases h10 : e.kd = 10 ∨ e.kd = 11
 ·rw [if_pos h10] at hs
  have hl' := hl h10
  unfold placeB at hs
  simp only [Bool.and_eq_true, decide_eq_true_eq] at hs
  obtain ⟨⟨⟨q1, q2⟩, q3⟩, q4⟩ := hs
  have p : isPlace (ls.getD e.arr.toNat []).length (opdX x e.av e.an) = true := by
   unfold isPlace
   rw [decide_eq_true_eq]
   have := ra.1 q1
   have := ra.2 q2
   omega
  unfold doesW
  rcases h10 with h | h
  ·rw [if_neg (by omega), if_neg (by omega), if_neg (by omega), if_pos h, if_pos p]
  ·rw [if_neg (by omega), if_neg (by omega), if_neg (by omega), if_neg (by omega), if_pos h, if_pos p]
 rw [if_neg h10] at hs
 have hk : 3 ≤ e.kd ∧ e.kd ≤ 8 := by omega
 refine doesW_kinds hk ?_
 have main : ∀ s, (loR s ≤ opdX x e.bv e.bn ∧ opdX x e.bv e.bn ≤ hiR s) → fitsK e.kd (opdR N m e.av e.an) s = true → (kindW e.kd (opdX x e.av e.an) (opdX x e.bv e.bn)).2 = 0 := fun s hy h => by
  rw [kind_do]; exact fits_sound hk ga fa hy h
 by_cases h3 : e.kd = 3
 ·rw [if_pos h3] at hs
  rw [← h3] at hs
  exact main rg0 (by rw [show loR rg0 = -9223372036854775808 from rfl, show hiR rg0 = 9223372036854775807 from rfl]; exact eb) hs
 rw [if_neg h3] at hs
 by_cases h4 : e.kd = 4
 ·rw [if_pos h4, Bool.or_eq_true] at hs
  rcases hs with hs | hs
  ·rw [← h4] at hs; exact main _ fb hs
  ·simp only [Bool.and_eq_true, decide_eq_true_eq] at hs
   obtain ⟨⟨qa, qb⟩, qw⟩ := hs
   have := whole_add hm a0 (by omega) (by omega) qw
   rw [h4]
   show (fit _).2 = 0
   rw [fit_zero]
   unfold opdX
   rw [if_pos qa, if_pos qb]
   rwa [Int.toNat_of_nonneg qa, Int.toNat_of_nonneg qb] at this
 rw [if_neg h4] at hs
 by_cases h5 : e.kd = 5
 ·rw [if_pos h5, Bool.or_eq_true] at hs
  rcases hs with hs | hs
  ·rw [← h5] at hs; exact main _ fb hs
  ·simp only [Bool.and_eq_true, decide_eq_true_eq] at hs
   obtain ⟨⟨qa, qb⟩, qw⟩ := hs
   have := whole_sub hm a0 (by omega) (by omega) qw
   rw [h5]
   show (fit _).2 = 0
   rw [fit_zero]
   unfold opdX
   rw [if_pos qa, if_pos qb]
   rwa [Int.toNat_of_nonneg qa, Int.toNat_of_nonneg qb] at this
 rw [if_neg h5] at hs
 exact main _ fb hs
end
section
open Go.RowKit
set_option maxRecDepth 100000
set_option maxHeartbeats 8000000
attribute [local go_sem ↓] Go.wp_at_zero Go.wp_at_succ
theorem sgn_pos (a b : Int) : decide (0 < sgnI a b) = decide (b < a) := by
 unfold sgnI
 split
 ·rw [decide_eq_decide]; omega
 ·split
  ·rw [decide_eq_decide]; omega
  ·rw [decide_eq_decide]; omega
def HasRes (o : O) (xs : List Int) (w : World) (e : Ending) (w' : World) : Prop := ∃ b, e = .returned (.bool b) ∧ (b = true ↔ HasO o xs) ∧ Below w.heap.size w w'
theorem has_ok (o : O) (hk : check o = 0) (xs : List Int) (A X : Option Addr) (cap xc : Nat) (w : World) (hx : Rd w w.heap.size A o.m) (hm : o.m.length ≤ 17592186044416) (hxs : Rd w w.heap.size X xs) (hI : ∀ k : Nat, I64 (gI xs (k : Int))) :
  Calls Tryz.prog 41 #[.agg #[o.n, o.e, .slice A o.m.length cap], .slice X xs.length xc] w (HasRes o xs w) := by
 obtain ⟨p0, a0, hsz⟩ := new_one w #[o.n, o.e, .slice A o.m.length cap] 24
 have a7 := hx.up a0
 have a1 := hxs.up a0
 have HK := hid hk
 have HC := hid (fun W h => check_any o A cap W h (by omega))
 rw [HK.out] at HC
 obtain ⟨on, oe, om⟩ := o
 dsimp only at *
 clear hk hsz hx hxs
 go_enter Tryz.func41, Tryz.ntmps41
 obtain ⟨x0, x1, x2, fx⟩ := octbox p0
 go_wp2_with fail
 clear x0 x1 x2 fx
 generalize w.alloc (Obj.cells #[on, oe, .slice A om.length cap] 24) = w0 at *
 (with_reducible refine (HC.out w0 a7).mono ?_)
 clear HC
 rintro e1 w1 ⟨rfl, a2⟩
 replace p0 := p0.later a2
 replace a7 := a7.up a2
 replace a1 := a1.up a2
 replace a0 := bup a0 a2
 clear a2
 obtain ⟨x0, x1, x2, fx⟩ := octbox p0
 cases oe with
 | true =>
  have HF : Hid (¬ HasO ⟨on, true, om⟩ xs) := hid (fun h => by have := h.1; simp at this)
  go_wp2
  go_ret
  exact ⟨false, rfl, ⟨fun h => by simp at h, fun h => absurd h HF.out⟩, a0⟩
 | false =>
  by_cases hl : (xs.length : Int) = on
  rotate_left
  ·have HF : Hid (¬ HasO ⟨on, false, om⟩ xs) := hid (fun h => hl h.2.1)
   have t1 : ((xs.length : Int) != on) = true := by simpa using hl
   clear hl
   go_wp2
   go_ret
   exact ⟨false, rfl, ⟨fun h => by simp at h, fun h => absurd h HF.out⟩, a0⟩
  ·have t1 : ((xs.length : Int) != on) = false := by simpa using hl
   obtain ⟨n0, n1, -, -⟩ := check_ok HK.out
   dsimp only at n0 n1
   obtain ⟨N, hN⟩ : ∃ N : Nat, (N : Int) = 2 * on := ⟨(2 * on).toNat, by omega⟩
   have hn : N ≤ 128 := by omega
   have HCC := hid (cells_of hN HK.out)
   have HHF : Hid (HasO ⟨on, false, om⟩ xs ↔ HasM N om xs) := hid (by unfold HasO; dsimp only; rw [show (2 * on).toNat = N by omega]; simp [hl])
   have HL := hid hl
   have HN := hid hN
   have HML := hid HCC.out.len
   clear hl hN
   go_wp2
   clear x0 x1 x2 fx t1
   go_loopw [25] (fun t wq => ∃ i : Nat, i ≤ N ∧ t = .int .i64 i ∧ (∀ a b : Nat, a < i → b < N → Lets (G N om a b) (apartX xs a b)) ∧ Below w1.heap.size w1 wq) (fun t _ => N - (RowKit.intOf t).toNat)
   case atStart => exact ⟨0, by omega, rfl, fun a b h => by omega, Below.refl _ _⟩
   case round =>
    obtain ⟨i, hi, rfl, a4, hb⟩ := hrel
    have HR := hid a4
    clear a4
    have q0 := p0.later hb
    obtain ⟨x0, x1, x2, fx⟩ := octbox q0
    by_cases hlt : i < N
    ·have hlti : (i : Int) < 2 * on := by have := HN.out; omega
     go_wp2
     clear x0 x1 x2 fx q0
     go_loopw [31] (fun t wq => ∃ j : Nat, j ≤ N ∧ t = .int .i64 j ∧ (∀ b : Nat, b < j → Lets (G N om i b) (apartX xs i b)) ∧ Below w1.heap.size w1 wq) (fun t _ => N - (RowKit.intOf t).toNat)
     case atStart => exact ⟨0, by omega, rfl, fun b h => by omega, hb⟩
     case round =>
      clear hb
      obtain ⟨j, hj, rfl, a3, hb⟩ := hrel
      have a8 := hid a3
      clear a3
      have q0 := p0.later hb
      obtain ⟨x0, x1, x2, fx⟩ := octbox q0
      by_cases hlt2 : j < N
      ·have hltj : (j : Int) < 2 * on := by have := HN.out; omega
       have hx1 := a7.up hb
       have a5 := a1.up hb
       obtain ⟨q1, q2, q3, q4, q5, q6⟩ := idx_ok (i := i) (j := j) HN.out hlt hlt2 hn
       rw [← HML.out] at q4 q6
       obtain ⟨g1, o1, rfl, hg1, c4⟩ := hx1 (i * N + j) q4
       obtain ⟨v, hv⟩ : ∃ v, v = G N om i j := ⟨_, rfl⟩
       have HV := hid hv
       rw [show gI om ((i * N + j : Nat) : Int) = v from hv.symm] at c4
       have hvI : I64 v := by
        have e : isBound (G N om i j) = true := HCC.out.bd i j hlt hlt2
        rw [← hv] at e
        unfold I64
        rcases bndS e with e | e <;> omega
       have HVI := hid hvI
       clear hv hvI
       go_upto_region 9 with fail
       have f0 := later x0
       have f1 := later x1
       have f2 := later x2
       have f4 := later c4
       clear x0 x1 x2 fx c4
       refine wp_region_flow 8 (fun X => Below wr.heap.size wr X) (by kernel_rfl) (by kernel_rfl) (Below.refl _ _).drew ?_
       (repeat (first | refine fl_s ?_ | refine fl_t ?_))
       (refine fl_c 85 #[.agg #[(i : Int), (j : Int)], on] (.int .i64 (2 * on * (i : Int) + (j : Int))) (fun X hX => (at_any _ _ _ _ n0 n1 (by omega) (by omega) (by omega) (by omega)).mono fun e' w' ⟨he, hb'⟩ => ⟨he, bstep hX hX.size hb'⟩) ?_)
       (repeat (first | refine fl_s ?_ | refine fl_t ?_))
       intro w3 a6
       have c4 := f4 w3 a6
       clear f0 f1 f2 f4
       have a9 := a5.up a6
       replace hb := bup hb a6
       clear a5 a6
       cases t2 : (v != 9223372036854775807)
       ·have HG : Hid (Lets (G N om i j) (apartX xs i j)) := hid (.inl (by rw [← HV.out]; simpa using t2))
        go_wp2
        go_roundw
        case rel => exact ⟨j + 1, by omega, by go_num, fun b h => if e : b = j then e ▸ HG.out else a8.out b (by omega), hb⟩
        case measure => simp [RowKit.intOf]; omega
       ·have hv2 : v ≠ 9223372036854775807 := by simpa using t2
        have HV2 := hid hv2
        clear hv2
        have HA := hid (wapart_ok xs i j X xc w3.heap.size w3 a9 (Nat.le_refl _) hI (by have := HL.out; have := HN.out; omega) (by omega) (by have := HL.out; have := HN.out; omega) (by omega))
        go_wp2_with (refine HA.out.mono ?_)
        rintro e4 w4 ⟨rfl, hb4⟩
        clear HA
        have HO := hid (of_ok v HVI.out w4)
        go_wp2_with (refine HO.out.mono ?_)
        rintro e5 w5 ⟨rfl, hb5⟩
        clear HO
        have HW := hid (wcompare_ok (apartX xs i j) v w5)
        go_wp2_with (refine HW.out.mono ?_)
        rintro e6 w6 ⟨rfl, hb6⟩
        clear HW
        replace hb := bup (bup (bup hb hb4) hb5) hb6
        have HS := hid (sgn_pos (apartX xs i j) v)
        generalize sgnI (apartX xs i j) v = sg at *
        by_cases hgt : v < apartX xs i j
        ·have t3 : decide (0 < sg) = true := by rw [HS.out, decide_eq_true_eq]; exact hgt
         have HF : Hid (¬ HasO ⟨on, false, om⟩ xs) := hid (fun h => by
          rcases (HHF.out.1 h) i j hlt hlt2 with e | e
          ·exact HV2.out (by rw [HV.out]; exact e)
          ·rw [← HV.out] at e; omega)
         clear hgt
         go_wp2
         go_ret
         exact ⟨false, rfl, ⟨fun h => by simp at h, fun h => absurd h HF.out⟩, bup a0 hb⟩
        ·have t3 : decide (0 < sg) = false := by rw [HS.out, decide_eq_false_iff_not]; exact hgt
         have HG : Hid (Lets (G N om i j) (apartX xs i j)) := hid (.inr (by rw [← HV.out]; omega))
         clear hgt
         go_wp2
         go_roundw
         case rel => exact ⟨j + 1, by omega, by go_num, fun b h => if e : b = j then e ▸ HG.out else a8.out b (by omega), hb⟩
         case measure => simp [RowKit.intOf]; omega
      ·obtain rfl : j = N := by omega
       have hge : ¬ ((j : Int) < 2 * on) := by have := HN.out; omega
       clear x0 x1 x2 fx q0
       go_wp2
       go_roundw
       case rel => exact ⟨i + 1, by omega, by go_num, fun a b h h2 => if e : a = i then e ▸ a8.out b h2 else HR.out a b (by omega) h2, hb⟩
       case measure => simp [RowKit.intOf]; omega
    ·obtain rfl : i = N := by omega
     have hge : ¬ ((i : Int) < 2 * on) := by have := HN.out; omega
     clear x0 x1 x2 fx q0
     go_wp2
     go_ret
     exact ⟨true, rfl, ⟨fun _ => HHF.out.2 (fun a b ha hb => HR.out a b ha hb), fun _ => rfl⟩, bup a0 hb⟩
end
section
open Go.RowKit
set_option maxRecDepth 100000
set_option maxHeartbeats 8000000
theorem edge_self {n : Int} {m : List Int} {fr te arr op an bv bn : Int} {d : Nat} (hb : bv < 0) (hk : -2305843009213693952 ≤ bn ∧ bn ≤ 2305843009213693952) : edgeO ⟨n, false, m⟩ ⟨fr, te, 4, (d : Int), arr, op, (d : Int), an, bv, bn⟩ = closeO ⟨n, false, shiftM (2 * n).toNat d bn m⟩ := by
 unfold edgeO
 dsimp only
 rw [if_neg (by omega), if_neg (by omega), if_neg (by omega), if_neg (by omega), if_neg (by omega), if_pos (by omega), if_neg (by omega)]
 rw [show decide ((4 : Int) = 5) = false from rfl]
 unfold addsO
 rw [if_pos (by omega), if_neg (by omega), if_neg (by decide)]
 unfold shiftO
 rw [if_neg (by omega), if_neg (by simp)]
 simp
theorem shift_sx {n : Int} {m : List Int} {N : Nat} (hN : (N : Int) = 2 * n) (hn : N ≤ 128) (hc : Cells N m) {d : Nat} (hd : (d : Int) < n) {k : Int} (hk : -2305843009213693952 ≤ k ∧ k ≤ 2305843009213693952) {A : Option Addr} {cap B : Nat} {W : World} (hm : m.length ≤ 17592186044416) (hB : B ≤ W.heap.size) (hx : Sx W B A m) :
  Calls Tryz.prog 197 #[.agg #[n, false, .slice A m.length cap], (d : Int), (d : Int), k] W (SxRes W B (closeO ⟨n, false, shiftM N d k m⟩)) :=
 (tshift_self n m N hN hn hc d hd k hk A cap W (hx.rd hB) hm).mono fun _ _ h => h.sx hB
theorem tEdge_self (o : O) (fr te arr op an bv bn : Int) (d : Nat) (ia : I64 an) (hb : bv < 0) (hk : -2305843009213693952 ≤ bn ∧ bn ≤ 2305843009213693952) (hd : (d : Int) < o.n) (A : Option Addr) (cap : Nat) (w : World) (hx : Rd w w.heap.size A o.m) (hm : o.m.length ≤ 17592186044416) (B : Nat) (hB : B ≤ w.heap.size) :
  Calls Tryz.prog 28 #[.agg #[o.n, o.e, .slice A o.m.length cap], .agg #[fr, te, .int .i64 4, (d : Int), arr, op, (d : Int), an, bv, bn]] w (ErrSx w B (transAns o ⟨fr, te, 4, (d : Int), arr, op, (d : Int), an, bv, bn⟩) (transErr o ⟨fr, te, 4, (d : Int), arr, op, (d : Int), an, bv, bn⟩)) := by
 have ib : I64 bn := by unfold I64; omega
 refine tEdge_any o fr te 4 (d : Int) arr op (d : Int) an bv bn A cap w hx hm B hB fun _ N cm Ac cc W hN hn hc _ hBW hsx hmc => ?_
 rw [edge_self hb hk, show (2 * o.n).toNat = N by omega]
 refine tedge_av 4 (by omega) o.n cm fr te d arr op d an bv bn ia ib (by omega) Ac cc W B hBW hsx _ fun W2 hB2 hx2 => ?_
 exact tadds_4 o.n cm fr te d arr op d an bv bn ia ib (by omega) hb Ac cc W2 B hB2 hx2 _ fun W3 hB3 hx3 => shift_sx hN hn hc hd hk hmc hB3 hx3
theorem edge_self5 {n : Int} {m : List Int} {fr te arr op an bv bn : Int} {d : Nat} (hb : bv < 0) (hk : -2305843009213693952 ≤ bn ∧ bn ≤ 2305843009213693952) : edgeO ⟨n, false, m⟩ ⟨fr, te, 5, (d : Int), arr, op, (d : Int), an, bv, bn⟩ = closeO ⟨n, false, shiftM (2 * n).toNat d (-bn) m⟩ := by
 have a0 : negW bn = (-bn, 0) := by unfold negW; exact fit_in (by omega)
 unfold edgeO
 dsimp only
 rw [if_neg (by omega), if_neg (by omega), if_neg (by omega), if_neg (by omega), if_neg (by omega), if_pos (by omega), if_neg (by omega)]
 rw [show decide ((5 : Int) = 5) = true from rfl]
 unfold addsO
 rw [if_pos (by omega), if_neg (by omega), if_pos rfl, a0, if_pos rfl]
 unfold shiftO
 rw [if_neg (by omega), if_neg (by simp)]
 simp
theorem tEdge_self5 (o : O) (fr te arr op an bv bn : Int) (d : Nat) (ia : I64 an) (hb : bv < 0) (hk : -2305843009213693952 ≤ bn ∧ bn ≤ 2305843009213693952) (hd : (d : Int) < o.n) (A : Option Addr) (cap : Nat) (w : World) (hx : Rd w w.heap.size A o.m) (hm : o.m.length ≤ 17592186044416) (B : Nat) (hB : B ≤ w.heap.size) :
  Calls Tryz.prog 28 #[.agg #[o.n, o.e, .slice A o.m.length cap], .agg #[fr, te, .int .i64 5, (d : Int), arr, op, (d : Int), an, bv, bn]] w (ErrSx w B (transAns o ⟨fr, te, 5, (d : Int), arr, op, (d : Int), an, bv, bn⟩) (transErr o ⟨fr, te, 5, (d : Int), arr, op, (d : Int), an, bv, bn⟩)) := by
 have ib : I64 bn := by unfold I64; omega
 refine tEdge_any o fr te 5 (d : Int) arr op (d : Int) an bv bn A cap w hx hm B hB fun _ N cm Ac cc W hN hn hc _ hBW hsx hmc => ?_
 rw [edge_self5 hb hk, show (2 * o.n).toNat = N by omega]
 refine tedge_av 5 (by omega) o.n cm fr te d arr op d an bv bn ia ib (by omega) Ac cc W B hBW hsx _ fun W2 hB2 hx2 => ?_
 exact tadds_5 o.n cm fr te d arr op d an bv bn ia ib (by omega) hb (by omega) Ac cc W2 B hB2 hx2 _ fun W3 hB3 hx3 => shift_sx hN hn hc hd (by omega) hmc hB3 hx3
end
section
open Go.RowKit
set_option maxRecDepth 100000
set_option maxHeartbeats 8000000
attribute [local go_sem ↓] Go.wp_at_zero Go.wp_at_succ
def k17 : O := ⟨1, false, boundM 2 0 1 10 (topM 2 2)⟩
def e17 (kd : Int) : Edg := ⟨0, 0, kd, 0, -1, 0, 0, 0, -1, 1⟩
theorem k17_len : k17.m.length = 4 := by unfold k17; dsimp only; rw [boundM_len, topM_len 2 2]
theorem k17_ok : check k17 = 0 := by kernel_rfl
theorem k17_e4 : transErr k17 (e17 4) = 0 := by kernel_rfl
theorem k17_e5 : transErr k17 (e17 5) = 0 := by kernel_rfl
theorem k17_4 : ((closeO k17).e || fits4 (opdR (2 * (closeO k17).n).toNat (closeO k17).m 0 0) (opdR (2 * (closeO k17).n).toNat (closeO k17).m (-1) 1)) = true := by kernel_rfl
theorem k17_5 : ((closeO k17).e || fits5 (opdR (2 * (closeO k17).n).toNat (closeO k17).m 0 0) (opdR (2 * (closeO k17).n).toNat (closeO k17).m (-1) 1)) = false := by kernel_rfl
theorem k17_s4 (A : Option Addr) (cap : Nat) (W : World) (h : Rd W W.heap.size A k17.m) : Calls Tryz.prog 43 #[.agg #[.int .i64 1, false, .slice A 4 cap], .agg #[.int .i64 0, .int .i64 0, .int .i64 4, .int .i64 0, .int .i64 (-1), .int .i64 0, .int .i64 0, .int .i64 0, .int .i64 (-1), .int .i64 1], .int .i64 0] W fun e w' => e = .returned (.tuple #[true, .int .i64 0]) ∧ Below W.heap.size W w' := by
 have q := sedge_4 k17 (transAns k17 (e17 4)) 0 0 0 (-1) 0 0 0 (-1) 1 0 (by omega) (by unfold I64; omega) k17_ok (by show (0 : Int) < 1; omega) (by unfold I64; omega) (closeO k17) rfl A cap W h (by rw [k17_len]; omega) (fun V hV hr => by
  have h2 := tEdge_self k17 0 0 (-1) 0 0 (-1) 1 0 (by unfold I64; omega) (by omega) (by omega) (by show (0 : Int) < 1; omega) A cap V hr (by rw [k17_len]; omega) W.heap.size hV
  rw [show (⟨0, 0, 4, ((0 : Nat) : Int), -1, 0, ((0 : Nat) : Int), 0, -1, 1⟩ : Edg) = e17 4 from rfl, k17_e4] at h2
  exact h2)
 rw [k17_4, k17_len] at q
 exact q
theorem k17_s5 (A : Option Addr) (cap : Nat) (W : World) (h : Rd W W.heap.size A k17.m) : Calls Tryz.prog 43 #[.agg #[.int .i64 1, false, .slice A 4 cap], .agg #[.int .i64 0, .int .i64 0, .int .i64 5, .int .i64 0, .int .i64 (-1), .int .i64 0, .int .i64 0, .int .i64 0, .int .i64 (-1), .int .i64 1], .int .i64 0] W fun e w' => e = .returned (.tuple #[false, .int .i64 0]) ∧ Below W.heap.size W w' := by
 have q := sedge_5 k17 (transAns k17 (e17 5)) 0 0 0 (-1) 0 0 0 (-1) 1 0 (by omega) (by unfold I64; omega) k17_ok (by show (0 : Int) < 1; omega) (by unfold I64; omega) (closeO k17) rfl A cap W h (by rw [k17_len]; omega) (fun V hV hr => by
  have h2 := tEdge_self5 k17 0 0 (-1) 0 0 (-1) 1 0 (by unfold I64; omega) (by omega) (by omega) (by show (0 : Int) < 1; omega) A cap V hr (by rw [k17_len]; omega) W.heap.size hV
  rw [show (⟨0, 0, 5, ((0 : Nat) : Int), -1, 0, ((0 : Nat) : Int), 0, -1, 1⟩ : Edg) = e17 5 from rfl, k17_e5] at h2
  exact h2)
 rw [k17_5, k17_len] at q
 exact q
def r15 : Rg := ⟨1, 5, true, true⟩
theorem k17_f (W : World) : Calls Tryz.prog 46 #[.int .i64 7, .agg #[.int .i64 0, .int .i64 0, false, false], .agg #[.int .i64 1, .int .i64 5, true, true]] W fun e w' => e = .returned (.bool true) ∧ Below W.heap.size W w' :=
 safefits_7 rg0 r15 (by unfold rg0 loR hiR I64; simp) (by unfold r15 loR hiR I64; simp) W
theorem known17_any (w : World) :
  Calls Tryz.prog 42 #[] w fun e w' => e = .returned (.bool true) ∧ Below w.heap.size w w' := by
 have u_len : (topM 2 2).length = 4 := topM_len 2 2
 have HL := hid k17_len
 have HS4 := hid k17_s4
 have HS5 := hid k17_s5
 go_enter Tryz.func42, Tryz.ntmps42
 go_wp2_with fail
 refine (rtop_any 1 2 w (by omega) rfl).mono ?_
 rintro e1 w1 ⟨A1, c1, rfl, a2, a5⟩
 dsimp only at a2 ⊢
 rw [u_len]
 have a7 := hid (rbound_ok 1 (topM 2 2) 2 0 1 w.heap.size 10 A1 c1 w1 a2 a5.size rfl (by omega) u_len (by omega) (by omega) (by omega))
 rw [u_len] at a7
 go_wp2_with fail
 refine a7.out.mono ?_
 clear a7
 rintro e2 w2 ⟨rfl, a0, hb2⟩
 have a1 : Below w.heap.size w w2 := a5.trans hb2
 replace a0 : Own w2 w.heap.size A1 c1 k17.m := a0
 have hg : w.heap.size ≤ w2.heap.size := a1.size
 clear a2 a5 hb2 u_len
 obtain ⟨p1, p2, a6, -⟩ := new_two w2 #[.int .i64 1, false, .slice A1 4 c1] #[.int .i64 0, .int .i64 0, .int .i64 4, .int .i64 0, .int .i64 (-1), .int .i64 0, .int .i64 0, .int .i64 0, .int .i64 (-1), .int .i64 1] 24 44
 replace a0 := a0.below a6
 replace a1 := bup a1 a6
 clear a6
 obtain ⟨x0, x1, x2, fx⟩ := octbox p1
 obtain ⟨y0, y1, y2, y3, y4, y5, y6, y7, y8, y9, fy⟩ := edgbox p2
 go_wp2_with fail
 clear x0 x1 x2 fx y0 y1 y2 y3 y4 y5 y6 y7 y8 y9 fy
 generalize (w2.alloc (Obj.cells #[.int .i64 1, false, .slice A1 4 c1] 24)).alloc (Obj.cells #[.int .i64 0, .int .i64 0, .int .i64 4, .int .i64 0, .int .i64 (-1), .int .i64 0, .int .i64 0, .int .i64 0, .int .i64 (-1), .int .i64 1] 44) = w3 at *
 generalize w2.heap.size = g1 at *
 (with_reducible refine (HS4.out A1 c1 w3 a0.rd).mono ?_)
 rintro e4 w4 ⟨rfl, a3⟩
 replace p1 := p1.later a3
 replace p2 := p2.later a3
 replace a0 := a0.below a3
 replace a1 := bup a1 a3
 clear a3 HS4
 obtain ⟨y0, y1, y2, y3, y4, y5, y6, y7, y8, y9, fy⟩ := edgbox p2
 have q2 := p2.set_ 2 (.int .i64 5)
 have q1 := p1.far (p := ⟨g1 + 1, 2, none⟩) (by simp) (.int .i64 5)
 have o2 := a0.far1 (i := 2) (v := .int .i64 5) (own_blk' a0 p2 (by decide))
 have a4 := a1.trans (below1 (i := 2) (v := .int .i64 5) (show w.heap.size ≤ g1 + 1 by omega) a1.size)
 obtain ⟨x0, x1, x2, fx⟩ := octbox p1
 go_wp2_with fail
 clear x0 x1 x2 fx y0 y1 y2 y3 y4 y5 y6 y7 y8 y9 fy p1 p2 a0 a1
 generalize w4.setCell ⟨g1 + 1, 2, none⟩ (.int .i64 5) = w5 at *
 (with_reducible refine (HS5.out A1 c1 w5 o2.rd).mono ?_)
 rintro e6 w6 ⟨rfl, hb6⟩
 replace a4 := bup a4 hb6
 clear hb6 HS5 q1 q2 o2
 go_wp2_with fail
 (with_reducible refine (k17_f _).mono ?_)
 rintro e7 w7 ⟨rfl, hb7⟩
 go_wp2
 go_ret
 exact ⟨rfl, bup a4 hb7⟩
end
end Go.Proofs.YtnmpgijiimglcaaGreat
