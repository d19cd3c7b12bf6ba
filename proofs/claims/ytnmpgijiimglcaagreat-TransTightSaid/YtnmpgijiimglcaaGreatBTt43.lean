import Derived.Test.YtnmpgijiimglcaaGreatBTt10
import Derived.Test.YtnmpgijiimglcaaGreatBTt01
import Derived.Test.YtnmpgijiimglcaaGreatBTt00
import Derived.Test.YtnmpgijiimglcaaGreatBTt42
import Derived.Test.YtnmpgijiimglcaaGreatBTt32
namespace Go.Proofs.YtnmpgijiimglcaaGreat
open Go.RowKit
set_option maxRecDepth 100000
set_option maxHeartbeats 8000000
section
attribute [local go_sem ↓] Go.wp_at_zero Go.wp_at_succ
def zcN (v : Int) : Prop := -1099511627776 ≤ v ∧ v ≤ 1099511627776
theorem zo9 (v : Int) : ∃ q r : Int, Int.tdiv v 2 = q ∧ Int.tmod v 2 = r ∧ 2 * q + r = v ∧ -1 ≤ r ∧ r ≤ 1 := by
 refine ⟨_, _, rfl, rfl, Int.mul_tdiv_add_tmod v 2, ?_, ?_⟩
 ·obtain ⟨n, rfl | rfl⟩ := Int.eq_nat_or_neg v
  ·rw [Int.tmod_eq_emod_of_nonneg (by omega)]; omega
  ·rw [Int.neg_tmod, Int.tmod_eq_emod_of_nonneg (by omega)]; omega
 ·obtain ⟨n, rfl | rfl⟩ := Int.eq_nat_or_neg v
  ·rw [Int.tmod_eq_emod_of_nonneg (by omega)]; omega
  ·rw [Int.neg_tmod, Int.tmod_eq_emod_of_nonneg (by omega)]; omega
def zoe (u : Int) (w : World) (e : Ending) (w' : World) : Prop := ∃ h r, e = .returned (.tuple #[.int .i64 h, .int .i64 r]) ∧ 2 * h + r = u ∧ 0 ≤ r ∧ r ≤ 1 ∧ Below w.heap.size w w'
theorem zkx (v : Int) (hv : zcN v) (b : Bool) (w : World) : Calls Tryz.prog 128 #[v, b] w (zoe (if b then -v else v) w) := by
 unfold zcN at hv
 obtain ⟨q, r, hq, hr, hs, h1, h2⟩ := zo9 v
 have q0 : -9223372036854775808 ≤ q - 1 := by omega
 have q1 : q + 1 ≤ 9223372036854775807 := by omega
 have q2 : -9223372036854775808 ≤ -q - 1 := by omega
 cases b with
 | false =>
  by_cases hr0 : r < 0
  ·have HX : Hid (∃ h r', 2 * h + r' = v ∧ 0 ≤ r' ∧ r' ≤ 1 ∧ h = q - 1 ∧ r' = 1) := hid ⟨q - 1, 1, by omega, by omega, by omega, rfl, rfl⟩
   have t1 : decide (r < 0) = true := by rw [decide_eq_true_eq]; exact hr0
   clear hr0
   go_enter Tryz.func128, Tryz.ntmps128
   go_wp2
   refine bodyPost_ret (v := .tuple #[.int .i64 (q - 1), .int .i64 1]) (by simp [results, Tryz.results128, go_sem]) rfl ?_
   obtain ⟨h, r', a, b, c, rfl, rfl⟩ := HX.out
   exact ⟨_, _, rfl, a, b, c, Below.refl _ _⟩
  ·have t1 : decide (r < 0) = false := by rw [decide_eq_false_iff_not]; exact hr0
   have HX : Hid (2 * q + r = v ∧ 0 ≤ r ∧ r ≤ 1) := hid ⟨by omega, by omega, by omega⟩
   clear hr0
   go_enter Tryz.func128, Tryz.ntmps128
   go_wp2
   refine bodyPost_ret (v := .tuple #[q, r]) (by simp [results, Tryz.results128, go_sem]) rfl ?_
   exact ⟨_, _, rfl, HX.out.1, HX.out.2.1, HX.out.2.2, Below.refl _ _⟩
 | true =>
  by_cases hr0 : -r < 0
  ·have HX : Hid (∃ h r', 2 * h + r' = -v ∧ 0 ≤ r' ∧ r' ≤ 1 ∧ h = -q - 1 ∧ r' = 1) := hid ⟨-q - 1, 1, by omega, by omega, by omega, rfl, rfl⟩
   have t1 : decide (-r < 0) = true := by rw [decide_eq_true_eq]; exact hr0
   have t2 : decide (0 < r) = true := by rw [decide_eq_true_eq]; omega
   clear hr0
   go_enter Tryz.func128, Tryz.ntmps128
   go_wp2
   refine bodyPost_ret (v := .tuple #[.int .i64 (-q - 1), .int .i64 1]) (by simp [results, Tryz.results128, go_sem]) rfl ?_
   obtain ⟨h, r', a, b, c, rfl, rfl⟩ := HX.out
   exact ⟨_, _, rfl, a, b, c, Below.refl _ _⟩
  ·have t1 : decide (-r < 0) = false := by rw [decide_eq_false_iff_not]; exact hr0
   have t2 : decide (0 < r) = false := by rw [decide_eq_false_iff_not]; omega
   have HX : Hid (2 * (-q) + -r = -v ∧ 0 ≤ -r ∧ -r ≤ 1) := hid ⟨by omega, by omega, by omega⟩
   clear hr0
   go_enter Tryz.func128, Tryz.ntmps128
   go_wp2
   refine bodyPost_ret (v := .tuple #[.int .i64 (-q), .int .i64 (-r)]) (by simp [results, Tryz.results128, go_sem]) rfl ?_
   exact ⟨_, _, rfl, HX.out.1, HX.out.2.1, HX.out.2.2, Below.refl _ _⟩
theorem zgo (xs : List Int) (hn : ∀ k : Nat, zcN (gI xs (k : Int))) (i j : Nat) (hi : i / 2 < xs.length) (hj : j / 2 < xs.length) (hm : i ≤ 1000 ∧ j ≤ 1000) (X : Option Addr) (xc : Nat) (w : World) (hx : Rd w w.heap.size X xs) :
  Calls Tryz.prog 66 #[.slice X xs.length xc, (i : Int), (j : Int)] w fun e w' => e = .returned (.tuple #[.int .i64 (apartX xs i j), .int .i64 0]) ∧ Below w.heap.size w w' := by
 obtain ⟨xi, a3⟩ : ∃ v, v = gI xs ((i / 2 : Nat) : Int) := ⟨_, rfl⟩
 obtain ⟨xj, a4⟩ : ∃ v, v = gI xs ((j / 2 : Nat) : Int) := ⟨_, rfl⟩
 obtain ⟨i2, hi2⟩ : ∃ v, v = i / 2 := ⟨_, rfl⟩
 obtain ⟨j2, hj2⟩ : ∃ v, v = j / 2 := ⟨_, rfl⟩
 obtain ⟨bi, a5⟩ : ∃ b : Bool, ((((i % 2 : Nat)) : Int) == 1) = b := ⟨_, rfl⟩
 obtain ⟨bj, a6⟩ : ∃ b : Bool, ((((j % 2 : Nat)) : Int) == 0) = b := ⟨_, rfl⟩
 have HR : Hid (apartX xs i j = (if bi then -xi else xi) + (if bj then -xj else xj)) := hid (by
  unfold apartX zaC
  rw [← a3, ← a4]
  have ei : (i % 2 = 0 ∧ bi = false) ∨ (i % 2 = 1 ∧ bi = true) := by
   rcases Nat.mod_two_eq_zero_or_one i with h | h
   ·left; exact ⟨h, by rw [← a5, h]; rfl⟩
   ·right; exact ⟨h, by rw [← a5, h]; rfl⟩
  have ej : (j % 2 = 0 ∧ bj = true) ∨ (j % 2 = 1 ∧ bj = false) := by
   rcases Nat.mod_two_eq_zero_or_one j with h | h
   ·left; exact ⟨h, by rw [← a6, h]; rfl⟩
   ·right; exact ⟨h, by rw [← a6, h]; rfl⟩
  rcases ei with ⟨e1, e2⟩ | ⟨e1, e2⟩ <;> rcases ej with ⟨e3, e4⟩ | ⟨e3, e4⟩ <;> rw [e2, e4] <;> simp [e1, e3] <;> omega)
 generalize apartX xs i j = R at *
 have ni : zcN xi := a3 ▸ hn _
 have nj : zcN xj := a4 ▸ hn _
 rw [← hi2] at hi a3
 rw [← hj2] at hj a4
 obtain ⟨g1, o1, rfl, hg1, ci⟩ := hx i2 hi
 obtain ⟨_, _, e1, -, cj⟩ := hx j2 hj
 injection e1 with e1; injection e1 with e1 e2; subst e1; subst e2
 rw [← a3] at ci
 rw [← a4] at cj
 have hi' : (i2 : Int) < (xs.length : Int) := by omega
 have hj' : (j2 : Int) < (xs.length : Int) := by omega
 have di1 : Int.tdiv (i : Int) 2 = (i2 : Int) := by rw [Int.tdiv_eq_ediv_of_nonneg (by omega)]; omega
 have di2 : (i : Int) / 2 = (i2 : Int) := by omega
 have dj1 : Int.tdiv (j : Int) 2 = (j2 : Int) := by rw [Int.tdiv_eq_ediv_of_nonneg (by omega)]; omega
 have dj2 : (j : Int) / 2 = (j2 : Int) := by omega
 have mi1 : Int.tmod (i : Int) 2 = ((i % 2 : Nat) : Int) := by rw [Int.tmod_eq_emod_of_nonneg (by omega)]; omega
 have mi2 : (i : Int) % 2 = ((i % 2 : Nat) : Int) := by omega
 have mj1 : Int.tmod (j : Int) 2 = ((j % 2 : Nat) : Int) := by rw [Int.tmod_eq_emod_of_nonneg (by omega)]; omega
 have mj2 : (j : Int) % 2 = ((j % 2 : Nat) : Int) := by omega
 clear hi2 hj2 a3 a4 hn hi hj hx
 have hi3 : i % 2 ≤ 1 := by omega
 have hj3 : j % 2 ≤ 1 := by omega
 generalize i % 2 = ri at *
 generalize j % 2 = rj at *
 have Hi := hid (zkx xi ni bi)
 have Hj := hid (zkx xj nj bj)
 have NI := hid ni
 have NJ := hid nj
 clear ni nj
 go_enter Tryz.func66, Tryz.ntmps66
 go_upto_region 1 with fail
 have fi := later ci
 have fj := later cj
 clear ci cj
 refine zab 11 (fun X => Below w.heap.size w X) (by kernel_rfl) (by kernel_rfl) (Below.refl _ _).drew ?_
 refine fl_a ?_
 intro w3 a2
 clear fi fj
 go_wp2_with fail
 (with_reducible refine (Hi.out w3).mono ?_)
 rintro e4 w4 ⟨a, ra, rfl, ha, ra0, ra1, hb4⟩
 replace a2 := bup a2 hb4
 clear hb4
 go_wp2_with fail
 (with_reducible refine (Hj.out w4).mono ?_)
 rintro e5 w5 ⟨b, rb, rfl, hb, rb0, rb1, hb5⟩
 replace a2 := bup a2 hb5
 clear hb5 Hi Hj
 have ba : -1099511627777 ≤ a ∧ a ≤ 1099511627777 := by
  have := NI.out; unfold zcN at this
  cases bi <;> simp at ha <;> omega
 have bb : -1099511627777 ≤ b ∧ b ≤ 1099511627777 := by
  have := NJ.out; unfold zcN at this
  cases bj <;> simp at hb <;> omega
 rw [← ha, ← hb] at HR
 obtain ⟨a0, a1⟩ := ba
 obtain ⟨b0, b1⟩ := bb
 clear ha hb
 have t1 : decide (2305843009213693952 - b < a) = false := by rw [decide_eq_false_iff_not]; omega
 have t2 : decide (a < -2305843009213693953 - b) = false := by rw [decide_eq_false_iff_not]; omega
 have e1 : ra = 0 ∨ ra = 1 := by omega
 have e2 : rb = 0 ∨ rb = 1 := by omega
 clear ra0 ra1 rb0 rb1 mi1 mi2 mj1 mj2 a5 a6 di1 di2 dj1 dj2
 rcases e1 with rfl | rfl <;> rcases e2 with rfl | rfl
 all_goals go_wp2
 all_goals (first
  | (exfalso; omega)
  | (refine bodyPost_ret (v := .tuple #[R, .int .i64 0]) (by simp [results, Tryz.results66, go_sem]; have := HR.out; omega) rfl ?_; exact ⟨rfl, a2⟩)
  | (refine bodyPost_ret (v := .tuple #[R, .int .i64 0]) (by have := HR.out; simp [results, Tryz.results66, go_sem, this]; try omega) rfl ?_; exact ⟨rfl, a2⟩))
end
section
def Bx (U : Nat → Prop) (o : O) : Prop := ∃ m, o = ⟨2, false, m⟩ ∧ Raw m ∧ ∀ i, i < 4 → U i → G 4 m i (nx i) ≤ 10
theorem Bx.put {U : Nat → Prop} {o : O} (h : Bx U o) {i j : Nat} (hi : i < 4) (hj : j < 4) (hij : i ≠ j) {v : Int} (hv : -1000000 ≤ v ∧ v ≤ 1000000) : Bx U (withO o i j v) := by
 obtain ⟨m, rfl, r, u⟩ := h
 obtain ⟨r1, l1, -⟩ := r.bound hi hj hij hv
 exact ⟨_, zcy hij v, r1, fun a ha ua => Int.le_trans (l1 a (nx a) ha (nxl (by decide) ha)) (u a ha ua)⟩
theorem Bx.side {U : Nat → Prop} {o : O} (h : Bx U o) {i : Nat} (hi : i < 4) {v : Int} (hv : -1000000 ≤ v ∧ v ≤ 10) : Bx (fun a => a = i ∨ U a) (withO o i (nx i) v) := by
 obtain ⟨m, rfl, r, u⟩ := h
 have hn := nxl (N := 4) (by decide) hi
 have hne : i ≠ nx i := fun e => zkN i e.symm
 obtain ⟨r1, l1, c1⟩ := r.bound hi hn hne (v := v) (by omega)
 refine ⟨_, zcy hne v, r1, fun a ha ua => ?_⟩
 rcases ua with rfl | ua
 ·omega
 ·exact Int.le_trans (l1 a (nx a) ha (nxl (by decide) ha)) (u a ha ua)
theorem Bx.close {o : O} (h : Bx (fun i => i < 4) o) : closeO o = emptyO 2 ∨ ∃ ys, closeO o = ⟨2, false, ys⟩ ∧ Tight 4 ys ∧ Tiny ys := by
 obtain ⟨m, rfl, r, u⟩ := h
 rcases ziu r with e | ⟨zs, e, T, s, le⟩
 ·exact .inl e
 ·refine .inr ⟨zs, e, T, ?_⟩
  have up : ∀ i, i < 4 → G 4 zs i (nx i) ≤ 10 := fun i hi => Int.le_trans (le i (nx i) hi (nxl (by decide) hi)) (u i hi hi)
  have f := zls T s fun i hi => by have := up i hi; omega
  have a0 : ∀ i j, i < 4 → j < 4 → G 4 zs i j ≤ 10 := fun i j hi hj => by
   by_cases hij : i = j
   ·subst hij; rw [T.cells.d hi]; omega
   ·have h1 := str4 T f hi hj hij
    have h2 := up i hi
    have h3 := up (nx j) (nxl (by decide) hj)
    rw [zbv] at h3
    omega
  intro i j hi hj
  have h1 := a0 i j hi hj
  have h2 := a0 j i hj hi
  have h3 := tri4 T f hi hi hj
  rw [T.cells.d hi] at h3
  omega
theorem Bx.pt {o : O} (h : Bx (fun i => i < 4) o) {x y : Int} (hx : HasO o [x, y]) : -5 ≤ x ∧ x ≤ 5 ∧ -5 ≤ y ∧ y ≤ 5 := by
 obtain ⟨m, rfl, r, u⟩ := h
 have hm := hx.2.2
 have g := fun (i : Nat) (hi : i < 4) => (show apartX [x, y] i (nx i) ≤ 10 from by
  have h1 := hm i (nx i) (by show i < 4; exact hi) (by show nx i < 4; exact nxl (by decide) hi)
  have h2 := u i hi hi
  have h3 : Lets (G 4 m i (nx i)) (apartX [x, y] i (nx i)) := h1
  unfold Lets at h3
  omega)
 have g0 : 2 * x ≤ 10 := by have := g 0 (by decide); rw [zbP] at this; exact this
 have g1 : 2 * -x ≤ 10 := by have := g 1 (by decide); rw [zbP] at this; exact this
 have g2 : 2 * y ≤ 10 := by have := g 2 (by decide); rw [zbP] at this; exact this
 have g3 : 2 * -y ≤ 10 := by have := g 3 (by decide); rw [zbP] at this; exact this
 omega
def boxU (b : List Int) : Nat → O
 | 0 => ⟨2, false, topM 4 4⟩
 | k + 1 => withO (boxU b k) k (nx k) (min (gI b (k : Int)) 10)
def pxI (k : Nat) : Nat := if k = 1 then 2 else if k = 3 then 1 else 0
def pxJ (k : Nat) : Nat := if k = 1 then 0 else if k = 2 then 3 else 2
def boxP (b : List Int) : Nat → O
 | 0 => boxU b 4
 | k + 1 => if gI b ((4 + k : Nat) : Int) < 100 then withO (boxP b k) (pxI k) (pxJ k) (gI b ((4 + k : Nat) : Int)) else boxP b k
def I8s (b : List Int) : Prop := ∀ k : Nat, -128 ≤ gI b (k : Int) ∧ gI b (k : Int) ≤ 127
theorem zoS : Bx (fun i => i < 0) ⟨2, false, topM 4 4⟩ := by
 have hk : check ⟨2, false, topM 4 4⟩ = 0 := by decide +kernel
 refine ⟨_, rfl, ⟨zdM (n := 2) (by decide) hk, ?_⟩, fun i _ h => by omega⟩
 intro i j hi hj
 revert i
 apply all4 <;> (revert j; apply all4) <;> first | exact .inl (by decide +kernel) | exact .inr (by decide +kernel)
theorem zlb {b : List Int} (hb : I8s b) : ∀ k, k ≤ 4 → Bx (fun i => i < k) (boxU b k)
 | 0, _ => zoS
 | k + 1, hk => by
  have h := (zlb hb k (by omega)).side (i := k) (by omega) (v := min (gI b (k : Int)) 10) (by have := hb k; omega)
  obtain ⟨m, e, r, u⟩ := h
  exact ⟨m, e, r, fun i hi hk => u i hi (by omega)⟩
theorem zfK {b : List Int} (hb : I8s b) : ∀ k, k ≤ 4 → Bx (fun i => i < 4) (boxP b k)
 | 0, _ => zlb hb 4 (Nat.le_refl _)
 | k + 1, hk => by
  have ih := zfK hb k (by omega)
  unfold boxP
  split
  ·have e : k = 0 ∨ k = 1 ∨ k = 2 ∨ k = 3 := by omega
   have hv := hb (4 + k)
   exact ih.put (by unfold pxI; split <;> (try split) <;> omega) (by unfold pxJ; split <;> (try split) <;> omega) (by rcases e with rfl | rfl | rfl | rfl <;> decide) (by omega)
  ·exact ih
def boxO (b : List Int) : O := boxP b 4
open Classical in
noncomputable def imgF (o : O) (e : Edg) (x y : Int) : Option (List Int) :=
 if HasO o [x, y] then
  if e.kd = 11 then some [x, y]
  else if (oneW (gr1 2 (List.replicate 4 4) e) (List.replicate 4 [0, 0, 0, 0]) [x, y] 0 0).1 = 0 ∧ (oneW (gr1 2 (List.replicate 4 4) e) (List.replicate 4 [0, 0, 0, 0]) [x, y] 0 0).2.1 = 0 then
   some (oneW (gr1 2 (List.replicate 4 4) e) (List.replicate 4 [0, 0, 0, 0]) [x, y] 0 0).2.2
  else none
 else none
def imgR (f : Int → Int → Option (List Int)) (x : Int) (k : Nat) : List (List Int) := (List.range k).filterMap fun (j : Nat) => f x (-5 + (j : Int))
def imgL (f : Int → Int → Option (List Int)) (k : Nat) : List (List Int) := (List.range k).flatMap fun (i : Nat) => imgR f (-5 + (i : Int)) 11
theorem zk5 {f : Int → Int → Option (List Int)} {x : Int} {k : Nat} (h : f x (-5 + (k : Int)) = none) : imgR f x (k + 1) = imgR f x k := by
 unfold imgR; rw [List.range_succ, List.filterMap_append]; simp [h]
theorem zkU {f : Int → Int → Option (List Int)} {x : Int} {k : Nat} {z : List Int} (h : f x (-5 + (k : Int)) = some z) : imgR f x (k + 1) = imgR f x k ++ [z] := by
 unfold imgR; rw [List.range_succ, List.filterMap_append]; simp [h]
theorem zgV {f : Int → Int → Option (List Int)} {k : Nat} : imgL f (k + 1) = imgL f k ++ imgR f (-5 + (k : Int)) 11 := by
 unfold imgL; rw [List.range_succ, List.flatMap_append]; simp
theorem zlY {f : Int → Int → Option (List Int)} {x : Int} {k : Nat} {z : List Int} : z ∈ imgR f x k ↔ ∃ j : Nat, j < k ∧ f x (-5 + (j : Int)) = some z := by
 unfold imgR; simp [List.mem_filterMap]
theorem zf5 {f : Int → Int → Option (List Int)} {k : Nat} {z : List Int} : z ∈ imgL f k ↔ ∃ i j : Nat, i < k ∧ j < 11 ∧ f (-5 + (i : Int)) (-5 + (j : Int)) = some z := by
 unfold imgL
 simp only [List.mem_flatMap, List.mem_range, zlY]
 constructor
 ·rintro ⟨i, hi, j, hj, h⟩; exact ⟨i, j, hi, hj, h⟩
 ·rintro ⟨i, j, hi, hj, h⟩; exact ⟨i, hi, j, hj, h⟩
theorem zdn {x y : Int} (hx : -5 ≤ x ∧ x ≤ 5) (hy : -5 ≤ y ∧ y ≤ 5) (k : Nat) : zcN (gI [x, y] (k : Int)) := by
 unfold zcN
 match k with
 | 0 => show -1099511627776 ≤ x ∧ x ≤ 1099511627776; omega
 | 1 => show -1099511627776 ≤ y ∧ y ≤ 1099511627776; omega
 | k + 2 => rw [zfs (by simp)]; omega
theorem zgm {x : List Int} (h : ∀ k : Nat, zcN (gI x (k : Int))) : I64s x := fun k => by have := h k; unfold zcN at this; omega
theorem zjf {n : Int} {sz : List Int} {ls : List (List Int)} {e : Edg} {x z : List Int} (h : zeC e x z) (k9 : e.kd ≠ 9) (k10 : e.kd ≠ 10) (k11 : e.kd ≠ 11) : oneW (gr1 n sz e) ls x 0 0 = (0, 0, z) := by
 obtain ⟨h14, h12, h3⟩ := h
 rw [if_neg (by omega)] at h3
 by_cases k12 : e.kd = 12
 ·rw [one_holds ls x 0 k12 (h12 k12)]
  rw [if_neg (by omega), if_neg (by omega)] at h3
  rw [h3]
 ·rw [ze7 ls x 0 k12]
  unfold doesW
  by_cases k2 : e.kd = 2
  ·rw [if_pos k2] at h3 ⊢
   rw [h3]
  ·rw [if_neg k2] at h3 ⊢
   rw [if_neg k9]
   by_cases k38 : 3 ≤ e.kd ∧ e.kd ≤ 8
   ·rw [if_pos k38] at h3 ⊢
    rw [if_pos h3.1, h3.2]
   ·rw [if_neg k38] at h3 ⊢
    rw [if_neg k10, if_neg k11, if_neg h14, h3]
theorem zj2 {b : List Int} (hb : I8s b) {e : Edg} (hE : transErr (boxO b) e = 0) (hex : zb6 e = true) (k9 : e.kd ≠ 9) (k10 : e.kd ≠ 10) (ia : -1000 ≤ e.an ∧ e.an ≤ 1000) (ib : -1000 ≤ e.bn ∧ e.bn ≤ 1000) :
  transAns (boxO b) e = maxO 2 (imgL (imgF (boxO b) e) 11) := by
 have B : Bx (fun i => i < 4) (boxO b) := zfK hb 4 (Nat.le_refl _)
 generalize boxO b = o at *
 obtain ⟨hc, hr⟩ := zcJ hE
 have hn : o.n = 2 := by obtain ⟨m, rfl, -⟩ := B; rfl
 rw [hn] at hr
 have ok : OkO 2 o := ⟨hn, hc⟩
 have hA : transAns o e = transO o e := by unfold transAns; rw [if_pos hE]
 have lo : ∀ x, HasO (closeO o) x → HasO o x := fun x hx => by
  obtain ⟨m, rfl, r, -⟩ := B
  obtain ⟨h1, h2⟩ := zbC r hx
  exact ⟨rfl, by dsimp only; omega, h1⟩
 have key : P4 (transO o e) ∧ ∀ z, HasO (transO o e) z → ∃ x, HasO o x ∧ zeC e x z := by
  unfold transO
  rcases B.close with h | ⟨ys, h, T, t⟩
  ·rw [h, if_pos (show (emptyO 2).e = true from rfl)]
   exact ⟨.inl rfl, fun z hz => (zcR hz).elim⟩
  ·rw [h, if_neg (by simp)]
   obtain ⟨h1, h2⟩ := zpp T t hr hex k9 k10 ia ib
   refine ⟨h1, fun z hz => ?_⟩
   obtain ⟨x, h3, h4⟩ := h2 z hz
   exact ⟨x, lo x (by rw [h]; exact h3), h4⟩
 rw [hA]
 refine max4 key.1 (fun z hz => ?_) (fun z hz => ?_)
 ·obtain ⟨i, j, hi, hj, h⟩ := zf5.1 hz
  unfold imgF at h
  split at h
  ·rename_i hh
   have hp := B.pt hh
   have hI := zgm (zdn (x := -5 + (i : Int)) (y := -5 + (j : Int)) ⟨hp.1, hp.2.1⟩ hp.2.2)
   have i1 : I64 e.an := by unfold I64; omega
   have i2 : I64 e.bn := by unfold I64; omega
   split at h
   ·rename_i k11
    injection h with h
    rw [← h]
    have h2 := zdQ hc hh
    unfold transO
    rw [if_neg (by rw [h2.1]; simp)]
    unfold zbx
    rw [if_neg (by omega), if_neg (by omega), if_neg (by omega), if_neg (by omega), if_neg (by omega), if_neg (by omega), if_neg (by omega)]
    exact h2
   ·split at h
    ·rename_i h0
     injection h with h
     rw [← h]
     have okc : OkO 2 (closeO o) := ok.close
     have h2 := zdQ hc hh
     unfold transO
     rw [if_neg (by rw [h2.1]; simp)]
     by_cases k12 : e.kd = 12
     ·cases hcm : cmpB e.op (opdX [-5 + (i : Int), -5 + (j : Int)] e.av e.an) (opdX [-5 + (i : Int), -5 + (j : Int)] e.bv e.bn)
      ·exact absurd h0.1 (zgq _ _ _ k12 hcm)
      ·rw [one_holds _ _ _ k12 hcm]
       refine zio h2 okc hr hex k9 k10 hI i1 i2 ⟨by omega, fun _ => hcm, ?_⟩
       rw [if_neg (by omega), if_neg (by omega), if_neg (by omega)]
     ·rw [ze7 _ _ _ k12] at h0 ⊢
      exact zio h2 okc hr hex k9 k10 hI i1 i2 (zhr h0.2 (fun q => absurd q k12))
    ·cases h
  ·cases h
 ·obtain ⟨x, h1, h2⟩ := key.2 z hz
  have hl : x.length = 2 := by have := h1.2.1; omega
  obtain ⟨x0, x1, rfl⟩ := len2 hl
  have hp := B.pt h1
  refine zf5.2 ⟨(x0 + 5).toNat, (x1 + 5).toNat, by omega, by omega, ?_⟩
  rw [show -5 + (((x0 + 5).toNat : Nat) : Int) = x0 by omega, show -5 + (((x1 + 5).toNat : Nat) : Int) = x1 by omega]
  unfold imgF
  rw [if_pos h1]
  by_cases k11 : e.kd = 11
  ·rw [if_pos k11]
   obtain ⟨-, -, h3⟩ := h2
   rw [if_neg (by omega), if_neg (by omega), if_neg (by omega)] at h3
   rw [h3]
  ·rw [if_neg k11, zjf h2 k9 k10 k11, if_pos ⟨rfl, rfl⟩]
theorem zik {x y : Int} (hx : -5 ≤ x ∧ x ≤ 5) (hy : -5 ≤ y ∧ y ≤ 5) {v k : Int} (hk : -1000 ≤ k ∧ k ≤ 1000) : -1000 ≤ opdX [x, y] v k ∧ opdX [x, y] v k ≤ 1000 := by
 unfold opdX
 split
 ·rename_i h
  obtain ⟨n, rfl⟩ := Int.eq_ofNat_of_zero_le h
  match n with
  | 0 => show -1000 ≤ x ∧ x ≤ 1000; omega
  | 1 => show -1000 ≤ y ∧ y ≤ 1000; omega
  | n + 2 => rw [zfs (by simp)]; omega
 ·exact hk
theorem zkB {ls : List (List Int)} {x y : Int} (hx : -5 ≤ x ∧ x ≤ 5) (hy : -5 ≤ y ∧ y ≤ 5) {e : Edg} (hex : zb6 e = true) (k9 : e.kd ≠ 9) (k10 : e.kd ≠ 10) (ia : -1000 ≤ e.an ∧ e.an ≤ 1000) (ib : -1000 ≤ e.bn ∧ e.bn ≤ 1000) : (doesW ls e [x, y] 0).2.length = 2 ∧ ∀ i : Nat, zcN (gI (doesW ls e [x, y] 0).2 (i : Int)) := by
 have n2 := zdn hx hy
 have oa := zik hx hy (v := e.av) ia
 have ob := zik hx hy (v := e.bv) ib
 have st : ∀ (d : Nat) (u : Int), -1000000 ≤ u ∧ u ≤ 1000000 → ([x, y].set d u).length = 2 ∧ ∀ i : Nat, zcN (gI ([x, y].set d u) (i : Int)) := fun d u hu => ⟨by simp, fun q => by
  rw [zc7]
  split
  ·unfold zcN; omega
  ·exact n2 q⟩
 unfold doesW
 generalize opdX [x, y] e.av e.an = a at *
 generalize opdX [x, y] e.bv e.bn = b at *
 by_cases k2 : e.kd = 2
 ·rw [if_pos k2]; exact st _ _ (by omega)
 rw [if_neg k2, if_neg k9]
 by_cases k38 : 3 ≤ e.kd ∧ e.kd ≤ 8
 ·rw [if_pos k38]
  have k345 : e.kd = 3 ∨ e.kd = 4 ∨ e.kd = 5 := by
   unfold zb6 at hex
   simp only [Bool.and_eq_true, Bool.or_eq_true, decide_eq_true_eq] at hex
   omega
  have kf : ∃ u, kindW e.kd a b = (u, 0) ∧ -1000000 ≤ u ∧ u ≤ 1000000 := by
   have ft : ∀ u : Int, -1000000 ≤ u ∧ u ≤ 1000000 → fit u = (u, 0) := fun u h => by
    unfold fit inI
    rw [if_pos (decide_eq_true (by omega))]
   unfold kindW
   rcases k345 with h | h | h <;> rw [h]
   ·exact ⟨-a, ft _ (by omega), by omega⟩
   ·exact ⟨a + b, ft _ (by omega), by omega⟩
   ·exact ⟨a - b, ft _ (by omega), by omega⟩
  obtain ⟨u, h1, h2⟩ := kf
  rw [h1, if_pos rfl]
  exact st _ _ h2
 ·rw [if_neg k38, if_neg k10]
  split
  ·split <;> exact ⟨rfl, n2⟩
  ·split <;> exact ⟨rfl, n2⟩
theorem zmY {b : List Int} (hb : I8s b) {e : Edg} (hex : zb6 e = true) (k9 : e.kd ≠ 9) (k10 : e.kd ≠ 10) (ia : -1000 ≤ e.an ∧ e.an ≤ 1000) (ib : -1000 ≤ e.bn ∧ e.bn ≤ 1000) {z : List Int} (hz : z ∈ imgL (imgF (boxO b) e) 11) : z.length = 2 ∧ ∀ i : Nat, zcN (gI z (i : Int)) := by
 obtain ⟨i, j, hi, hj, h⟩ := zf5.1 hz
 have B : Bx (fun i => i < 4) (boxO b) := zfK hb 4 (Nat.le_refl _)
 generalize boxO b = o at *
 unfold imgF at h
 split at h
 ·rename_i hh
  have hp := B.pt hh
  have hn2 := zdn (x := -5 + (i : Int)) (y := -5 + (j : Int)) ⟨hp.1, hp.2.1⟩ hp.2.2
  split at h
  ·injection h with h
   rw [← h]; exact ⟨rfl, hn2⟩
  ·split at h
   ·rename_i h0
    injection h with h
    rw [← h]
    by_cases k12 : e.kd = 12
    ·cases hcm : cmpB e.op (opdX [-5 + (i : Int), -5 + (j : Int)] e.av e.an) (opdX [-5 + (i : Int), -5 + (j : Int)] e.bv e.bn)
     ·exact absurd h0.1 (zgq _ _ _ k12 hcm)
     ·rw [one_holds _ _ _ k12 hcm]; exact ⟨rfl, hn2⟩
    ·rw [ze7 _ _ _ k12]
     exact zkB ⟨hp.1, hp.2.1⟩ hp.2.2 hex k9 k10 ia ib
   ·cases h
 ·cases h
theorem zdC {α β : Type} (f : α → Option β) : ∀ l : List α, (l.filterMap f).length ≤ l.length
 | [] => by simp
 | a :: r => by
  have ih := zdC f r
  cases h : f a <;> simp [h] <;> omega
theorem zh5 (f : Int → Int → Option (List Int)) (x : Int) (k : Nat) : (imgR f x k).length ≤ k := by
 have := zdC (fun (j : Nat) => f x (-5 + (j : Int))) (List.range k)
 rw [List.length_range] at this; exact this
theorem zfP (f : Int → Int → Option (List Int)) : ∀ k, (imgL f k).length ≤ 11 * k
 | 0 => by simp [imgL]
 | k + 1 => by
  rw [zgV, List.length_append]
  have := zfP f k
  have := zh5 f (-5 + (k : Int)) 11
  omega
end
end Go.Proofs.YtnmpgijiimglcaaGreat
