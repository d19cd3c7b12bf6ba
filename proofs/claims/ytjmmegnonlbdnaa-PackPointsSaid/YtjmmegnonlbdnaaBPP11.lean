/-
  dbm.Check, whatever the octagon (its slice below 2^48 long).
  widen.right, order.right: what is wrong with two octagons.
  The reference's bounds (gnomonref11): what each call answers; no condition.
-/
import Derived.Test.YtjmmegnonlbdnaaCheck
import Derived.Test.YtjmmegnonlbdnaaOwn
import Derived.Test.YtjmmegnonlbdnaaBound
namespace Go.Proofs.Ytjmmegnonlbdnaa
section
open Go.RowKit

theorem check_n {o : O} (h : ¬ (0 ≤ o.n ∧ o.n ≤ 64)) : check o = 120 := by
  unfold check sizeBad; rw [decide_eq_false h]; rfl
theorem check_e1 {n : Int} {m : List Int} (h : 0 < m.length) : check ⟨n, true, m⟩ = 120 := by
  unfold check sizeBad; simp [h]
theorem check_e0 {n : Int} (h : 0 ≤ n ∧ n ≤ 64) : check ⟨n, true, []⟩ = 0 := by
  unfold check sizeBad; rw [decide_eq_true h]; rfl
theorem check_l {n : Int} {m : List Int} (h : ¬ (m.length : Int) = 4 * n * n) : check ⟨n, false, m⟩ = 120 := by
  unfold check sizeBad; simp [h]

set_option maxHeartbeats 1000000 in
theorem check_any (o : O) (A : Option Addr) (cap : Nat) (w : World) (hr : Rd w w.heap.size A o.m) (hm : o.m.length ≤ 281474976710656) :
    Calls Try.prog 34 #[.agg #[.int .i64 o.n, .bool o.e, .slice A o.m.length cap]] w fun e w' => e = .returned (.int .i64 (check o)) ∧ Below w.heap.size w w' := by
  obtain ⟨n, e, m⟩ := o
  dsimp only at *
  by_cases hn : 0 ≤ n ∧ n ≤ 64
  · have tn := decide_eq_true hn
    cases e
    · by_cases hl : (m.length : Int) = 4 * n * n
      · exact check_loops n m A cap w hr hm hn.1 hn.2 hl
      · have tl : ((m.length : Int) != 4 * n * n) = true := by simpa using hl
        obtain ⟨hn1, hn2⟩ := hn
        have tq : 0 ≤ 4 * n * n := Int.mul_nonneg (by omega) hn1
        have tq' : 4 * n * n ≤ 4 * 64 * 64 := Int.mul_le_mul (by omega) (by omega) hn1 (by omega)
        go_enter Try.func34, Try.ntmps34
        go_wp2_with (go_at_call 60; refine (dright_any _ _).mono ?_; rintro e w' ⟨rfl, rfl⟩)
        go_ret
        exact ⟨ret64 (check_l hl).symm, (Below.refl _ _).alloc (Nat.le_refl _) _⟩
    · by_cases hl : 0 < m.length
      · have tl : (0 : Int) < (m.length : Int) := by omega
        clear hn
        go_enter Try.func34, Try.ntmps34
        go_wp2_with (go_at_call 60; refine (dright_any _ _).mono ?_; rintro e w' ⟨rfl, rfl⟩)
        go_ret
        exact ⟨ret64 (check_e1 hl).symm, (Below.refl _ _).alloc (Nat.le_refl _) _⟩
      · have hl0 : m.length = 0 := by omega
        obtain rfl : m = [] := List.eq_nil_of_length_eq_zero hl0
        clear hl hl0
        go_enter Try.func34, Try.ntmps34
        go_wp2_with (go_at_call 60; refine (dright_any _ _).mono ?_; rintro e w' ⟨rfl, rfl⟩)
        go_ret
        exact ⟨ret64 (check_e0 hn).symm, (Below.refl _ _).alloc (Nat.le_refl _) _⟩
  · have tn := decide_eq_false hn
    go_enter Try.func34, Try.ntmps34
    go_wp2_with (go_at_call 60; refine (dright_any _ _).mono ?_; rintro e w' ⟨rfl, rfl⟩)
    go_ret
    exact ⟨ret64 (check_n hn).symm, (Below.refl _ _).alloc (Nat.le_refl _) _⟩
end
section

end
section
open Go.RowKit

theorem eqb_t {a b : Int} (h : a = b) : (a == b) = true := by simpa using h
theorem eqb_f {a b : Int} (h : ¬ a = b) : (a == b) = false := by simpa using h

set_option maxHeartbeats 400000 in
theorem rplus_any (a b : Int) (w : World) :
    Calls Try.prog 96 #[.int .i64 a, .int .i64 b] w fun e w' => e = .returned (.int .i64 (plus a b)) ∧ w = w' := by
  have la := near_ge a
  have lb := near_ge b
  by_cases ca : near a = 9223372036854775807
  · have ta : (near a == 9223372036854775807) = true := by simpa using ca
    have C := hid ca; clear ca
    go_enter Try.func96, Try.ntmps96
    go_wp2_with (first | (go_at_call 97; refine (rnear_any _ _).mono ?_; rintro e w' ⟨rfl, rfl⟩) | go_in)
    go_ret
    exact ⟨ret64 (plus_l C.out).symm, rfl⟩
  · have ta : (near a == 9223372036854775807) = false := by simpa using ca
    have ua : near a ≤ 4611686018427387904 := by rcases near_cases a with h | h <;> omega
    have C := hid ca; clear ca
    by_cases cb : near b = 9223372036854775807
    · have tb : (near b == 9223372036854775807) = true := by simpa using cb
      have D := hid cb; clear cb
      go_enter Try.func96, Try.ntmps96
      go_wp2_with (first | (go_at_call 97; refine (rnear_any _ _).mono ?_; rintro e w' ⟨rfl, rfl⟩) | go_in)
      go_ret
      exact ⟨ret64 (plus_r D.out).symm, rfl⟩
    · have tb : (near b == 9223372036854775807) = false := by simpa using cb
      have ub : near b ≤ 4611686018427387904 := by rcases near_cases b with h | h <;> omega
      have D := hid cb; clear cb
      by_cases fa : near a = 4611686018427387904
      · have sa := eqb_t fa
        by_cases fb : near b = 4611686018427387904
        · have sb := eqb_t fb
          have F := hid fa; have G := hid fb; clear fa fb
          go_enter Try.func96, Try.ntmps96
          go_wp2_with (first | (go_at_call 97; refine (rnear_any _ _).mono ?_; rintro e w' ⟨rfl, rfl⟩) | go_in)
          go_ret; exact ⟨ret64 (by rw [plus_fin C.out D.out, F.out, G.out]; rfl), rfl⟩
        · have sb := eqb_f fb
          have F := hid fa; have G := hid fb; clear fa
          have : near b < 4611686018427387904 := by omega
          clear fb
          go_enter Try.func96, Try.ntmps96
          go_wp2_with (first | (go_at_call 97; refine (rnear_any _ _).mono ?_; rintro e w' ⟨rfl, rfl⟩) | go_in)
          all_goals (go_ret; refine ⟨ret64 ?_, rfl⟩; rw [plus_fin C.out D.out])
      · have sa := eqb_f fa
        have : near a < 4611686018427387904 := by omega
        clear fa
        go_enter Try.func96, Try.ntmps96
        go_wp2_with (first | (go_at_call 97; refine (rnear_any _ _).mono ?_; rintro e w' ⟨rfl, rfl⟩) | go_in)
        all_goals (go_ret; refine ⟨ret64 ?_, rfl⟩; rw [plus_fin C.out D.out])
set_option maxHeartbeats 400000 in
theorem rsat_any (a b : Int) (w : World) :
    Calls Try.prog 95 #[.int .i64 a, .int .i64 b] w fun e w' => e = .returned (.bool (sat a b)) ∧ w = w' := by
  have la := near_ge a
  have lb := near_ge b
  by_cases ca : near a = 9223372036854775807
  · have ta : (near a == 9223372036854775807) = true := by simpa using ca
    have C := hid ca; clear ca
    go_enter Try.func95, Try.ntmps95
    go_wp2_with (first | (go_at_call 97; refine (rnear_any _ _).mono ?_; rintro e w' ⟨rfl, rfl⟩))
    go_ret
    exact ⟨retb (sat_l C.out).symm, rfl⟩
  · have ta : (near a == 9223372036854775807) = false := by simpa using ca
    have ua : near a ≤ 4611686018427387904 := by rcases near_cases a with h | h <;> omega
    have C := hid ca; clear ca
    by_cases cb : near b = 9223372036854775807
    · have tb : (near b == 9223372036854775807) = true := by simpa using cb
      have D := hid cb; clear cb
      go_enter Try.func95, Try.ntmps95
      go_wp2_with (first | (go_at_call 97; refine (rnear_any _ _).mono ?_; rintro e w' ⟨rfl, rfl⟩))
      go_ret
      exact ⟨retb (sat_r D.out).symm, rfl⟩
    · have tb : (near b == 9223372036854775807) = false := by simpa using cb
      have ub : near b ≤ 4611686018427387904 := by rcases near_cases b with h | h <;> omega
      have D := hid cb; clear cb
      by_cases fa : near a = 4611686018427387904
      · have sa := eqb_t fa
        by_cases fb : near b = 4611686018427387904
        · have sb := eqb_t fb
          have F := hid fa; have G := hid fb; clear fa fb
          go_enter Try.func95, Try.ntmps95
          go_wp2_with (first | (go_at_call 97; refine (rnear_any _ _).mono ?_; rintro e w' ⟨rfl, rfl⟩))
          go_ret; exact ⟨retb (by rw [sat_fin C.out D.out, F.out, G.out]; rfl), rfl⟩
        · have sb := eqb_f fb
          have F := hid fa; have G := hid fb; clear fa
          have : near b < 4611686018427387904 := by omega
          clear fb
          go_enter Try.func95, Try.ntmps95
          go_wp2_with (first | (go_at_call 97; refine (rnear_any _ _).mono ?_; rintro e w' ⟨rfl, rfl⟩))
          all_goals (go_ret; exact ⟨retb (by rw [sat_fin C.out D.out, Bool.eq_iff_iff]; simp [*]; try omega), rfl⟩)
      · have sa := eqb_f fa
        have : near a < 4611686018427387904 := by omega
        clear fa
        go_enter Try.func95, Try.ntmps95
        go_wp2_with (first | (go_at_call 97; refine (rnear_any _ _).mono ?_; rintro e w' ⟨rfl, rfl⟩))
        all_goals (go_ret; exact ⟨retb (by rw [sat_fin C.out D.out, Bool.eq_iff_iff]; simp [*]; try omega), rfl⟩)

theorem tdiv2_neg {x : Int} (h : x < 0) : x.tdiv 2 = -((-x) / 2) := by
  rw [show x = -(-x) by omega, Int.neg_tdiv, Int.tdiv_eq_ediv_of_nonneg (by omega)]; omega
theorem tdiv2_bd (x : Int) : (x ≤ x.tdiv 2 ∧ x.tdiv 2 ≤ 0 ∨ 0 ≤ x.tdiv 2 ∧ x.tdiv 2 ≤ x) := by
  by_cases h : x < 0
  · rw [tdiv2_neg h]; omega
  · rw [Int.tdiv_eq_ediv_of_nonneg (by omega)]; omega
theorem tmod2_neg {x : Int} (h : x < 0) (k : (x.tmod 2 != 0) = true) : x % 2 = 1 := by
  have e : x.tmod 2 = x - 2 * x.tdiv 2 := by have := Int.mul_tdiv_add_tmod x 2; omega
  have := tdiv2_neg h
  rw [bne_iff_ne] at k
  omega
theorem tmod2_neg' {x : Int} (h : x < 0) (k : (x.tmod 2 != 0) = false) : x % 2 = 0 := by
  have e : x.tmod 2 = x - 2 * x.tdiv 2 := by have := Int.mul_tdiv_add_tmod x 2; omega
  have := tdiv2_neg h
  rw [bne_eq_false_iff_eq] at k
  omega
set_option maxHeartbeats 400000 in
theorem rhalf_any (a : Int) (w : World) :
    Calls Try.prog 66 #[.int .i64 a] w fun e w' => e = .returned (.int .i64 (half a)) ∧ w = w' := by
  have la := near_ge a
  by_cases ca : near a = 9223372036854775807
  · have ta : (near a == 9223372036854775807) = true := by simpa using ca
    have C := hid ca; clear ca
    go_enter Try.func66, Try.ntmps66
    go_wp2_with (go_at_call 97; refine (rnear_any _ _).mono ?_; rintro e w' ⟨rfl, rfl⟩)
    go_ret
    exact ⟨ret64 (by unfold half; rw [C.out]; rfl), rfl⟩
  · have ta : (near a == 9223372036854775807) = false := by simpa using ca
    have ua : near a ≤ 4611686018427387904 := by rcases near_cases a with h | h <;> omega
    have C := hid ca; clear ca
    have tl : -4611686018427387904 ≤ (near a).tdiv 2 := by have := tdiv2_bd (near a); omega
    have tu : (near a).tdiv 2 ≤ 4611686018427387904 := by have := tdiv2_bd (near a); omega
    go_enter Try.func66, Try.ntmps66
    go_wp2_with (go_at_call 97; refine (rnear_any _ _).mono ?_; rintro e w' ⟨rfl, rfl⟩)
    all_goals (go_ret; refine ⟨ret64 ?_, rfl⟩; unfold half; rw [if_neg C.out])
    · have T := tdiv2_neg (x := near a) (by omega)
      have k : ((near a).tmod 2 != 0) = true := ‹_›
      have T2 := tmod2_neg (x := near a) (by omega) k
      omega
    · have T := tdiv2_neg (x := near a) (by omega)
      have k : ((near a).tmod 2 != 0) = false := ‹_›
      have T2 := tmod2_neg' (x := near a) (by omega) k
      omega
    · rw [Int.tdiv_eq_ediv_of_nonneg (by omega)]
set_option maxHeartbeats 400000 in
theorem reven_any (a : Int) (w : World) :
    Calls Try.prog 65 #[.int .i64 a] w fun e w' => e = .returned (.int .i64 (even a)) ∧ w = w' := by
  have lh := half_ge (near a)
  by_cases ca : near a = 9223372036854775807
  · have ta : (near a == 9223372036854775807) = true := by simpa using ca
    have C := hid ca; clear ca
    go_enter Try.func65, Try.ntmps65
    go_wp2_with (go_at_call 97; refine (rnear_any _ _).mono ?_; rintro e w' ⟨rfl, rfl⟩)
    go_ret
    exact ⟨ret64 (by unfold even; rw [C.out]; rfl), rfl⟩
  · have ta : (near a == 9223372036854775807) = false := by simpa using ca
    have eh : half (near a) = near a / 2 := by unfold half; rw [near_near, if_neg ca]
    have ua : half (near a) ≤ 4611686018427387903 := by rw [eh]; rcases near_cases a with h | h <;> omega
    have C := hid ca; clear ca
    have E := hid eh; clear eh
    go_enter Try.func65, Try.ntmps65
    go_wp2_with (first | (go_at_call 97; refine (rnear_any _ _).mono ?_; rintro e w' ⟨rfl, rfl⟩) | (go_at_call 66; refine (rhalf_any _ _).mono ?_; rintro e w' ⟨rfl, rfl⟩))
    go_ret
    exact ⟨ret64 (by unfold even; rw [if_neg C.out, E.out]), rfl⟩
end
end Go.Proofs.Ytjmmegnonlbdnaa
