/-
  The bounds' small functions (gnomon/bound, gnomonref11): what each call answers; no condition.
  dbm.cell's methods, dbm.right: what each call answers.
-/
import Derived.Test.YtkncebcekhfnfaaGreatRows
import Derived.WalkKit
import Derived.WalkSpells
import Derived.WalkLawsBesides
import Derived.Deep.RegionHeld3
import Derived.Deep.DrawnRows
namespace Go.Proofs.YtkncebcekhfnfaaGreat
open Go.RowKit
section

theorem hid {p : Prop} (h : p) : Hid p := h

/-- What a number counts as. -/
def near (a : Int) : Int := if a < -4611686018427387904 then -4611686018427387904 else if 4611686018427387904 < a then 9223372036854775807 else a
def plus (a b : Int) : Int := if near a = 9223372036854775807 ∨ near b = 9223372036854775807 then 9223372036854775807 else near (near a + near b)
def isBound (a : Int) : Bool := decide (a = 9223372036854775807 ∨ (-4611686018427387904 ≤ a ∧ a ≤ 4611686018427387904))
def sat (a b : Int) : Bool := !(decide (near a = 9223372036854775807 ∨ near b = 9223372036854775807)) && decide (near a + near b < -4611686018427387904 ∨ 4611686018427387904 < near a + near b)
def half (a : Int) : Int := if near a = 9223372036854775807 then 9223372036854775807 else near a / 2
def even (a : Int) : Int := if near a = 9223372036854775807 then 9223372036854775807 else 2 * (near a / 2)
def less (a b : Int) : Int := min (near a) (near b)

theorem near_cases (a : Int) : near a = 9223372036854775807 ∨ (-4611686018427387904 ≤ near a ∧ near a ≤ 4611686018427387904) := by
  unfold near; split
  · right; omega
  · split
    · left; rfl
    · right; omega
theorem near_ge (a : Int) : -4611686018427387904 ≤ near a := by rcases near_cases a with h | h <;> omega

set_option maxHeartbeats 400000 in
theorem as_any (a : Int) (w : World) :
    Calls Tryz.prog 155 #[.int .i64 a] w fun e w' => e = .returned (.int .i64 (near a)) ∧ w = w' := by
  unfold near
  go_enter Tryz.func155, Tryz.ntmps155
  go_wp2
  all_goals (go_ret; exact ⟨by simp [*], rfl⟩)

set_option maxHeartbeats 400000 in
theorem rnear_any (a : Int) (w : World) :
    Calls Tryz.prog 103 #[.int .i64 a] w fun e w' => e = .returned (.int .i64 (near a)) ∧ w = w' := by
  unfold near
  go_enter Tryz.func103, Tryz.ntmps103
  go_wp2
  all_goals (go_ret; exact ⟨by (repeat' split) <;> first | rfl | (exfalso; omega), rfl⟩)

theorem near_near (a : Int) : near (near a) = near a := by
  rcases near_cases a with h | h
  · rw [h]; rfl
  · generalize near a = x at *
    unfold near; rw [if_neg (by omega), if_neg (by omega)]
theorem near_inf {a : Int} (h : 4611686018427387904 < a) : near a = 9223372036854775807 := by
  unfold near; rw [if_neg (by omega), if_pos h]
theorem ret64 {a b : Int} (h : a = b) : Ending.returned (.int .i64 a) = .returned (.int .i64 b) := by rw [h]
theorem retb {a b : Bool} (h : a = b) : Ending.returned (.bool a) = .returned (.bool b) := by rw [h]

theorem plus_l {a b : Int} (h : near a = 9223372036854775807) : plus a b = 9223372036854775807 := by unfold plus; rw [if_pos (Or.inl h)]
theorem plus_r {a b : Int} (h : near b = 9223372036854775807) : plus a b = 9223372036854775807 := by unfold plus; rw [if_pos (Or.inr h)]
theorem plus_fin {a b : Int} (h : ¬ near a = 9223372036854775807) (h' : ¬ near b = 9223372036854775807) : plus a b = near (near a + near b) := by
  unfold plus; rw [if_neg (by rintro (k | k) <;> contradiction)]
theorem sat_l {a b : Int} (h : near a = 9223372036854775807) : sat a b = false := by unfold sat; simp [h]
theorem sat_r {a b : Int} (h : near b = 9223372036854775807) : sat a b = false := by unfold sat; simp [h]
theorem sat_fin {a b : Int} (h : ¬ near a = 9223372036854775807) (h' : ¬ near b = 9223372036854775807) : sat a b = decide (near a + near b < -4611686018427387904 ∨ 4611686018427387904 < near a + near b) := by
  unfold sat; simp [h, h']
theorem isBound_in {x : Int} (h : isBound x = true) (_h' : x ≤ 4611686018427387904) : -4611686018427387904 ≤ x := by
  unfold isBound at h; rw [decide_eq_true_eq] at h; omega
theorem isBound_out {x : Int} (h : isBound x = false) (h' : x ≤ 4611686018427387904) : x < -4611686018427387904 := by
  unfold isBound at h; rw [decide_eq_false_iff_not] at h; omega

set_option maxHeartbeats 400000 in
theorem is_any (a : Int) (w : World) :
    Calls Tryz.prog 80 #[.int .i64 a] w fun e w' => e = .returned (.bool (isBound a)) ∧ w = w' := by
  go_enter Tryz.func80, Tryz.ntmps80
  go_wp2
  all_goals (go_ret; exact ⟨retb (by unfold isBound; rw [Bool.eq_iff_iff]; simp [*]; try omega), rfl⟩)

set_option maxHeartbeats 400000 in
theorem plus_any (a b : Int) (w : World) :
    Calls Tryz.prog 157 #[.int .i64 a, .int .i64 b] w fun e w' => e = .returned (.int .i64 (plus a b)) ∧ w = w' := by
  have la := near_ge a
  have lb := near_ge b
  by_cases ca : near a = 9223372036854775807
  · have ta : (near a == 9223372036854775807) = true := by simpa using ca
    have C := hid ca; clear ca
    go_enter Tryz.func157, Tryz.ntmps157
    go_wp2_with (first | (go_at_call 155; refine (as_any _ _).mono ?_; rintro e w' ⟨rfl, rfl⟩) | go_in)
    go_ret
    exact ⟨ret64 (plus_l C.out).symm, rfl⟩
  · have ta : (near a == 9223372036854775807) = false := by simpa using ca
    have ua : near a ≤ 4611686018427387904 := by rcases near_cases a with h | h <;> omega
    have C := hid ca; clear ca
    by_cases cb : near b = 9223372036854775807
    · have tb : (near b == 9223372036854775807) = true := by simpa using cb
      have D := hid cb; clear cb
      go_enter Tryz.func157, Tryz.ntmps157
      go_wp2_with (first | (go_at_call 155; refine (as_any _ _).mono ?_; rintro e w' ⟨rfl, rfl⟩) | go_in)
      go_ret
      exact ⟨ret64 (plus_r D.out).symm, rfl⟩
    · have tb : (near b == 9223372036854775807) = false := by simpa using cb
      have ub : near b ≤ 4611686018427387904 := by rcases near_cases b with h | h <;> omega
      have D := hid cb; clear cb
      go_enter Tryz.func157, Tryz.ntmps157
      go_wp2_with (first | (go_at_call 155; refine (as_any _ _).mono ?_; rintro e w' ⟨rfl, rfl⟩) | go_in)
      all_goals (go_ret; refine ⟨ret64 ?_, rfl⟩)
      · rw [plus_fin C.out D.out]; exact (near_inf (by omega)).symm
      · rw [plus_fin C.out D.out]
      · rw [plus_fin C.out D.out]
set_option maxHeartbeats 400000 in
theorem sat_any (a b : Int) (w : World) :
    Calls Tryz.prog 156 #[.int .i64 a, .int .i64 b] w fun e w' => e = .returned (.bool (sat a b)) ∧ w = w' := by
  have la := near_ge a
  have lb := near_ge b
  by_cases ca : near a = 9223372036854775807
  · have ta : (near a == 9223372036854775807) = true := by simpa using ca
    have C := hid ca; clear ca
    go_enter Tryz.func156, Tryz.ntmps156
    go_wp2_with (first | (go_at_call 155; refine (as_any _ _).mono ?_; rintro e w' ⟨rfl, rfl⟩) | (go_at_call 80; refine (is_any _ _).mono ?_; rintro e w' ⟨rfl, rfl⟩) | go_in)
    go_ret
    exact ⟨retb (sat_l C.out).symm, rfl⟩
  · have ta : (near a == 9223372036854775807) = false := by simpa using ca
    have ua : near a ≤ 4611686018427387904 := by rcases near_cases a with h | h <;> omega
    have C := hid ca; clear ca
    by_cases cb : near b = 9223372036854775807
    · have tb : (near b == 9223372036854775807) = true := by simpa using cb
      have D := hid cb; clear cb
      go_enter Tryz.func156, Tryz.ntmps156
      go_wp2_with (first | (go_at_call 155; refine (as_any _ _).mono ?_; rintro e w' ⟨rfl, rfl⟩) | (go_at_call 80; refine (is_any _ _).mono ?_; rintro e w' ⟨rfl, rfl⟩) | go_in)
      go_ret
      exact ⟨retb (sat_r D.out).symm, rfl⟩
    · have tb : (near b == 9223372036854775807) = false := by simpa using cb
      have ub : near b ≤ 4611686018427387904 := by rcases near_cases b with h | h <;> omega
      have D := hid cb; clear cb
      go_enter Tryz.func156, Tryz.ntmps156
      go_wp2_with (first | (go_at_call 155; refine (as_any _ _).mono ?_; rintro e w' ⟨rfl, rfl⟩) | (go_at_call 80; refine (is_any _ _).mono ?_; rintro e w' ⟨rfl, rfl⟩) | go_in)
      all_goals (go_ret; refine ⟨retb ?_, rfl⟩; rw [sat_fin C.out D.out])
      · symm; rw [decide_eq_true_eq]; omega
      · have k := isBound_in ‹_› (by omega); symm; rw [decide_eq_false_iff_not]; omega
      · have k := isBound_out ‹_› (by omega); symm; rw [decide_eq_true_eq]; omega
      · have k := isBound_in ‹_› (by omega); symm; rw [decide_eq_false_iff_not]; omega
      · have k := isBound_out ‹_› (by omega); symm; rw [decide_eq_true_eq]; omega

set_option maxHeartbeats 400000 in
theorem less_any (a b : Int) (w : World) :
    Calls Tryz.prog 143 #[.int .i64 a, .int .i64 b] w fun e w' => e = .returned (.int .i64 (less a b)) ∧ w = w' := by
  go_enter Tryz.func143, Tryz.ntmps143
  go_wp2_with (go_at_call 155; refine (as_any _ _).mono ?_; rintro e w' ⟨rfl, rfl⟩)
  all_goals (go_ret; exact ⟨ret64 (by unfold less; omega), rfl⟩)
set_option maxHeartbeats 400000 in
theorem half_any (a : Int) (w : World) :
    Calls Tryz.prog 146 #[.int .i64 a] w fun e w' => e = .returned (.int .i64 (half a)) ∧ w = w' := by
  have la := near_ge a
  by_cases ca : near a = 9223372036854775807
  · have ta : (near a == 9223372036854775807) = true := by simpa using ca
    have C := hid ca; clear ca
    go_enter Tryz.func146, Tryz.ntmps146
    go_wp2_with (go_at_call 155; refine (as_any _ _).mono ?_; rintro e w' ⟨rfl, rfl⟩)
    go_ret
    exact ⟨ret64 (by unfold half; rw [C.out]; rfl), rfl⟩
  · have ta : (near a == 9223372036854775807) = false := by simpa using ca
    have ua : near a ≤ 4611686018427387904 := by rcases near_cases a with h | h <;> omega
    have C := hid ca; clear ca
    go_enter Tryz.func146, Tryz.ntmps146
    go_wp2_with (go_at_call 155; refine (as_any _ _).mono ?_; rintro e w' ⟨rfl, rfl⟩)
    go_ret
    exact ⟨ret64 (by unfold half; rw [if_neg C.out]), rfl⟩

theorem half_eq (a : Int) : (half a = 9223372036854775807 ↔ near a = 9223372036854775807) := by
  unfold half; split
  · simp [*]
  · rcases near_cases a with h | h
    · contradiction
    · constructor
      · intro k; omega
      · intro k; contradiction
theorem half_ge (a : Int) : -4611686018427387904 ≤ half a := by
  unfold half; have := near_ge a; split <;> omega
set_option maxHeartbeats 400000 in
theorem even_any (a : Int) (w : World) :
    Calls Tryz.prog 145 #[.int .i64 a] w fun e w' => e = .returned (.int .i64 (even a)) ∧ w = w' := by
  have lh := half_ge a
  by_cases ca : near a = 9223372036854775807
  · have ch : half a = 9223372036854775807 := (half_eq a).2 ca
    have th : (half a == 9223372036854775807) = true := by simpa using ch
    have th' : (half a != 9223372036854775807) = false := by simpa using ch
    have C := hid ca; clear ca
    clear ch
    go_enter Tryz.func145, Tryz.ntmps145
    go_wp2_with (go_at_call 146; refine (half_any _ _).mono ?_; rintro e w' ⟨rfl, rfl⟩)
    go_ret
    exact ⟨ret64 (by unfold even; rw [C.out]; rfl), rfl⟩
  · have ch : ¬ half a = 9223372036854775807 := fun h => ca ((half_eq a).1 h)
    have th : (half a == 9223372036854775807) = false := by simpa using ch
    have th' : (half a != 9223372036854775807) = true := by simpa using ch
    have eh : half a = near a / 2 := by unfold half; rw [if_neg ca]
    have ua : half a ≤ 4611686018427387903 := by rw [eh]; rcases near_cases a with h | h <;> omega
    have C := hid ca; clear ca
    have E := hid eh; clear eh ch
    go_enter Tryz.func145, Tryz.ntmps145
    go_wp2_with (go_at_call 146; refine (half_any _ _).mono ?_; rintro e w' ⟨rfl, rfl⟩)
    go_ret
    exact ⟨ret64 (by unfold even; rw [if_neg C.out, E.out]), rfl⟩
end
section

theorem ofInt_i64 (a : Nat) (ha : a < 9223372036854775808) : (BitVec.ofInt 64 (a : Int)).toNat = a := by
  rw [BitVec.ofInt_natCast, BitVec.toNat_ofNat]; exact Nat.mod_eq_of_lt (by omega)
theorem i64_xor_nat (a b : Nat) (ha : a < 9223372036854775808) (hb : b < 9223372036854775808) : bits .xor .i64 (a : Int) (b : Int) = ((a ^^^ b : Nat) : Int) := by
  have hx : a ^^^ b < 2 ^ 63 := Nat.xor_lt_two_pow (by omega) (by omega)
  show IntKind.i64.wrap ((BitVec.ofInt 64 (a : Int) ^^^ BitVec.ofInt 64 (b : Int)).toNat : Int) = _
  rw [BitVec.toNat_xor, ofInt_i64 a ha, ofInt_i64 b hb, IntKind.wrap_i64]
  omega
theorem nat_xor1 (a : Nat) : a ^^^ 1 = if a % 2 = 0 then a + 1 else a - 1 := by
  have h1 : (a ^^^ 1) / 2 = a / 2 := by
    have := @Nat.xor_div_two a 1
    simpa using this
  have h2 := @Nat.xor_mod_two_eq_one a 1
  split
  · have : (a ^^^ 1) % 2 = 1 := h2.2 (by omega)
    omega
  · have : ¬ (a ^^^ 1) % 2 = 1 := fun h => by have := h2.1 h; omega
    omega
/-- The number across: i xor 1, of numbers from 0 on. -/
def xor1 (i : Int) : Int := if i % 2 = 0 then i + 1 else i - 1

theorem bits_xor1 {i : Int} (h : 0 ≤ i) (h' : i ≤ 1000) : bits .xor .i64 i 1 = xor1 i := by
  obtain ⟨a, rfl⟩ := Int.eq_ofNat_of_zero_le h
  have := i64_xor_nat a 1 (by omega) (by omega)
  rw [show ((1 : Nat) : Int) = 1 from rfl] at this
  rw [this, nat_xor1]; unfold xor1; split <;> split <;> omega
theorem xor1_bd {i n : Int} (h : 0 ≤ i) (h' : i < 2 * n) : 0 ≤ xor1 i ∧ xor1 i < 2 * n := by
  unfold xor1; split <;> omega
set_option maxHeartbeats 400000 in
theorem at_any (i j n : Int) (w : World) (hn : 0 ≤ n) (hn' : n ≤ 64) (hi : 0 ≤ i) (hi' : i ≤ 1000) (hj : 0 ≤ j) (hj' : j ≤ 1000) :
    Calls Tryz.prog 52 #[.agg #[.int .i64 i, .int .i64 j], .int .i64 n] w fun e w' => e = .returned (.int .i64 (2 * n * i + j)) ∧ Below w.heap.size w w' := by
  have h1 : 0 ≤ 2 * n * i := Int.mul_nonneg (by omega) hi
  have h2 : 2 * n * i ≤ 128 * 1000 := Int.mul_le_mul (by omega) hi' hi (by omega)
  go_enter Tryz.func52, Tryz.ntmps52
  go_wp2
  go_ret
  exact ⟨rfl, (Below.refl _ _).alloc (Nat.le_refl _) _⟩
set_option maxHeartbeats 400000 in
theorem mirror_any (i j : Int) (w : World) (hi : 0 ≤ i) (hi' : i ≤ 1000) (hj : 0 ≤ j) (hj' : j ≤ 1000) :
    Calls Tryz.prog 81 #[.agg #[.int .i64 i, .int .i64 j]] w fun e w' => e = .returned (.agg #[.int .i64 (xor1 j), .int .i64 (xor1 i)]) ∧ Below w.heap.size w w' := by
  go_enter Tryz.func81, Tryz.ntmps81
  go_wp2
  refine bodyPost_ret (v := .agg #[.int .i64 (xor1 j), .int .i64 (xor1 i)]) ?_ rfl ⟨rfl, ?_⟩
  · rw [bits_xor1 hi hi', bits_xor1 hj hj']; simp [results, Tryz.results81, go_sem]
  · exact ((Below.refl _ _).alloc (Nat.le_refl _) _).alloc (by simp) _
set_option maxHeartbeats 400000 in
theorem dright_any (n : Int) (w : World) :
    Calls Tryz.prog 61 #[.int .i64 n] w fun e w' => e = .returned (.bool (decide (0 ≤ n ∧ n ≤ 64))) ∧ w = w' := by
  go_enter Tryz.func61, Tryz.ntmps61
  go_wp2
  all_goals (go_ret; exact ⟨retb (by rw [Bool.eq_iff_iff]; simp [*]; try omega), rfl⟩)
end
end Go.Proofs.YtkncebcekhfnfaaGreat
