/-
  The bounds' small functions (gnomon/bound, gnomonref11): what each call answers; no condition.
-/
import Derived.Test.YtjmmegnonlbdnaaRows
import Derived.WalkKit
import Derived.WalkSpells
import Derived.WalkLawsBesides

namespace Go.Proofs.Ytjmmegnonlbdnaa
open Go.RowKit

theorem hid {p : Prop} (h : p) : Hid p := h

/-- What a number counts as. -/
def near (a : Int) : Int := if a < -4611686018427387904 then -4611686018427387904 else if 4611686018427387904 < a then 9223372036854775807 else a
def plus (a b : Int) : Int := if near a = 9223372036854775807 ∨ near b = 9223372036854775807 then 9223372036854775807 else near (near a + near b)
def isBound (a : Int) : Bool := decide (a = 9223372036854775807 ∨ (-4611686018427387904 ≤ a ∧ a ≤ 4611686018427387904))
def sat (a b : Int) : Bool := !(decide (near a = 9223372036854775807 ∨ near b = 9223372036854775807)) && decide (near a + near b < -4611686018427387904 ∨ 4611686018427387904 < near a + near b)
def half (a : Int) : Int := if near a = 9223372036854775807 then 9223372036854775807 else near a / 2
def even (a : Int) : Int := if near a = 9223372036854775807 then 9223372036854775807 else 2 * (near a / 2)
def less (a b : Int) : Int := min (near a) (near b)

theorem near_cases (a : Int) : near a = 9223372036854775807 ∨ (-4611686018427387904 ≤ near a ∧ near a ≤ 4611686018427387904) := by
  unfold near; split
  · right; omega
  · split
    · left; rfl
    · right; omega
theorem near_ge (a : Int) : -4611686018427387904 ≤ near a := by rcases near_cases a with h | h <;> omega

set_option maxHeartbeats 400000 in
theorem as_any (a : Int) (w : World) :
    Calls Try.prog 101 #[.int .i64 a] w fun e w' => e = .returned (.int .i64 (near a)) ∧ w = w' := by
  unfold near
  go_enter Try.func101, Try.ntmps101
  go_wp2
  all_goals (go_ret; exact ⟨by simp [*], rfl⟩)

set_option maxHeartbeats 400000 in
theorem rnear_any (a : Int) (w : World) :
    Calls Try.prog 97 #[.int .i64 a] w fun e w' => e = .returned (.int .i64 (near a)) ∧ w = w' := by
  unfold near
  go_enter Try.func97, Try.ntmps97
  go_wp2
  all_goals (go_ret; exact ⟨by (repeat' split) <;> first | rfl | (exfalso; omega), rfl⟩)

theorem near_near (a : Int) : near (near a) = near a := by
  rcases near_cases a with h | h
  · rw [h]; rfl
  · generalize near a = x at *
    unfold near; rw [if_neg (by omega), if_neg (by omega)]
theorem near_inf {a : Int} (h : 4611686018427387904 < a) : near a = 9223372036854775807 := by
  unfold near; rw [if_neg (by omega), if_pos h]
theorem ret64 {a b : Int} (h : a = b) : Ending.returned (.int .i64 a) = .returned (.int .i64 b) := by rw [h]
theorem retb {a b : Bool} (h : a = b) : Ending.returned (.bool a) = .returned (.bool b) := by rw [h]

theorem plus_l {a b : Int} (h : near a = 9223372036854775807) : plus a b = 9223372036854775807 := by unfold plus; rw [if_pos (Or.inl h)]
theorem plus_r {a b : Int} (h : near b = 9223372036854775807) : plus a b = 9223372036854775807 := by unfold plus; rw [if_pos (Or.inr h)]
theorem plus_fin {a b : Int} (h : ¬ near a = 9223372036854775807) (h' : ¬ near b = 9223372036854775807) : plus a b = near (near a + near b) := by
  unfold plus; rw [if_neg (by rintro (k | k) <;> contradiction)]
theorem sat_l {a b : Int} (h : near a = 9223372036854775807) : sat a b = false := by unfold sat; simp [h]
theorem sat_r {a b : Int} (h : near b = 9223372036854775807) : sat a b = false := by unfold sat; simp [h]
theorem sat_fin {a b : Int} (h : ¬ near a = 9223372036854775807) (h' : ¬ near b = 9223372036854775807) : sat a b = decide (near a + near b < -4611686018427387904 ∨ 4611686018427387904 < near a + near b) := by
  unfold sat; simp [h, h']
theorem isBound_in {x : Int} (h : isBound x = true) (_h' : x ≤ 4611686018427387904) : -4611686018427387904 ≤ x := by
  unfold isBound at h; rw [decide_eq_true_eq] at h; omega
theorem isBound_out {x : Int} (h : isBound x = false) (h' : x ≤ 4611686018427387904) : x < -4611686018427387904 := by
  unfold isBound at h; rw [decide_eq_false_iff_not] at h; omega

set_option maxHeartbeats 400000 in
theorem is_any (a : Int) (w : World) :
    Calls Try.prog 61 #[.int .i64 a] w fun e w' => e = .returned (.bool (isBound a)) ∧ w = w' := by
  go_enter Try.func61, Try.ntmps61
  go_wp2
  all_goals (go_ret; exact ⟨retb (by unfold isBound; rw [Bool.eq_iff_iff]; simp [*]; try omega), rfl⟩)

set_option maxHeartbeats 400000 in
theorem plus_any (a b : Int) (w : World) :
    Calls Try.prog 103 #[.int .i64 a, .int .i64 b] w fun e w' => e = .returned (.int .i64 (plus a b)) ∧ w = w' := by
  have la := near_ge a
  have lb := near_ge b
  by_cases ca : near a = 9223372036854775807
  · have ta : (near a == 9223372036854775807) = true := by simpa using ca
    have C := hid ca; clear ca
    go_enter Try.func103, Try.ntmps103
    go_wp2_with (first | (go_at_call 101; refine (as_any _ _).mono ?_; rintro e w' ⟨rfl, rfl⟩) | go_in)
    go_ret
    exact ⟨ret64 (plus_l C.out).symm, rfl⟩
  · have ta : (near a == 9223372036854775807) = false := by simpa using ca
    have ua : near a ≤ 4611686018427387904 := by rcases near_cases a with h | h <;> omega
    have C := hid ca; clear ca
    by_cases cb : near b = 9223372036854775807
    · have tb : (near b == 9223372036854775807) = true := by simpa using cb
      have D := hid cb; clear cb
      go_enter Try.func103, Try.ntmps103
      go_wp2_with (first | (go_at_call 101; refine (as_any _ _).mono ?_; rintro e w' ⟨rfl, rfl⟩) | go_in)
      go_ret
      exact ⟨ret64 (plus_r D.out).symm, rfl⟩
    · have tb : (near b == 9223372036854775807) = false := by simpa using cb
      have ub : near b ≤ 4611686018427387904 := by rcases near_cases b with h | h <;> omega
      have D := hid cb; clear cb
      go_enter Try.func103, Try.ntmps103
      go_wp2_with (first | (go_at_call 101; refine (as_any _ _).mono ?_; rintro e w' ⟨rfl, rfl⟩) | go_in)
      all_goals (go_ret; refine ⟨ret64 ?_, rfl⟩)
      · rw [plus_fin C.out D.out]; exact (near_inf (by omega)).symm
      · rw [plus_fin C.out D.out]
      · rw [plus_fin C.out D.out]
set_option maxHeartbeats 400000 in
theorem sat_any (a b : Int) (w : World) :
    Calls Try.prog 102 #[.int .i64 a, .int .i64 b] w fun e w' => e = .returned (.bool (sat a b)) ∧ w = w' := by
  have la := near_ge a
  have lb := near_ge b
  by_cases ca : near a = 9223372036854775807
  · have ta : (near a == 9223372036854775807) = true := by simpa using ca
    have C := hid ca; clear ca
    go_enter Try.func102, Try.ntmps102
    go_wp2_with (first | (go_at_call 101; refine (as_any _ _).mono ?_; rintro e w' ⟨rfl, rfl⟩) | (go_at_call 61; refine (is_any _ _).mono ?_; rintro e w' ⟨rfl, rfl⟩) | go_in)
    go_ret
    exact ⟨retb (sat_l C.out).symm, rfl⟩
  · have ta : (near a == 9223372036854775807) = false := by simpa using ca
    have ua : near a ≤ 4611686018427387904 := by rcases near_cases a with h | h <;> omega
    have C := hid ca; clear ca
    by_cases cb : near b = 9223372036854775807
    · have tb : (near b == 9223372036854775807) = true := by simpa using cb
      have D := hid cb; clear cb
      go_enter Try.func102, Try.ntmps102
      go_wp2_with (first | (go_at_call 101; refine (as_any _ _).mono ?_; rintro e w' ⟨rfl, rfl⟩) | (go_at_call 61; refine (is_any _ _).mono ?_; rintro e w' ⟨rfl, rfl⟩) | go_in)
      go_ret
      exact ⟨retb (sat_r D.out).symm, rfl⟩
    · have tb : (near b == 9223372036854775807) = false := by simpa using cb
      have ub : near b ≤ 4611686018427387904 := by rcases near_cases b with h | h <;> omega
      have D := hid cb; clear cb
      go_enter Try.func102, Try.ntmps102
      go_wp2_with (first | (go_at_call 101; refine (as_any _ _).mono ?_; rintro e w' ⟨rfl, rfl⟩) | (go_at_call 61; refine (is_any _ _).mono ?_; rintro e w' ⟨rfl, rfl⟩) | go_in)
      all_goals (go_ret; refine ⟨retb ?_, rfl⟩; rw [sat_fin C.out D.out])
      · symm; rw [decide_eq_true_eq]; omega
      · have k := isBound_in ‹_› (by omega); symm; rw [decide_eq_false_iff_not]; omega
      · have k := isBound_out ‹_› (by omega); symm; rw [decide_eq_true_eq]; omega
      · have k := isBound_in ‹_› (by omega); symm; rw [decide_eq_false_iff_not]; omega
      · have k := isBound_out ‹_› (by omega); symm; rw [decide_eq_true_eq]; omega

set_option maxHeartbeats 400000 in
theorem less_any (a b : Int) (w : World) :
    Calls Try.prog 73 #[.int .i64 a, .int .i64 b] w fun e w' => e = .returned (.int .i64 (less a b)) ∧ w = w' := by
  go_enter Try.func73, Try.ntmps73
  go_wp2_with (go_at_call 101; refine (as_any _ _).mono ?_; rintro e w' ⟨rfl, rfl⟩)
  all_goals (go_ret; exact ⟨ret64 (by unfold less; omega), rfl⟩)
set_option maxHeartbeats 400000 in
theorem half_any (a : Int) (w : World) :
    Calls Try.prog 76 #[.int .i64 a] w fun e w' => e = .returned (.int .i64 (half a)) ∧ w = w' := by
  have la := near_ge a
  by_cases ca : near a = 9223372036854775807
  · have ta : (near a == 9223372036854775807) = true := by simpa using ca
    have C := hid ca; clear ca
    go_enter Try.func76, Try.ntmps76
    go_wp2_with (go_at_call 101; refine (as_any _ _).mono ?_; rintro e w' ⟨rfl, rfl⟩)
    go_ret
    exact ⟨ret64 (by unfold half; rw [C.out]; rfl), rfl⟩
  · have ta : (near a == 9223372036854775807) = false := by simpa using ca
    have ua : near a ≤ 4611686018427387904 := by rcases near_cases a with h | h <;> omega
    have C := hid ca; clear ca
    go_enter Try.func76, Try.ntmps76
    go_wp2_with (go_at_call 101; refine (as_any _ _).mono ?_; rintro e w' ⟨rfl, rfl⟩)
    go_ret
    exact ⟨ret64 (by unfold half; rw [if_neg C.out]), rfl⟩

theorem half_eq (a : Int) : (half a = 9223372036854775807 ↔ near a = 9223372036854775807) := by
  unfold half; split
  · simp [*]
  · rcases near_cases a with h | h
    · contradiction
    · constructor
      · intro k; omega
      · intro k; contradiction
theorem half_ge (a : Int) : -4611686018427387904 ≤ half a := by
  unfold half; have := near_ge a; split <;> omega
set_option maxHeartbeats 400000 in
theorem even_any (a : Int) (w : World) :
    Calls Try.prog 75 #[.int .i64 a] w fun e w' => e = .returned (.int .i64 (even a)) ∧ w = w' := by
  have lh := half_ge a
  by_cases ca : near a = 9223372036854775807
  · have ch : half a = 9223372036854775807 := (half_eq a).2 ca
    have th : (half a == 9223372036854775807) = true := by simpa using ch
    have th' : (half a != 9223372036854775807) = false := by simpa using ch
    have C := hid ca; clear ca
    clear ch
    go_enter Try.func75, Try.ntmps75
    go_wp2_with (go_at_call 76; refine (half_any _ _).mono ?_; rintro e w' ⟨rfl, rfl⟩)
    go_ret
    exact ⟨ret64 (by unfold even; rw [C.out]; rfl), rfl⟩
  · have ch : ¬ half a = 9223372036854775807 := fun h => ca ((half_eq a).1 h)
    have th : (half a == 9223372036854775807) = false := by simpa using ch
    have th' : (half a != 9223372036854775807) = true := by simpa using ch
    have eh : half a = near a / 2 := by unfold half; rw [if_neg ca]
    have ua : half a ≤ 4611686018427387903 := by rw [eh]; rcases near_cases a with h | h <;> omega
    have C := hid ca; clear ca
    have E := hid eh; clear eh ch
    go_enter Try.func75, Try.ntmps75
    go_wp2_with (go_at_call 76; refine (half_any _ _).mono ?_; rintro e w' ⟨rfl, rfl⟩)
    go_ret
    exact ⟨ret64 (by unfold even; rw [if_neg C.out, E.out]), rfl⟩
end Go.Proofs.Ytjmmegnonlbdnaa
