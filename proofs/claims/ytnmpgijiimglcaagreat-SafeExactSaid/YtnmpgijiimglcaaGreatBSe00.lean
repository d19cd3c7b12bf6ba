import Derived.Test.YtnmpgijiimglcaaGreatRows
import Derived.WalkKit
import Derived.WalkSpells
import Derived.WalkLawsBesides
import Derived.Deep.RegionHeld3
import Derived.Deep.DrawnRows
namespace Go.Proofs.YtnmpgijiimglcaaGreat
open Go.RowKit
set_option maxRecDepth 100000
set_option maxHeartbeats 8000000
section
instance : Coe Int Value := ⟨fun n => .int .i64 n⟩
instance : Coe Nat Value := ⟨fun n => .int .i64 (n : Int)⟩
instance : Coe Bool Value := ⟨.bool⟩
theorem hid {p : Prop} (h : p) : Hid p := h
def near (a : Int) : Int := if a < -4611686018427387904 then -4611686018427387904 else if 4611686018427387904 < a then 9223372036854775807 else a
def plus (a b : Int) : Int := if near a = 9223372036854775807 ∨ near b = 9223372036854775807 then 9223372036854775807 else near (near a + near b)
def zaq (a : Int) : Bool := decide (a = 9223372036854775807 ∨ (-4611686018427387904 ≤ a ∧ a ≤ 4611686018427387904))
def sat (a b : Int) : Bool := !(decide (near a = 9223372036854775807 ∨ near b = 9223372036854775807)) && decide (near a + near b < -4611686018427387904 ∨ 4611686018427387904 < near a + near b)
def half (a : Int) : Int := if near a = 9223372036854775807 then 9223372036854775807 else near a / 2
def even (a : Int) : Int := if near a = 9223372036854775807 then 9223372036854775807 else 2 * (near a / 2)
def less (a b : Int) : Int := min (near a) (near b)
theorem zaw (a : Int) : near a = 9223372036854775807 ∨ (-4611686018427387904 ≤ near a ∧ near a ≤ 4611686018427387904) := by
 unfold near; split
 ·right; omega
 ·split
  ·left; rfl
  ·right; omega
theorem zbG (a : Int) : -4611686018427387904 ≤ near a := by rcases zaw a with h | h <;> omega
theorem zcI (a : Int) (w : World) :
  Calls Tryz.prog 184 #[.int .i64 a] w fun e w' => e = .returned (.int .i64 (near a)) ∧ w = w' := by
 unfold near
 go_enter Tryz.func184, Tryz.ntmps184
 go_wp2
 all_goals (go_ret; exact ⟨by simp [*], rfl⟩)
theorem zaG (a : Int) (w : World) :
  Calls Tryz.prog 118 #[.int .i64 a] w fun e w' => e = .returned (.int .i64 (near a)) ∧ w = w' := by
 unfold near
 go_enter Tryz.func118, Tryz.ntmps118
 go_wp2
 all_goals (go_ret; exact ⟨by (repeat' split) <;> first | rfl | (exfalso; omega), rfl⟩)
theorem zeZ (a : Int) : near (near a) = near a := by
 rcases zaw a with h | h
 ·rw [h]; rfl
 ·generalize near a = x at *
  unfold near; rw [if_neg (by omega), if_neg (by omega)]
theorem zi5 {a : Int} (h : 4611686018427387904 < a) : near a = 9223372036854775807 := by
 unfold near; rw [if_neg (by omega), if_pos h]
theorem zaQ {a b : Int} (h : a = b) : Ending.returned (.int .i64 a) = .returned (.int .i64 b) := by rw [h]
theorem retb {a b : Bool} (h : a = b) : Ending.returned (.bool a) = .returned (.bool b) := by rw [h]
theorem zkl {a b : Int} (h : near a = 9223372036854775807) : plus a b = 9223372036854775807 := by unfold plus; rw [if_pos (Or.inl h)]
theorem zj9 {a b : Int} (h : near b = 9223372036854775807) : plus a b = 9223372036854775807 := by unfold plus; rw [if_pos (Or.inr h)]
theorem zb5 {a b : Int} (h : ¬ near a = 9223372036854775807) (h' : ¬ near b = 9223372036854775807) : plus a b = near (near a + near b) := by
 unfold plus; rw [if_neg (by rintro (k | k) <;> contradiction)]
theorem zll {a b : Int} (h : near a = 9223372036854775807) : sat a b = false := by unfold sat; simp [h]
theorem zlu {a b : Int} (h : near b = 9223372036854775807) : sat a b = false := by unfold sat; simp [h]
theorem zeL {a b : Int} (h : ¬ near a = 9223372036854775807) (h' : ¬ near b = 9223372036854775807) : sat a b = decide (near a + near b < -4611686018427387904 ∨ 4611686018427387904 < near a + near b) := by
 unfold sat; simp [h, h']
theorem zed {x : Int} (h : zaq x = true) (_h' : x ≤ 4611686018427387904) : -4611686018427387904 ≤ x := by
 unfold zaq at h; rw [decide_eq_true_eq] at h; omega
theorem zdU {x : Int} (h : zaq x = false) (h' : x ≤ 4611686018427387904) : x < -4611686018427387904 := by
 unfold zaq at h; rw [decide_eq_false_iff_not] at h; omega
theorem zcU (a : Int) (w : World) :
  Calls Tryz.prog 120 #[.int .i64 a] w fun e w' => e = .returned (.bool (zaq a)) ∧ w = w' := by
 go_enter Tryz.func120, Tryz.ntmps120
 go_wp2
 all_goals (go_ret; exact ⟨retb (by unfold zaq; rw [Bool.eq_iff_iff]; simp [*]; try omega), rfl⟩)
theorem zek (a b : Int) (w : World) :
  Calls Tryz.prog 239 #[.int .i64 a, .int .i64 b] w fun e w' => e = .returned (.int .i64 (plus a b)) ∧ w = w' := by
 have la := zbG a
 have lb := zbG b
 by_cases ca : near a = 9223372036854775807
 ·have ta : (near a == 9223372036854775807) = true := by simpa using ca
  have C := hid ca; clear ca
  go_enter Tryz.func239, Tryz.ntmps239
  go_wp2_with (first | (go_at_call 184; refine (zcI _ _).mono ?_; rintro e w' ⟨rfl, rfl⟩) | go_in)
  go_ret
  exact ⟨zaQ (zkl C.out).symm, rfl⟩
 ·have ta : (near a == 9223372036854775807) = false := by simpa using ca
  have ua : near a ≤ 4611686018427387904 := by rcases zaw a with h | h <;> omega
  have C := hid ca; clear ca
  by_cases cb : near b = 9223372036854775807
  ·have tb : (near b == 9223372036854775807) = true := by simpa using cb
   have D := hid cb; clear cb
   go_enter Tryz.func239, Tryz.ntmps239
   go_wp2_with (first | (go_at_call 184; refine (zcI _ _).mono ?_; rintro e w' ⟨rfl, rfl⟩) | go_in)
   go_ret
   exact ⟨zaQ (zj9 D.out).symm, rfl⟩
  ·have tb : (near b == 9223372036854775807) = false := by simpa using cb
   have ub : near b ≤ 4611686018427387904 := by rcases zaw b with h | h <;> omega
   have D := hid cb; clear cb
   go_enter Tryz.func239, Tryz.ntmps239
   go_wp2_with (first | (go_at_call 184; refine (zcI _ _).mono ?_; rintro e w' ⟨rfl, rfl⟩) | go_in)
   all_goals (go_ret; refine ⟨zaQ ?_, rfl⟩)
   ·rw [zb5 C.out D.out]; exact (zi5 (by omega)).symm
   ·rw [zb5 C.out D.out]
   ·rw [zb5 C.out D.out]
theorem zkq (a b : Int) (w : World) :
  Calls Tryz.prog 241 #[.int .i64 a, .int .i64 b] w fun e w' => e = .returned (.bool (sat a b)) ∧ w = w' := by
 have la := zbG a
 have lb := zbG b
 by_cases ca : near a = 9223372036854775807
 ·have ta : (near a == 9223372036854775807) = true := by simpa using ca
  have C := hid ca; clear ca
  go_enter Tryz.func241, Tryz.ntmps241
  go_wp2_with (first | (go_at_call 184; refine (zcI _ _).mono ?_; rintro e w' ⟨rfl, rfl⟩) | (go_at_call 120; refine (zcU _ _).mono ?_; rintro e w' ⟨rfl, rfl⟩) | go_in)
  go_ret
  exact ⟨retb (zll C.out).symm, rfl⟩
 ·have ta : (near a == 9223372036854775807) = false := by simpa using ca
  have ua : near a ≤ 4611686018427387904 := by rcases zaw a with h | h <;> omega
  have C := hid ca; clear ca
  by_cases cb : near b = 9223372036854775807
  ·have tb : (near b == 9223372036854775807) = true := by simpa using cb
   have D := hid cb; clear cb
   go_enter Tryz.func241, Tryz.ntmps241
   go_wp2_with (first | (go_at_call 184; refine (zcI _ _).mono ?_; rintro e w' ⟨rfl, rfl⟩) | (go_at_call 120; refine (zcU _ _).mono ?_; rintro e w' ⟨rfl, rfl⟩) | go_in)
   go_ret
   exact ⟨retb (zlu D.out).symm, rfl⟩
  ·have tb : (near b == 9223372036854775807) = false := by simpa using cb
   have ub : near b ≤ 4611686018427387904 := by rcases zaw b with h | h <;> omega
   have D := hid cb; clear cb
   go_enter Tryz.func241, Tryz.ntmps241
   go_wp2_with (first | (go_at_call 184; refine (zcI _ _).mono ?_; rintro e w' ⟨rfl, rfl⟩) | (go_at_call 120; refine (zcU _ _).mono ?_; rintro e w' ⟨rfl, rfl⟩) | go_in)
   all_goals (go_ret; refine ⟨retb ?_, rfl⟩; rw [zeL C.out D.out])
   ·symm; rw [decide_eq_true_eq]; omega
   ·have k := zed ‹_› (by omega); symm; rw [decide_eq_false_iff_not]; omega
   ·have k := zdU ‹_› (by omega); symm; rw [decide_eq_true_eq]; omega
   ·have k := zed ‹_› (by omega); symm; rw [decide_eq_false_iff_not]; omega
   ·have k := zdU ‹_› (by omega); symm; rw [decide_eq_true_eq]; omega
theorem zcM (a b : Int) (w : World) :
  Calls Tryz.prog 117 #[.int .i64 a, .int .i64 b] w fun e w' => e = .returned (.int .i64 (less a b)) ∧ w = w' := by
 go_enter Tryz.func117, Tryz.ntmps117
 go_wp2_with (go_at_call 184; refine (zcI _ _).mono ?_; rintro e w' ⟨rfl, rfl⟩)
 all_goals (go_ret; exact ⟨zaQ (by unfold less; omega), rfl⟩)
theorem zcG (a : Int) (w : World) :
  Calls Tryz.prog 215 #[.int .i64 a] w fun e w' => e = .returned (.int .i64 (half a)) ∧ w = w' := by
 have la := zbG a
 by_cases ca : near a = 9223372036854775807
 ·have ta : (near a == 9223372036854775807) = true := by simpa using ca
  have C := hid ca; clear ca
  go_enter Tryz.func215, Tryz.ntmps215
  go_wp2_with (go_at_call 184; refine (zcI _ _).mono ?_; rintro e w' ⟨rfl, rfl⟩)
  go_ret
  exact ⟨zaQ (by unfold half; rw [C.out]; rfl), rfl⟩
 ·have ta : (near a == 9223372036854775807) = false := by simpa using ca
  have ua : near a ≤ 4611686018427387904 := by rcases zaw a with h | h <;> omega
  have C := hid ca; clear ca
  go_enter Tryz.func215, Tryz.ntmps215
  go_wp2_with (go_at_call 184; refine (zcI _ _).mono ?_; rintro e w' ⟨rfl, rfl⟩)
  go_ret
  exact ⟨zaQ (by unfold half; rw [if_neg C.out]), rfl⟩
theorem zfQ (a : Int) : (half a = 9223372036854775807 ↔ near a = 9223372036854775807) := by
 unfold half; split
 ·simp [*]
 ·rcases zaw a with h | h
  ·contradiction
  ·constructor
   ·intro k; omega
   ·intro k; contradiction
theorem zc8 (a : Int) : -4611686018427387904 ≤ half a := by
 unfold half; have := zbG a; split <;> omega
theorem zjh (a : Int) (w : World) :
  Calls Tryz.prog 214 #[.int .i64 a] w fun e w' => e = .returned (.int .i64 (even a)) ∧ w = w' := by
 have lh := zc8 a
 by_cases ca : near a = 9223372036854775807
 ·have ch : half a = 9223372036854775807 := (zfQ a).2 ca
  have th : (half a == 9223372036854775807) = true := by simpa using ch
  have th' : (half a != 9223372036854775807) = false := by simpa using ch
  have C := hid ca; clear ca
  clear ch
  go_enter Tryz.func214, Tryz.ntmps214
  go_wp2_with (go_at_call 215; refine (zcG _ _).mono ?_; rintro e w' ⟨rfl, rfl⟩)
  go_ret
  exact ⟨zaQ (by unfold even; rw [C.out]; rfl), rfl⟩
 ·have ch : ¬ half a = 9223372036854775807 := fun h => ca ((zfQ a).1 h)
  have th : (half a == 9223372036854775807) = false := by simpa using ch
  have th' : (half a != 9223372036854775807) = true := by simpa using ch
  have eh : half a = near a / 2 := by unfold half; rw [if_neg ca]
  have ua : half a ≤ 4611686018427387903 := by rw [eh]; rcases zaw a with h | h <;> omega
  have C := hid ca; clear ca
  have E := hid eh; clear eh ch
  go_enter Tryz.func214, Tryz.ntmps214
  go_wp2_with (go_at_call 215; refine (zcG _ _).mono ?_; rintro e w' ⟨rfl, rfl⟩)
  go_ret
  exact ⟨zaQ (by unfold even; rw [if_neg C.out, E.out]), rfl⟩
end
section
theorem zff (a : Nat) (ha : a < 9223372036854775808) : (BitVec.ofInt 64 (a : Int)).toNat = a := by
 rw [BitVec.ofInt_natCast, BitVec.toNat_ofNat]; exact Nat.mod_eq_of_lt (by omega)
theorem zfN (a b : Nat) (ha : a < 9223372036854775808) (hb : b < 9223372036854775808) : bits .xor .i64 (a : Int) (b : Int) = ((a ^^^ b : Nat) : Int) := by
 have hx : a ^^^ b < 2 ^ 63 := Nat.xor_lt_two_pow (by omega) (by omega)
 show IntKind.i64.wrap ((BitVec.ofInt 64 (a : Int) ^^^ BitVec.ofInt 64 (b : Int)).toNat : Int) = _
 rw [BitVec.toNat_xor, zff a ha, zff b hb, IntKind.wrap_i64]
 omega
theorem zjf (a : Nat) : a ^^^ 1 = if a % 2 = 0 then a + 1 else a - 1 := by
 have h1 : (a ^^^ 1) / 2 = a / 2 := by
  have := @Nat.xor_div_two a 1
  simpa using this
 have h2 := @Nat.xor_mod_two_eq_one a 1
 split
 ·have : (a ^^^ 1) % 2 = 1 := h2.2 (by omega)
  omega
 ·have : ¬ (a ^^^ 1) % 2 = 1 := fun h => by have := h2.1 h; omega
  omega
def xor1 (i : Int) : Int := if i % 2 = 0 then i + 1 else i - 1
theorem zdX {i : Int} (h : 0 ≤ i) (h' : i ≤ 1000) : bits .xor .i64 i 1 = xor1 i := by
 obtain ⟨a, rfl⟩ := Int.eq_ofNat_of_zero_le h
 have := zfN a 1 (by omega) (by omega)
 rw [show ((1 : Nat) : Int) = 1 from rfl] at this
 rw [this, zjf]; unfold xor1; split <;> split <;> omega
theorem zeu {i n : Int} (h : 0 ≤ i) (h' : i < 2 * n) : 0 ≤ xor1 i ∧ xor1 i < 2 * n := by
 unfold xor1; split <;> omega
theorem zdi (i j n : Int) (w : World) (hn : 0 ≤ n) (hn' : n ≤ 64) (hi : 0 ≤ i) (hi' : i ≤ 1000) (hj : 0 ≤ j) (hj' : j ≤ 1000) :
  Calls Tryz.prog 85 #[.agg #[i, j], n] w fun e w' => e = .returned (.int .i64 (2 * n * i + j)) ∧ Below w.heap.size w w' := by
 have h1 : 0 ≤ 2 * n * i := Int.mul_nonneg (by omega) hi
 have h2 : 2 * n * i ≤ 128 * 1000 := Int.mul_le_mul (by omega) hi' hi (by omega)
 go_enter Tryz.func85, Tryz.ntmps85
 go_wp2
 go_ret
 exact ⟨rfl, (Below.refl _ _).alloc (Nat.le_refl _) _⟩
theorem zbY (i j : Int) (w : World) (hi : 0 ≤ i) (hi' : i ≤ 1000) (hj : 0 ≤ j) (hj' : j ≤ 1000) :
  Calls Tryz.prog 116 #[.agg #[i, j]] w fun e w' => e = .returned (.agg #[.int .i64 (xor1 j), .int .i64 (xor1 i)]) ∧ Below w.heap.size w w' := by
 go_enter Tryz.func116, Tryz.ntmps116
 go_wp2
 refine bodyPost_ret (v := .agg #[.int .i64 (xor1 j), .int .i64 (xor1 i)]) ?_ rfl ⟨rfl, ?_⟩
 ·rw [zdX hi hi', zdX hj hj']; simp [results, Tryz.results116, go_sem]
 ·exact ((Below.refl _ _).alloc (Nat.le_refl _) _).alloc (by simp) _
theorem zbC (n : Int) (w : World) :
  Calls Tryz.prog 119 #[n] w fun e w' => e = .returned (.bool (decide (0 ≤ n ∧ n ≤ 64))) ∧ w = w' := by
 go_enter Tryz.func119, Tryz.ntmps119
 go_wp2
 all_goals (go_ret; exact ⟨retb (by rw [Bool.eq_iff_iff]; simp [*]; try omega), rfl⟩)
end
end Go.Proofs.YtnmpgijiimglcaaGreat
