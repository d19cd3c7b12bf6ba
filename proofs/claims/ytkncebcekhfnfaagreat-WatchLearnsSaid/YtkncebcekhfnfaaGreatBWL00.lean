/-
  The bounds' small functions (gnomon/bound, gnomonref11): what each call answers; no condition.
  dbm.cell's methods, dbm.right: what each call answers.
-/
import Derived.Test.YtkncebcekhfnfaaGreatRows
import Derived.WalkKit
import Derived.WalkSpells
import Derived.WalkLawsBesides
import Derived.Deep.RegionHeld3
import Derived.Deep.DrawnRows
namespace Go.Proofs.YtkncebcekhfnfaaGreat
open Go.RowKit
section

theorem hid {p : Prop} (h : p) : Hid p := h

/-- What a number counts as. -/
def near (a : Int) : Int := if a < -4611686018427387904 then -4611686018427387904 else if 4611686018427387904 < a then 9223372036854775807 else a
def plus (a b : Int) : Int := if near a = 9223372036854775807 ∨ near b = 9223372036854775807 then 9223372036854775807 else near (near a + near b)
def isBound (a : Int) : Bool := decide (a = 9223372036854775807 ∨ (-4611686018427387904 ≤ a ∧ a ≤ 4611686018427387904))
def half (a : Int) : Int := if near a = 9223372036854775807 then 9223372036854775807 else near a / 2
def even (a : Int) : Int := if near a = 9223372036854775807 then 9223372036854775807 else 2 * (near a / 2)
def less (a b : Int) : Int := min (near a) (near b)

theorem ret64 {a b : Int} (h : a = b) : Ending.returned (.int .i64 a) = .returned (.int .i64 b) := by rw [h]
theorem retb {a b : Bool} (h : a = b) : Ending.returned (.bool a) = .returned (.bool b) := by rw [h]

set_option maxHeartbeats 400000 in
theorem is_any (a : Int) (w : World) :
    Calls Tryz.prog 80 #[.int .i64 a] w fun e w' => e = .returned (.bool (isBound a)) ∧ w = w' := by
  go_enter Tryz.func80, Tryz.ntmps80
  go_wp2
  all_goals (go_ret; exact ⟨retb (by unfold isBound; rw [Bool.eq_iff_iff]; simp [*]; try omega), rfl⟩)
end
section

theorem ofInt_i64 (a : Nat) (ha : a < 9223372036854775808) : (BitVec.ofInt 64 (a : Int)).toNat = a := by
  rw [BitVec.ofInt_natCast, BitVec.toNat_ofNat]; exact Nat.mod_eq_of_lt (by omega)
theorem i64_xor_nat (a b : Nat) (ha : a < 9223372036854775808) (hb : b < 9223372036854775808) : bits .xor .i64 (a : Int) (b : Int) = ((a ^^^ b : Nat) : Int) := by
  have hx : a ^^^ b < 2 ^ 63 := Nat.xor_lt_two_pow (by omega) (by omega)
  show IntKind.i64.wrap ((BitVec.ofInt 64 (a : Int) ^^^ BitVec.ofInt 64 (b : Int)).toNat : Int) = _
  rw [BitVec.toNat_xor, ofInt_i64 a ha, ofInt_i64 b hb, IntKind.wrap_i64]
  omega
theorem nat_xor1 (a : Nat) : a ^^^ 1 = if a % 2 = 0 then a + 1 else a - 1 := by
  have h1 : (a ^^^ 1) / 2 = a / 2 := by
    have := @Nat.xor_div_two a 1
    simpa using this
  have h2 := @Nat.xor_mod_two_eq_one a 1
  split
  · have : (a ^^^ 1) % 2 = 1 := h2.2 (by omega)
    omega
  · have : ¬ (a ^^^ 1) % 2 = 1 := fun h => by have := h2.1 h; omega
    omega
/-- The number across: i xor 1, of numbers from 0 on. -/
def xor1 (i : Int) : Int := if i % 2 = 0 then i + 1 else i - 1

theorem bits_xor1 {i : Int} (h : 0 ≤ i) (h' : i ≤ 1000) : bits .xor .i64 i 1 = xor1 i := by
  obtain ⟨a, rfl⟩ := Int.eq_ofNat_of_zero_le h
  have := i64_xor_nat a 1 (by omega) (by omega)
  rw [show ((1 : Nat) : Int) = 1 from rfl] at this
  rw [this, nat_xor1]; unfold xor1; split <;> split <;> omega
theorem xor1_bd {i n : Int} (h : 0 ≤ i) (h' : i < 2 * n) : 0 ≤ xor1 i ∧ xor1 i < 2 * n := by
  unfold xor1; split <;> omega
set_option maxHeartbeats 400000 in
theorem at_any (i j n : Int) (w : World) (hn : 0 ≤ n) (hn' : n ≤ 64) (hi : 0 ≤ i) (hi' : i ≤ 1000) (hj : 0 ≤ j) (hj' : j ≤ 1000) :
    Calls Tryz.prog 52 #[.agg #[.int .i64 i, .int .i64 j], .int .i64 n] w fun e w' => e = .returned (.int .i64 (2 * n * i + j)) ∧ Below w.heap.size w w' := by
  have h1 : 0 ≤ 2 * n * i := Int.mul_nonneg (by omega) hi
  have h2 : 2 * n * i ≤ 128 * 1000 := Int.mul_le_mul (by omega) hi' hi (by omega)
  go_enter Tryz.func52, Tryz.ntmps52
  go_wp2
  go_ret
  exact ⟨rfl, (Below.refl _ _).alloc (Nat.le_refl _) _⟩
set_option maxHeartbeats 400000 in
theorem mirror_any (i j : Int) (w : World) (hi : 0 ≤ i) (hi' : i ≤ 1000) (hj : 0 ≤ j) (hj' : j ≤ 1000) :
    Calls Tryz.prog 81 #[.agg #[.int .i64 i, .int .i64 j]] w fun e w' => e = .returned (.agg #[.int .i64 (xor1 j), .int .i64 (xor1 i)]) ∧ Below w.heap.size w w' := by
  go_enter Tryz.func81, Tryz.ntmps81
  go_wp2
  refine bodyPost_ret (v := .agg #[.int .i64 (xor1 j), .int .i64 (xor1 i)]) ?_ rfl ⟨rfl, ?_⟩
  · rw [bits_xor1 hi hi', bits_xor1 hj hj']; simp [results, Tryz.results81, go_sem]
  · exact ((Below.refl _ _).alloc (Nat.le_refl _) _).alloc (by simp) _
set_option maxHeartbeats 400000 in
theorem dright_any (n : Int) (w : World) :
    Calls Tryz.prog 61 #[.int .i64 n] w fun e w' => e = .returned (.bool (decide (0 ≤ n ∧ n ≤ 64))) ∧ w = w' := by
  go_enter Tryz.func61, Tryz.ntmps61
  go_wp2
  all_goals (go_ret; exact ⟨retb (by rw [Bool.eq_iff_iff]; simp [*]; try omega), rfl⟩)
end
end Go.Proofs.YtkncebcekhfnfaaGreat
