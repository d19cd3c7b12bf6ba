import Derived.Test.YtnmpgijiimglcaaGreatRows
import Derived.WalkKit
import Derived.WalkSpells
import Derived.WalkLawsBesides
import Derived.Deep.RegionHeld3
import Derived.Deep.DrawnRows
import Derived.Orders
import Derived.Tactics
namespace Go.Proofs.YtnmpgijiimglcaaGreat
set_option maxRecDepth 100000
set_option maxHeartbeats 8000000
section
open Go.RowKit
instance : Coe Int Value := ⟨fun n => .int .i64 n⟩
instance : Coe Nat Value := ⟨fun n => .int .i64 (n : Int)⟩
instance : Coe Bool Value := ⟨.bool⟩
theorem hid {p : Prop} (h : p) : Hid p := h
def near (a : Int) : Int := if a < -4611686018427387904 then -4611686018427387904 else if 4611686018427387904 < a then 9223372036854775807 else a
def plus (a b : Int) : Int := if near a = 9223372036854775807 ∨ near b = 9223372036854775807 then 9223372036854775807 else near (near a + near b)
def zag (a : Int) : Bool := decide (a = 9223372036854775807 ∨ (-4611686018427387904 ≤ a ∧ a ≤ 4611686018427387904))
def sat (a b : Int) : Bool := !(decide (near a = 9223372036854775807 ∨ near b = 9223372036854775807)) && decide (near a + near b < -4611686018427387904 ∨ 4611686018427387904 < near a + near b)
def half (a : Int) : Int := if near a = 9223372036854775807 then 9223372036854775807 else near a / 2
def even (a : Int) : Int := if near a = 9223372036854775807 then 9223372036854775807 else 2 * (near a / 2)
def less (a b : Int) : Int := min (near a) (near b)
theorem zaO (a : Int) : near a = 9223372036854775807 ∨ (-4611686018427387904 ≤ near a ∧ near a ≤ 4611686018427387904) := by
 unfold near; split
 ·right; omega
 ·split
  ·left; rfl
  ·right; omega
theorem zd4 (a : Int) : -4611686018427387904 ≤ near a := by rcases zaO a with h | h <;> omega
theorem zdr (a : Int) (w : World) :
  Calls Tryz.prog 184 #[.int .i64 a] w fun e w' => e = .returned (.int .i64 (near a)) ∧ w = w' := by
 unfold near
 go_enter Tryz.func184, Tryz.ntmps184
 go_wp2
 all_goals (go_ret; exact ⟨by simp [*], rfl⟩)
theorem zgu (a : Int) (w : World) :
  Calls Tryz.prog 118 #[.int .i64 a] w fun e w' => e = .returned (.int .i64 (near a)) ∧ w = w' := by
 unfold near
 go_enter Tryz.func118, Tryz.ntmps118
 go_wp2
 all_goals (go_ret; exact ⟨by (repeat' split) <;> first | rfl | (exfalso; omega), rfl⟩)
theorem zlc (a : Int) : near (near a) = near a := by
 rcases zaO a with h | h
 ·rw [h]; rfl
 ·generalize near a = x at *
  unfold near; rw [if_neg (by omega), if_neg (by omega)]
theorem zlX {a : Int} (h : 4611686018427387904 < a) : near a = 9223372036854775807 := by
 unfold near; rw [if_neg (by omega), if_pos h]
theorem zeM {a : Int} (h : -4611686018427387904 ≤ a) (h' : a ≤ 4611686018427387904) : near a = a := by
 unfold near; rw [if_neg (by omega), if_neg (by omega)]
theorem zas {a b : Int} (h : a = b) : Ending.returned (.int .i64 a) = .returned (.int .i64 b) := by rw [h]
theorem retb {a b : Bool} (h : a = b) : Ending.returned (.bool a) = .returned (.bool b) := by rw [h]
theorem zoW {a b : Int} (h : near a = 9223372036854775807) : plus a b = 9223372036854775807 := by unfold plus; rw [if_pos (Or.inl h)]
theorem zoT {a b : Int} (h : near b = 9223372036854775807) : plus a b = 9223372036854775807 := by unfold plus; rw [if_pos (Or.inr h)]
theorem zek {a b : Int} (h : ¬ near a = 9223372036854775807) (h' : ¬ near b = 9223372036854775807) : plus a b = near (near a + near b) := by
 unfold plus; rw [if_neg (by rintro (k | k) <;> contradiction)]
theorem zph {a b : Int} (h : near a = 9223372036854775807) : sat a b = false := by unfold sat; simp [h]
theorem zpr {a b : Int} (h : near b = 9223372036854775807) : sat a b = false := by unfold sat; simp [h]
theorem znP {a b : Int} (h : ¬ near a = 9223372036854775807) (h' : ¬ near b = 9223372036854775807) : sat a b = decide (near a + near b < -4611686018427387904 ∨ 4611686018427387904 < near a + near b) := by
 unfold sat; simp [h, h']
theorem zfp {x : Int} (h : zag x = true) (_h' : x ≤ 4611686018427387904) : -4611686018427387904 ≤ x := by
 unfold zag at h; rw [decide_eq_true_eq] at h; omega
theorem zeK {x : Int} (h : zag x = false) (h' : x ≤ 4611686018427387904) : x < -4611686018427387904 := by
 unfold zag at h; rw [decide_eq_false_iff_not] at h; omega
theorem zdN (a : Int) (w : World) :
  Calls Tryz.prog 120 #[.int .i64 a] w fun e w' => e = .returned (.bool (zag a)) ∧ w = w' := by
 go_enter Tryz.func120, Tryz.ntmps120
 go_wp2
 all_goals (go_ret; exact ⟨retb (by unfold zag; rw [Bool.eq_iff_iff]; simp [*]; try omega), rfl⟩)
theorem zfJ (a b : Int) (w : World) :
  Calls Tryz.prog 239 #[.int .i64 a, .int .i64 b] w fun e w' => e = .returned (.int .i64 (plus a b)) ∧ w = w' := by
 have la := zd4 a
 have lb := zd4 b
 by_cases ca : near a = 9223372036854775807
 ·have ta : (near a == 9223372036854775807) = true := by simpa using ca
  have C := hid ca; clear ca
  go_enter Tryz.func239, Tryz.ntmps239
  go_wp2_with (first | (go_at_call 184; refine (zdr _ _).mono ?_; rintro e w' ⟨rfl, rfl⟩) | go_in)
  go_ret
  exact ⟨zas (zoW C.out).symm, rfl⟩
 ·have ta : (near a == 9223372036854775807) = false := by simpa using ca
  have ua : near a ≤ 4611686018427387904 := by rcases zaO a with h | h <;> omega
  have C := hid ca; clear ca
  by_cases cb : near b = 9223372036854775807
  ·have tb : (near b == 9223372036854775807) = true := by simpa using cb
   have D := hid cb; clear cb
   go_enter Tryz.func239, Tryz.ntmps239
   go_wp2_with (first | (go_at_call 184; refine (zdr _ _).mono ?_; rintro e w' ⟨rfl, rfl⟩) | go_in)
   go_ret
   exact ⟨zas (zoT D.out).symm, rfl⟩
  ·have tb : (near b == 9223372036854775807) = false := by simpa using cb
   have ub : near b ≤ 4611686018427387904 := by rcases zaO b with h | h <;> omega
   have D := hid cb; clear cb
   go_enter Tryz.func239, Tryz.ntmps239
   go_wp2_with (first | (go_at_call 184; refine (zdr _ _).mono ?_; rintro e w' ⟨rfl, rfl⟩) | go_in)
   all_goals (go_ret; refine ⟨zas ?_, rfl⟩)
   ·rw [zek C.out D.out]; exact (zlX (by omega)).symm
   ·rw [zek C.out D.out]
   ·rw [zek C.out D.out]
theorem znR (a b : Int) (w : World) :
  Calls Tryz.prog 241 #[.int .i64 a, .int .i64 b] w fun e w' => e = .returned (.bool (sat a b)) ∧ w = w' := by
 have la := zd4 a
 have lb := zd4 b
 by_cases ca : near a = 9223372036854775807
 ·have ta : (near a == 9223372036854775807) = true := by simpa using ca
  have C := hid ca; clear ca
  go_enter Tryz.func241, Tryz.ntmps241
  go_wp2_with (first | (go_at_call 184; refine (zdr _ _).mono ?_; rintro e w' ⟨rfl, rfl⟩) | (go_at_call 120; refine (zdN _ _).mono ?_; rintro e w' ⟨rfl, rfl⟩) | go_in)
  go_ret
  exact ⟨retb (zph C.out).symm, rfl⟩
 ·have ta : (near a == 9223372036854775807) = false := by simpa using ca
  have ua : near a ≤ 4611686018427387904 := by rcases zaO a with h | h <;> omega
  have C := hid ca; clear ca
  by_cases cb : near b = 9223372036854775807
  ·have tb : (near b == 9223372036854775807) = true := by simpa using cb
   have D := hid cb; clear cb
   go_enter Tryz.func241, Tryz.ntmps241
   go_wp2_with (first | (go_at_call 184; refine (zdr _ _).mono ?_; rintro e w' ⟨rfl, rfl⟩) | (go_at_call 120; refine (zdN _ _).mono ?_; rintro e w' ⟨rfl, rfl⟩) | go_in)
   go_ret
   exact ⟨retb (zpr D.out).symm, rfl⟩
  ·have tb : (near b == 9223372036854775807) = false := by simpa using cb
   have ub : near b ≤ 4611686018427387904 := by rcases zaO b with h | h <;> omega
   have D := hid cb; clear cb
   go_enter Tryz.func241, Tryz.ntmps241
   go_wp2_with (first | (go_at_call 184; refine (zdr _ _).mono ?_; rintro e w' ⟨rfl, rfl⟩) | (go_at_call 120; refine (zdN _ _).mono ?_; rintro e w' ⟨rfl, rfl⟩) | go_in)
   all_goals (go_ret; refine ⟨retb ?_, rfl⟩; rw [znP C.out D.out])
   ·symm; rw [decide_eq_true_eq]; omega
   ·have k := zfp ‹_› (by omega); symm; rw [decide_eq_false_iff_not]; omega
   ·have k := zeK ‹_› (by omega); symm; rw [decide_eq_true_eq]; omega
   ·have k := zfp ‹_› (by omega); symm; rw [decide_eq_false_iff_not]; omega
   ·have k := zeK ‹_› (by omega); symm; rw [decide_eq_true_eq]; omega
theorem zdu (a b : Int) (w : World) :
  Calls Tryz.prog 117 #[.int .i64 a, .int .i64 b] w fun e w' => e = .returned (.int .i64 (less a b)) ∧ w = w' := by
 go_enter Tryz.func117, Tryz.ntmps117
 go_wp2_with (go_at_call 184; refine (zdr _ _).mono ?_; rintro e w' ⟨rfl, rfl⟩)
 all_goals (go_ret; exact ⟨zas (by unfold less; omega), rfl⟩)
theorem zdt (a : Int) (w : World) :
  Calls Tryz.prog 215 #[.int .i64 a] w fun e w' => e = .returned (.int .i64 (half a)) ∧ w = w' := by
 have la := zd4 a
 by_cases ca : near a = 9223372036854775807
 ·have ta : (near a == 9223372036854775807) = true := by simpa using ca
  have C := hid ca; clear ca
  go_enter Tryz.func215, Tryz.ntmps215
  go_wp2_with (go_at_call 184; refine (zdr _ _).mono ?_; rintro e w' ⟨rfl, rfl⟩)
  go_ret
  exact ⟨zas (by unfold half; rw [C.out]; rfl), rfl⟩
 ·have ta : (near a == 9223372036854775807) = false := by simpa using ca
  have ua : near a ≤ 4611686018427387904 := by rcases zaO a with h | h <;> omega
  have C := hid ca; clear ca
  go_enter Tryz.func215, Tryz.ntmps215
  go_wp2_with (go_at_call 184; refine (zdr _ _).mono ?_; rintro e w' ⟨rfl, rfl⟩)
  go_ret
  exact ⟨zas (by unfold half; rw [if_neg C.out]), rfl⟩
theorem zhV (a : Int) : (half a = 9223372036854775807 ↔ near a = 9223372036854775807) := by
 unfold half; split
 ·simp [*]
 ·rcases zaO a with h | h
  ·contradiction
  ·constructor
   ·intro k; omega
   ·intro k; contradiction
theorem zjv (a : Int) : -4611686018427387904 ≤ half a := by
 unfold half; have := zd4 a; split <;> omega
theorem zlW (a : Int) (w : World) :
  Calls Tryz.prog 214 #[.int .i64 a] w fun e w' => e = .returned (.int .i64 (even a)) ∧ w = w' := by
 have lh := zjv a
 by_cases ca : near a = 9223372036854775807
 ·have ch : half a = 9223372036854775807 := (zhV a).2 ca
  have th : (half a == 9223372036854775807) = true := by simpa using ch
  have th' : (half a != 9223372036854775807) = false := by simpa using ch
  have C := hid ca; clear ca
  clear ch
  go_enter Tryz.func214, Tryz.ntmps214
  go_wp2_with (go_at_call 215; refine (zdt _ _).mono ?_; rintro e w' ⟨rfl, rfl⟩)
  go_ret
  exact ⟨zas (by unfold even; rw [C.out]; rfl), rfl⟩
 ·have ch : ¬ half a = 9223372036854775807 := fun h => ca ((zhV a).1 h)
  have th : (half a == 9223372036854775807) = false := by simpa using ch
  have th' : (half a != 9223372036854775807) = true := by simpa using ch
  have eh : half a = near a / 2 := by unfold half; rw [if_neg ca]
  have ua : half a ≤ 4611686018427387903 := by rw [eh]; rcases zaO a with h | h <;> omega
  have C := hid ca; clear ca
  have E := hid eh; clear eh ch
  go_enter Tryz.func214, Tryz.ntmps214
  go_wp2_with (go_at_call 215; refine (zdt _ _).mono ?_; rintro e w' ⟨rfl, rfl⟩)
  go_ret
  exact ⟨zas (by unfold even; rw [if_neg C.out, E.out]), rfl⟩
end
section
open Go.RowKit
theorem zgH (a : Nat) (ha : a < 9223372036854775808) : (BitVec.ofInt 64 (a : Int)).toNat = a := by
 rw [BitVec.ofInt_natCast, BitVec.toNat_ofNat]; exact Nat.mod_eq_of_lt (by omega)
theorem zhO (a b : Nat) (ha : a < 9223372036854775808) (hb : b < 9223372036854775808) : bits .xor .i64 (a : Int) (b : Int) = ((a ^^^ b : Nat) : Int) := by
 have hx : a ^^^ b < 2 ^ 63 := Nat.xor_lt_two_pow (by omega) (by omega)
 show IntKind.i64.wrap ((BitVec.ofInt 64 (a : Int) ^^^ BitVec.ofInt 64 (b : Int)).toNat : Int) = _
 rw [BitVec.toNat_xor, zgH a ha, zgH b hb, IntKind.wrap_i64]
 omega
theorem zm5 (a : Nat) : a ^^^ 1 = if a % 2 = 0 then a + 1 else a - 1 := by
 have h1 : (a ^^^ 1) / 2 = a / 2 := by
  have := @Nat.xor_div_two a 1
  simpa using this
 have h2 := @Nat.xor_mod_two_eq_one a 1
 split
 ·have : (a ^^^ 1) % 2 = 1 := h2.2 (by omega)
  omega
 ·have : ¬ (a ^^^ 1) % 2 = 1 := fun h => by have := h2.1 h; omega
  omega
def xor1 (i : Int) : Int := if i % 2 = 0 then i + 1 else i - 1
theorem zeO {i : Int} (h : 0 ≤ i) (h' : i ≤ 1000) : bits .xor .i64 i 1 = xor1 i := by
 obtain ⟨a, rfl⟩ := Int.eq_ofNat_of_zero_le h
 have := zhO a 1 (by omega) (by omega)
 rw [show ((1 : Nat) : Int) = 1 from rfl] at this
 rw [this, zm5]; unfold xor1; split <;> split <;> omega
theorem zf1 {i n : Int} (h : 0 ≤ i) (h' : i < 2 * n) : 0 ≤ xor1 i ∧ xor1 i < 2 * n := by
 unfold xor1; split <;> omega
theorem zef (i j n : Int) (w : World) (hn : 0 ≤ n) (hn' : n ≤ 64) (hi : 0 ≤ i) (hi' : i ≤ 1000) (hj : 0 ≤ j) (hj' : j ≤ 1000) :
  Calls Tryz.prog 85 #[.agg #[i, j], n] w fun e w' => e = .returned (.int .i64 (2 * n * i + j)) ∧ Below w.heap.size w w' := by
 have h1 : 0 ≤ 2 * n * i := Int.mul_nonneg (by omega) hi
 have h2 : 2 * n * i ≤ 128 * 1000 := Int.mul_le_mul (by omega) hi' hi (by omega)
 go_enter Tryz.func85, Tryz.ntmps85
 go_wp2
 go_ret
 exact ⟨rfl, (Below.refl _ _).alloc (Nat.le_refl _) _⟩
theorem zcj (i j : Int) (w : World) (hi : 0 ≤ i) (hi' : i ≤ 1000) (hj : 0 ≤ j) (hj' : j ≤ 1000) :
  Calls Tryz.prog 116 #[.agg #[i, j]] w fun e w' => e = .returned (.agg #[.int .i64 (xor1 j), .int .i64 (xor1 i)]) ∧ Below w.heap.size w w' := by
 go_enter Tryz.func116, Tryz.ntmps116
 go_wp2
 refine bodyPost_ret (v := .agg #[.int .i64 (xor1 j), .int .i64 (xor1 i)]) ?_ rfl ⟨rfl, ?_⟩
 ·rw [zeO hi hi', zeO hj hj']; simp [results, Tryz.results116, go_sem]
 ·exact ((Below.refl _ _).alloc (Nat.le_refl _) _).alloc (by simp) _
theorem zbQ (n : Int) (w : World) :
  Calls Tryz.prog 119 #[n] w fun e w' => e = .returned (.bool (decide (0 ≤ n ∧ n ≤ 64))) ∧ w = w' := by
 go_enter Tryz.func119, Tryz.ntmps119
 go_wp2
 all_goals (go_ret; exact ⟨retb (by rw [Bool.eq_iff_iff]; simp [*]; try omega), rfl⟩)
end
section
theorem zaP {a a' : Act} {dst : Option Tmp} {v v' : Value} (h : a.put dst v' = a.put dst v) (hs : a'.tmps.size = a.tmps.size) : a'.put dst v' = a'.put dst v := by
 cases dst with
 | none => rfl
 | some d =>
  by_cases hd : d < a.tmps.size
  ·have h1 : (a.tmps.setIfInBounds d v')[d]? = (a.tmps.setIfInBounds d v)[d]? := by
    have := congrArg (fun x : Act => x.tmps[d]?) h
    exact this
   simp [Array.getElem?_setIfInBounds_self_of_lt hd] at h1
   rw [h1]
  ·simp only [Act.put]
   have : ∀ x, a'.tmps.setIfInBounds d x = a'.tmps := fun x => Array.setIfInBounds_eq_of_size_le (by rw [hs]; exact Nat.le_of_not_lt hd)
   rw [this, this]
theorem zcT (a : Act) (dst : Option Tmp) (v : Value) : (a.put dst v).tmps.size = a.tmps.size := by
 cases dst <;> simp [Act.put]
def zbN : Exit → Act → World → Prop := fun _ _ _ => False
def zdp (P : Program) (ops : Array Oper) (S : World → Prop) (o : Oper) (v : Value) (a : Act) : Prop :=
 (Region.wanted o (yielded ops a.tmps) = true ∧ ∀ w, S w → ∀ K : Act → World → Prop, (∀ a2 w2, a2 = a.put o.dst v → S w2 → K a2 w2) → o.wp P a w K zbN) ∨
 (Region.wanted o (yielded ops a.tmps) = false ∧ v = undef)
section
variable {P : Program} {ops : Array Oper} {Q : Exit → Act → World → Prop} {S : World → Prop} {md : Region.Mode}
theorem zdp.move {o : Oper} {v : Value} {a a' : Act} (h : zdp P ops S o v a) (he : execOp a'.eval o = execOp a.eval o)
  (hw : Region.wanted o (yielded ops a'.tmps) = Region.wanted o (yielded ops a.tmps)) (hs : a'.tmps.size = a.tmps.size) : zdp P ops S o v a' := by
 rcases h with ⟨b3, h⟩ | ⟨b3, hv⟩
 ·refine .inl ⟨hw.trans b3, fun w hS K hK => ?_⟩
  have h1 := h w hS (fun a2 w2 => a2 = a.put o.dst v ∧ S w2) (fun _ _ e k => ⟨e, k⟩)
  unfold Oper.wp at *
  rw [he]
  generalize (execOp a.eval o).run P w = r at *
  cases r with
  | ok n w' =>
   cases n <;> simp only [Oper.upon] at h1 ⊢
   case value u => exact hK _ _ (zaP h1.1 hs) h1.2
   case skip => exact hK _ _ (zaP h1.1 hs) h1.2
   case defer d =>
    have := congrArg (fun x : Act => x.defers.length) h1.1
    cases hd : o.dst <;> simp [Act.put, hd] at this
   case enter f args =>
    refine Calls.mono h1 fun e w'' he' => ?_
    cases e with
    | returned u => exact hK _ _ (zaP he'.1 hs) he'.2
    | panicked c => exact he'
    | outgrown => exact he'
   case row row args => exact Rows.mono h1 fun u w'' he' => hK _ _ (zaP he'.1 hs) he'.2
  | halt x w' =>
   cases x <;> simp only [Oper.upon] at h1 ⊢
   case panic u => exact h1
 ·exact .inr ⟨hw.trans b3, hv⟩
theorem zdp.putApart {o : Oper} {v : Value} {a : Act} (hso : ∀ cs b, o.op ≠ .select cs b) (h : zdp P ops S o v a) (dst : Option Tmp) (u : Value) (hd : ∀ d, dst = some d → d ∉ o.looksAt ops) :
  zdp P ops S o v (a.put dst u) :=
 h.move (execOp_put o hso a dst u hd) (wanted_put o a dst u hd) (zcT _ _ _)
theorem zdp.unputApart {o : Oper} {v : Value} {a : Act} (hso : ∀ cs b, o.op ≠ .select cs b) (dst : Option Tmp) (u : Value) (h : zdp P ops S o v (a.put dst u)) (hd : ∀ d, dst = some d → d ∉ o.looksAt ops) :
  zdp P ops S o v a :=
 h.move (execOp_put o hso a dst u hd).symm (wanted_put o a dst u hd).symm (zcT _ _ _).symm
theorem zdp.wpOp {i : Nat} {o : Oper} {v : Value} {a : Act} (hi : ops[i]? = some o) (h : zdp P ops S o v a) {K : Act → World → Prop} {w : World} (hS : S w)
  (hK : ∀ w2, S w2 → K (a.put o.dst v) w2) (hQ : ∀ e a w, zbN e a w → Q e a w) : Go.wpOp P ops Q i K a w := by
 unfold Go.wpOp
 simp only [hi]
 rcases h with ⟨hw, h⟩ | ⟨hw, rfl⟩
 ·simp only [hw, if_true]
  refine .inl ?_
  have h1 := h w hS K (fun a2 w2 e k => e ▸ hK w2 k)
  unfold Oper.wp at *
  generalize (execOp a.eval o).run P w = r at *
  cases r with
  | ok n w' =>
   cases n <;> simp only [Oper.upon] at h1 ⊢ <;> try exact h1
   case enter f args =>
    refine Calls.mono h1 fun e w'' he' => ?_
    cases e with
    | returned u => exact he'
    | panicked c => exact hQ _ _ _ he'
    | outgrown => exact he'.elim (fun _ h => h.elim (fun _ h => h.elim))
  | halt x w' =>
   cases x <;> simp only [Oper.upon] at h1 ⊢
   case panic u => exact hQ _ _ _ h1
 ·simp only [hw, Bool.false_eq_true, if_false]; exact hK w hS
def zaz (m : Nat) (listed : Array Bool) : Prop := ∀ i, i < m → listed.getD i false = true
def AnyS (P : Program) (md : Region.Mode) (ops : Array Oper) (Q : Exit → Act → World → Prop) (S : World → Prop) (m : Nat) : Nat → Array Bool → Act → Prop
 | 0, listed, a => zaz m listed ∧ ∀ w, S w → wpAny P md ops Q 0 listed a w
 | fuel + 1, listed, a => (zaz m listed ∧ ∀ w, S w → wpAny P md ops Q (fuel + 1) listed a w) ∨
  (Region.ready md ops listed ≠ [] ∧ ∀ i ∈ Region.ready md ops listed, i < m ∧ ∃ o v, ops[i]? = some o ∧ zdp P ops S o v a ∧ AnyS P md ops Q S m fuel (listed.setIfInBounds i true) (a.put o.dst v))
theorem AnyS.wpAny (hQ : ∀ e a w, zbN e a w → Q e a w) {m : Nat} : ∀ (fuel : Nat) (listed : Array Bool) (a : Act), AnyS P md ops Q S m fuel listed a → ∀ w, S w → Go.wpAny P md ops Q fuel listed a w
 | 0, _, _, h, w, hS => h.2 w hS
 | fuel + 1, listed, a, h, w, hS => by
  rcases h with ⟨_, h⟩ | ⟨hne, h⟩
  ·exact h w hS
  ·refine ⟨fun h0 => absurd h0 hne, fun i hi => ?_⟩
   obtain ⟨_, o, v, ho, a4, a1⟩ := h i hi
   exact a4.wpOp ho hS (fun w2 hS2 => AnyS.wpAny hQ fuel _ _ a1 w2 hS2) hQ
def zay (md : Region.Mode) (ops : Array Oper) (listed : Array Bool) : Prop :=
 ∀ (k : Nat) (o : Oper), ops[k]? = some o → listed.getD k false = true → ∀ e ∈ o.after, Region.binds md e = true → listed.getD e.on false = true
theorem zay.set {listed : Array Bool} {i : Nat} (h : zay md ops listed) (hi : i ∈ Region.ready md ops listed) : zay md ops (listed.setIfInBounds i true) := by
 intro k o ho hk e he hb
 by_cases b1 : i = k
 ·subst b1
  obtain ⟨_, o', a8, a0⟩ := mem_ready.1 hi
  rw [ho] at a8; injection a8 with a8; subst a8
  exact getD_set_true (a0 e he hb)
 ·rw [getD_set_ne false b1] at hk
  exact getD_set_true (h k o ho hk e he hb)
def zbh (md : Region.Mode) (ops : Array Oper) (i : Nat) : Nat → Nat → Bool
 | 0, _ => false
 | n + 1, k => match ops[k]? with
  | none => false
  | some o => o.after.any fun e => Region.binds md e && (e.on == i || zbh md ops i n e.on)
theorem zaJ {i : Nat} {listed : Array Bool} (hc : zay md ops listed) : ∀ (n k : Nat), zbh md ops i n k = true →
  (∀ o, ops[k]? = some o → ∀ e ∈ o.after, Region.binds md e = true → listed.getD e.on false = true) → listed.getD i false = true
 | 0, _, h, _ => by simp [zbh] at h
 | n + 1, k, h, a0 => by
  unfold zbh at h
  cases ho : ops[k]? with
  | none => simp [ho] at h
  | some o =>
   simp only [ho] at h
   obtain ⟨e, he, hb⟩ := Array.any_eq_true'.1 h
   simp only [Bool.and_eq_true, Bool.or_eq_true, beq_iff_eq] at hb
   have hl := a0 o ho e he hb.1
   rcases hb.2 with rfl | hr
   ·exact hl
   ·exact zaJ hc n e.on hr (fun o' a8 e' he' hb' => hc e.on o' a8 hl e' he' hb')
def zco (md : Region.Mode) (ops : Array Oper) (m : Nat) : Bool :=
 (List.range ops.size).all fun k => decide (k < m) || (List.range m).all fun i => zbh md ops i ops.size k
def zlQ (md : Region.Mode) (ops : Array Oper) (m : Nat) : Prop :=
 ∀ k i, m ≤ k → k < ops.size → i < m → ∀ listed, zay md ops listed → (∀ o, ops[k]? = some o → ∀ e ∈ o.after, Region.binds md e = true → listed.getD e.on false = true) → listed.getD i false = true
theorem zm9 {m : Nat} (htail : zco md ops m = true) : zlQ md ops m := fun k i hmk hk hi listed hc a0 => by
 have h1 := List.all_eq_true.1 htail k (List.mem_range.2 hk)
 simp only [Bool.or_eq_true, decide_eq_true_eq] at h1
 have h2 := List.all_eq_true.1 (h1.resolve_left (by omega)) i (List.mem_range.2 hi)
 exact zaJ hc _ _ h2 a0
def zm4 (md : Region.Mode) (ops : Array Oper) (k : Nat) : List Nat := match ops[k]? with
 | none => []
 | some o => (o.after.toList.filter (fun e => Region.binds md e)).map (·.on)
def zgR (md : Region.Mode) (ops : Array Oper) : Nat → List Nat → Nat → Nat
 | 0, _, S => S
 | _ + 1, [], S => S
 | n + 1, k :: st, S => bif S.testBit k then zgR md ops n st S else zgR md ops n (zm4 md ops k ++ st) (S ||| 2 ^ k)
theorem zdj {listed : Array Bool} (hc : zay md ops listed) : ∀ (n : Nat) (st : List Nat) (S : Nat), (∀ j ∈ st, listed.getD j false = true) → (∀ i, S.testBit i = true → listed.getD i false = true) →
  ∀ i, (zgR md ops n st S).testBit i = true → listed.getD i false = true
 | 0, _, S, _, hS, i, h => hS i h
 | _ + 1, [], S, _, hS, i, h => hS i h
 | n + 1, k :: st, S, a4, hS, i, h => by
  unfold zgR at h
  cases hb : S.testBit k
  ·rw [hb] at h
   refine zdj hc n _ _ ?_ ?_ i h
   ·intro j hj
    rcases List.mem_append.1 hj with hj | hj
    ·unfold zm4 at hj
     cases ho : ops[k]? with
     | none => simp [ho] at hj
     | some o =>
      simp only [ho, List.mem_map, List.mem_filter] at hj
      obtain ⟨e, ⟨he, b6⟩, rfl⟩ := hj
      exact hc k o ho (a4 k (by simp)) e (by simpa using he) b6
    ·exact a4 j (by simp [hj])
   ·intro j hj
    rw [Nat.testBit_or, Bool.or_eq_true] at hj
    rcases hj with hj | hj
    ·exact hS j hj
    ·rw [Nat.testBit_two_pow, decide_eq_true_eq] at hj
     subst hj
     exact a4 _ (by simp)
  ·rw [hb] at h
   exact zdj hc n _ _ (fun j hj => a4 j (by simp [hj])) hS i h
def zkt (md : Region.Mode) (ops : Array Oper) (m : Nat) : Bool :=
 (List.range (ops.size - m)).all fun d => (zgR md ops 4000 (zm4 md ops (m + d)) 0) &&& (2 ^ m - 1) == 2 ^ m - 1
theorem zjP {m : Nat} (htail : zkt md ops m = true) : zlQ md ops m := fun k i hmk hk hi listed hc a0 => by
 have h1 := List.all_eq_true.1 htail (k - m) (List.mem_range.2 (by omega))
 rw [show m + (k - m) = k by omega, beq_iff_eq] at h1
 have h2 := congrArg (fun x => x.testBit i) h1
 simp only [Nat.testBit_and, Nat.testBit_two_pow_sub_one, hi, decide_true, Bool.and_true] at h2
 refine zdj hc 4000 _ _ ?_ (fun i h => by simp at h) i h2
 intro j hj
 unfold zm4 at hj
 cases ho : ops[k]? with
 | none => simp [ho] at hj
 | some o =>
  simp only [ho, List.mem_map, List.mem_filter] at hj
  obtain ⟨e, ⟨he, b6⟩, rfl⟩ := hj
  exact a0 o ho e (by simpa using he) b6
theorem AnyS.first (hsel : ∀ (j : Nat) (o : Oper) cs b, ops[j]? = some o → o.op ≠ .select cs b) {m : Nat} (htail : zlQ md ops m) {i : Nat} {oi : Oper} {v : Value} (hi : ops[i]? = some oi) (him : i < m) :
  ∀ (fuel : Nat) (listed : Array Bool) (a : Act), zay md ops listed →
   (∀ j oj, ops[j]? = some oj → j ≠ i → listed.getD j true = false → (∀ e ∈ oj.after, Region.binds md e = true → e.on ≠ i) → oi.apart ops oj = true) →
   i ∈ Region.ready md ops listed → zdp P ops S oi v a →
   AnyS P md ops Q S m fuel (listed.setIfInBounds i true) (a.put oi.dst v) → AnyS P md ops Q S m (fuel + 1) listed a := by
 intro fuel
 induction fuel with
 | zero =>
  intro listed a hc a3 hr hy H
  refine .inr ⟨fun h => (by rw [h] at hr; cases hr), fun j hj => ?_⟩
  by_cases hji : j = i
  ·subst hji; exact ⟨him, oi, v, hi, hy, H⟩
  ·exfalso
   have b0 : j < m := by
    rcases Nat.lt_or_ge j m with h | h
    ·exact h
    ·exfalso
     obtain ⟨_, oj, a5, a0⟩ := mem_ready.1 hj
     have b5 : j < ops.size := (Array.getElem?_eq_some_iff.1 a5).1
     have h3 := htail j i h b5 him listed hc (fun o ho e he hb => by rw [a5] at ho; injection ho with ho; subst ho; exact a0 e he hb)
     have h4 := (mem_ready.1 hr).1
     rcases Nat.lt_or_ge i listed.size with h' | h'
     ·simp [h'] at h3 h4; rw [h4] at h3; cases h3
     ·simp [Array.getElem?_eq_none h'] at h3
   have h1 := H.1 j b0
   rw [getD_set_ne false (Ne.symm hji)] at h1
   have h4 := (mem_ready.1 hj).1
   rcases Nat.lt_or_ge j listed.size with h' | h'
   ·simp [h'] at h1 h4; rw [h4] at h1; cases h1
   ·simp [Array.getElem?_eq_none h'] at h1
 | succ fuel ih =>
  intro listed a hc a3 hr hy H
  refine .inr ⟨fun h => (by rw [h] at hr; cases hr), fun j hj => ?_⟩
  by_cases hji : j = i
  ·subst hji; exact ⟨him, oi, v, hi, hy, H⟩
  ·have b0 : j < m := by
    rcases Nat.lt_or_ge j m with h | h
    ·exact h
    ·exfalso
     obtain ⟨_, oj, a5, a0⟩ := mem_ready.1 hj
     have b5 : j < ops.size := (Array.getElem?_eq_some_iff.1 a5).1
     have h3 := htail j i h b5 him listed hc (fun o ho e he hb => by rw [a5] at ho; injection ho with ho; subst ho; exact a0 e he hb)
     have h4 := (mem_ready.1 hr).1
     rcases Nat.lt_or_ge i listed.size with h' | h'
     ·simp [h'] at h3 h4; rw [h4] at h3; cases h3
     ·simp [Array.getElem?_eq_none h'] at h3
   rcases H with ⟨hd, _⟩ | ⟨_, H⟩
   ·exfalso
    have h1 := hd j b0
    rw [getD_set_ne false (Ne.symm hji)] at h1
    have h4 := (mem_ready.1 hj).1
    rcases Nat.lt_or_ge j listed.size with h' | h'
    ·simp [h'] at h1 h4; rw [h4] at h1; cases h1
    ·simp [Array.getElem?_eq_none h'] at h1
   ·obtain ⟨_, oj, u, a5, a4, a1⟩ := H j (ready_mono hj hji)
    obtain ⟨a9, oj', a6, a0⟩ := mem_ready.1 hj
    rw [a5] at a6; injection a6 with a6; subst a6
    have b4 : ∀ e ∈ oj.after, Region.binds md e = true → e.on ≠ i := fun e he hb heq => by
     have h1 := a0 e he hb
     have h0 := (mem_ready.1 hr).1
     rw [heq] at h1
     rcases Nat.lt_or_ge i listed.size with h' | h'
     ·simp [h'] at h0 h1; rw [h0] at h1; cases h1
     ·simp [Array.getElem?_eq_none h'] at h1
    obtain ⟨h1, h2, h3⟩ := Oper.apart_spec (a3 j oj a5 hji a9 b4)
    refine ⟨b0, oj, u, a5, a4.unputApart (hsel j oj · · a5) _ _ h1, ih _ _ (hc.set hj) ?_ (ready_mono hr (Ne.symm hji)) (hy.putApart (hsel i oi · · hi) _ _ h3) ?_⟩
    ·intro k ok hk b1 hun hno
     refine a3 k ok hk b1 ?_ hno
     by_cases hjk : j = k
     ·subst hjk; exact a9
     ·rw [getD_set_ne true hjk] at hun; exact hun
    ·rw [Array.setIfInBounds_comm _ _ hji, ← Act.put_comm a v u h2]
     exact a1
def pre (n k : Nat) : Array Bool := (List.replicate k true ++ List.replicate (n - k) false).toArray
def zcB (ops : Array Oper) (m : Nat) : Bool :=
 Region.noSelect ops && decide (m ≤ ops.size) && zco .any ops m &&
 ((List.range m).all fun i => (Region.ready .any ops (pre ops.size i)).contains i && Region.free .any ops (pre ops.size i) i) &&
 ((List.range (ops.size - m)).all fun i => Region.ready .any ops (pre ops.size (m + i)) == [m + i]) && (Region.ready .any ops (pre ops.size ops.size) == [])
def zkj (ops : Array Oper) (m : Nat) : Bool :=
 Region.noSelect ops && decide (m ≤ ops.size) && zkt .any ops m &&
 ((List.range m).all fun i => (Region.ready .any ops (pre ops.size i)).contains i && Region.free .any ops (pre ops.size i) i) &&
 ((List.range (ops.size - m)).all fun i => Region.ready .any ops (pre ops.size (m + i)) == [m + i]) && (Region.ready .any ops (pre ops.size ops.size) == [])
def Flow (P : Program) (ops : Array Oper) (Q : Exit → Act → World → Prop) (S : World → Prop) : Nat → List Oper → Act → Prop
 | 0, l, a => ∀ w, S w → wpList P ops Q l a w
 | _ + 1, [], a => ∀ w, S w → Q .normal a w
 | m + 1, o :: rest, a => ∃ v, zdp P ops S o v a ∧ Flow P ops Q S m rest (a.put o.dst v)
theorem zaQ (n k : Nat) (h : k ≤ n) : (pre n k).size = n := by simp [pre]; omega
theorem zau (n k i : Nat) (d : Bool) (h : k ≤ n) (hi : i < n) : (pre n k).getD i d = decide (i < k) := by
 rw [Array.getD_eq_getD_getElem?]
 simp only [pre, List.getElem?_toArray]
 by_cases hk : i < k
 ·rw [List.getElem?_append_left (by simpa using hk)]; simp [hk]
 ·rw [List.getElem?_append_right (by simp; omega), List.getElem?_replicate]
  have : i - (List.replicate k true).length < n - k := by simp; omega
  rw [if_pos this]; simp [hk]
theorem zbt (n k : Nat) (h : k < n) : (pre n k).setIfInBounds k true = pre n (k + 1) := by
 apply Array.ext
 ·simp [pre]; omega
 ·intro i h1 h2
  have e1 := zau n (k + 1) i false (by omega) (by rw [zaQ _ _ (by omega)] at h2; exact h2)
  rw [Array.getD, dif_pos h2] at e1
  change (pre n (k + 1))[i] = _ at e1
  rw [e1, Array.getElem_setIfInBounds (by rw [zaQ _ _ (by omega)]; rw [zaQ _ _ (by omega)] at h2; exact h2)]
  split
  ·subst_vars; simp
  ·have h3 : i < (pre n k).size := by rw [zaQ _ _ (by omega)]; rw [zaQ _ _ (by omega)] at h2; exact h2
   have e2 := zau n k i false (by omega) (by rw [zaQ _ _ (by omega)] at h3; exact h3)
   rw [Array.getD, dif_pos h3] at e2
   change (pre n k)[i] = _ at e2
   rw [e2, decide_eq_decide]; omega
theorem zbw {m : Nat} (hf : ∀ i, i < ops.size → m ≤ i → Region.ready .any ops (pre ops.size i) = [i]) (hend : Region.ready .any ops (pre ops.size ops.size) = []) :
  ∀ (n k : Nat) (l : List Oper), m ≤ k → k + n = ops.size → (∀ j, l[j]? = ops[k + j]?) → ∀ (a : Act) (w : World), wpList P ops Q l a w → Go.wpAny P .any ops Q n (pre ops.size k) a w
 | 0, k, l, _, hn, hl, a, w, h => by
  have hk : k = ops.size := by omega
  subst hk
  have : l = [] := by
   cases l with
   | nil => rfl
   | cons o l => have := hl 0; simp at this
  subst this
  exact ⟨hend, h⟩
 | n + 1, k, l, hmk, hn, hl, a, w, h => by
  have a7 : k < ops.size := by omega
  have hr := hf k a7 hmk
  cases l with
  | nil => have := hl 0; simp [Array.getElem?_eq_getElem a7] at this
  | cons o l =>
   have ho : ops[k]? = some o := by simpa using (hl 0).symm
   have b2 : ∀ j, l[j]? = ops[k + 1 + j]? := fun j => by have := hl (j + 1); simpa [Nat.add_assoc, Nat.add_comm 1 j] using this
   refine ⟨fun h0 => (by rw [hr] at h0; cases h0), fun i hi => ?_⟩
   rw [hr] at hi
   have hik : i = k := by simpa using hi
   subst hik
   rw [zbt _ _ a7]
   unfold wpList at h
   unfold Go.wpOp
   simp only [ho]
   split
   ·rename_i hw
    rw [if_pos hw] at h
    exact h.imp (Oper.wp_mono (fun a w => zbw hf hend n (i + 1) l (by omega) (by omega) b2 a w)) id
   ·rename_i hw
    rw [if_neg hw] at h
    exact zbw hf hend n (i + 1) l (by omega) (by omega) b2 _ _ h
theorem Flow.anyS {m0 : Nat} (hsel : ∀ (j : Nat) (o : Oper) cs b, ops[j]? = some o → o.op ≠ .select cs b) (htail : zlQ .any ops m0) (hm0 : m0 ≤ ops.size)
  (hr : ∀ i, i < m0 → i ∈ Region.ready .any ops (pre ops.size i)) (hfr : ∀ i, i < m0 → Region.free .any ops (pre ops.size i) i = true)
  (hf : ∀ i, i < ops.size → m0 ≤ i → Region.ready .any ops (pre ops.size i) = [i]) (hend : Region.ready .any ops (pre ops.size ops.size) = []) :
  ∀ (m k : Nat) (l : List Oper), k + m = m0 → zay .any ops (pre ops.size k) → (∀ j, l[j]? = ops[k + j]?) → ∀ (a : Act), Flow P ops Q S m l a → AnyS P .any ops Q S m0 (ops.size - k) (pre ops.size k) a
 | 0, k, l, hk, _, hl, a, h => by
  have hk' : k = m0 := by omega
  subst hk'
  have he : zaz k (pre ops.size k) := fun i hi => by rw [zau _ _ _ _ (by omega) (by omega)]; simpa using hi
  have h1 : ∀ w, S w → Go.wpAny P .any ops Q (ops.size - k) (pre ops.size k) a w := fun w hS => zbw hf hend _ _ l (Nat.le_refl _) (by omega) hl a w (h w hS)
  generalize hn : ops.size - k = n at h1
  cases n with
  | zero => exact ⟨he, h1⟩
  | succ n => exact .inl ⟨he, h1⟩
 | m + 1, k, l, hk, hc, hl, a, h => by
  have a7 : k < ops.size := by omega
  cases l with
  | nil => have := hl 0; simp [Array.getElem?_eq_getElem a7] at this
  | cons o l =>
   have ho : ops[k]? = some o := by simpa using (hl 0).symm
   have b2 : ∀ j, l[j]? = ops[k + 1 + j]? := fun j => by have := hl (j + 1); simpa [Nat.add_assoc, Nat.add_comm 1 j] using this
   obtain ⟨v, a4, a1⟩ := h
   have hn : ops.size - k = (ops.size - (k + 1)) + 1 := by omega
   rw [hn]
   refine AnyS.first hsel htail ho (by omega) _ _ _ hc (Region.free_spec ho (hfr k (by omega))) (hr k (by omega)) a4 ?_
   rw [zbt _ _ a7]
   refine Flow.anyS hsel htail hm0 hr hfr hf hend m (k + 1) l (by omega) ?_ b2 _ a1
   rw [← zbt _ _ a7]
   exact hc.set (hr k (by omega))
theorem zab {id : Nat} {l : List Oper} {a : Act} {w : World} (m : Nat) (S : World → Prop) (hm : P.follows .mixedOrders = true) (hc : zcB l.toArray m = true) (hS : S w.drew)
  (h : Flow P l.toArray Q S m l a) : (Code.region id l.toArray true).wp P Q a w := by
 simp only [zcB, Bool.and_eq_true, decide_eq_true_eq, beq_iff_eq, List.all_eq_true, List.mem_range] at hc
 obtain ⟨⟨⟨⟨⟨c1, c2⟩, c3⟩, c4⟩, c5⟩, c6⟩ := hc
 have hQ : ∀ e a w, zbN e a w → Q e a w := fun _ _ _ h => (h : False).elim
 refine wp_region_any hm ?_
 have hp : Array.replicate l.toArray.size false = pre l.toArray.size 0 := by simp [pre, ← List.toArray_replicate]
 rw [hp]
 have hr : ∀ i, i < m → i ∈ Region.ready .any l.toArray (pre l.toArray.size i) := fun i hi => by simpa using (c4 i hi).1
 refine AnyS.wpAny hQ _ _ _ (Flow.anyS (m0 := m) (k := 0) (Region.noSelect_spec c1) (zm9 c3) c2 hr (fun i hi => (c4 i hi).2) ?_ c6 m l (by omega) ?_ (by simp) a h) w.drew hS
 ·intro i hi hmi
  have := c5 (i - m) (by omega)
  rwa [show m + (i - m) = i by omega] at this
 ·intro k o _ hk
  exfalso
  rcases Nat.lt_or_ge k l.toArray.size with h' | h'
  ·rw [zau _ _ _ _ (by omega) h'] at hk; simp at hk
  ·rw [Array.getD, dif_neg (by rw [zaQ _ _ (by omega)]; omega)] at hk; cases hk
theorem zbu {id : Nat} {l : List Oper} {a : Act} {w : World} (m : Nat) (S : World → Prop) (hm : P.follows .mixedOrders = true) (hc : zkj l.toArray m = true) (hS : S w.drew)
  (h : Flow P l.toArray Q S m l a) : (Code.region id l.toArray true).wp P Q a w := by
 simp only [zkj, Bool.and_eq_true, decide_eq_true_eq, beq_iff_eq, List.all_eq_true, List.mem_range] at hc
 obtain ⟨⟨⟨⟨⟨c1, c2⟩, c3⟩, c4⟩, c5⟩, c6⟩ := hc
 have hQ : ∀ e a w, zbN e a w → Q e a w := fun _ _ _ h => (h : False).elim
 refine wp_region_any hm ?_
 have hp : Array.replicate l.toArray.size false = pre l.toArray.size 0 := by simp [pre, ← List.toArray_replicate]
 rw [hp]
 have hr : ∀ i, i < m → i ∈ Region.ready .any l.toArray (pre l.toArray.size i) := fun i hi => by simpa using (c4 i hi).1
 refine AnyS.wpAny hQ _ _ _ (Flow.anyS (m0 := m) (k := 0) (Region.noSelect_spec c1) (zjP c3) c2 hr (fun i hi => (c4 i hi).2) ?_ c6 m l (by omega) ?_ (by simp) a h) w.drew hS
 ·intro i hi hmi
  have := c5 (i - m) (by omega)
  rwa [show m + (i - m) = i by omega] at this
 ·intro k o _ hk
  exfalso
  rcases Nat.lt_or_ge k l.toArray.size with h' | h'
  ·rw [zau _ _ _ _ (by omega) h'] at hk; simp at hk
  ·rw [Array.getD, dif_neg (by rw [zaQ _ _ (by omega)]; omega)] at hk; cases hk
def Yl (R : Value → Prop) (w : World) : Result Next → Prop
 | .ok (.value x) w' => w = w' ∧ R x
 | _ => False
@[go_sem] theorem Yl_ok (R : Value → Prop) (w : World) (x : Value) : Yl R w (.ok (.value x) w) = R x := by simp [Yl]
theorem Flow.quiet {m : Nat} {o : Oper} {rest : List Oper} {a : Act} (v : Value) (hw : Region.wanted o (yielded ops a.tmps) = true) (h : ∀ w, S w → (execOp a.eval o).run P w = .ok (.value v) w) (hr : Flow P ops Q S m rest (a.put o.dst v)) :
  Flow P ops Q S (m + 1) (o :: rest) a :=
 ⟨v, .inl ⟨hw, fun w hS K hK => by unfold Oper.wp; rw [h w hS]; exact hK _ _ rfl hS⟩, hr⟩
theorem Flow.take {m : Nat} {o : Oper} {rest : List Oper} {a : Act} (v : Value) (hw : Region.wanted o (yielded ops a.tmps) = true) (h : ∀ w, S w → ∀ R : Value → Prop, R v → Yl R w ((execOp a.eval o).run P w)) (hr : Flow P ops Q S m rest (a.put o.dst v)) :
  Flow P ops Q S (m + 1) (o :: rest) a :=
 Flow.quiet v hw (fun w hS => by
  have h1 := h w hS (fun x => x = v) rfl
  generalize (execOp a.eval o).run P w = r at *
  cases r with
  | ok n w' =>
   cases n with
   | value x => obtain ⟨e1, e2⟩ := h1; subst e1; subst e2; rfl
   | _ => exact h1.elim
  | halt x w' => exact h1.elim) hr
theorem Flow.skip {m : Nat} {o : Oper} {rest : List Oper} {a : Act} (hw : Region.wanted o (yielded ops a.tmps) = false) (hr : Flow P ops Q S m rest (a.put o.dst undef)) :
  Flow P ops Q S (m + 1) (o :: rest) a :=
 ⟨undef, .inr ⟨hw, rfl⟩, hr⟩
theorem Flow.call {m : Nat} {o : Oper} {rest : List Oper} {a : Act} (f : FuncId) (args : Array Value) (v : Value) (hw : Region.wanted o (yielded ops a.tmps) = true)
  (he : ∀ w, S w → (execOp a.eval o).run P w = .ok (.enter f args) w) (h : ∀ w, S w → Calls P f args w fun e w2 => e = .returned v ∧ S w2) (hr : Flow P ops Q S m rest (a.put o.dst v)) :
  Flow P ops Q S (m + 1) (o :: rest) a :=
 ⟨v, .inl ⟨hw, fun w hS K hK => by
  unfold Oper.wp; rw [he w hS]
  exact (h w hS).mono fun e w2 ⟨he, h2⟩ => by subst he; exact hK _ _ rfl h2⟩, hr⟩
end
section
variable {P : Program} {ops : Array Oper} {Q : Exit → Act → World → Prop} {S : World → Prop} {m : Nat} {o : Oper} {rest : List Oper} {a a2 : Act}
theorem fl_t {v : Value} (hr : Flow P ops Q S m rest a2) (hw : Region.wanted o (yielded ops a.tmps) = true := by rfl)
  (h : ∀ w, S w → ∀ R : Value → Prop, R v → Yl R w ((execOp a.eval o).run P w) := by
   intro W hW R hR
   go_simp
   (try go_bits)
   with_reducible exact hR) (e : a.put o.dst v = a2 := by
   simp only [Act.put, List.setIfInBounds_toArray, List.set_cons_zero, List.set_cons_succ]
   exact rfl) : Flow P ops Q S (m + 1) (o :: rest) a := by subst e; exact Flow.take v hw h hr
theorem fl_s (hr : Flow P ops Q S m rest a2) (hw : Region.wanted o (yielded ops a.tmps) = false := by rfl) (e : a.put o.dst undef = a2 := by
   simp only [Act.put, List.setIfInBounds_toArray, List.set_cons_zero, List.set_cons_succ]
   exact rfl) : Flow P ops Q S (m + 1) (o :: rest) a := by subst e; exact Flow.skip hw hr
theorem fl_a {m' : Nat} {l l' : List Oper} {a a' : Act} (hr : Flow P ops Q S m' l' a') (h : Flow P ops Q S m' l' a' → Flow P ops Q S m l a := by
   intro h
   repeat (first | refine fl_s ?_ | refine fl_t ?_)
   exact h) : Flow P ops Q S m l a := h hr
theorem fl_c (f : FuncId) (args : Array Value) (v : Value) (h : ∀ w, S w → Calls P f args w fun e w2 => e = .returned v ∧ S w2) (hr : Flow P ops Q S m rest a2) (hw : Region.wanted o (yielded ops a.tmps) = true := by rfl)
  (he : ∀ w, S w → (execOp a.eval o).run P w = .ok (.enter f args) w := by
   intro X hX
   go_simp) (e : a.put o.dst v = a2 := by
   simp only [Act.put, List.setIfInBounds_toArray, List.set_cons_zero, List.set_cons_succ]
   exact rfl) : Flow P ops Q S (m + 1) (o :: rest) a := by subst e; exact Flow.call f args v hw he h hr
end
end
end Go.Proofs.YtnmpgijiimglcaaGreat
