import Derived.Test.YtnmpgijiimglcaaGreatBSt23
import Derived.Shelf.Bits.Mul64
import Derived.Test.YtnmpgijiimglcaaGreatBSt21
namespace Go.Proofs.YtnmpgijiimglcaaGreat
section
set_option maxRecDepth 100000
set_option maxHeartbeats 8000000
open Go.RowKit Go.Lib Go.Proofs
attribute [local go_sem ↓] Go.wp_at_zero Go.wp_at_succ
theorem mul64_ok (x y : Nat) (hx : x < 18446744073709551616) (hy : y < 18446744073709551616) (w : World) :
  Calls Tryz.prog 181 #[.int .u64 x, .int .u64 y] w fun e w' => e = .returned (.tuple #[.int .u64 ((x * y / 18446744073709551616 : Nat) : Int), .int .u64 ((x * y % 18446744073709551616 : Nat) : Int)]) ∧ w' = w := by
 obtain ⟨bd, bt, bw, hhi⟩ := Lib.mul64_hi x y hx hy
 have ba := Lib.half_mul_le (a := x / 4294967296) (b := y / 4294967296) (by omega) (by omega)
 have bb := Lib.half_mul_le (a := x / 4294967296) (b := y % 4294967296) (by omega) (by omega)
 have bc := Lib.half_mul_le (a := x % 4294967296) (b := y / 4294967296) (by omega) (by omega)
 have ba' : x / 4294967296 * (y / 4294967296) < 18446744073709551616 := by omega
 have bb' : x / 4294967296 * (y % 4294967296) < 18446744073709551616 := by omega
 have bc' : x % 4294967296 * (y / 4294967296) < 18446744073709551616 := by omega
 have bh1 : x / 4294967296 * (y / 4294967296) + (x / 4294967296 * (y % 4294967296) + x % 4294967296 * (y % 4294967296) / 4294967296) / 4294967296 < 18446744073709551616 := by omega
 have bh : x / 4294967296 * (y / 4294967296) + (x / 4294967296 * (y % 4294967296) + x % 4294967296 * (y % 4294967296) / 4294967296) / 4294967296 + ((x / 4294967296 * (y % 4294967296) + x % 4294967296 * (y % 4294967296) / 4294967296) % 4294967296 + x % 4294967296 * (y / 4294967296)) / 4294967296 < 18446744073709551616 := by omega
 go_enter Tryz.func181, Tryz.ntmps181
 go_wp2
 simp only [Mul64.maskN x hx, Mul64.maskN y hy, Mul64.divN, Mul64.mulN, Mul64.addN, Mul64.wrapN _ bd, Mul64.wrapN _ bb', Mul64.wrapN _ bt, Mul64.maskN _ bt, Mul64.wrapN _ bc', Mul64.wrapN _ bw, Mul64.wrapN _ ba', Mul64.wrapN _ bh1, Mul64.wrapN _ bh, Mul64.wrapM (x * y)]
 rw [hhi]
 go_ret2
 exact ⟨rfl, rfl⟩
theorem size_abs (a : Int) : (if a < 0 then -a else a) = ((a.natAbs : Nat) : Int) := by split <;> omega
theorem times_fits (a b : Int) : (mulW a b).2 = 0 ↔ a.natAbs * b.natAbs ≤ (if decide (a < 0) != decide (b < 0) then 9223372036854775808 else 9223372036854775807) := by
 have e : ((a.natAbs * b.natAbs : Nat) : Int) = if decide (a < 0) != decide (b < 0) then -(a * b) else a * b := by
  rw [Int.natCast_mul]
  by_cases ha : a < 0 <;> by_cases hb : b < 0
  ·rw [show (a.natAbs : Int) = -a by omega, show (b.natAbs : Int) = -b by omega]; simp [ha, hb]; exact Int.neg_mul_neg a b
  ·rw [show (a.natAbs : Int) = -a by omega, show (b.natAbs : Int) = b by omega]; simp [ha, hb]; exact Int.neg_mul a b
  ·rw [show (a.natAbs : Int) = a by omega, show (b.natAbs : Int) = -b by omega]; simp [ha, hb]; exact Int.mul_neg a b
  ·rw [show (a.natAbs : Int) = a by omega, show (b.natAbs : Int) = b by omega]; simp [ha, hb]
 unfold mulW
 have hf : (fit (a * b)).2 = 0 ↔ (-9223372036854775808 ≤ a * b ∧ a * b ≤ 9223372036854775807) := by
  by_cases h : -9223372036854775808 ≤ a * b ∧ a * b ≤ 9223372036854775807
  ·rw [fit_in h]; simp [h]
  ·rw [fit_out (by omega)]; simp [h]
 rw [hf]
 cases hs : (decide (a < 0) != decide (b < 0))
 ·rw [hs] at e; simp only [Bool.false_eq_true, if_false] at e ⊢; omega
 ·rw [hs] at e; simp only [if_true] at e ⊢; omega
theorem stimes_ok (a b : Int) (ia : I64 a) (ib : I64 b) (w : World) : Calls Tryz.prog 103 #[a, b] w fun e w' => e = .returned (.bool (decide ((mulW a b).2 = 0))) ∧ w' = w := by
 have HF := hid (times_fits a b)
 have S1 := hid (fun W => ssize_ok a ia W)
 have S2 := hid (fun W => ssize_ok b ib W)
 rw [size_abs] at S1 S2
 have hA : a.natAbs < 18446744073709551616 := by unfold I64 at ia; omega
 have hB : b.natAbs < 18446744073709551616 := by unfold I64 at ib; omega
 have S3 := hid (fun W => mul64_ok a.natAbs b.natAbs hA hB W)
 clear ia ib hA hB
 generalize a.natAbs = A at *
 generalize b.natAbs = B at *
 obtain ⟨R, hR⟩ : ∃ R, R = decide ((mulW a b).2 = 0) := ⟨_, rfl⟩
 rw [← hR]
 have HR := hid hR
 clear hR
 obtain ⟨M, hM⟩ : ∃ M, M = A * B := ⟨_, rfl⟩
 rw [← hM] at S3 HF
 clear hM
 obtain ⟨h, hh⟩ : ∃ h, h = M / 18446744073709551616 := ⟨_, rfl⟩
 obtain ⟨l, hl⟩ : ∃ l, l = M % 18446744073709551616 := ⟨_, rfl⟩
 rw [← hh, ← hl] at S3
 have HH := hid (And.intro hh hl)
 have l1 : (l : Int) ≤ 18446744073709551615 := by omega
 clear hh hl
 go_enter Tryz.func103, Tryz.ntmps103
 go_wp2_with fail
 (with_reducible refine (S1.out w).mono ?_)
 rintro e1 w1 ⟨rfl, hw⟩; subst w1
 go_wp2_with fail
 (with_reducible refine (S2.out w).mono ?_)
 rintro e2 w2 ⟨rfl, hw⟩; subst w2
 go_wp2_with fail
 (with_reducible refine (S3.out w).mono ?_)
 rintro e3 w3 ⟨rfl, hw⟩; subst w3
 clear S1 S2 S3
 cases t1 : decide (a < 0) <;> cases t2 : decide (b < 0)
 all_goals
  by_cases h0 : h = 0
  ·have t3 : ((h : Int) == 0) = true := by rw [h0]; rfl
   have HZ := hid h0
   clear h0
   have HT := hid (And.intro t1 t2)
   go_wp2
   go_ret
   refine ⟨?_, rfl⟩
   have e1 := HF.out
   rw [HT.out.1, HT.out.2] at e1
   have e2 := HH.out
   have e3 := HZ.out
   rw [HR.out]
   congr 2
   simp at e1 ⊢
   rw [e1]
   omega
  ·have t3 : ((h : Int) == 0) = false := by rw [beq_eq_false_iff_ne]; omega
   have HZ := hid h0
   clear h0
   have HT := hid (And.intro t1 t2)
   go_wp2
   go_ret
   refine ⟨?_, rfl⟩
   have e1 := HF.out
   rw [HT.out.1, HT.out.2] at e1
   have e2 := HH.out
   have e3 := HZ.out
   rw [HR.out]
   congr 2
   simp at e1 ⊢
   rw [e1]
   omega
end
section
open Go.RowKit
set_option maxRecDepth 100000
set_option maxHeartbeats 8000000
attribute [local go_sem ↓] Go.wp_at_zero Go.wp_at_succ
theorem nsize_ok (n : Int) (hn : I64 n) (w : World) : Calls Tryz.prog 243 #[n] w fun e w' => e = .returned (.int .u64 (if n < 0 then -n else n)) ∧ w' = w := by
 unfold I64 at hn
 obtain ⟨n0, n1⟩ := hn
 by_cases h : n < 0
 ·rw [if_pos h]
  have t1 : decide (n < 0) = true := by rw [decide_eq_true_eq]; exact h
  have u0 : (n + 18446744073709551616 : Int) % 18446744073709551616 = n + 18446744073709551616 := by omega
  have u1 : n % 18446744073709551616 = n + 18446744073709551616 := by omega
  go_enter Tryz.func243, Tryz.ntmps243
  go_wp2
  have hw : IntKind.u64.wrap (-IntKind.u64.wrap n) = -n := by
   have e1 : IntKind.u64.wrap n = n + 18446744073709551616 := u1
   rw [e1]
   show (-(n + 18446744073709551616)) % 18446744073709551616 = -n
   omega
  rw [hw]
  go_ret
  exact ⟨rfl, rfl⟩
 ·rw [if_neg h]
  have t1 : decide (n < 0) = false := by rw [decide_eq_false_iff_not]; exact h
  have u1 : n % 18446744073709551616 = n := by omega
  go_enter Tryz.func243, Tryz.ntmps243
  go_wp2
  go_ret
  exact ⟨rfl, rfl⟩
theorem mulW_yes {a b : Int} (h : (mulW a b).2 = 0) : (wrap64 (a * b), (0 : Int)) = mulW a b := by
 unfold mulW at *
 by_cases q : -9223372036854775808 ≤ a * b ∧ a * b ≤ 9223372036854775807
 ·exact (fit_wrap q).symm
 ·rw [fit_out (by omega)] at h; cases h
theorem mulW_no {a b : Int} (h : ¬ (mulW a b).2 = 0) : ((0 : Int), (1 : Int)) = mulW a b := by
 unfold mulW at *
 by_cases q : -9223372036854775808 ≤ a * b ∧ a * b ≤ 9223372036854775807
 ·rw [fit_in q] at h; exact absurd rfl h
 ·exact (fit_out (by omega)).symm
theorem nmul_any (a b : Int) (w : World) (ia : I64 a) (ib : I64 b) : Calls Tryz.prog 230 #[a, b] w (PairRes (mulW a b) w) := by
 have HF := hid (times_fits a b)
 have S1 := hid (fun W => nsize_ok a ia W)
 have S2 := hid (fun W => nsize_ok b ib W)
 rw [size_abs] at S1 S2
 have hA : a.natAbs < 18446744073709551616 := by unfold I64 at ia; omega
 have hB : b.natAbs < 18446744073709551616 := by unfold I64 at ib; omega
 have S3 := hid (fun W => mul64_ok a.natAbs b.natAbs hA hB W)
 clear ia ib hA hB
 generalize a.natAbs = A at *
 generalize b.natAbs = B at *
 have HY := hid (fun h => mulW_yes (a := a) (b := b) h)
 have HN := hid (fun h => mulW_no (a := a) (b := b) h)
 generalize mulW a b = R at *
 obtain ⟨M, hM⟩ : ∃ M, M = A * B := ⟨_, rfl⟩
 rw [← hM] at S3 HF
 clear hM
 obtain ⟨h, hh⟩ : ∃ h, h = M / 18446744073709551616 := ⟨_, rfl⟩
 obtain ⟨l, hl⟩ : ∃ l, l = M % 18446744073709551616 := ⟨_, rfl⟩
 rw [← hh, ← hl] at S3
 have HH := hid (And.intro hh hl)
 have l1 : (l : Int) ≤ 18446744073709551615 := by omega
 clear hh hl
 go_enter Tryz.func230, Tryz.ntmps230
 go_wp2_with fail
 (with_reducible refine (S1.out w).mono ?_)
 rintro e1 w1 ⟨rfl, hw⟩; subst w1
 go_wp2_with fail
 (with_reducible refine (S2.out w).mono ?_)
 rintro e2 w2 ⟨rfl, hw⟩; subst w2
 go_wp2_with fail
 (with_reducible refine (S3.out w).mono ?_)
 rintro e3 w3 ⟨rfl, hw⟩; subst w3
 clear S1 S2 S3
 cases t1 : decide (a < 0) <;> cases t2 : decide (b < 0)
 all_goals
  have HT := hid (And.intro t1 t2)
  by_cases h0 : h = 0
  ·have t3 : ((h : Int) != 0) = false := by rw [h0]; rfl
   have HZ := hid h0
   clear h0
   by_cases q : R.2 = 0
   ·have e1 := HF.out.1 q
    rw [t1, t2] at e1
    have e2 := HH.out
    have e3 := HZ.out
    have t4 : decide ((9223372036854775807 : Int) < (l : Int)) = decide ((9223372036854775807 : Int) < (l : Int)) := rfl
    have HR := hid (HY.out q)
    simp at e1
    first
    | (
      have t5 : decide ((9223372036854775807 : Int) < (l : Int)) = false := by rw [decide_eq_false_iff_not]; omega
      clear e1 e2 e3 t4 q
      go_wp2
      go_ret2
      exact prok HR.out.symm)
    | (
      have t5 : decide ((9223372036854775808 : Int) < (l : Int)) = false := by rw [decide_eq_false_iff_not]; omega
      clear e1 e2 e3 t4 q
      go_wp2
      go_ret2
      exact prok HR.out.symm)
   ·have e1 := fun k => q (HF.out.2 k)
    rw [t1, t2] at e1
    have e2 := HH.out
    have e3 := HZ.out
    have HR := hid (HN.out q)
    simp at e1
    first
    | (
      have t5 : decide ((9223372036854775808 : Int) < (l : Int)) = true := by rw [decide_eq_true_eq]; omega
      have t6 : decide ((9223372036854775807 : Int) < (l : Int)) = true := by rw [decide_eq_true_eq]; omega
      clear e1 e2 e3 q
      go_wp2
      go_ret2
      exact prok HR.out.symm)
    | (
      have t5 : decide ((9223372036854775807 : Int) < (l : Int)) = true := by rw [decide_eq_true_eq]; omega
      clear e1 e2 e3 q
      go_wp2
      go_ret2
      exact prok HR.out.symm)
  ·have t3 : ((h : Int) != 0) = true := by simp; omega
   by_cases q : R.2 = 0
   ·exfalso
    have e1 := HF.out.1 q
    rw [t1, t2] at e1
    have e2 := HH.out
    simp at e1
    omega
   ·have HR := hid (HN.out q)
    clear h0 q
    go_wp2
    go_ret2
    exact prok HR.out.symm
end
section
open Go.RowKit
set_option maxRecDepth 100000
set_option maxHeartbeats 8000000
attribute [local go_sem ↓] Go.wp_at_zero Go.wp_at_succ
theorem neg1_any (a b : Int) (w : World) (ha : I64 a) : Calls Tryz.prog 229 #[a, b] w (PairRes (negW a) w) := by
 have HC := hid (nneg_any a w ha)
 generalize negW a = p at *
 clear ha
 go_enter Tryz.func229, Tryz.ntmps229
 go_wp2_with fail
 refine HC.out.mono ?_
 rintro e w' ⟨rfl, rfl⟩
 obtain ⟨p, q⟩ := p
 unfold pairV
 go_wp2
 go_ret2
 exact prok rfl
theorem ridx_3 (c0 c1 c2 c3 c4 c5 c6 c7 c8 c9 c10 c11 c12 c13 c14 c15 c16 c17 : Value) (W : World) : (Instr.index 222 (.agg #[c0, c1, c2, c3, c4, c5, c6, c7, c8, c9, c10, c11, c12, c13, c14, c15, c16, c17]) (.int .i64 3)).run Tryz.prog W = .ok (.agg #[c6, c7]) W := by
 simp [Instr.index, run_underlying Tryz.underlying222, asIntOf, go_sem]
 try rfl
theorem reckons_3 (w : World) : Calls Tryz.prog 193 #[.int .i64 3] w fun e w' => e = .returned (.agg #[.func (.func 229) #[] #[], .nilFunc]) ∧ Below w.heap.size w w' := by
 go_enter Tryz.func193, Tryz.ntmps193
 go_wp2
 rw [ridx_3]
 go_wp2
 refine bodyPost_ret (v := .agg #[.func (.func 229) #[] #[], .nilFunc]) (by simp [results, Tryz.results193, go_sem]) rfl (And.intro rfl ?_)
 repeat (first | exact Below.refl _ _ | refine Below.setCell ?_ (by simp) _ | refine Below.alloc ?_ (by simp) _)
theorem ridx_4 (c0 c1 c2 c3 c4 c5 c6 c7 c8 c9 c10 c11 c12 c13 c14 c15 c16 c17 : Value) (W : World) : (Instr.index 222 (.agg #[c0, c1, c2, c3, c4, c5, c6, c7, c8, c9, c10, c11, c12, c13, c14, c15, c16, c17]) (.int .i64 4)).run Tryz.prog W = .ok (.agg #[c8, c9]) W := by
 simp [Instr.index, run_underlying Tryz.underlying222, asIntOf, go_sem]
 try rfl
theorem reckons_4 (w : World) : Calls Tryz.prog 193 #[.int .i64 4] w fun e w' => e = .returned (.agg #[.func (.func 101) #[] #[], .nilFunc]) ∧ Below w.heap.size w w' := by
 go_enter Tryz.func193, Tryz.ntmps193
 go_wp2
 rw [ridx_4]
 go_wp2
 refine bodyPost_ret (v := .agg #[.func (.func 101) #[] #[], .nilFunc]) (by simp [results, Tryz.results193, go_sem]) rfl (And.intro rfl ?_)
 repeat (first | exact Below.refl _ _ | refine Below.setCell ?_ (by simp) _ | refine Below.alloc ?_ (by simp) _)
theorem ridx_5 (c0 c1 c2 c3 c4 c5 c6 c7 c8 c9 c10 c11 c12 c13 c14 c15 c16 c17 : Value) (W : World) : (Instr.index 222 (.agg #[c0, c1, c2, c3, c4, c5, c6, c7, c8, c9, c10, c11, c12, c13, c14, c15, c16, c17]) (.int .i64 5)).run Tryz.prog W = .ok (.agg #[c10, c11]) W := by
 simp [Instr.index, run_underlying Tryz.underlying222, asIntOf, go_sem]
 try rfl
theorem reckons_5 (w : World) : Calls Tryz.prog 193 #[.int .i64 5] w fun e w' => e = .returned (.agg #[.func (.func 102) #[] #[], .nilFunc]) ∧ Below w.heap.size w w' := by
 go_enter Tryz.func193, Tryz.ntmps193
 go_wp2
 rw [ridx_5]
 go_wp2
 refine bodyPost_ret (v := .agg #[.func (.func 102) #[] #[], .nilFunc]) (by simp [results, Tryz.results193, go_sem]) rfl (And.intro rfl ?_)
 repeat (first | exact Below.refl _ _ | refine Below.setCell ?_ (by simp) _ | refine Below.alloc ?_ (by simp) _)
theorem ridx_6 (c0 c1 c2 c3 c4 c5 c6 c7 c8 c9 c10 c11 c12 c13 c14 c15 c16 c17 : Value) (W : World) : (Instr.index 222 (.agg #[c0, c1, c2, c3, c4, c5, c6, c7, c8, c9, c10, c11, c12, c13, c14, c15, c16, c17]) (.int .i64 6)).run Tryz.prog W = .ok (.agg #[c12, c13]) W := by
 simp [Instr.index, run_underlying Tryz.underlying222, asIntOf, go_sem]
 try rfl
theorem reckons_6 (w : World) : Calls Tryz.prog 193 #[.int .i64 6] w fun e w' => e = .returned (.agg #[.func (.func 230) #[] #[], .func (.func 231) #[] #[]]) ∧ Below w.heap.size w w' := by
 go_enter Tryz.func193, Tryz.ntmps193
 go_wp2
 rw [ridx_6]
 go_wp2
 refine bodyPost_ret (v := .agg #[.func (.func 230) #[] #[], .func (.func 231) #[] #[]]) (by simp [results, Tryz.results193, go_sem]) rfl (And.intro rfl ?_)
 repeat (first | exact Below.refl _ _ | refine Below.setCell ?_ (by simp) _ | refine Below.alloc ?_ (by simp) _)
theorem ridx_7 (c0 c1 c2 c3 c4 c5 c6 c7 c8 c9 c10 c11 c12 c13 c14 c15 c16 c17 : Value) (W : World) : (Instr.index 222 (.agg #[c0, c1, c2, c3, c4, c5, c6, c7, c8, c9, c10, c11, c12, c13, c14, c15, c16, c17]) (.int .i64 7)).run Tryz.prog W = .ok (.agg #[c14, c15]) W := by
 simp [Instr.index, run_underlying Tryz.underlying222, asIntOf, go_sem]
 try rfl
theorem reckons_7 (w : World) : Calls Tryz.prog 193 #[.int .i64 7] w fun e w' => e = .returned (.agg #[.func (.func 232) #[] #[], .func (.func 233) #[] #[]]) ∧ Below w.heap.size w w' := by
 go_enter Tryz.func193, Tryz.ntmps193
 go_wp2
 rw [ridx_7]
 go_wp2
 refine bodyPost_ret (v := .agg #[.func (.func 232) #[] #[], .func (.func 233) #[] #[]]) (by simp [results, Tryz.results193, go_sem]) rfl (And.intro rfl ?_)
 repeat (first | exact Below.refl _ _ | refine Below.setCell ?_ (by simp) _ | refine Below.alloc ?_ (by simp) _)
theorem ridx_8 (c0 c1 c2 c3 c4 c5 c6 c7 c8 c9 c10 c11 c12 c13 c14 c15 c16 c17 : Value) (W : World) : (Instr.index 222 (.agg #[c0, c1, c2, c3, c4, c5, c6, c7, c8, c9, c10, c11, c12, c13, c14, c15, c16, c17]) (.int .i64 8)).run Tryz.prog W = .ok (.agg #[c16, c17]) W := by
 simp [Instr.index, run_underlying Tryz.underlying222, asIntOf, go_sem]
 try rfl
theorem reckons_8 (w : World) : Calls Tryz.prog 193 #[.int .i64 8] w fun e w' => e = .returned (.agg #[.func (.func 234) #[] #[], .func (.func 235) #[] #[]]) ∧ Below w.heap.size w w' := by
 go_enter Tryz.func193, Tryz.ntmps193
 go_wp2
 rw [ridx_8]
 go_wp2
 refine bodyPost_ret (v := .agg #[.func (.func 234) #[] #[], .func (.func 235) #[] #[]]) (by simp [results, Tryz.results193, go_sem]) rfl (And.intro rfl ?_)
 repeat (first | exact Below.refl _ _ | refine Below.setCell ?_ (by simp) _ | refine Below.alloc ?_ (by simp) _)
end
section
open Go.RowKit
set_option maxRecDepth 100000
set_option maxHeartbeats 8000000
attribute [local go_sem ↓] Go.wp_at_zero Go.wp_at_succ
theorem by_ok (dst i : Nat) (k : Int) (g1 g2 : Nat) (w : World) (h1 : Blk w g1 3 #[(dst : Int)]) (h2 : Blk w g2 224 #[k, .int .i64 (-k)]) (hi : i ≤ 1000) :
  Calls Tryz.prog 238 #[(i : Int), .pointer (some ⟨g1, 0, none⟩), .pointer (some ⟨g2, 0, none⟩)] w fun e w' => e = .returned (.int .i64 (byK dst k i)) ∧ w' = w := by
 have x0 := h1.cell 0
 have y0 := h2.cell 0
 have y1 := h2.cell 1
 obtain ⟨q, hq⟩ : ∃ q : Nat, q = i / 2 := ⟨_, rfl⟩
 have e1 : (i : Int).tdiv 2 = (q : Int) := by rw [hq]; exact (Int.tdiv_eq_ediv_of_nonneg (by omega)).trans (by omega)
 have e2 : (i : Int) / 2 = (q : Int) := by rw [hq]; omega
 have hq2 : (q : Int) ≤ 1000 := by omega
 have e5 : ((i / 2 : Nat) : Int) = (q : Int) := by rw [hq]
 obtain ⟨r, hr⟩ : ∃ r : Nat, r = i % 2 := ⟨_, rfl⟩
 have HB : Hid (byK dst k i = if q = dst then (if r = 0 then k else -k) else 0) := hid (by unfold byK; rw [← hq, ← hr])
 have hr2 : r = 0 ∨ r = 1 := by omega
 have e3 : (i : Int).tmod 2 = (r : Int) := by rw [hr]; exact (Int.tmod_eq_emod_of_nonneg (by omega)).trans (by omega)
 have e4 : (i : Int) % 2 = (r : Int) := by rw [hr]; omega
 clear hq hr
 by_cases hd : q = dst
 ·subst hd
  have t1 : ((q : Int) == (q : Int)) = true := by simp
  rcases hr2 with rfl | rfl
  ·go_enter Tryz.func238, Tryz.ntmps238
   go_wp2
   go_ret
   exact ⟨by rw [HB.out]; simp, rfl⟩
  ·go_enter Tryz.func238, Tryz.ntmps238
   go_wp2
   go_ret
   exact ⟨by rw [HB.out]; simp, rfl⟩
 ·have t1 : ((q : Int) == (dst : Int)) = false := by rw [beq_eq_false_iff_ne]; omega
  go_enter Tryz.func238, Tryz.ntmps238
  have HD := hid hd
  clear hd
  go_wp2
  go_ret
  exact ⟨by rw [HB.out, if_neg HD.out]; rfl, rfl⟩
end
end Go.Proofs.YtnmpgijiimglcaaGreat
