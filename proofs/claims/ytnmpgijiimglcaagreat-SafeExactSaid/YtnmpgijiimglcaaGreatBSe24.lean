import Derived.Test.YtnmpgijiimglcaaGreatBSe23
import Derived.Shelf.Bits.Mul64
import Derived.Test.YtnmpgijiimglcaaGreatBSe21
import Derived.Test.YtnmpgijiimglcaaGreatBSe11
import Derived.ChangeKeysEq
import Derived.Deep.DeepCutAuto
import Derived.Test.YtnmpgijiimglcaaGreatBSe16
namespace Go.Proofs.YtnmpgijiimglcaaGreat
set_option maxRecDepth 100000
set_option maxHeartbeats 8000000
section
open Go.RowKit Go.Lib Go.Proofs
attribute [local go_sem ↓] Go.wp_at_zero Go.wp_at_succ
theorem zgh (x y : Nat) (hx : x < 18446744073709551616) (hy : y < 18446744073709551616) (w : World) :
  Calls Tryz.prog 181 #[.int .u64 x, .int .u64 y] w fun e w' => e = .returned (.tuple #[.int .u64 ((x * y / 18446744073709551616 : Nat) : Int), .int .u64 ((x * y % 18446744073709551616 : Nat) : Int)]) ∧ w' = w := by
 obtain ⟨bd, bt, bw, hhi⟩ := Lib.mul64_hi x y hx hy
 have ba := Lib.half_mul_le (a := x / 4294967296) (b := y / 4294967296) (by omega) (by omega)
 have bb := Lib.half_mul_le (a := x / 4294967296) (b := y % 4294967296) (by omega) (by omega)
 have bc := Lib.half_mul_le (a := x % 4294967296) (b := y / 4294967296) (by omega) (by omega)
 have ba' : x / 4294967296 * (y / 4294967296) < 18446744073709551616 := by omega
 have bb' : x / 4294967296 * (y % 4294967296) < 18446744073709551616 := by omega
 have bc' : x % 4294967296 * (y / 4294967296) < 18446744073709551616 := by omega
 have bh1 : x / 4294967296 * (y / 4294967296) + (x / 4294967296 * (y % 4294967296) + x % 4294967296 * (y % 4294967296) / 4294967296) / 4294967296 < 18446744073709551616 := by omega
 have bh : x / 4294967296 * (y / 4294967296) + (x / 4294967296 * (y % 4294967296) + x % 4294967296 * (y % 4294967296) / 4294967296) / 4294967296 + ((x / 4294967296 * (y % 4294967296) + x % 4294967296 * (y % 4294967296) / 4294967296) % 4294967296 + x % 4294967296 * (y / 4294967296)) / 4294967296 < 18446744073709551616 := by omega
 go_enter Tryz.func181, Tryz.ntmps181
 go_wp2
 simp only [Mul64.maskN x hx, Mul64.maskN y hy, Mul64.divN, Mul64.mulN, Mul64.addN, Mul64.wrapN _ bd, Mul64.wrapN _ bb', Mul64.wrapN _ bt, Mul64.maskN _ bt, Mul64.wrapN _ bc', Mul64.wrapN _ bw, Mul64.wrapN _ ba', Mul64.wrapN _ bh1, Mul64.wrapN _ bh, Mul64.wrapM (x * y)]
 rw [hhi]
 go_ret2
 exact ⟨rfl, rfl⟩
theorem zfX (a : Int) : (if a < 0 then -a else a) = ((a.natAbs : Nat) : Int) := by split <;> omega
theorem zeh (a b : Int) : (mulW a b).2 = 0 ↔ a.natAbs * b.natAbs ≤ (if decide (a < 0) != decide (b < 0) then 9223372036854775808 else 9223372036854775807) := by
 have e : ((a.natAbs * b.natAbs : Nat) : Int) = if decide (a < 0) != decide (b < 0) then -(a * b) else a * b := by
  rw [Int.natCast_mul]
  by_cases ha : a < 0 <;> by_cases hb : b < 0
  ·rw [show (a.natAbs : Int) = -a by omega, show (b.natAbs : Int) = -b by omega]; simp [ha, hb]; exact Int.neg_mul_neg a b
  ·rw [show (a.natAbs : Int) = -a by omega, show (b.natAbs : Int) = b by omega]; simp [ha, hb]; exact Int.neg_mul a b
  ·rw [show (a.natAbs : Int) = a by omega, show (b.natAbs : Int) = -b by omega]; simp [ha, hb]; exact Int.mul_neg a b
  ·rw [show (a.natAbs : Int) = a by omega, show (b.natAbs : Int) = b by omega]; simp [ha, hb]
 unfold mulW
 have hf : (fit (a * b)).2 = 0 ↔ (-9223372036854775808 ≤ a * b ∧ a * b ≤ 9223372036854775807) := by
  by_cases h : -9223372036854775808 ≤ a * b ∧ a * b ≤ 9223372036854775807
  ·rw [zdk h]; simp [h]
  ·rw [zbt (by omega)]; simp [h]
 rw [hf]
 cases hs : (decide (a < 0) != decide (b < 0))
 ·rw [hs] at e; simp only [Bool.false_eq_true, if_false] at e ⊢; omega
 ·rw [hs] at e; simp only [if_true] at e ⊢; omega
theorem zc1 (a b : Int) (ia : I64 a) (ib : I64 b) (w : World) : Calls Tryz.prog 103 #[a, b] w fun e w' => e = .returned (.bool (decide ((mulW a b).2 = 0))) ∧ w' = w := by
 have HF := hid (zeh a b)
 have S1 := hid (fun W => zgf a ia W)
 have S2 := hid (fun W => zgf b ib W)
 rw [zfX] at S1 S2
 have hA : a.natAbs < 18446744073709551616 := by unfold I64 at ia; omega
 have hB : b.natAbs < 18446744073709551616 := by unfold I64 at ib; omega
 have S3 := hid (fun W => zgh a.natAbs b.natAbs hA hB W)
 clear ia ib hA hB
 generalize a.natAbs = A at *
 generalize b.natAbs = B at *
 obtain ⟨R, hR⟩ : ∃ R, R = decide ((mulW a b).2 = 0) := ⟨_, rfl⟩
 rw [← hR]
 have HR := hid hR
 clear hR
 obtain ⟨M, hM⟩ : ∃ M, M = A * B := ⟨_, rfl⟩
 rw [← hM] at S3 HF
 clear hM
 obtain ⟨h, hh⟩ : ∃ h, h = M / 18446744073709551616 := ⟨_, rfl⟩
 obtain ⟨l, hl⟩ : ∃ l, l = M % 18446744073709551616 := ⟨_, rfl⟩
 rw [← hh, ← hl] at S3
 have HH := hid (And.intro hh hl)
 have l1 : (l : Int) ≤ 18446744073709551615 := by omega
 clear hh hl
 go_enter Tryz.func103, Tryz.ntmps103
 go_wp2_with fail
 (with_reducible refine (S1.out w).mono ?_)
 rintro e1 w1 ⟨rfl, hw⟩; subst w1
 go_wp2_with fail
 (with_reducible refine (S2.out w).mono ?_)
 rintro e2 w2 ⟨rfl, hw⟩; subst w2
 go_wp2_with fail
 (with_reducible refine (S3.out w).mono ?_)
 rintro e3 w3 ⟨rfl, hw⟩; subst w3
 clear S1 S2 S3
 cases t1 : decide (a < 0) <;> cases t2 : decide (b < 0)
 all_goals
  by_cases h0 : h = 0
  ·have t3 : ((h : Int) == 0) = true := by rw [h0]; rfl
   have HZ := hid h0
   clear h0
   have HT := hid (And.intro t1 t2)
   go_wp2
   go_ret
   refine ⟨?_, rfl⟩
   have e1 := HF.out
   rw [HT.out.1, HT.out.2] at e1
   have e2 := HH.out
   have e3 := HZ.out
   rw [HR.out]
   congr 2
   simp at e1 ⊢
   rw [e1]
   omega
  ·have t3 : ((h : Int) == 0) = false := by rw [beq_eq_false_iff_ne]; omega
   have HZ := hid h0
   clear h0
   have HT := hid (And.intro t1 t2)
   go_wp2
   go_ret
   refine ⟨?_, rfl⟩
   have e1 := HF.out
   rw [HT.out.1, HT.out.2] at e1
   have e2 := HH.out
   have e3 := HZ.out
   rw [HR.out]
   congr 2
   simp at e1 ⊢
   rw [e1]
   omega
end
section
open Go.RowKit
attribute [local go_sem ↓] Go.wp_at_zero Go.wp_at_succ
theorem zf5 (n : Int) (hn : I64 n) (w : World) : Calls Tryz.prog 243 #[n] w fun e w' => e = .returned (.int .u64 (if n < 0 then -n else n)) ∧ w' = w := by
 unfold I64 at hn
 obtain ⟨n0, n1⟩ := hn
 by_cases h : n < 0
 ·rw [if_pos h]
  have t1 : decide (n < 0) = true := by rw [decide_eq_true_eq]; exact h
  have u0 : (n + 18446744073709551616 : Int) % 18446744073709551616 = n + 18446744073709551616 := by omega
  have u1 : n % 18446744073709551616 = n + 18446744073709551616 := by omega
  go_enter Tryz.func243, Tryz.ntmps243
  go_wp2
  have hw : IntKind.u64.wrap (-IntKind.u64.wrap n) = -n := by
   have e1 : IntKind.u64.wrap n = n + 18446744073709551616 := u1
   rw [e1]
   show (-(n + 18446744073709551616)) % 18446744073709551616 = -n
   omega
  rw [hw]
  go_ret
  exact ⟨rfl, rfl⟩
 ·rw [if_neg h]
  have t1 : decide (n < 0) = false := by rw [decide_eq_false_iff_not]; exact h
  have u1 : n % 18446744073709551616 = n := by omega
  go_enter Tryz.func243, Tryz.ntmps243
  go_wp2
  go_ret
  exact ⟨rfl, rfl⟩
theorem zjT {a b : Int} (h : (mulW a b).2 = 0) : (wrap64 (a * b), (0 : Int)) = mulW a b := by
 unfold mulW at *
 by_cases q : -9223372036854775808 ≤ a * b ∧ a * b ≤ 9223372036854775807
 ·exact (zb6 q).symm
 ·rw [zbt (by omega)] at h; cases h
theorem zkG {a b : Int} (h : ¬ (mulW a b).2 = 0) : ((0 : Int), (1 : Int)) = mulW a b := by
 unfold mulW at *
 by_cases q : -9223372036854775808 ≤ a * b ∧ a * b ≤ 9223372036854775807
 ·rw [zdk q] at h; exact absurd rfl h
 ·exact (zbt (by omega)).symm
theorem ziX (a b : Int) (w : World) (ia : I64 a) (ib : I64 b) : Calls Tryz.prog 230 #[a, b] w (zaE (mulW a b) w) := by
 have HF := hid (zeh a b)
 have S1 := hid (fun W => zf5 a ia W)
 have S2 := hid (fun W => zf5 b ib W)
 rw [zfX] at S1 S2
 have hA : a.natAbs < 18446744073709551616 := by unfold I64 at ia; omega
 have hB : b.natAbs < 18446744073709551616 := by unfold I64 at ib; omega
 have S3 := hid (fun W => zgh a.natAbs b.natAbs hA hB W)
 clear ia ib hA hB
 generalize a.natAbs = A at *
 generalize b.natAbs = B at *
 have HY := hid (fun h => zjT (a := a) (b := b) h)
 have HN := hid (fun h => zkG (a := a) (b := b) h)
 generalize mulW a b = R at *
 obtain ⟨M, hM⟩ : ∃ M, M = A * B := ⟨_, rfl⟩
 rw [← hM] at S3 HF
 clear hM
 obtain ⟨h, hh⟩ : ∃ h, h = M / 18446744073709551616 := ⟨_, rfl⟩
 obtain ⟨l, hl⟩ : ∃ l, l = M % 18446744073709551616 := ⟨_, rfl⟩
 rw [← hh, ← hl] at S3
 have HH := hid (And.intro hh hl)
 have l1 : (l : Int) ≤ 18446744073709551615 := by omega
 clear hh hl
 go_enter Tryz.func230, Tryz.ntmps230
 go_wp2_with fail
 (with_reducible refine (S1.out w).mono ?_)
 rintro e1 w1 ⟨rfl, hw⟩; subst w1
 go_wp2_with fail
 (with_reducible refine (S2.out w).mono ?_)
 rintro e2 w2 ⟨rfl, hw⟩; subst w2
 go_wp2_with fail
 (with_reducible refine (S3.out w).mono ?_)
 rintro e3 w3 ⟨rfl, hw⟩; subst w3
 clear S1 S2 S3
 cases t1 : decide (a < 0) <;> cases t2 : decide (b < 0)
 all_goals
  have HT := hid (And.intro t1 t2)
  by_cases h0 : h = 0
  ·have t3 : ((h : Int) != 0) = false := by rw [h0]; rfl
   have HZ := hid h0
   clear h0
   by_cases q : R.2 = 0
   ·have e1 := HF.out.1 q
    rw [t1, t2] at e1
    have e2 := HH.out
    have e3 := HZ.out
    have t4 : decide ((9223372036854775807 : Int) < (l : Int)) = decide ((9223372036854775807 : Int) < (l : Int)) := rfl
    have HR := hid (HY.out q)
    simp at e1
    first
    | (
      have t5 : decide ((9223372036854775807 : Int) < (l : Int)) = false := by rw [decide_eq_false_iff_not]; omega
      clear e1 e2 e3 t4 q
      go_wp2
      go_ret2
      exact prok HR.out.symm)
    | (
      have t5 : decide ((9223372036854775808 : Int) < (l : Int)) = false := by rw [decide_eq_false_iff_not]; omega
      clear e1 e2 e3 t4 q
      go_wp2
      go_ret2
      exact prok HR.out.symm)
   ·have e1 := fun k => q (HF.out.2 k)
    rw [t1, t2] at e1
    have e2 := HH.out
    have e3 := HZ.out
    have HR := hid (HN.out q)
    simp at e1
    first
    | (
      have t5 : decide ((9223372036854775808 : Int) < (l : Int)) = true := by rw [decide_eq_true_eq]; omega
      have t6 : decide ((9223372036854775807 : Int) < (l : Int)) = true := by rw [decide_eq_true_eq]; omega
      clear e1 e2 e3 q
      go_wp2
      go_ret2
      exact prok HR.out.symm)
    | (
      have t5 : decide ((9223372036854775807 : Int) < (l : Int)) = true := by rw [decide_eq_true_eq]; omega
      clear e1 e2 e3 q
      go_wp2
      go_ret2
      exact prok HR.out.symm)
  ·have t3 : ((h : Int) != 0) = true := by simp; omega
   by_cases q : R.2 = 0
   ·exfalso
    have e1 := HF.out.1 q
    rw [t1, t2] at e1
    have e2 := HH.out
    simp at e1
    omega
   ·have HR := hid (HN.out q)
    clear h0 q
    go_wp2
    go_ret2
    exact prok HR.out.symm
end
section
open Go.RowKit
attribute [local go_sem ↓] Go.wp_at_zero Go.wp_at_succ
theorem zji (a b : Int) (w : World) (ha : I64 a) : Calls Tryz.prog 229 #[a, b] w (zaE (negW a) w) := by
 have HC := hid (zeE a w ha)
 generalize negW a = p at *
 clear ha
 go_enter Tryz.func229, Tryz.ntmps229
 go_wp2_with fail
 refine HC.out.mono ?_
 rintro e w' ⟨rfl, rfl⟩
 obtain ⟨p, q⟩ := p
 unfold zce
 go_wp2
 go_ret2
 exact prok rfl
theorem zlk (c0 c1 c2 c3 c4 c5 c6 c7 c8 c9 c10 c11 c12 c13 c14 c15 c16 c17 : Value) (W : World) : (Instr.index 222 (.agg #[c0, c1, c2, c3, c4, c5, c6, c7, c8, c9, c10, c11, c12, c13, c14, c15, c16, c17]) (.int .i64 3)).run Tryz.prog W = .ok (.agg #[c6, c7]) W := by
 simp [Instr.index, run_underlying Tryz.underlying222, asIntOf, go_sem]
 try rfl
theorem zhb (w : World) : Calls Tryz.prog 193 #[.int .i64 3] w fun e w' => e = .returned (.agg #[.func (.func 229) #[] #[], .nilFunc]) ∧ Below w.heap.size w w' := by
 go_enter Tryz.func193, Tryz.ntmps193
 go_wp2
 rw [zlk]
 go_wp2
 refine bodyPost_ret (v := .agg #[.func (.func 229) #[] #[], .nilFunc]) (by simp [results, Tryz.results193, go_sem]) rfl (And.intro rfl ?_)
 exact zcw
theorem zlg (c0 c1 c2 c3 c4 c5 c6 c7 c8 c9 c10 c11 c12 c13 c14 c15 c16 c17 : Value) (W : World) : (Instr.index 222 (.agg #[c0, c1, c2, c3, c4, c5, c6, c7, c8, c9, c10, c11, c12, c13, c14, c15, c16, c17]) (.int .i64 4)).run Tryz.prog W = .ok (.agg #[c8, c9]) W := by
 simp [Instr.index, run_underlying Tryz.underlying222, asIntOf, go_sem]
 try rfl
theorem zhu (w : World) : Calls Tryz.prog 193 #[.int .i64 4] w fun e w' => e = .returned (.agg #[.func (.func 101) #[] #[], .nilFunc]) ∧ Below w.heap.size w w' := by
 go_enter Tryz.func193, Tryz.ntmps193
 go_wp2
 rw [zlg]
 go_wp2
 refine bodyPost_ret (v := .agg #[.func (.func 101) #[] #[], .nilFunc]) (by simp [results, Tryz.results193, go_sem]) rfl (And.intro rfl ?_)
 exact zcw
theorem zlm (c0 c1 c2 c3 c4 c5 c6 c7 c8 c9 c10 c11 c12 c13 c14 c15 c16 c17 : Value) (W : World) : (Instr.index 222 (.agg #[c0, c1, c2, c3, c4, c5, c6, c7, c8, c9, c10, c11, c12, c13, c14, c15, c16, c17]) (.int .i64 5)).run Tryz.prog W = .ok (.agg #[c10, c11]) W := by
 simp [Instr.index, run_underlying Tryz.underlying222, asIntOf, go_sem]
 try rfl
theorem zil (w : World) : Calls Tryz.prog 193 #[.int .i64 5] w fun e w' => e = .returned (.agg #[.func (.func 102) #[] #[], .nilFunc]) ∧ Below w.heap.size w w' := by
 go_enter Tryz.func193, Tryz.ntmps193
 go_wp2
 rw [zlm]
 go_wp2
 refine bodyPost_ret (v := .agg #[.func (.func 102) #[] #[], .nilFunc]) (by simp [results, Tryz.results193, go_sem]) rfl (And.intro rfl ?_)
 exact zcw
theorem zla (c0 c1 c2 c3 c4 c5 c6 c7 c8 c9 c10 c11 c12 c13 c14 c15 c16 c17 : Value) (W : World) : (Instr.index 222 (.agg #[c0, c1, c2, c3, c4, c5, c6, c7, c8, c9, c10, c11, c12, c13, c14, c15, c16, c17]) (.int .i64 6)).run Tryz.prog W = .ok (.agg #[c12, c13]) W := by
 simp [Instr.index, run_underlying Tryz.underlying222, asIntOf, go_sem]
 try rfl
theorem zeR (w : World) : Calls Tryz.prog 193 #[.int .i64 6] w fun e w' => e = .returned (.agg #[.func (.func 230) #[] #[], .func (.func 231) #[] #[]]) ∧ Below w.heap.size w w' := by
 go_enter Tryz.func193, Tryz.ntmps193
 go_wp2
 rw [zla]
 go_wp2
 refine bodyPost_ret (v := .agg #[.func (.func 230) #[] #[], .func (.func 231) #[] #[]]) (by simp [results, Tryz.results193, go_sem]) rfl (And.intro rfl ?_)
 exact zcw
theorem zlE (c0 c1 c2 c3 c4 c5 c6 c7 c8 c9 c10 c11 c12 c13 c14 c15 c16 c17 : Value) (W : World) : (Instr.index 222 (.agg #[c0, c1, c2, c3, c4, c5, c6, c7, c8, c9, c10, c11, c12, c13, c14, c15, c16, c17]) (.int .i64 7)).run Tryz.prog W = .ok (.agg #[c14, c15]) W := by
 simp [Instr.index, run_underlying Tryz.underlying222, asIntOf, go_sem]
 try rfl
theorem zeY (w : World) : Calls Tryz.prog 193 #[.int .i64 7] w fun e w' => e = .returned (.agg #[.func (.func 232) #[] #[], .func (.func 233) #[] #[]]) ∧ Below w.heap.size w w' := by
 go_enter Tryz.func193, Tryz.ntmps193
 go_wp2
 rw [zlE]
 go_wp2
 refine bodyPost_ret (v := .agg #[.func (.func 232) #[] #[], .func (.func 233) #[] #[]]) (by simp [results, Tryz.results193, go_sem]) rfl (And.intro rfl ?_)
 exact zcw
theorem zlh (c0 c1 c2 c3 c4 c5 c6 c7 c8 c9 c10 c11 c12 c13 c14 c15 c16 c17 : Value) (W : World) : (Instr.index 222 (.agg #[c0, c1, c2, c3, c4, c5, c6, c7, c8, c9, c10, c11, c12, c13, c14, c15, c16, c17]) (.int .i64 8)).run Tryz.prog W = .ok (.agg #[c16, c17]) W := by
 simp [Instr.index, run_underlying Tryz.underlying222, asIntOf, go_sem]
 try rfl
theorem zfe (w : World) : Calls Tryz.prog 193 #[.int .i64 8] w fun e w' => e = .returned (.agg #[.func (.func 234) #[] #[], .func (.func 235) #[] #[]]) ∧ Below w.heap.size w w' := by
 go_enter Tryz.func193, Tryz.ntmps193
 go_wp2
 rw [zlh]
 go_wp2
 refine bodyPost_ret (v := .agg #[.func (.func 234) #[] #[], .func (.func 235) #[] #[]]) (by simp [results, Tryz.results193, go_sem]) rfl (And.intro rfl ?_)
 exact zcw
end
section
open Go.RowKit
attribute [local go_sem ↓] Go.wp_at_zero Go.wp_at_succ
theorem zlz (dst i : Nat) (k : Int) (g1 g2 : Nat) (w : World) (h1 : Blk w g1 3 #[(dst : Int)]) (h2 : Blk w g2 224 #[k, .int .i64 (-k)]) (hi : i ≤ 1000) :
  Calls Tryz.prog 238 #[(i : Int), .pointer (some ⟨g1, 0, none⟩), .pointer (some ⟨g2, 0, none⟩)] w fun e w' => e = .returned (.int .i64 (byK dst k i)) ∧ w' = w := by
 have x0 := h1.cell 0
 have y0 := h2.cell 0
 have y1 := h2.cell 1
 obtain ⟨q, hq⟩ : ∃ q : Nat, q = i / 2 := ⟨_, rfl⟩
 have e1 : (i : Int).tdiv 2 = (q : Int) := by rw [hq]; exact (Int.tdiv_eq_ediv_of_nonneg (by omega)).trans (by omega)
 have e2 : (i : Int) / 2 = (q : Int) := by rw [hq]; omega
 have hq2 : (q : Int) ≤ 1000 := by omega
 have e5 : ((i / 2 : Nat) : Int) = (q : Int) := by rw [hq]
 obtain ⟨r, hr⟩ : ∃ r : Nat, r = i % 2 := ⟨_, rfl⟩
 have HB : Hid (byK dst k i = if q = dst then (if r = 0 then k else -k) else 0) := hid (by unfold byK; rw [← hq, ← hr])
 have hr2 : r = 0 ∨ r = 1 := by omega
 have e3 : (i : Int).tmod 2 = (r : Int) := by rw [hr]; exact (Int.tmod_eq_emod_of_nonneg (by omega)).trans (by omega)
 have e4 : (i : Int) % 2 = (r : Int) := by rw [hr]; omega
 clear hq hr
 by_cases hd : q = dst
 ·subst hd
  have t1 : ((q : Int) == (q : Int)) = true := by simp
  rcases hr2 with rfl | rfl
  ·go_enter Tryz.func238, Tryz.ntmps238
   go_wp2
   go_ret
   exact ⟨by rw [HB.out]; simp, rfl⟩
  ·go_enter Tryz.func238, Tryz.ntmps238
   go_wp2
   go_ret
   exact ⟨by rw [HB.out]; simp, rfl⟩
 ·have t1 : ((q : Int) == (dst : Int)) = false := by rw [beq_eq_false_iff_ne]; omega
  go_enter Tryz.func238, Tryz.ntmps238
  have HD := hid hd
  clear hd
  go_wp2
  go_ret
  exact ⟨by rw [HB.out, if_neg HD.out]; rfl, rfl⟩
end
section
open Go.RowKit
attribute [local go_sem ↓] Go.wp_at_zero Go.wp_at_succ
def zbI (f : Nat → Int) (L t : Nat) : List Int := (List.range t).map f ++ List.replicate (L - t) 0
theorem ze9 (f : Nat → Int) {L t : Nat} (h : t ≤ L) : (zbI f L t).length = L := by unfold zbI; simp; omega
theorem zcp (f : Nat → Int) {L t : Nat} (h : t < L) : (zbI f L t).set t (f t) = zbI f L (t + 1) := by
 unfold zbI
 rw [List.set_append_right _ _ (by simp), List.range_succ, List.map_append]
 simp only [List.length_map, List.length_range, Nat.sub_self, List.map_cons, List.map_nil, List.append_assoc, List.singleton_append]
 congr 1
 rw [show L - t = (L - (t + 1)) + 1 by omega, List.replicate_succ, List.set_cons_zero]
theorem ze7 (f : Nat → Int) (L : Nat) : zbI f L L = (List.range L).map f := by unfold zbI; simp
def zbD (N dst : Nat) (k : Int) (m : List Int) (p : Nat) : Int := if p / N ≠ p % N ∧ gI m (p : Int) ≠ 9223372036854775807 then plus (gI m (p : Int)) (byK dst k (p / N) - byK dst k (p % N)) else gI m (p : Int)
theorem zgn (N dst : Nat) (k : Int) (m : List Int) : zbI (zbD N dst k m) m.length m.length = zbJ N dst k m := ze7 _ _
theorem zkb {dst i : Nat} {k : Int} (hk : -2305843009213693952 ≤ k ∧ k ≤ 2305843009213693952) : -2305843009213693952 ≤ byK dst k i ∧ byK dst k i ≤ 2305843009213693952 := by
 unfold byK; split
 ·split <;> omega
 ·omega
theorem zdS (n : Int) (m : List Int) (N : Nat) (hN : (N : Int) = 2 * n) (hn : N ≤ 128) (hc : Cells N m) (dst : Nat) (hd : (dst : Int) < n) (k : Int) (hk : -2305843009213693952 ≤ k ∧ k ≤ 2305843009213693952) (A : Option Addr) (cap : Nat) (w : World) (hx : Rd w w.heap.size A m) (hm : m.length ≤ 17592186044416) :
  Calls Tryz.prog 197 #[.agg #[n, false, .slice A m.length cap], (dst : Int), (dst : Int), k] w (zbh w (closeO ⟨n, false, zbJ N dst k m⟩)) := by
 have okq : OkO n ⟨n, false, zbJ N dst k m⟩ := OkO.of_cells hN hn (ze4 (by omega) hc)
 have HN := hid hN
 have HD := hid hd
 have hl := hc.len
 have HL := hid hl
 have hn0 : 0 ≤ 2 * n := by omega
 have hn1 : 2 * n ≤ 128 := by omega
 have hn2 : 0 ≤ n := by omega
 have t1 : decide (2305843009213693952 < k) = false := by rw [decide_eq_false_iff_not]; omega
 have t2 : decide (k < -2305843009213693952) = false := by rw [decide_eq_false_iff_not]; omega
 have t3 : ((dst : Int) != (dst : Int)) = false := by simp
 have hw : wrap64 (-k) = -k := IntWalk.wrap64_in _ (by omega)
 have HK := hid hk
 have hmk := zc6 m.length hm
 have HSF := hid (zgn N dst k m)
 have HCC := hid hc
 clear hN hd hk hl hc
 obtain ⟨p0, p1, p2, a5, -⟩ := zaj w #[n, false, .slice A m.length cap] #[(dst : Int)] #[.int .i64 0, false, .slice none 0 0] 24 3 24
 have pd := p1.cell 0
 go_enter Tryz.func197, Tryz.ntmps197
 go_upto_region 8 with fail
 clear pd a5 p0 p1 p2 t1 t2 t3 hw
 obtain ⟨p0, p1, p2, p3, hb0, b3⟩ := zax w #[n, false, .slice A m.length cap] #[(dst : Int)] #[.int .i64 0, false, .slice none 0 0] #[k, .int .i64 (-k)] 24 3 24 224
 replace hx := hx.up hb0
 generalize (((w.alloc (Obj.cells #[n, false, .slice A m.length cap] 24)).alloc (Obj.cells #[(dst : Int)] 3)).alloc (Obj.cells #[.int .i64 0, false, .slice none 0 0] 24)).alloc (Obj.cells #[k, .int .i64 (-k)] 224) = w0 at *
 go_cut [12] (fun s12 W => ∃ gO gS : Nat, s12 = .pointer (some ⟨gO, 0, none⟩) ∧ w.heap.size + 4 ≤ gO ∧ gO ≠ gS ∧ Blk W gO 24 #[n, false, .slice (some ⟨gS, 0, none⟩) m.length m.length] ∧ Own W (w.heap.size + 4) (some ⟨gS, 0, none⟩) m.length (List.replicate m.length 0) ∧ Below (w.heap.size + 4) w0 W)
 case first =>
  obtain ⟨x0, x1, x2, fx⟩ := zaa p0
  have hszd : w0.drew.heap.size = w.heap.size + 4 := b3
  go_region_held3 (fun W => W.cell? ⟨w.heap.size, 0, none⟩ = some (.int .i64 n) ∧ W.cell? ⟨w.heap.size, 2, none⟩ = some (.slice A m.length cap)) (go_keep) (fail)
  all_goals (go_wp2_with fail; go_meet)
  ·obtain ⟨q1, q2, q3⟩ := zkc w0 b3 hm #[n, false, .slice (some ⟨w.heap.size + 4, 0, none⟩) m.length m.length] 24
   exact ⟨_, _, rfl, by omega, by omega, q1, q2, q3⟩
  ·obtain ⟨q1, q2, q3⟩ := zkd w0 b3 hm #[n, false, .slice (some ⟨w.heap.size + 4 + 1, 0, none⟩) m.length m.length] 24
   exact ⟨_, _, rfl, by omega, by omega, q1, q2, q3⟩
 case rest =>
  obtain ⟨gO, gS, rfl, hgO, hne, b4, b0, b8⟩ := hcut
  rename_i w1 _
  have p0' := p0.below b8 (by omega)
  obtain ⟨x0, x1, x2, fx⟩ := zaa p0'
  go_wp2
  clear x0 x1 x2 fx p0'
  have a8 := hid b3
  clear b3
  go_loopw [63] (fun t wq => ∃ i : Nat, i ≤ N ∧ t = .int .i64 i ∧ Own wq (w.heap.size + 4) (some ⟨gS, 0, none⟩) m.length (zbI (zbD N dst k m) m.length (i * N)) ∧ Blk wq gO 24 #[n, false, .slice (some ⟨gS, 0, none⟩) m.length m.length] ∧ Below (w.heap.size + 4) w0 wq) (fun t _ => N - (RowKit.intOf t).toNat)
  case atStart => exact ⟨0, by omega, rfl, by rw [Nat.zero_mul]; unfold zbI; simpa using b0, b4, b8⟩
  case round =>
   clear b0 b4 b8
   obtain ⟨i, hi, rfl, own, kO, hb⟩ := hrel
   have q0 := p0.below hb (by omega)
   obtain ⟨x0, x1, x2, fx⟩ := zaa q0
   by_cases hlt : i < N
   ·have hlti : (i : Int) < 2 * n := by have := HN.out; omega
    go_wp2
    clear x0 x1 x2 fx q0
    have hsw : w.heap.size + 4 ≤ wr.heap.size := by have := hb.size; have := a8.out; omega
    go_loopw [69] (fun t wq => ∃ j : Nat, j ≤ N ∧ t = .int .i64 j ∧ Own wq (w.heap.size + 4) (some ⟨gS, 0, none⟩) m.length (zbI (zbD N dst k m) m.length (i * N + j)) ∧ Blk wq gO 24 #[n, false, .slice (some ⟨gS, 0, none⟩) m.length m.length] ∧ Below (w.heap.size + 4) w0 wq) (fun t _ => N - (RowKit.intOf t).toNat)
    case atStart => exact ⟨0, by omega, rfl, own, kO, hb⟩
    case round =>
     clear own kO hb
     obtain ⟨j, hj, rfl, own, kO, hb⟩ := hrel
     by_cases hlt2 : j < N
     ·have hltj : (j : Int) < 2 * n := by have := HN.out; omega
      have a9 : i * N + j < m.length := by
       rw [HL.out]
       have : (i + 1) * N ≤ N * N := Nat.mul_le_mul_right _ hlt
       rw [Nat.succ_mul] at this; omega
      obtain ⟨r, b6⟩ : ∃ r, r = i * N := ⟨_, rfl⟩
      have hm1 : 2 * n * (i : Int) = (r : Int) := by rw [b6, ← HN.out, Int.natCast_mul, Int.mul_comm]
      have hr1 : r ≤ 16384 := by rw [b6]; exact Nat.le_trans (Nat.mul_le_mul (Nat.le_of_lt hlt) (Nat.le_refl N)) (Nat.mul_le_mul hn hn)
      have hm2 : (r : Int) + (j : Int) = ((i * N + j : Nat) : Int) := by rw [b6]; simp
      have c1 : (i * N + j) / N = i ∧ (i * N + j) % N = j := ⟨zdE hlt2, zdH hlt2⟩
      have HF : Hid (zbD N dst k m (i * N + j) = if i ≠ j ∧ gI m ((i * N + j : Nat) : Int) ≠ 9223372036854775807 then plus (gI m ((i * N + j : Nat) : Int)) (byK dst k i - byK dst k j) else gI m ((i * N + j : Nat) : Int)) := hid (by unfold zbD; rw [c1.1, c1.2])
      have hbk := HCC.out.bd i j hlt hlt2
      have HBD := hid hbk
      have a1 : i * N + (j + 1) = i * N + j + 1 := rfl
      clear b6 c1 hbk
      generalize i * N + j = p at *
      have hp' : (p : Int) < (m.length : Int) := by omega
      have HP := hid (show (0 : Int) ≤ (p : Int) by omega)
      obtain ⟨u, hu⟩ : ∃ u, u = gI m (p : Int) := ⟨_, rfl⟩
      have HU := hid hu
      rw [← hu] at HF HBD
      clear hu
      have q0 := p0.below hb (by omega)
      have hx1 := (hx.below (hb.mono (by have := a8.out; omega))).at_ HP.out hp'
      obtain ⟨bA, oA, hA, hbA, cA⟩ := hx1
      have HA := hid hA
      rw [show ((p : Int)).toNat = p from rfl, ← HU.out] at cA
      subst hA
      clear HA
      obtain ⟨x0, x1, x2, fx⟩ := zaa q0
      obtain ⟨y0, y1, y2, fy⟩ := zaa kO
      clear x0 x1 fx y0 y1 fy
      have cx := (zaa q0).1
      go_upto_region 16 with fail
      clear cx
      have f1 := later x2
      have f2 := later y2
      have f3 := later cA
      clear x2 y2 cA
      refine zad 8 (fun W => Below wr.heap.size wr W) (by kernel_rfl) (by kernel_rfl) (Below.refl _ _).drew ?_
      refine fl_a ?_
      intro w3 a5
      have cA3 := f3 w3 a5
      clear f1 f2 f3
      have b9 := hb.trans (a5.mono (by have := hb.size; have := a8.out; omega))
      replace kO := kO.later a5
      replace own := own.below a5
      have q0 := p0.below b9 (by omega)
      have b2 := own.store p u
      have hfr := own.frozen
      have a4 := ze9 (zbD N dst k m) (Nat.le_of_lt a9)
      have hgS : w.heap.size + 4 ≤ gS := by
       rcases own.form with ⟨h, _⟩ | ⟨g, h, h', _⟩
       ·cases h
       ·injection h with h; injection h with h; omega
      obtain ⟨cS, hcS⟩ : ∃ c, w3.cell? ⟨gS, p, none⟩ = some c := by
       obtain ⟨_, _, e1, _, a0⟩ := own.rd p (by rw [a4]; exact a9)
       injection e1 with e1; injection e1 with e1 e2; subst e1; subst e2
       rw [Nat.zero_add] at a0
       exact ⟨_, a0⟩
      have a7 := hid b2
      clear own b2 a5 hb
      go_upto_region 17 with fail
      have a3 : Below (w.heap.size + 4) w0 (w3.setCell ⟨gS, p, none⟩ (.int .i64 u)) := b9.setCell (by simpa using hgS) _
      replace kO := kO.far (p := ⟨gS, p, none⟩) (by simpa using hne.symm) (.int .i64 u)
      clear b9 q0 cA3 hcS hfr
      generalize w3.setCell ⟨gS, p, none⟩ (.int .i64 u) = w5 at *
      have q0 := p0.below a3 (by omega)
      have q1 := p1.below a3 (by omega)
      have q3 := p3.below a3 (by omega)
      obtain ⟨_, _, eA, _, cA⟩ := (hx.below (a3.mono (by have := a8.out; omega))).at_ HP.out hp'
      injection eA with eA; injection eA with eA1 eA2; subst eA1; subst eA2
      rw [show ((p : Int)).toNat = p from rfl, ← HU.out] at cA
      obtain ⟨x0, x1, x2, fx⟩ := zaa q0
      by_cases hij : i = j
      ·have t1 : ((i : Int) != (j : Int)) = false := by rw [hij]; simp
       have HV : Hid (zbD N dst k m p = u) := hid (by rw [HF.out, if_neg (fun h => h.1 hij)])
       have HE : Hid ((zbI (zbD N dst k m) m.length p).set p u = zbI (zbD N dst k m) m.length (p + 1)) := hid (by rw [← HV.out]; exact zcp _ a9)
       rw [HE.out] at a7
       clear hij
       go_wp2
       go_roundw
       case rel => exact ⟨j + 1, by omega, by go_num, by rw [a1]; exact a7.out, kO, a3⟩
       case measure => simp [RowKit.intOf]; omega
      ·have t1 : ((i : Int) != (j : Int)) = true := by simp; omega
       cases t2 : (u != 9223372036854775807)
       ·have HV : Hid (zbD N dst k m p = u) := hid (by rw [HF.out, if_neg (fun h => by simp at t2; exact h.2 t2)])
        have HE : Hid ((zbI (zbD N dst k m) m.length p).set p u = zbI (zbD N dst k m) m.length (p + 1)) := hid (by rw [← HV.out]; exact zcp _ a9)
        rw [HE.out] at a7
        clear hij
        go_wp2
        go_roundw
        case rel => exact ⟨j + 1, by omega, by go_num, by rw [a1]; exact a7.out, kO, a3⟩
        case measure => simp [RowKit.intOf]; omega
       ·have HV : Hid (zbD N dst k m p = plus u (byK dst k i - byK dst k j)) := hid (by rw [HF.out, if_pos ⟨hij, by simpa using t2⟩])
        have hbi := zkb (dst := dst) (i := i) HK.out
        have hbj := zkb (dst := dst) (i := j) HK.out
        have hwv : wrap64 (byK dst k i - byK dst k j) = byK dst k i - byK dst k j := IntWalk.wrap64_in _ (by omega)
        have HB1 := hid (fun W h1 h2 => zlz dst i k (w.heap.size + 1) (w.heap.size + 1 + 1 + 1) W h1 h2 (by omega))
        have HB2 := hid (fun W h1 h2 => zlz dst j k (w.heap.size + 1) (w.heap.size + 1 + 1 + 1) W h1 h2 (by omega))
        have HE : Hid (((zbI (zbD N dst k m) m.length p).set p u).set p (plus u (byK dst k i - byK dst k j)) = zbI (zbD N dst k m) m.length (p + 1)) := hid (by rw [List.set_set, ← HV.out]; exact zcp _ a9)
        clear hij HV HF hbi hbj
        generalize byK dst k i = bi at *
        generalize byK dst k j = bj at *
        go_wp2_with fail
        obtain ⟨y0, y1, y2, fy⟩ := zaa kO
        have f2 := later x2
        have f3 := later cA
        have f4 := later y2
        clear x0 x1 x2 fx y0 y1 y2 fy cA
        refine zad 16 (fun X => Below w5.heap.size w5 X) (by kernel_rfl) (by kernel_rfl) (Below.refl _ _).drew ?_
        refine fl_a ?_
        (refine fl_c 238 #[(i : Int), .pointer (some ⟨w.heap.size + 1, 0, none⟩), .pointer (some ⟨w.heap.size + 1 + 1 + 1, 0, none⟩)] (.int .i64 bi) (fun X hX => (HB1.out _ (q1.later hX) (q3.later hX)).mono fun e' w' ⟨he, hw⟩ => ⟨he, hw ▸ hX⟩) ?_)
        refine fl_a ?_
        (refine fl_c 238 #[(j : Int), .pointer (some ⟨w.heap.size + 1, 0, none⟩), .pointer (some ⟨w.heap.size + 1 + 1 + 1, 0, none⟩)] (.int .i64 bj) (fun X hX => (HB2.out _ (q1.later hX) (q3.later hX)).mono fun e' w' ⟨he, hw⟩ => ⟨he, hw ▸ hX⟩) ?_)
        refine fl_a ?_
        (refine fl_c 239 #[.int .i64 u, .int .i64 (bi - bj)] (.int .i64 (plus u (bi - bj))) (fun X hX => (zek _ _ _).mono fun e' w' ⟨he, hw⟩ => ⟨he, hw ▸ hX⟩) ?_)
        intro w6 b7
        clear f2 f3 f4
        have a2 := a7.out.below b7
        have hb7 := a3.trans (b7.mono (by have := a3.size; have := a8.out; omega))
        replace kO := kO.later b7
        have hfr := a2.frozen
        obtain ⟨cS, hcS⟩ : ∃ c, w6.cell? ⟨gS, p, none⟩ = some c := by
         obtain ⟨_, _, e1, _, a0⟩ := a2.rd p (by rw [List.length_set, a4]; exact a9)
         injection e1 with e1; injection e1 with e1 e2; subst e1; subst e2
         rw [Nat.zero_add] at a0
         exact ⟨_, a0⟩
        have a6 := a2.store p (plus u (bi - bj))
        rw [HE.out] at a6
        have HO7 := hid a6
        clear a2 a6 a7 a3 b7 q0 q1 q3
        go_wp2
        go_roundw
        case rel => exact ⟨j + 1, by omega, by go_num, by rw [a1]; exact HO7.out, kO.far (p := ⟨gS, p, none⟩) (by simpa using hne.symm) _, hb7.setCell (by simpa using hgS) _⟩
        case measure => simp [RowKit.intOf]; omega
     ·obtain rfl : j = N := by omega
      have hge : ¬ ((j : Int) < 2 * n) := by have := HN.out; omega
      have c0 : i * j + j = (i + 1) * j := by rw [Nat.succ_mul]
      rw [c0] at own
      go_wp2
      go_roundw
      case rel => exact ⟨i + 1, by omega, by go_num, own, kO, hb⟩
      case measure => simp [RowKit.intOf]; omega
   ·obtain rfl : i = N := by omega
    have hge : ¬ ((i : Int) < 2 * n) := by have := HN.out; omega
    rw [← HL.out, HSF.out] at own
    have hlS := zee i dst k m
    have q2 := p2.below hb (by omega)
    have hmq : (zbJ i dst k m).length ≤ 17592186044416 := by rw [hlS]; exact hm
    have HT := hid (fun W h => zaT ⟨n, false, zbJ i dst k m⟩ okq.ok (some ⟨gS, 0, none⟩) m.length W h hmq)
    dsimp only at HT
    rw [hlS] at HT
    have b5 := hb0.trans (hb.mono (by omega))
    clear x0 x1 x2 fx q0
    obtain ⟨y0, y1, y2, fy⟩ := zaa kO
    go_wp2_with fail
    clear y0 y1 y2 fy
    (with_reducible refine (HT.out wr own.rd).mono ?_)
    clear HT
    rintro e8 w8 ⟨A8, c8, rfl, b1, hb8⟩
    replace q2 := q2.later hb8
    replace b5 := bup b5 hb8
    generalize closeO ⟨n, false, zbJ i dst k m⟩ = R at *
    have z0 := zaa q2
    go_wp2
    have q9 := q2.set3 (v0 := .int .i64 R.n) (v1 := .bool R.e) (v2 := .slice A8 R.m.length c8)
    have o9 := b1.far3 (g := w.heap.size + 1 + 1) (v0 := .int .i64 R.n) (v1 := .bool R.e) (v2 := .slice A8 R.m.length c8) (zan b1 q2 (by decide))
    obtain ⟨r0, r1, r2, fr⟩ := zaa q9
    refine bodyPost_ret (v := .agg #[R.n, R.e, .slice A8 R.m.length c8]) (by simp [results, Tryz.results197, go_sem, r0, r1, r2]) rfl ?_
    exact ⟨A8, c8, rfl, o9.less (by have := hb.size; have := a8.out; omega), b5.trans (zah (by omega) b5.size)⟩
end
section
open Go.RowKit
attribute [local go_sem ↓] Go.wp_at_zero Go.wp_at_succ
def opV (v n : Int) : Value := .agg #[v, n]
theorem zi8 (w : World) :
  Calls Tryz.prog 207 #[] w fun e w' => e = .returned (opV (-1) 0) ∧ Below w.heap.size w w' := by
 unfold opV
 go_enter Tryz.func207, Tryz.ntmps207
 go_wp2
 exact bodyPost_ret (v := .agg #[.int .i64 (-1), .int .i64 0]) (by simp [results, Tryz.results207, go_sem]) rfl ⟨rfl, new1 _ _⟩
theorem zgT (w : World) : (isAgg 3).run Tryz.prog w = .ok false w := by kernel_rfl
theorem zhp (w : World) : (isAgg 2).run Tryz.prog w = .ok false w := by kernel_rfl
theorem zkr (d : Nat) (a c : Int) (w : World) : (Op.equalIn (d + 1) 3 (.int .i64 a) (.int .i64 c)).run Tryz.prog w = .ok (a == c) w := by
 simp [Op.equalIn, run_underlying Tryz.underlying3]
theorem zhz (d : Nat) (a c : Int) (w : World) : (Op.equalIn (d + 1) 2 (.int .i64 a) (.int .i64 c)).run Tryz.prog w = .ok (a == c) w := by
 simp [Op.equalIn, run_underlying Tryz.underlying2]
theorem zlb (x y : Value) (w : World) : (Go.part 3 #[x, y] 0).run Tryz.prog w = .ok x w := by simp [Go.part]
theorem zln (x y : Value) (w : World) : (Go.part 2 #[x, y] 1).run Tryz.prog w = .ok y w := by simp [Go.part]
theorem zl5 (_w : World) : Tryz.prog.stoodInHeld 26 = false := by kernel_rfl
theorem zdx (d : Nat) (a b c e : Int) (w : World) : (Op.equalIn (d + 2) 26 (.agg #[a, b]) (.agg #[c, e])).run Tryz.prog w = .ok (a == c && b == e) w := by
 rw [Op.equalIn]
 simp only [Sem.run_bind, run_underlying Tryz.underlying26, Result.andThen_ok]
 simp [zlb, zln, zkr, zhz]
 by_cases h : a = c <;> by_cases h2 : b = e <;> simp [h, h2]
def opEq (a b c e : Int) : Bool := a == c && b == e
theorem zdr (a b c e : Int) (w : World) : (Op.equal 26 (.agg #[a, b]) (.agg #[c, e])).run Tryz.prog w = .ok (opEq a b c e) w := zdx 9998 a b c e w
theorem zdR (a b c e : Int) (w : World) : (Op.equalIn 10000 26 (.agg #[a, b]) (.agg #[c, e])).run Tryz.prog w = .ok (opEq a b c e) w := zdr a b c e w
end
section
open Go.RowKit
theorem zih (n fr te kd dst arr op av an bv bn : Int) : rightT n ⟨fr, te, kd, dst, arr, op, av, an, bv, bn⟩ = (decide (1 ≤ kd ∧ kd ≤ 14) && ((bif wDst kd then (decide (0 ≤ dst) && decide (dst < n)) else (dst == -1)) && ((bif wArr kd then decide (0 ≤ arr) else (arr == -1)) && ((bif wOp kd then (decide (1 ≤ op) && decide (op ≤ 6)) else (op == 0)) && ((bif wA kd then opdOk n av an else opEq av an (-1) 0) && (bif wB kd then opdOk n bv bn else opEq bv bn (-1) 0)))))) := by
 unfold rightT rightE zaD opEq
 dsimp only
 generalize opdOk n av an = x1
 generalize opdOk n bv bn = x2
 have e1 : ∀ x y : Int, (x == y) = decide (x = y) := fun x y => by rw [Bool.eq_iff_iff]; simp
 simp only [e1, ← Bool.decide_and]
 by_cases h : 0 ≤ arr
 ·rw [if_pos h, if_pos h]
  rw [show decide ((0 : Int) ≤ 0 ∧ (0 : Int) < 1) = true from rfl, show decide ((0 : Int) = -1) = false from rfl, show decide (0 ≤ arr) = true from decide_eq_true h, show decide (arr = -1) = false from decide_eq_false (by omega)]
  simp only [Bool.and_assoc]
 ·rw [if_neg h, if_neg h]
  rw [show decide (0 ≤ arr ∧ arr < 0) = false from decide_eq_false (by omega), show decide (0 ≤ arr) = false from decide_eq_false h]
  simp only [Bool.and_assoc]
end
end Go.Proofs.YtnmpgijiimglcaaGreat
