/-
  gnomonlaw22.WidenExact: the law's own walk.
  The document's Bound of octagons that may be: what it answers, and which block alone it changes.
  gnomonref16.bound: a variable bounded by a range, in place.
  gnomonref16.atMost: what it answers, in place.
  gnomonref15: what the document's ranges tell of a closed octagon.
  trans.unlike of a variable and a number: what it answers.
  trans.unlike of two variables, and of any two operands: what it answers.
  gnomonref16.unlike: what it answers.
  gnomonref16.closed, There, assume, Assume: what they answer.
  trans.assumes: what it answers of a closed octagon.
  trans.Assume: what it answers.
  gnomonref13.Close of octagons that may be; gnomonlaw16.steady.
  FlowE: a step that leans on what the steps yielded that it waits for; an octagon built out of a fresh slice; a fresh box.
  Drawn regions: calls whose operands are known by the facts of earlier steps; a slice that is built.
  The library's iterator over a map's keys at this program: the table of numbers.
  FlowIn: the law of Flow inside the wide fence, in a round of a range over a function or outside of one.
  maps.Keys of a map with one key: its iterator asks once, with that key.
  FlowM inside the wide fence (printed by gen_flowmi.py).
  The octagon of one point, behind edges. Plain.
  Letting a variable go, cell by cell as the program does it: plain law.
  What a range over a function wants to be told of memory that stays.
  order.forgets at one variable; order.Forget; trans.forgets, trans.gives.
  order.Forget; trans.forgets, trans.gives.
  trans.gives, trans.Give: what they answer.
  Two blocks of four cells stored whole, one after the other.
  safe.endsOf, safe.ends.has, gnomonref17.ends: what they answer.
  safe.size: how large a number is without its sign.
  math/bits.Mul64 at this program.
  num.Mul: what it answers.
  trans.reckonsOf: how each kind reckons.
  trans.shift's inner function: how far a side goes.
  trans.shift of a variable by itself: what it answers.
-/
import Derived.Test.YtkncebcekhfnfaaGreatBWT06
import Derived.Test.YtkncebcekhfnfaaGreatBWT14
import Derived.Test.YtkncebcekhfnfaaGreatBWT08
import Derived.Test.YtkncebcekhfnfaaGreatBWT13
import Derived.Test.YtkncebcekhfnfaaGreatBWT12
import Derived.Test.YtkncebcekhfnfaaGreatBWT05
import Derived.Test.YtkncebcekhfnfaaGreatBWT03
import Derived.Test.YtkncebcekhfnfaaGreatBWT10
import Derived.Test.YtkncebcekhfnfaaGreatBWT11
import Derived.Shelf.SlIterI.Stops
import Derived.Test.YtkncebcekhfnfaaGreatRows
import Derived.Test.YtkncebcekhfnfaaGreatBWT01
import Derived.OrdersIn
import Derived.TacticsIn
import Derived.RangeFuncCalls
import Derived.RangeFuncNested
import Derived.RangeFuncKeeps
import Derived.WalkMore
import Derived.Laws.EntriesVeiled
import Derived.RangeFuncFrom
import Derived.Maps.Own
import Derived.Shelf.Bits.Mul64
namespace Go.Proofs.YtkncebcekhfnfaaGreat
section
open Go.RowKit
attribute [local go_sem ↓] Go.wp_at_zero Go.wp_at_succ

theorem laterE {w : World} {p : Addr} {v : Value} (h : w.cell? p = some v) : ∀ W, Ext w.drew W → W.cell? p = some v := fun _ hb => cell_later (w := w.drew) hb h
def IsBox (t : TypeId) (cs : Array Value) (v : Value) (wa wb : World) : Prop := v = .pointer (some ⟨wa.heap.size, 0, none⟩) ∧ Blk wb wa.heap.size t cs ∧ wb.heap.size = wa.heap.size + 1

theorem fact_box {w0 W : World} {t : TypeId} {cs : Array Value} {v : Value} {lo hi : Nat} (h : Sp.fact w0 (Sp.any (IsBox t cs)) v lo hi W) :
    ∃ g, v = .pointer (some ⟨g, 0, none⟩) ∧ Blk W g t cs ∧ w0.heap.size ≤ g ∧ g = lo ∧ g + 1 = hi := by
  obtain ⟨wa, wb, e1, e2, e3, rfl, rfl, rfl, hb, hs⟩ := h
  exact ⟨_, rfl, hb.below e3 (by omega), e1.size, rfl, hs.symm⟩
end
section

end
section

end
section

end
section

end
section

end
section

end
section

end
section

end
section

end
section

end
section

end
section
open Go.RowKit

def IsIntsB (B : Nat) (xs : List Int) (v : Value) (_ wb : World) : Prop := ∃ A1 c1, v = .slice A1 xs.length c1 ∧ Own wb B A1 c1 xs
theorem fact_intsB {w0 W : World} {B : Nat} {xs : List Int} {v : Value} {lo hi : Nat} (h : Sp.fact w0 (Sp.any (IsIntsB B xs)) v lo hi W) : ∃ A1 c1, v = .slice A1 xs.length c1 ∧ Own W B A1 c1 xs := by
  obtain ⟨wa, wb, e1, e2, e3, rfl, rfl, A1, c1, rfl, own⟩ := h
  exact ⟨A1, c1, rfl, own.below e3⟩
end
section

end
section

end
section
/-- The wide fence, in a round or outside. -/
def wideAt (ro : Option Nat) : Fence := { Fence.wide with round := ro }
@[simp, go_sem] theorem wideAt_round (ro : Option Nat) : (wideAt ro).round = ro := rfl
@[simp, go_sem] theorem wideAt_depth (ro : Option Nat) : (wideAt ro).depth = none := rfl
@[simp, go_sem] theorem wideAt_fn (ro : Option Nat) (f : FuncId) : (wideAt ro).fn f = True := rfl

/-! The moves. -/
end
section

end
section
/-! The moves. -/
end
section

end
section

end
section

end
section

end
section

end
section

end
section
open Go.RowKit

theorem below4 {W : World} {B g : Nat} {v0 v1 v2 v3 : Value} (hg : B ≤ g) (hB : B ≤ W.heap.size) : Below B W ((((W.setCell ⟨g, 0, none⟩ v0).setCell ⟨g, 1, none⟩ v1).setCell ⟨g, 2, none⟩ v2).setCell ⟨g, 3, none⟩ v3) := by
  have a0 := below1 (W := W) (i := 0) (v := v0) hg hB
  have s0 := Nat.le_trans hB a0.size
  have a1 := below1 (W := W.setCell ⟨g, 0, none⟩ v0) (i := 1) (v := v1) hg s0
  have s1 := Nat.le_trans s0 a1.size
  have a2 := below1 (W := (W.setCell ⟨g, 0, none⟩ v0).setCell ⟨g, 1, none⟩ v1) (i := 2) (v := v2) hg s1
  have s2 := Nat.le_trans s1 a2.size
  exact ((a0.trans a1).trans a2).trans (below1 hg s2)
end
section

end
section

end
section
open Go.RowKit Go.Lib Go.Proofs
attribute [local go_sem ↓] Go.wp_at_zero Go.wp_at_succ

set_option maxHeartbeats 2000000 in
theorem mul64_ok (x y : Nat) (hx : x < 18446744073709551616) (hy : y < 18446744073709551616) (w : World) :
    Calls Tryz.prog 151 #[.int .u64 x, .int .u64 y] w fun e w' => e = .returned (.tuple #[.int .u64 ((x * y / 18446744073709551616 : Nat) : Int), .int .u64 ((x * y % 18446744073709551616 : Nat) : Int)]) ∧ w' = w := by
  obtain ⟨bd, bt, bw, hhi⟩ := Lib.mul64_hi x y hx hy
  have ba := Lib.half_mul_le (a := x / 4294967296) (b := y / 4294967296) (by omega) (by omega)
  have bb := Lib.half_mul_le (a := x / 4294967296) (b := y % 4294967296) (by omega) (by omega)
  have bc := Lib.half_mul_le (a := x % 4294967296) (b := y / 4294967296) (by omega) (by omega)
  have ba' : x / 4294967296 * (y / 4294967296) < 18446744073709551616 := by omega
  have bb' : x / 4294967296 * (y % 4294967296) < 18446744073709551616 := by omega
  have bc' : x % 4294967296 * (y / 4294967296) < 18446744073709551616 := by omega
  have bh1 : x / 4294967296 * (y / 4294967296) + (x / 4294967296 * (y % 4294967296) + x % 4294967296 * (y % 4294967296) / 4294967296) / 4294967296 < 18446744073709551616 := by omega
  have bh : x / 4294967296 * (y / 4294967296) + (x / 4294967296 * (y % 4294967296) + x % 4294967296 * (y % 4294967296) / 4294967296) / 4294967296 + ((x / 4294967296 * (y % 4294967296) + x % 4294967296 * (y % 4294967296) / 4294967296) % 4294967296 + x % 4294967296 * (y / 4294967296)) / 4294967296 < 18446744073709551616 := by omega
  go_enter Tryz.func151, Tryz.ntmps151
  go_wp2
  simp only [Mul64.maskN x hx, Mul64.maskN y hy, Mul64.divN, Mul64.mulN, Mul64.addN, Mul64.wrapN _ bd, Mul64.wrapN _ bb', Mul64.wrapN _ bt, Mul64.maskN _ bt, Mul64.wrapN _ bc', Mul64.wrapN _ bw, Mul64.wrapN _ ba', Mul64.wrapN _ bh1, Mul64.wrapN _ bh, Mul64.wrapM (x * y)]
  rw [hhi]
  go_ret2
  exact ⟨rfl, rfl⟩

theorem size_abs (a : Int) : (if a < 0 then -a else a) = ((a.natAbs : Nat) : Int) := by split <;> omega
theorem times_fits (a b : Int) : (mulW a b).2 = 0 ↔ a.natAbs * b.natAbs ≤ (if decide (a < 0) != decide (b < 0) then 9223372036854775808 else 9223372036854775807) := by
  have e : ((a.natAbs * b.natAbs : Nat) : Int) = if decide (a < 0) != decide (b < 0) then -(a * b) else a * b := by
    rw [Int.natCast_mul]
    by_cases ha : a < 0 <;> by_cases hb : b < 0
    · rw [show (a.natAbs : Int) = -a by omega, show (b.natAbs : Int) = -b by omega]; simp [ha, hb]; exact Int.neg_mul_neg a b
    · rw [show (a.natAbs : Int) = -a by omega, show (b.natAbs : Int) = b by omega]; simp [ha, hb]; exact Int.neg_mul a b
    · rw [show (a.natAbs : Int) = a by omega, show (b.natAbs : Int) = -b by omega]; simp [ha, hb]; exact Int.mul_neg a b
    · rw [show (a.natAbs : Int) = a by omega, show (b.natAbs : Int) = b by omega]; simp [ha, hb]
  unfold mulW
  have hf : (fit (a * b)).2 = 0 ↔ (-9223372036854775808 ≤ a * b ∧ a * b ≤ 9223372036854775807) := by
    by_cases h : -9223372036854775808 ≤ a * b ∧ a * b ≤ 9223372036854775807
    · rw [fit_in h]; simp [h]
    · rw [fit_out (by omega)]; simp [h]
  rw [hf]
  cases hs : (decide (a < 0) != decide (b < 0))
  · rw [hs] at e; simp only [Bool.false_eq_true, if_false] at e ⊢; omega
  · rw [hs] at e; simp only [if_true] at e ⊢; omega
end
section
open Go.RowKit
attribute [local go_sem ↓] Go.wp_at_zero Go.wp_at_succ

theorem nsize_ok (n : Int) (hn : I64 n) (w : World) : Calls Tryz.prog 152 #[.int .i64 n] w fun e w' => e = .returned (.int .u64 (if n < 0 then -n else n)) ∧ w' = w := by
  unfold I64 at hn
  obtain ⟨n0, n1⟩ := hn
  by_cases h : n < 0
  · rw [if_pos h]
    have t1 : decide (n < 0) = true := by rw [decide_eq_true_eq]; exact h
    have u0 : (n + 18446744073709551616 : Int) % 18446744073709551616 = n + 18446744073709551616 := by omega
    have u1 : n % 18446744073709551616 = n + 18446744073709551616 := by omega
    go_enter Tryz.func152, Tryz.ntmps152
    go_wp2
    have hw : IntKind.u64.wrap (-IntKind.u64.wrap n) = -n := by
      have e1 : IntKind.u64.wrap n = n + 18446744073709551616 := u1
      rw [e1]
      show (-(n + 18446744073709551616)) % 18446744073709551616 = -n
      omega
    rw [hw]
    go_ret
    exact ⟨rfl, rfl⟩
  · rw [if_neg h]
    have t1 : decide (n < 0) = false := by rw [decide_eq_false_iff_not]; exact h
    have u1 : n % 18446744073709551616 = n := by omega
    go_enter Tryz.func152, Tryz.ntmps152
    go_wp2
    go_ret
    exact ⟨rfl, rfl⟩

theorem mulW_yes {a b : Int} (h : (mulW a b).2 = 0) : (wrap64 (a * b), (0 : Int)) = mulW a b := by
  unfold mulW at *
  by_cases q : -9223372036854775808 ≤ a * b ∧ a * b ≤ 9223372036854775807
  · exact (fit_wrap q).symm
  · rw [fit_out (by omega)] at h; cases h
theorem mulW_no {a b : Int} (h : ¬ (mulW a b).2 = 0) : ((0 : Int), (1 : Int)) = mulW a b := by
  unfold mulW at *
  by_cases q : -9223372036854775808 ≤ a * b ∧ a * b ≤ 9223372036854775807
  · rw [fit_in q] at h; exact absurd rfl h
  · exact (fit_out (by omega)).symm
set_option maxHeartbeats 4000000 in
theorem nmul_any (a b : Int) (w : World) (ia : I64 a) (ib : I64 b) : Calls Tryz.prog 129 #[.int .i64 a, .int .i64 b] w (PairRes (mulW a b) w) := by
  have HF := hid (times_fits a b)
  have S1 := hid (fun W => nsize_ok a ia W)
  have S2 := hid (fun W => nsize_ok b ib W)
  rw [size_abs] at S1 S2
  have hA : a.natAbs < 18446744073709551616 := by unfold I64 at ia; omega
  have hB : b.natAbs < 18446744073709551616 := by unfold I64 at ib; omega
  have S3 := hid (fun W => mul64_ok a.natAbs b.natAbs hA hB W)
  clear ia ib hA hB
  generalize a.natAbs = A at *
  generalize b.natAbs = B at *
  have HY := hid (fun h => mulW_yes (a := a) (b := b) h)
  have HN := hid (fun h => mulW_no (a := a) (b := b) h)
  generalize mulW a b = R at *
  obtain ⟨M, hM⟩ : ∃ M, M = A * B := ⟨_, rfl⟩
  rw [← hM] at S3 HF
  clear hM
  obtain ⟨h, hh⟩ : ∃ h, h = M / 18446744073709551616 := ⟨_, rfl⟩
  obtain ⟨l, hl⟩ : ∃ l, l = M % 18446744073709551616 := ⟨_, rfl⟩
  rw [← hh, ← hl] at S3
  have HH := hid (And.intro hh hl)
  have l1 : (l : Int) ≤ 18446744073709551615 := by omega
  clear hh hl
  go_enter Tryz.func129, Tryz.ntmps129
  go_wp2_with fail
  (with_reducible refine (S1.out w).mono ?_)
  rintro e1 w1 ⟨rfl, hw⟩; subst w1
  go_wp2_with fail
  (with_reducible refine (S2.out w).mono ?_)
  rintro e2 w2 ⟨rfl, hw⟩; subst w2
  go_wp2_with fail
  (with_reducible refine (S3.out w).mono ?_)
  rintro e3 w3 ⟨rfl, hw⟩; subst w3
  clear S1 S2 S3
  cases t1 : decide (a < 0) <;> cases t2 : decide (b < 0)
  all_goals
    have HT := hid (And.intro t1 t2)
    by_cases h0 : h = 0
    · have t3 : ((h : Int) != 0) = false := by rw [h0]; rfl
      have HZ := hid h0
      clear h0
      by_cases q : R.2 = 0
      · have e1 := HF.out.1 q
        rw [t1, t2] at e1
        have e2 := HH.out
        have e3 := HZ.out
        have t4 : decide ((9223372036854775807 : Int) < (l : Int)) = decide ((9223372036854775807 : Int) < (l : Int)) := rfl
        have HR := hid (HY.out q)
        simp at e1
        first
        | (
            have t5 : decide ((9223372036854775807 : Int) < (l : Int)) = false := by rw [decide_eq_false_iff_not]; omega
            clear e1 e2 e3 t4 q
            go_wp2
            go_ret2
            exact prok HR.out.symm)
        | (
            have t5 : decide ((9223372036854775808 : Int) < (l : Int)) = false := by rw [decide_eq_false_iff_not]; omega
            clear e1 e2 e3 t4 q
            go_wp2
            go_ret2
            exact prok HR.out.symm)
      · have e1 := fun k => q (HF.out.2 k)
        rw [t1, t2] at e1
        have e2 := HH.out
        have e3 := HZ.out
        have HR := hid (HN.out q)
        simp at e1
        first
        | (
            have t5 : decide ((9223372036854775808 : Int) < (l : Int)) = true := by rw [decide_eq_true_eq]; omega
            have t6 : decide ((9223372036854775807 : Int) < (l : Int)) = true := by rw [decide_eq_true_eq]; omega
            clear e1 e2 e3 q
            go_wp2
            go_ret2
            exact prok HR.out.symm)
        | (
            have t5 : decide ((9223372036854775807 : Int) < (l : Int)) = true := by rw [decide_eq_true_eq]; omega
            clear e1 e2 e3 q
            go_wp2
            go_ret2
            exact prok HR.out.symm)
    · have t3 : ((h : Int) != 0) = true := by simp; omega
      by_cases q : R.2 = 0
      · exfalso
        have e1 := HF.out.1 q
        rw [t1, t2] at e1
        have e2 := HH.out
        simp at e1
        omega
      · have HR := hid (HN.out q)
        clear h0 q
        go_wp2
        go_ret2
        exact prok HR.out.symm
end
section

end
section

end
section

end
end Go.Proofs.YtkncebcekhfnfaaGreat
