/-
  num, gnomonref7: what each call answers.
  num.Cmp, gnomonref7.Cmp, Neg, Add, Sub: what each call answers.
  dbm.within, copied, With: what each call answers, of octagons that may be.
  dbm.With, trans.limits, trans.closed, trans.empty: of octagons that may be.
  trans's and order's small functions: closed, empty, plus, minus, twice, negated, upTo, from, only.
  dbm.Get, and span's reading of a closed octagon: what they answer.
  trans.ranged: a variable bounded by a range.
  trans.atMost: what it answers.
  span.In: what a closed octagon tells of a variable, a sum, a difference, an operand.
  A point of an octagon is one of the octagon closed. Plain.
-/
import Derived.Test.YtkncebcekhfnfaaGreatBWL05
import Derived.Test.YtkncebcekhfnfaaGreatBWL02
import Derived.IntWalk
import Derived.Laws.EntriesVeiled
import Derived.Test.YtkncebcekhfnfaaGreatBWL06
import Derived.Test.YtkncebcekhfnfaaGreatBWL04
namespace Go.Proofs.YtkncebcekhfnfaaGreat
section
open Go.RowKit
attribute [local go_sem ↓] Go.wp_at_zero Go.wp_at_succ

theorem ret2 {a b : Int} {p : Int × Int} (h : p = (a, b)) : Ending.returned (.tuple #[.int .i64 a, .int .i64 b]) = .returned (pairV p) := by rw [h]; rfl
/-- Two numbers, and the world as it was. -/
def PairRes (p : Int × Int) (w : World) (e : Ending) (w' : World) : Prop := e = .returned (pairV p) ∧ w = w'
def IntRes (p : Int) (w : World) (e : Ending) (w' : World) : Prop := e = .returned (.int .i64 p) ∧ w = w'
def BoolRes (p : Bool) (w : World) (e : Ending) (w' : World) : Prop := e = .returned (.bool p) ∧ w = w'
def I64 (a : Int) : Prop := -9223372036854775808 ≤ a ∧ a ≤ 9223372036854775807
theorem prok {a b : Int} {w : World} {p : Int × Int} (h : p = (a, b)) : PairRes p w (.returned (.tuple #[.int .i64 a, .int .i64 b])) w := ⟨ret2 h, rfl⟩
theorem fit_in {a : Int} (h : -9223372036854775808 ≤ a ∧ a ≤ 9223372036854775807) : fit a = (a, 0) := by unfold fit inI; rw [if_pos (by rw [decide_eq_true_eq]; exact h)]
theorem fit_out {a : Int} (h : a < -9223372036854775808 ∨ 9223372036854775807 < a) : fit a = (0, 1) := by unfold fit inI; rw [if_neg (by rw [decide_eq_true_eq]; omega)]
theorem tdiv_in {a b : Int} (ha : -9223372036854775808 ≤ a ∧ a ≤ 9223372036854775807) (hne : ¬ b = 0) (hov : (a == -9223372036854775808 && b == -1) = false) : -9223372036854775808 ≤ a.tdiv b ∧ a.tdiv b ≤ 9223372036854775807 := by
  have h : (a.tdiv b).natAbs = a.natAbs / b.natAbs := Int.natAbs_tdiv a b
  have h1 : a.natAbs / b.natAbs ≤ a.natAbs := Nat.div_le_self _ _
  by_cases e : a = -9223372036854775808
  · subst e
    have hb : b ≠ -1 := by rintro rfl; simp at hov
    by_cases e1 : b = 1
    · subst e1; simp
    · have h2 : (-9223372036854775808 : Int).natAbs / b.natAbs ≤ (-9223372036854775808 : Int).natAbs / 2 := Nat.div_le_div_left (by omega) (by omega)
      have h3 : (-9223372036854775808 : Int).natAbs / 2 = 4611686018427387904 := by decide
      omega
  · omega
theorem div_w {a b : Int} (ha : -9223372036854775808 ≤ a ∧ a ≤ 9223372036854775807) (hne : ¬ b = 0) (hov : (a == -9223372036854775808 && b == -1) = false) : a.tdiv b = wrap64 (a.tdiv b) := (IntWalk.wrap64_in _ (tdiv_in ha hne hov)).symm
theorem tmod_in {a b : Int} (ha : -9223372036854775808 ≤ a ∧ a ≤ 9223372036854775807) : -9223372036854775808 ≤ a.tmod b ∧ a.tmod b ≤ 9223372036854775807 := by
  have h : (a.tmod b).natAbs = a.natAbs % b.natAbs := Int.natAbs_tmod a b
  have h1 : a.natAbs % b.natAbs ≤ a.natAbs := Nat.mod_le _ _
  rcases Int.le_total 0 a with h0 | h0
  · have := Int.tmod_nonneg b h0; omega
  · have := Int.tmod_nonneg b (show 0 ≤ -a by omega)
    rw [Int.neg_tmod] at this
    omega
theorem rem_r {a b : Int} (ha : -9223372036854775808 ≤ a ∧ a ≤ 9223372036854775807) (hne : ¬ b = 0) (hov : (a == -9223372036854775808 && b == -1) = false) : a.tmod b = wrap64 (a - wrap64 (wrap64 (a.tdiv b) * b)) := by
  have hm := tmod_in (b := b) ha
  have e : a.tdiv b * b = a - a.tmod b := by have := Int.mul_tdiv_add_tmod a b; rw [Int.mul_comm] at this; omega
  rw [← div_w ha hne hov, e, IntWalk.wrap64_in (a - a.tmod b) ?_, show a - (a - a.tmod b) = a.tmod b by omega, IntWalk.wrap64_in _ hm]
  rcases Int.le_total 0 a with h0 | h0
  · have h1 := Int.tmod_nonneg b h0
    have h : (a.tmod b).natAbs = a.natAbs % b.natAbs := Int.natAbs_tmod a b
    have h2 : a.natAbs % b.natAbs ≤ a.natAbs := Nat.mod_le _ _
    omega
  · have h1 := Int.tmod_nonneg b (show 0 ≤ -a by omega)
    rw [Int.neg_tmod] at h1
    have h : (a.tmod b).natAbs = a.natAbs % b.natAbs := Int.natAbs_tmod a b
    have h2 : a.natAbs % b.natAbs ≤ a.natAbs := Nat.mod_le _ _
    omega
theorem fit_wrap {a : Int} (h : -9223372036854775808 ≤ a ∧ a ≤ 9223372036854775807) : fit a = (wrap64 a, 0) := by rw [IntWalk.wrap64_in a h]; exact fit_in h

set_option maxHeartbeats 800000 in
theorem nadd_any (a b : Int) (w : World) (ha : I64 a) (hb : I64 b) : Calls Tryz.prog 127 #[.int .i64 a, .int .i64 b] w (PairRes (addW a b) w) := by
  have HA := hid ha
  have HB := hid hb
  clear ha hb
  cases t1 : decide (a < 0) <;> cases t2 : decide (b < 0) <;> cases t3 : decide (wrap64 (a + b) < 0)
  all_goals
    go_enter Tryz.func127, Tryz.ntmps127
    go_wp2
    go_ret2
    have ha := HA.out
    have hb := HB.out
    unfold I64 at ha hb
    simp only [decide_eq_true_eq, decide_eq_false_iff_not] at t1 t2 t3
    unfold wrap64 at t3
    refine prok ?_
    unfold addW
    first | exact fit_wrap (by omega) | exact fit_out (by omega)

set_option maxHeartbeats 800000 in
theorem nsub_any (a b : Int) (w : World) (ha : I64 a) (hb : I64 b) : Calls Tryz.prog 128 #[.int .i64 a, .int .i64 b] w (PairRes (subW a b) w) := by
  have HA := hid ha
  have HB := hid hb
  clear ha hb
  cases t1 : decide (a < 0) <;> cases t2 : decide (b < 0) <;> cases t3 : decide (wrap64 (a - b) < 0)
  all_goals
    go_enter Tryz.func128, Tryz.ntmps128
    go_wp2
    go_ret2
    have ha := HA.out
    have hb := HB.out
    unfold I64 at ha hb
    simp only [decide_eq_true_eq, decide_eq_false_iff_not] at t1 t2 t3
    unfold wrap64 at t3
    refine prok ?_
    unfold subW
    first | exact fit_wrap (by omega) | exact fit_out (by omega)

set_option maxHeartbeats 400000 in
theorem nneg_any (a : Int) (w : World) (ha : I64 a) : Calls Tryz.prog 126 #[.int .i64 a] w (PairRes (negW a) w) := by
  have HC := hid (nsub_any 0 a w (by unfold I64; omega) ha)
  rw [show subW 0 a = negW a from by unfold subW negW; rw [Int.zero_sub]] at HC
  generalize negW a = p at *
  go_enter Tryz.func126, Tryz.ntmps126
  go_wp2_with fail
  refine HC.out.mono ?_
  rintro e w' ⟨rfl, rfl⟩
  obtain ⟨p, q⟩ := p
  unfold pairV
  go_wp2
  go_ret2
  exact prok rfl

set_option maxHeartbeats 800000 in
theorem ndivides_any (a b : Int) (w : World) : Calls Tryz.prog 153 #[.int .i64 a, .int .i64 b] w (IntRes (divErr a b) w) := by
  cases t1 : (b == 0) <;> cases t2 : (a == -9223372036854775808) <;> cases t3 : (b == -1)
  all_goals
    go_enter Tryz.func153, Tryz.ntmps153
    go_wp2
    go_ret
    simp only [beq_iff_eq, beq_eq_false_iff_ne] at t1 t2 t3
    unfold divErr
    first | (rw [if_pos t1]; exact ⟨rfl, rfl⟩) | (rw [if_neg t1, if_pos ⟨t2, t3⟩]; exact ⟨rfl, rfl⟩) | (rw [if_neg t1, if_neg (fun h => t2 h.1)]; exact ⟨rfl, rfl⟩) | (rw [if_neg t1, if_neg (fun h => t3 h.2)]; exact ⟨rfl, rfl⟩)

set_option maxHeartbeats 800000 in
theorem rdivides_any (a b : Int) (w : World) : Calls Tryz.prog 154 #[.int .i64 a, .int .i64 b] w (IntRes (divErr a b) w) := by
  cases t1 : (b == 0) <;> cases t2 : (a == -9223372036854775808) <;> cases t3 : (b == -1)
  all_goals
    go_enter Tryz.func154, Tryz.ntmps154
    go_wp2
    go_ret
    simp only [beq_iff_eq, beq_eq_false_iff_ne] at t1 t2 t3
    unfold divErr
    first | (rw [if_pos t1]; exact ⟨rfl, rfl⟩) | (rw [if_neg t1, if_pos ⟨t2, t3⟩]; exact ⟨rfl, rfl⟩) | (rw [if_neg t1, if_neg (fun h => t2 h.1)]; exact ⟨rfl, rfl⟩) | (rw [if_neg t1, if_neg (fun h => t3 h.2)]; exact ⟨rfl, rfl⟩)

set_option maxHeartbeats 800000 in
theorem ndiv_any (a b : Int) (w : World) (ha : I64 a) (hb : I64 b) : Calls Tryz.prog 130 #[.int .i64 a, .int .i64 b] w (PairRes (divW a b) w) := by
  have HD := hid (ndivides_any a b w)
  have HA := hid ha
  have HB := hid hb
  clear ha hb
  cases t : (divErr a b != 0)
  · have e0 : divErr a b = 0 := by simpa using t
    have HW : Hid (divW a b = (a.tdiv b, 0)) := hid (by unfold divW; rw [if_pos e0])
    have hb0 : (b == 0) = false := by
      rw [beq_eq_false_iff_ne]; intro h; subst h; unfold divErr at e0; simp at e0
    have hov : (a == -9223372036854775808 && b == -1) = false := by
      rw [Bool.eq_false_iff]; intro h
      simp only [Bool.and_eq_true, beq_iff_eq] at h
      unfold divErr at e0; rw [if_neg (by omega), if_pos h] at e0; cases e0
    rw [e0] at HD
    clear e0 t
    have hne : ¬ b = 0 := by simpa using hb0
    go_enter Tryz.func130, Tryz.ntmps130
    go_wp2_with fail
    refine HD.out.mono ?_
    rintro e w' ⟨rfl, rfl⟩
    go_wp2
    go_ret2
    refine prok ?_
    exact HW.out.trans (congrArg (fun x => (x, (0 : Int))) (div_w HA.out hne hov))
  · have HW : Hid (divW a b = (0, divErr a b)) := hid (by unfold divW; rw [if_neg (by simpa using t)])
    generalize divErr a b = er at *
    go_enter Tryz.func130, Tryz.ntmps130
    go_wp2_with fail
    refine HD.out.mono ?_
    rintro e w' ⟨rfl, rfl⟩
    go_wp2
    go_ret2
    exact prok HW.out

set_option maxHeartbeats 800000 in
theorem nrem_any (a b : Int) (w : World) (ha : I64 a) (hb : I64 b) : Calls Tryz.prog 131 #[.int .i64 a, .int .i64 b] w (PairRes (remW a b) w) := by
  have HD := hid (ndivides_any a b w)
  have HA := hid ha
  have HB := hid hb
  clear ha hb
  cases t : (divErr a b != 0)
  · have e0 : divErr a b = 0 := by simpa using t
    have HW : Hid (remW a b = (a.tmod b, 0)) := hid (by unfold remW; rw [if_pos e0])
    have hb0 : (b == 0) = false := by
      rw [beq_eq_false_iff_ne]; intro h; subst h; unfold divErr at e0; simp at e0
    have hov : (a == -9223372036854775808 && b == -1) = false := by
      rw [Bool.eq_false_iff]; intro h
      simp only [Bool.and_eq_true, beq_iff_eq] at h
      unfold divErr at e0; rw [if_neg (by omega), if_pos h] at e0; cases e0
    rw [e0] at HD
    clear e0 t
    have hne : ¬ b = 0 := by simpa using hb0
    go_enter Tryz.func131, Tryz.ntmps131
    go_wp2_with fail
    refine HD.out.mono ?_
    rintro e w' ⟨rfl, rfl⟩
    go_wp2
    go_ret2
    refine prok ?_
    exact HW.out
  · have HW : Hid (remW a b = (0, divErr a b)) := hid (by unfold remW; rw [if_neg (by simpa using t)])
    generalize divErr a b = er at *
    go_enter Tryz.func131, Tryz.ntmps131
    go_wp2_with fail
    refine HD.out.mono ?_
    rintro e w' ⟨rfl, rfl⟩
    go_wp2
    go_ret2
    exact prok HW.out

set_option maxHeartbeats 800000 in
theorem rdiv_any (a b : Int) (w : World) (ha : I64 a) (hb : I64 b) : Calls Tryz.prog 139 #[.int .i64 a, .int .i64 b] w (PairRes (divW a b) w) := by
  have HD := hid (rdivides_any a b w)
  have HA := hid ha
  have HB := hid hb
  clear ha hb
  cases t : (divErr a b != 0)
  · have e0 : divErr a b = 0 := by simpa using t
    have HW : Hid (divW a b = (a.tdiv b, 0)) := hid (by unfold divW; rw [if_pos e0])
    have hb0 : (b == 0) = false := by
      rw [beq_eq_false_iff_ne]; intro h; subst h; unfold divErr at e0; simp at e0
    have hov : (a == -9223372036854775808 && b == -1) = false := by
      rw [Bool.eq_false_iff]; intro h
      simp only [Bool.and_eq_true, beq_iff_eq] at h
      unfold divErr at e0; rw [if_neg (by omega), if_pos h] at e0; cases e0
    rw [e0] at HD
    clear e0 t
    have hne : ¬ b = 0 := by simpa using hb0
    go_enter Tryz.func139, Tryz.ntmps139
    go_wp2_with fail
    refine HD.out.mono ?_
    rintro e w' ⟨rfl, rfl⟩
    go_wp2
    go_ret2
    refine prok ?_
    exact HW.out.trans (congrArg (fun x => (x, (0 : Int))) (div_w HA.out hne hov))
  · have HW : Hid (divW a b = (0, divErr a b)) := hid (by unfold divW; rw [if_neg (by simpa using t)])
    generalize divErr a b = er at *
    go_enter Tryz.func139, Tryz.ntmps139
    go_wp2_with fail
    refine HD.out.mono ?_
    rintro e w' ⟨rfl, rfl⟩
    go_wp2
    go_ret2
    exact prok HW.out

set_option maxHeartbeats 800000 in
theorem rrem_any (a b : Int) (w : World) (ha : I64 a) (hb : I64 b) : Calls Tryz.prog 140 #[.int .i64 a, .int .i64 b] w (PairRes (remW a b) w) := by
  have HD := hid (rdivides_any a b w)
  have HA := hid ha
  have HB := hid hb
  clear ha hb
  cases t : (divErr a b != 0)
  · have e0 : divErr a b = 0 := by simpa using t
    have HW : Hid (remW a b = (a.tmod b, 0)) := hid (by unfold remW; rw [if_pos e0])
    have hb0 : (b == 0) = false := by
      rw [beq_eq_false_iff_ne]; intro h; subst h; unfold divErr at e0; simp at e0
    have hov : (a == -9223372036854775808 && b == -1) = false := by
      rw [Bool.eq_false_iff]; intro h
      simp only [Bool.and_eq_true, beq_iff_eq] at h
      unfold divErr at e0; rw [if_neg (by omega), if_pos h] at e0; cases e0
    rw [e0] at HD
    clear e0 t
    have hne : ¬ b = 0 := by simpa using hb0
    go_enter Tryz.func140, Tryz.ntmps140
    go_wp2_with fail
    refine HD.out.mono ?_
    rintro e w' ⟨rfl, rfl⟩
    go_wp2
    go_ret2
    refine prok ?_
    exact HW.out.trans (congrArg (fun x => (x, (0 : Int))) (rem_r HA.out hne hov))
  · have HW : Hid (remW a b = (0, divErr a b)) := hid (by unfold remW; rw [if_neg (by simpa using t)])
    generalize divErr a b = er at *
    go_enter Tryz.func140, Tryz.ntmps140
    go_wp2_with fail
    refine HD.out.mono ?_
    rintro e w' ⟨rfl, rfl⟩
    go_wp2
    go_ret2
    exact prok HW.out
end
section
open Go.RowKit
attribute [local go_sem ↓] Go.wp_at_zero Go.wp_at_succ

theorem cmp1_any (a b : Int) (w : World) : Calls Tryz.prog 159 #[.int .i64 a, .int .i64 b] w (BoolRes (decide (a < b)) w) := by
  go_enter Tryz.func159, Tryz.ntmps159
  go_wp2
  go_ret
  exact ⟨retb (by first | rfl | (rw [Bool.eq_iff_iff]; simp)), rfl⟩

theorem cmp2_any (a b : Int) (w : World) : Calls Tryz.prog 160 #[.int .i64 a, .int .i64 b] w (BoolRes (decide (a ≤ b)) w) := by
  go_enter Tryz.func160, Tryz.ntmps160
  go_wp2
  go_ret
  exact ⟨retb (by first | rfl | (rw [Bool.eq_iff_iff]; simp)), rfl⟩

theorem cmp3_any (a b : Int) (w : World) : Calls Tryz.prog 161 #[.int .i64 a, .int .i64 b] w (BoolRes (decide (a = b)) w) := by
  go_enter Tryz.func161, Tryz.ntmps161
  go_wp2
  go_ret
  exact ⟨retb (by first | rfl | (rw [Bool.eq_iff_iff]; simp)), rfl⟩

theorem cmp4_any (a b : Int) (w : World) : Calls Tryz.prog 162 #[.int .i64 a, .int .i64 b] w (BoolRes (decide (a ≠ b)) w) := by
  go_enter Tryz.func162, Tryz.ntmps162
  go_wp2
  go_ret
  exact ⟨retb (by first | rfl | (rw [Bool.eq_iff_iff]; simp)), rfl⟩

theorem cmp5_any (a b : Int) (w : World) : Calls Tryz.prog 163 #[.int .i64 a, .int .i64 b] w (BoolRes (decide (b < a)) w) := by
  go_enter Tryz.func163, Tryz.ntmps163
  go_wp2
  go_ret
  exact ⟨retb (by first | rfl | (rw [Bool.eq_iff_iff]; simp)), rfl⟩

theorem cmp6_any (a b : Int) (w : World) : Calls Tryz.prog 164 #[.int .i64 a, .int .i64 b] w (BoolRes (decide (b ≤ a)) w) := by
  go_enter Tryz.func164, Tryz.ntmps164
  go_wp2
  go_ret
  exact ⟨retb (by first | rfl | (rw [Bool.eq_iff_iff]; simp)), rfl⟩

theorem ncompares_any (w : World) : Calls Tryz.prog 150 #[] w fun e w' => e = .returned (.agg #[.func (.func 158) #[] #[], .func (.func 159) #[] #[], .func (.func 160) #[] #[], .func (.func 161) #[] #[], .func (.func 162) #[] #[], .func (.func 163) #[] #[], .func (.func 164) #[] #[]]) ∧ Below w.heap.size w w' := by
  go_enter Tryz.func150, Tryz.ntmps150
  go_wp2
  refine bodyPost_ret (v := .agg #[.func (.func 158) #[] #[], .func (.func 159) #[] #[], .func (.func 160) #[] #[], .func (.func 161) #[] #[], .func (.func 162) #[] #[], .func (.func 163) #[] #[], .func (.func 164) #[] #[]]) (by simp [results, Tryz.results150, go_sem]) rfl (And.intro rfl ?_)
  repeat (first | exact Below.refl _ _ | refine Below.setCell ?_ (by simp) _ | refine Below.alloc ?_ (by simp) _)

theorem ix7_1 (f0 f1 f2 f3 f4 f5 f6 : Value) (W : World) : (Instr.index 188 (.agg #[f0, f1, f2, f3, f4, f5, f6]) (.int .i64 1)).run Tryz.prog W = .ok f1 W := by
  simp [Instr.index, run_underlying Tryz.underlying188, asIntOf, go_sem]

theorem ix7_2 (f0 f1 f2 f3 f4 f5 f6 : Value) (W : World) : (Instr.index 188 (.agg #[f0, f1, f2, f3, f4, f5, f6]) (.int .i64 2)).run Tryz.prog W = .ok f2 W := by
  simp [Instr.index, run_underlying Tryz.underlying188, asIntOf, go_sem]

theorem ix7_3 (f0 f1 f2 f3 f4 f5 f6 : Value) (W : World) : (Instr.index 188 (.agg #[f0, f1, f2, f3, f4, f5, f6]) (.int .i64 3)).run Tryz.prog W = .ok f3 W := by
  simp [Instr.index, run_underlying Tryz.underlying188, asIntOf, go_sem]

theorem ix7_4 (f0 f1 f2 f3 f4 f5 f6 : Value) (W : World) : (Instr.index 188 (.agg #[f0, f1, f2, f3, f4, f5, f6]) (.int .i64 4)).run Tryz.prog W = .ok f4 W := by
  simp [Instr.index, run_underlying Tryz.underlying188, asIntOf, go_sem]

theorem ix7_5 (f0 f1 f2 f3 f4 f5 f6 : Value) (W : World) : (Instr.index 188 (.agg #[f0, f1, f2, f3, f4, f5, f6]) (.int .i64 5)).run Tryz.prog W = .ok f5 W := by
  simp [Instr.index, run_underlying Tryz.underlying188, asIntOf, go_sem]

theorem ix7_6 (f0 f1 f2 f3 f4 f5 f6 : Value) (W : World) : (Instr.index 188 (.agg #[f0, f1, f2, f3, f4, f5, f6]) (.int .i64 6)).run Tryz.prog W = .ok f6 W := by
  simp [Instr.index, run_underlying Tryz.underlying188, asIntOf, go_sem]

/-- A Bool, and whatever memory was made. -/
def BoolBel (b : Bool) (w : World) (e : Ending) (w' : World) : Prop := e = .returned (.bool b) ∧ Below w.heap.size w w'
set_option maxHeartbeats 800000 in
theorem ncmp_any (op a b : Int) (w : World) : Calls Tryz.prog 124 #[.int .i64 op, .int .i64 a, .int .i64 b] w (BoolBel (cmpB op a b) w) := by
  by_cases h : 1 ≤ op ∧ op ≤ 6
  · obtain h1 | h2 | h3 | h4 | h5 | h6 : op = 1 ∨ op = 2 ∨ op = 3 ∨ op = 4 ∨ op = 5 ∨ op = 6 := by omega

    · subst h1
      have HC := hid (ncompares_any w)
      have hix := fun W => ix7_1 (.func (.func 158) #[] #[]) (.func (.func 159) #[] #[]) (.func (.func 160) #[] #[]) (.func (.func 161) #[] #[]) (.func (.func 162) #[] #[]) (.func (.func 163) #[] #[]) (.func (.func 164) #[] #[]) W
      clear h
      go_enter Tryz.func124, Tryz.ntmps124
      go_wp2_with fail
      refine HC.out.mono ?_
      rintro e w' ⟨rfl, hb⟩
      go_wp2_with fail
      refine (cmp1_any _ _ _).mono ?_
      rintro e w2 ⟨rfl, rfl⟩
      go_wp2
      go_ret
      exact ⟨retb (by first | rfl | (show _ = cmpB 1 a b; unfold cmpB; simp)), hb⟩

    · subst h2
      have HC := hid (ncompares_any w)
      have hix := fun W => ix7_2 (.func (.func 158) #[] #[]) (.func (.func 159) #[] #[]) (.func (.func 160) #[] #[]) (.func (.func 161) #[] #[]) (.func (.func 162) #[] #[]) (.func (.func 163) #[] #[]) (.func (.func 164) #[] #[]) W
      clear h
      go_enter Tryz.func124, Tryz.ntmps124
      go_wp2_with fail
      refine HC.out.mono ?_
      rintro e w' ⟨rfl, hb⟩
      go_wp2_with fail
      refine (cmp2_any _ _ _).mono ?_
      rintro e w2 ⟨rfl, rfl⟩
      go_wp2
      go_ret
      exact ⟨retb (by first | rfl | (show _ = cmpB 2 a b; unfold cmpB; simp)), hb⟩

    · subst h3
      have HC := hid (ncompares_any w)
      have hix := fun W => ix7_3 (.func (.func 158) #[] #[]) (.func (.func 159) #[] #[]) (.func (.func 160) #[] #[]) (.func (.func 161) #[] #[]) (.func (.func 162) #[] #[]) (.func (.func 163) #[] #[]) (.func (.func 164) #[] #[]) W
      clear h
      go_enter Tryz.func124, Tryz.ntmps124
      go_wp2_with fail
      refine HC.out.mono ?_
      rintro e w' ⟨rfl, hb⟩
      go_wp2_with fail
      refine (cmp3_any _ _ _).mono ?_
      rintro e w2 ⟨rfl, rfl⟩
      go_wp2
      go_ret
      exact ⟨retb (by first | rfl | (show _ = cmpB 3 a b; unfold cmpB; simp)), hb⟩

    · subst h4
      have HC := hid (ncompares_any w)
      have hix := fun W => ix7_4 (.func (.func 158) #[] #[]) (.func (.func 159) #[] #[]) (.func (.func 160) #[] #[]) (.func (.func 161) #[] #[]) (.func (.func 162) #[] #[]) (.func (.func 163) #[] #[]) (.func (.func 164) #[] #[]) W
      clear h
      go_enter Tryz.func124, Tryz.ntmps124
      go_wp2_with fail
      refine HC.out.mono ?_
      rintro e w' ⟨rfl, hb⟩
      go_wp2_with fail
      refine (cmp4_any _ _ _).mono ?_
      rintro e w2 ⟨rfl, rfl⟩
      go_wp2
      go_ret
      exact ⟨retb (by first | rfl | (show _ = cmpB 4 a b; unfold cmpB; simp)), hb⟩

    · subst h5
      have HC := hid (ncompares_any w)
      have hix := fun W => ix7_5 (.func (.func 158) #[] #[]) (.func (.func 159) #[] #[]) (.func (.func 160) #[] #[]) (.func (.func 161) #[] #[]) (.func (.func 162) #[] #[]) (.func (.func 163) #[] #[]) (.func (.func 164) #[] #[]) W
      clear h
      go_enter Tryz.func124, Tryz.ntmps124
      go_wp2_with fail
      refine HC.out.mono ?_
      rintro e w' ⟨rfl, hb⟩
      go_wp2_with fail
      refine (cmp5_any _ _ _).mono ?_
      rintro e w2 ⟨rfl, rfl⟩
      go_wp2
      go_ret
      exact ⟨retb (by first | rfl | (show _ = cmpB 5 a b; unfold cmpB; simp)), hb⟩

    · subst h6
      have HC := hid (ncompares_any w)
      have hix := fun W => ix7_6 (.func (.func 158) #[] #[]) (.func (.func 159) #[] #[]) (.func (.func 160) #[] #[]) (.func (.func 161) #[] #[]) (.func (.func 162) #[] #[]) (.func (.func 163) #[] #[]) (.func (.func 164) #[] #[]) W
      clear h
      go_enter Tryz.func124, Tryz.ntmps124
      go_wp2_with fail
      refine HC.out.mono ?_
      rintro e w' ⟨rfl, hb⟩
      go_wp2_with fail
      refine (cmp6_any _ _ _).mono ?_
      rintro e w2 ⟨rfl, rfl⟩
      go_wp2
      go_ret
      exact ⟨retb (by first | rfl | (show _ = cmpB 6 a b; unfold cmpB; simp)), hb⟩

  · have HB : Hid (cmpB op a b = false) := hid (by unfold cmpB; repeat (rw [if_neg (by omega)]))
    cases t1 : decide (op < 1) <;> cases t2 : decide (6 < op)
    · exfalso; simp at t1 t2; omega
    all_goals
      clear h
      go_enter Tryz.func124, Tryz.ntmps124
      go_wp2
      go_ret
      exact ⟨retb HB.out.symm, Below.refl _ _⟩
set_option maxHeartbeats 800000 in
theorem rcmp_any (op a b : Int) (w : World) : Calls Tryz.prog 94 #[.int .i64 op, .int .i64 a, .int .i64 b] w (BoolRes (cmpB op a b) w) := by
  by_cases h : 1 ≤ op ∧ op ≤ 6
  · obtain h1 | h2 | h3 | h4 | h5 | h6 : op = 1 ∨ op = 2 ∨ op = 3 ∨ op = 4 ∨ op = 5 ∨ op = 6 := by omega

    · subst h1
      have HB : Hid (cmpB 1 a b = decide (a < b)) := hid rfl
      clear h
      go_enter Tryz.func94, Tryz.ntmps94
      go_wp2
      go_ret
      exact ⟨retb (Eq.trans (by first | rfl | (rw [Bool.eq_iff_iff]; simp)) HB.out.symm), rfl⟩

    · subst h2
      have HB : Hid (cmpB 2 a b = decide (a ≤ b)) := hid rfl
      clear h
      go_enter Tryz.func94, Tryz.ntmps94
      go_wp2
      go_ret
      exact ⟨retb (Eq.trans (by first | rfl | (rw [Bool.eq_iff_iff]; simp)) HB.out.symm), rfl⟩

    · subst h3
      have HB : Hid (cmpB 3 a b = decide (a = b)) := hid rfl
      clear h
      go_enter Tryz.func94, Tryz.ntmps94
      go_wp2
      go_ret
      exact ⟨retb (Eq.trans (by first | rfl | (rw [Bool.eq_iff_iff]; simp)) HB.out.symm), rfl⟩

    · subst h4
      have HB : Hid (cmpB 4 a b = decide (a ≠ b)) := hid rfl
      clear h
      go_enter Tryz.func94, Tryz.ntmps94
      go_wp2
      go_ret
      exact ⟨retb (Eq.trans (by first | rfl | (rw [Bool.eq_iff_iff]; simp)) HB.out.symm), rfl⟩

    · subst h5
      have HB : Hid (cmpB 5 a b = decide (b < a)) := hid rfl
      clear h
      go_enter Tryz.func94, Tryz.ntmps94
      go_wp2
      go_ret
      exact ⟨retb (Eq.trans (by first | rfl | (rw [Bool.eq_iff_iff]; simp)) HB.out.symm), rfl⟩

    · subst h6
      have HB : Hid (cmpB 6 a b = decide (b ≤ a)) := hid rfl
      clear h
      go_enter Tryz.func94, Tryz.ntmps94
      go_wp2
      go_ret
      exact ⟨retb (Eq.trans (by first | rfl | (rw [Bool.eq_iff_iff]; simp)) HB.out.symm), rfl⟩

  · have HB : Hid (cmpB op a b = false) := hid (by unfold cmpB; repeat (rw [if_neg (by omega)]))
    have t1 : (op == 1) = false := by rw [beq_eq_false_iff_ne]; omega
    have t2 : (op == 2) = false := by rw [beq_eq_false_iff_ne]; omega
    have t3 : (op == 3) = false := by rw [beq_eq_false_iff_ne]; omega
    have t4 : (op == 4) = false := by rw [beq_eq_false_iff_ne]; omega
    have t5 : (op == 5) = false := by rw [beq_eq_false_iff_ne]; omega
    have t6 : (op == 6) = false := by rw [beq_eq_false_iff_ne]; omega
    clear h
    go_enter Tryz.func94, Tryz.ntmps94
    go_wp2
    go_ret
    exact ⟨retb HB.out.symm, rfl⟩
end
section
open Go.RowKit
attribute [local go_sem ↓] Go.wp_at_zero Go.wp_at_succ

/-- Two new blocks. -/
theorem new_two (w : World) (cs0 cs1 : Array Value) (t0 t1 : TypeId) : Blk ((w.alloc (.cells cs0 t0)).alloc (.cells cs1 t1)) w.heap.size t0 cs0 ∧ Blk ((w.alloc (.cells cs0 t0)).alloc (.cells cs1 t1)) (w.heap.size + 1) t1 cs1 ∧ Below w.heap.size w ((w.alloc (.cells cs0 t0)).alloc (.cells cs1 t1)) ∧ ((w.alloc (.cells cs0 t0)).alloc (.cells cs1 t1)).heap.size = w.heap.size + 2 := by
  obtain ⟨h1, h2⟩ := blk_two (w := w) (Below.refl _ ((w.alloc (.cells cs0 t0)).alloc (.cells cs1 t1)))
  exact ⟨h1, h2, ((Below.refl _ _).alloc (Nat.le_refl _) _).alloc (by simp) _, by simp⟩
end
section

end
section

end
section
open Go.RowKit
attribute [local go_sem ↓] Go.wp_at_zero Go.wp_at_succ

theorem new_one (w : World) (cs : Array Value) (t : TypeId) : Blk (w.alloc (.cells cs t)) w.heap.size t cs ∧ Below w.heap.size w (w.alloc (.cells cs t)) ∧ (w.alloc (.cells cs t)).heap.size = w.heap.size + 1 :=
  ⟨Blk.new w t cs, new1 w _, by simp⟩

theorem opbox {w : World} {g : Nat} {t : TypeId} {a b : Value} (h : Blk w g t #[a, b]) : w.cell? ⟨g, 0, none⟩ = some a ∧ w.cell? ⟨g, 1, none⟩ = some b ∧ ∀ j, w.frozen? ⟨g, j, none⟩ = false :=
  ⟨h.cell 0, h.cell 1, h.fr⟩
end
section

end
section

end
section
open Go.RowKit
attribute [local go_sem ↓] Go.wp_at_zero Go.wp_at_succ

def BelVal (v : Value) (w : World) (e : Ending) (w' : World) : Prop := e = .returned v ∧ Below w.heap.size w w'
end
section
open Go.RowKit

/-- A point's number on a side. -/
def sideX (x : List Int) (i : Nat) : Int := if i % 2 = 0 then gI x ((i / 2 : Nat) : Int) else -gI x ((i / 2 : Nat) : Int)
/-- How far a point's sides are apart. -/
def apartX (x : List Int) (i j : Nat) : Int := sideX x i - sideX x j
/-- A bound lets a number be. -/
def Lets (c d : Int) : Prop := c = 9223372036854775807 ∨ d ≤ c
/-- The matrix has the point. -/
def HasM (N : Nat) (m x : List Int) : Prop := ∀ i j : Nat, i < N → j < N → Lets (G N m i j) (apartX x i j)

theorem bndS {a : Int} (h : isBound a = true) : a = 9223372036854775807 ∨ (-4611686018427387904 ≤ a ∧ a ≤ 4611686018427387904) := by
  unfold isBound at h; exact of_decide_eq_true h
/-- An octagon that may be has a point. -/
def HasO (o : O) (x : List Int) : Prop := o.e = false ∧ (x.length : Int) = o.n ∧ HasM (2 * o.n).toNat o.m x
end
end Go.Proofs.YtkncebcekhfnfaaGreat
