import Derived.Test.YtnmpgijiimglcaaGreatBTt11
import Derived.Test.YtnmpgijiimglcaaGreatBTt01
import Derived.IntWalk
import Derived.Laws.EntriesVeiled
namespace Go.Proofs.YtnmpgijiimglcaaGreat
open Go.RowKit
set_option maxRecDepth 100000
set_option maxHeartbeats 8000000
section
attribute [local go_sem ↓] Go.wp_at_zero Go.wp_at_succ
theorem ze1 (a : Int) (w : World) (ha : I64 a) : Calls Tryz.prog 107 #[a] w (zaE (negW a) w) := by
 have HA := hid ha
 clear ha
 cases t1 : (a == -9223372036854775808)
 all_goals
  go_enter Tryz.func107, Tryz.ntmps107
  go_wp2
  go_ret2
  have ha := HA.out
  unfold I64 at ha
  simp only [beq_iff_eq, beq_eq_false_iff_ne] at t1
  refine prok ?_
  unfold negW
  first | exact zcw (by omega) | exact zbB (by omega)
theorem zli (a b : Int) (w : World) (ha : I64 a) (hb : I64 b) : Calls Tryz.prog 108 #[a, b] w (zaE (addW a b) w) := by
 have HA := hid ha
 have HB := hid hb
 clear ha hb
 cases t1 : decide (0 < b) <;> cases t2 : decide (wrap64 (9223372036854775807 - b) < a) <;> cases t3 : decide (b < 0) <;> cases t4 : decide (a < wrap64 (-9223372036854775808 - b))
 all_goals
  go_enter Tryz.func108, Tryz.ntmps108
  go_wp2
  go_ret2
  have ha := HA.out
  have hb := HB.out
  unfold I64 at ha hb
  simp only [decide_eq_true_eq, decide_eq_false_iff_not] at t1 t2 t3 t4
  unfold wrap64 at t2 t4
  refine prok ?_
  unfold addW
  first | exact zcw (by omega) | exact zbB (by omega)
theorem zk4 (a b : Int) (w : World) (ha : I64 a) (hb : I64 b) : Calls Tryz.prog 109 #[a, b] w (zaE (subW a b) w) := by
 have HA := hid ha
 have HB := hid hb
 clear ha hb
 cases t1 : decide (b < 0) <;> cases t2 : decide (wrap64 (9223372036854775807 + b) < a) <;> cases t3 : decide (0 < b) <;> cases t4 : decide (a < wrap64 (-9223372036854775808 + b))
 all_goals
  go_enter Tryz.func109, Tryz.ntmps109
  go_wp2
  go_ret2
  have ha := HA.out
  have hb := HB.out
  unfold I64 at ha hb
  simp only [decide_eq_true_eq, decide_eq_false_iff_not] at t1 t2 t3 t4
  unfold wrap64 at t2 t4
  refine prok ?_
  unfold subW
  first | exact zcw (by omega) | exact zbB (by omega)
theorem zmD {a b : Int} (ha : I64 a) (hb : I64 b) (a0 : a ≠ 0) (b0 : b ≠ 0) (b1 : b ≠ -1) : (wrap64 ((wrap64 (a * b)).tdiv b) = a) ↔ I64 (a * b) := by
 have hw : I64 (wrap64 (a * b)) := by unfold I64 wrap64; omega
 have hin : wrap64 ((wrap64 (a * b)).tdiv b) = (wrap64 (a * b)).tdiv b := IntWalk.wrap64_in _ (zf9 hw b0 (by simp [b1]))
 rw [hin]
 constructor
 ·intro h
  have h1 := Int.mul_tdiv_add_tmod (wrap64 (a * b)) b
  rw [h, Int.mul_comm] at h1
  have h2 : ((wrap64 (a * b)).tmod b).natAbs = (wrap64 (a * b)).natAbs % b.natAbs := Int.natAbs_tmod _ _
  have h3 : (wrap64 (a * b)).natAbs % b.natAbs < b.natAbs := Nat.mod_lt _ (by omega)
  unfold I64 at *
  generalize (wrap64 (a * b)).tmod b = r at *
  generalize a * b = p at *
  unfold wrap64 at h1 hw
  omega
 ·intro h
  have e : wrap64 (a * b) = a * b := IntWalk.wrap64_in _ h
  rw [e, Int.mul_tdiv_cancel _ b0]
theorem zhl (b : Int) : mulW 0 b = (0, 0) := by unfold mulW; rw [Int.zero_mul]; rfl
theorem zhH (a : Int) : mulW a 0 = (0, 0) := by unfold mulW; rw [Int.mul_zero]; rfl
theorem zjh (b : Int) : mulW (-1) b = negW b := by unfold mulW negW; rw [Int.neg_one_mul]
theorem ziL (a : Int) : mulW a (-1) = negW a := by unfold mulW negW; rw [Int.mul_neg_one]
theorem zki (a b : Int) (w : World) (ha : I64 a) (hb : I64 b) : Calls Tryz.prog 110 #[a, b] w (zaE (mulW a b) w) := by
 have HNA := hid (ze1 a w ha)
 have HNB := hid (ze1 b w hb)
 have HA := hid ha
 have HB := hid hb
 clear ha hb
 by_cases a0 : a = 0
 ·subst a0
  rw [zhl]
  go_enter Tryz.func110, Tryz.ntmps110
  go_wp2
  go_ret2
  exact prok rfl
 by_cases b0 : b = 0
 ·subst b0
  have t1 : (a == 0) = false := by simp [a0]
  rw [zhH]
  go_enter Tryz.func110, Tryz.ntmps110
  go_wp2
  go_ret2
  exact prok rfl
 have t1 : (a == 0) = false := by simp [a0]
 have t2 : (b == 0) = false := by simp [b0]
 by_cases a1 : a = -1
 ·subst a1
  rw [zjh]
  generalize negW b = p at *
  go_enter Tryz.func110, Tryz.ntmps110
  go_wp2_with fail
  refine HNB.out.mono ?_
  rintro e w' ⟨rfl, rfl⟩
  obtain ⟨p, q⟩ := p
  unfold zdl
  go_wp2
  go_ret2
  exact prok rfl
 have t3 : (a == -1) = false := by simp [a1]
 by_cases b1 : b = -1
 ·subst b1
  rw [ziL]
  generalize negW a = p at *
  go_enter Tryz.func110, Tryz.ntmps110
  go_wp2_with fail
  refine HNA.out.mono ?_
  rintro e w' ⟨rfl, rfl⟩
  obtain ⟨p, q⟩ := p
  unfold zdl
  go_wp2
  go_ret2
  exact prok rfl
 have t4 : (b == -1) = false := by simp [b1]
 have HM := hid (zmD HA.out HB.out a0 b0 b1)
 have hne : ¬ b = 0 := b0
 have hov : (wrap64 (a * b) == -9223372036854775808 && b == -1) = false := by simp [b1]
 clear a0 b0 a1 b1 HNA HNB HA HB
 cases t5 : (wrap64 ((wrap64 (a * b)).tdiv b) != a)
 all_goals
  go_enter Tryz.func110, Tryz.ntmps110
  go_wp2
  go_ret2
  have hm := HM.out
  simp only [bne_iff_ne, bne_eq_false_iff_eq] at t5
  refine prok ?_
  unfold mulW
  first | (exact zcw (hm.1 t5)) | (refine zbB ?_; have hn : ¬ I64 (a * b) := fun h => t5 (hm.2 h); unfold I64 at hn; omega)
def doW (kd a b : Int) : Int × Int := if kd = 5 then negW a else if kd = 6 then addW a b else if kd = 7 then subW a b else if kd = 8 then mulW a b else if kd = 9 then divW a b else remW a b
theorem zoV (a b : Int) (w : World) (ha : I64 a) (hb : I64 b) : Calls Tryz.prog 49 #[.int .i64 5, a, b] w (zaE (negW a) w) := by
  have HC := hid (ze1 a w ha)
  generalize negW a = p at *
  clear ha hb
  go_enter Tryz.func49, Tryz.ntmps49
  go_wp2_with fail
  refine HC.out.mono ?_
  rintro e w' ⟨rfl, rfl⟩
  obtain ⟨p, q⟩ := p
  unfold zdl
  go_wp2
  go_ret2
  exact prok rfl
theorem zoY (a b : Int) (w : World) (ha : I64 a) (hb : I64 b) : Calls Tryz.prog 49 #[.int .i64 6, a, b] w (zaE (addW a b) w) := by
  have HC := hid (zli a b w ha hb)
  generalize addW a b = p at *
  clear ha hb
  go_enter Tryz.func49, Tryz.ntmps49
  go_wp2_with fail
  refine HC.out.mono ?_
  rintro e w' ⟨rfl, rfl⟩
  obtain ⟨p, q⟩ := p
  unfold zdl
  go_wp2
  go_ret2
  exact prok rfl
theorem zoF (a b : Int) (w : World) (ha : I64 a) (hb : I64 b) : Calls Tryz.prog 49 #[.int .i64 7, a, b] w (zaE (subW a b) w) := by
  have HC := hid (zk4 a b w ha hb)
  generalize subW a b = p at *
  clear ha hb
  go_enter Tryz.func49, Tryz.ntmps49
  go_wp2_with fail
  refine HC.out.mono ?_
  rintro e w' ⟨rfl, rfl⟩
  obtain ⟨p, q⟩ := p
  unfold zdl
  go_wp2
  go_ret2
  exact prok rfl
theorem zoO (a b : Int) (w : World) (ha : I64 a) (hb : I64 b) : Calls Tryz.prog 49 #[.int .i64 8, a, b] w (zaE (mulW a b) w) := by
  have HC := hid (zki a b w ha hb)
  generalize mulW a b = p at *
  clear ha hb
  go_enter Tryz.func49, Tryz.ntmps49
  go_wp2_with fail
  refine HC.out.mono ?_
  rintro e w' ⟨rfl, rfl⟩
  obtain ⟨p, q⟩ := p
  unfold zdl
  go_wp2
  go_ret2
  exact prok rfl
theorem zot (a b : Int) (w : World) (ha : I64 a) (hb : I64 b) : Calls Tryz.prog 49 #[.int .i64 9, a, b] w (zaE (divW a b) w) := by
  have HC := hid (zlV a b w ha hb)
  generalize divW a b = p at *
  clear ha hb
  go_enter Tryz.func49, Tryz.ntmps49
  go_wp2_with fail
  refine HC.out.mono ?_
  rintro e w' ⟨rfl, rfl⟩
  obtain ⟨p, q⟩ := p
  unfold zdl
  go_wp2
  go_ret2
  exact prok rfl
theorem zo4 (kd a b : Int) (w : World) (ha : I64 a) (hb : I64 b) (h5 : kd ≠ 5) (h6 : kd ≠ 6) (h7 : kd ≠ 7) (h8 : kd ≠ 8) (h9 : kd ≠ 9) : Calls Tryz.prog 49 #[kd, a, b] w (zaE (remW a b) w) := by
  have HC := hid (zmL a b w ha hb)
  generalize remW a b = p at *
  clear ha hb
  have t5 : (kd == 5) = false := by simp [h5]
  have t6 : (kd == 6) = false := by simp [h6]
  have t7 : (kd == 7) = false := by simp [h7]
  have t8 : (kd == 8) = false := by simp [h8]
  have t9 : (kd == 9) = false := by simp [h9]
  clear h5 h6 h7 h8 h9
  go_enter Tryz.func49, Tryz.ntmps49
  go_wp2_with fail
  refine HC.out.mono ?_
  rintro e w' ⟨rfl, rfl⟩
  obtain ⟨p, q⟩ := p
  unfold zdl
  go_wp2
  go_ret2
  exact prok rfl
theorem zmu (kd a b : Int) (w : World) (ha : I64 a) (hb : I64 b) : Calls Tryz.prog 49 #[kd, a, b] w (zaE (doW kd a b) w) := by
 unfold doW
 split
 ·rename_i h; subst h; exact zoV a b w ha hb
 ·split
  ·rename_i h; subst h; exact zoY a b w ha hb
  ·split
   ·rename_i h; subst h; exact zoF a b w ha hb
   ·split
    ·rename_i h; subst h; exact zoO a b w ha hb
    ·split
     ·rename_i h; subst h; exact zot a b w ha hb
     ·rename_i h5 h6 h7 h8 h9; exact zo4 kd a b w ha hb h5 h6 h7 h8 h9
end
section
attribute [local go_sem ↓] Go.wp_at_zero Go.wp_at_succ
theorem zm7 (a b : Int) (w : World) : Calls Tryz.prog 221 #[a, b] w (zdb (decide (a < b)) w) := by
 go_enter Tryz.func221, Tryz.ntmps221
 go_wp2
 go_ret
 exact ⟨retb (by first | rfl | (rw [Bool.eq_iff_iff]; simp)), rfl⟩
theorem zl9 (a b : Int) (w : World) : Calls Tryz.prog 222 #[a, b] w (zdb (decide (a ≤ b)) w) := by
 go_enter Tryz.func222, Tryz.ntmps222
 go_wp2
 go_ret
 exact ⟨retb (by first | rfl | (rw [Bool.eq_iff_iff]; simp)), rfl⟩
theorem zm2 (a b : Int) (w : World) : Calls Tryz.prog 223 #[a, b] w (zdb (decide (a = b)) w) := by
 go_enter Tryz.func223, Tryz.ntmps223
 go_wp2
 go_ret
 exact ⟨retb (by first | rfl | (rw [Bool.eq_iff_iff]; simp)), rfl⟩
theorem zmk (a b : Int) (w : World) : Calls Tryz.prog 224 #[a, b] w (zdb (decide (a ≠ b)) w) := by
 go_enter Tryz.func224, Tryz.ntmps224
 go_wp2
 go_ret
 exact ⟨retb (by first | rfl | (rw [Bool.eq_iff_iff]; simp)), rfl⟩
theorem zmH (a b : Int) (w : World) : Calls Tryz.prog 225 #[a, b] w (zdb (decide (b < a)) w) := by
 go_enter Tryz.func225, Tryz.ntmps225
 go_wp2
 go_ret
 exact ⟨retb (by first | rfl | (rw [Bool.eq_iff_iff]; simp)), rfl⟩
theorem zmG (a b : Int) (w : World) : Calls Tryz.prog 226 #[a, b] w (zdb (decide (b ≤ a)) w) := by
 go_enter Tryz.func226, Tryz.ntmps226
 go_wp2
 go_ret
 exact ⟨retb (by first | rfl | (rw [Bool.eq_iff_iff]; simp)), rfl⟩
theorem zba (w : World) : Calls Tryz.prog 185 #[] w fun e w' => e = .returned (.agg #[.func (.func 220) #[] #[], .func (.func 221) #[] #[], .func (.func 222) #[] #[], .func (.func 223) #[] #[], .func (.func 224) #[] #[], .func (.func 225) #[] #[], .func (.func 226) #[] #[]]) ∧ Below w.heap.size w w' := by
 go_enter Tryz.func185, Tryz.ntmps185
 go_wp2
 refine bodyPost_ret (v := .agg #[.func (.func 220) #[] #[], .func (.func 221) #[] #[], .func (.func 222) #[] #[], .func (.func 223) #[] #[], .func (.func 224) #[] #[], .func (.func 225) #[] #[], .func (.func 226) #[] #[]]) (by simp [results, Tryz.results185, go_sem]) rfl (And.intro rfl ?_)
 exact zdy
theorem zpn (f0 f1 f2 f3 f4 f5 f6 : Value) (W : World) : (Instr.index 199 (.agg #[f0, f1, f2, f3, f4, f5, f6]) (.int .i64 1)).run Tryz.prog W = .ok f1 W := by
 simp [Instr.index, run_underlying Tryz.underlying199, asIntOf, go_sem]
theorem zpk (f0 f1 f2 f3 f4 f5 f6 : Value) (W : World) : (Instr.index 199 (.agg #[f0, f1, f2, f3, f4, f5, f6]) (.int .i64 2)).run Tryz.prog W = .ok f2 W := by
 simp [Instr.index, run_underlying Tryz.underlying199, asIntOf, go_sem]
theorem zps (f0 f1 f2 f3 f4 f5 f6 : Value) (W : World) : (Instr.index 199 (.agg #[f0, f1, f2, f3, f4, f5, f6]) (.int .i64 3)).run Tryz.prog W = .ok f3 W := by
 simp [Instr.index, run_underlying Tryz.underlying199, asIntOf, go_sem]
theorem zpm (f0 f1 f2 f3 f4 f5 f6 : Value) (W : World) : (Instr.index 199 (.agg #[f0, f1, f2, f3, f4, f5, f6]) (.int .i64 4)).run Tryz.prog W = .ok f4 W := by
 simp [Instr.index, run_underlying Tryz.underlying199, asIntOf, go_sem]
theorem zpf (f0 f1 f2 f3 f4 f5 f6 : Value) (W : World) : (Instr.index 199 (.agg #[f0, f1, f2, f3, f4, f5, f6]) (.int .i64 5)).run Tryz.prog W = .ok f5 W := by
 simp [Instr.index, run_underlying Tryz.underlying199, asIntOf, go_sem]
theorem zpq (f0 f1 f2 f3 f4 f5 f6 : Value) (W : World) : (Instr.index 199 (.agg #[f0, f1, f2, f3, f4, f5, f6]) (.int .i64 6)).run Tryz.prog W = .ok f6 W := by
 simp [Instr.index, run_underlying Tryz.underlying199, asIntOf, go_sem]
def zky (b : Bool) (w : World) (e : Ending) (w' : World) : Prop := e = .returned (.bool b) ∧ Below w.heap.size w w'
theorem zh0 (op a b : Int) (w : World) : Calls Tryz.prog 121 #[op, a, b] w (zky (cmpB op a b) w) := by
 by_cases h : 1 ≤ op ∧ op ≤ 6
 ·obtain h1 | h2 | h3 | h4 | h5 | h6 : op = 1 ∨ op = 2 ∨ op = 3 ∨ op = 4 ∨ op = 5 ∨ op = 6 := by omega
  ·subst h1
   have HC := hid (zba w)
   have a0 := fun W => zpn (.func (.func 220) #[] #[]) (.func (.func 221) #[] #[]) (.func (.func 222) #[] #[]) (.func (.func 223) #[] #[]) (.func (.func 224) #[] #[]) (.func (.func 225) #[] #[]) (.func (.func 226) #[] #[]) W
   clear h
   go_enter Tryz.func121, Tryz.ntmps121
   go_wp2_with fail
   refine HC.out.mono ?_
   rintro e w' ⟨rfl, hb⟩
   go_wp2_with fail
   refine (zm7 _ _ _).mono ?_
   rintro e w2 ⟨rfl, rfl⟩
   go_wp2
   go_ret
   exact ⟨retb (by first | rfl | (show _ = cmpB 1 a b; unfold cmpB; simp)), hb⟩
  ·subst h2
   have HC := hid (zba w)
   have a0 := fun W => zpk (.func (.func 220) #[] #[]) (.func (.func 221) #[] #[]) (.func (.func 222) #[] #[]) (.func (.func 223) #[] #[]) (.func (.func 224) #[] #[]) (.func (.func 225) #[] #[]) (.func (.func 226) #[] #[]) W
   clear h
   go_enter Tryz.func121, Tryz.ntmps121
   go_wp2_with fail
   refine HC.out.mono ?_
   rintro e w' ⟨rfl, hb⟩
   go_wp2_with fail
   refine (zl9 _ _ _).mono ?_
   rintro e w2 ⟨rfl, rfl⟩
   go_wp2
   go_ret
   exact ⟨retb (by first | rfl | (show _ = cmpB 2 a b; unfold cmpB; simp)), hb⟩
  ·subst h3
   have HC := hid (zba w)
   have a0 := fun W => zps (.func (.func 220) #[] #[]) (.func (.func 221) #[] #[]) (.func (.func 222) #[] #[]) (.func (.func 223) #[] #[]) (.func (.func 224) #[] #[]) (.func (.func 225) #[] #[]) (.func (.func 226) #[] #[]) W
   clear h
   go_enter Tryz.func121, Tryz.ntmps121
   go_wp2_with fail
   refine HC.out.mono ?_
   rintro e w' ⟨rfl, hb⟩
   go_wp2_with fail
   refine (zm2 _ _ _).mono ?_
   rintro e w2 ⟨rfl, rfl⟩
   go_wp2
   go_ret
   exact ⟨retb (by first | rfl | (show _ = cmpB 3 a b; unfold cmpB; simp)), hb⟩
  ·subst h4
   have HC := hid (zba w)
   have a0 := fun W => zpm (.func (.func 220) #[] #[]) (.func (.func 221) #[] #[]) (.func (.func 222) #[] #[]) (.func (.func 223) #[] #[]) (.func (.func 224) #[] #[]) (.func (.func 225) #[] #[]) (.func (.func 226) #[] #[]) W
   clear h
   go_enter Tryz.func121, Tryz.ntmps121
   go_wp2_with fail
   refine HC.out.mono ?_
   rintro e w' ⟨rfl, hb⟩
   go_wp2_with fail
   refine (zmk _ _ _).mono ?_
   rintro e w2 ⟨rfl, rfl⟩
   go_wp2
   go_ret
   exact ⟨retb (by first | rfl | (show _ = cmpB 4 a b; unfold cmpB; simp)), hb⟩
  ·subst h5
   have HC := hid (zba w)
   have a0 := fun W => zpf (.func (.func 220) #[] #[]) (.func (.func 221) #[] #[]) (.func (.func 222) #[] #[]) (.func (.func 223) #[] #[]) (.func (.func 224) #[] #[]) (.func (.func 225) #[] #[]) (.func (.func 226) #[] #[]) W
   clear h
   go_enter Tryz.func121, Tryz.ntmps121
   go_wp2_with fail
   refine HC.out.mono ?_
   rintro e w' ⟨rfl, hb⟩
   go_wp2_with fail
   refine (zmH _ _ _).mono ?_
   rintro e w2 ⟨rfl, rfl⟩
   go_wp2
   go_ret
   exact ⟨retb (by first | rfl | (show _ = cmpB 5 a b; unfold cmpB; simp)), hb⟩
  ·subst h6
   have HC := hid (zba w)
   have a0 := fun W => zpq (.func (.func 220) #[] #[]) (.func (.func 221) #[] #[]) (.func (.func 222) #[] #[]) (.func (.func 223) #[] #[]) (.func (.func 224) #[] #[]) (.func (.func 225) #[] #[]) (.func (.func 226) #[] #[]) W
   clear h
   go_enter Tryz.func121, Tryz.ntmps121
   go_wp2_with fail
   refine HC.out.mono ?_
   rintro e w' ⟨rfl, hb⟩
   go_wp2_with fail
   refine (zmG _ _ _).mono ?_
   rintro e w2 ⟨rfl, rfl⟩
   go_wp2
   go_ret
   exact ⟨retb (by first | rfl | (show _ = cmpB 6 a b; unfold cmpB; simp)), hb⟩
 ·have HB : Hid (cmpB op a b = false) := hid (by unfold cmpB; repeat (rw [if_neg (by omega)]))
  cases t1 : decide (op < 1) <;> cases t2 : decide (6 < op)
  ·exfalso; simp at t1 t2; omega
  all_goals
   clear h
   go_enter Tryz.func121, Tryz.ntmps121
   go_wp2
   go_ret
   exact ⟨retb HB.out.symm, Below.refl _ _⟩
theorem zlS (op a b : Int) (w : World) : Calls Tryz.prog 125 #[op, a, b] w (zdb (cmpB op a b) w) := by
 by_cases h : 1 ≤ op ∧ op ≤ 6
 ·obtain h1 | h2 | h3 | h4 | h5 | h6 : op = 1 ∨ op = 2 ∨ op = 3 ∨ op = 4 ∨ op = 5 ∨ op = 6 := by omega
  ·subst h1
   have HB : Hid (cmpB 1 a b = decide (a < b)) := hid rfl
   clear h
   go_enter Tryz.func125, Tryz.ntmps125
   go_wp2
   go_ret
   exact ⟨retb (Eq.trans (by first | rfl | (rw [Bool.eq_iff_iff]; simp)) HB.out.symm), rfl⟩
  ·subst h2
   have HB : Hid (cmpB 2 a b = decide (a ≤ b)) := hid rfl
   clear h
   go_enter Tryz.func125, Tryz.ntmps125
   go_wp2
   go_ret
   exact ⟨retb (Eq.trans (by first | rfl | (rw [Bool.eq_iff_iff]; simp)) HB.out.symm), rfl⟩
  ·subst h3
   have HB : Hid (cmpB 3 a b = decide (a = b)) := hid rfl
   clear h
   go_enter Tryz.func125, Tryz.ntmps125
   go_wp2
   go_ret
   exact ⟨retb (Eq.trans (by first | rfl | (rw [Bool.eq_iff_iff]; simp)) HB.out.symm), rfl⟩
  ·subst h4
   have HB : Hid (cmpB 4 a b = decide (a ≠ b)) := hid rfl
   clear h
   go_enter Tryz.func125, Tryz.ntmps125
   go_wp2
   go_ret
   exact ⟨retb (Eq.trans (by first | rfl | (rw [Bool.eq_iff_iff]; simp)) HB.out.symm), rfl⟩
  ·subst h5
   have HB : Hid (cmpB 5 a b = decide (b < a)) := hid rfl
   clear h
   go_enter Tryz.func125, Tryz.ntmps125
   go_wp2
   go_ret
   exact ⟨retb (Eq.trans (by first | rfl | (rw [Bool.eq_iff_iff]; simp)) HB.out.symm), rfl⟩
  ·subst h6
   have HB : Hid (cmpB 6 a b = decide (b ≤ a)) := hid rfl
   clear h
   go_enter Tryz.func125, Tryz.ntmps125
   go_wp2
   go_ret
   exact ⟨retb (Eq.trans (by first | rfl | (rw [Bool.eq_iff_iff]; simp)) HB.out.symm), rfl⟩
 ·have HB : Hid (cmpB op a b = false) := hid (by unfold cmpB; repeat (rw [if_neg (by omega)]))
  have t1 : (op == 1) = false := by rw [beq_eq_false_iff_ne]; omega
  have t2 : (op == 2) = false := by rw [beq_eq_false_iff_ne]; omega
  have t3 : (op == 3) = false := by rw [beq_eq_false_iff_ne]; omega
  have t4 : (op == 4) = false := by rw [beq_eq_false_iff_ne]; omega
  have t5 : (op == 5) = false := by rw [beq_eq_false_iff_ne]; omega
  have t6 : (op == 6) = false := by rw [beq_eq_false_iff_ne]; omega
  clear h
  go_enter Tryz.func125, Tryz.ntmps125
  go_wp2
  go_ret
  exact ⟨retb HB.out.symm, rfl⟩
end
end Go.Proofs.YtnmpgijiimglcaaGreat
