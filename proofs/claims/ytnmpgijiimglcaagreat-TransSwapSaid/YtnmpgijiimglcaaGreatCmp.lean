/-
  num.Cmp, gnomonref7.Cmp, Neg, Add, Sub: what each call answers.
-/
import Derived.Test.YtnmpgijiimglcaaGreatBTS16
import Derived.Laws.EntriesVeiled
namespace Go.Proofs.YtnmpgijiimglcaaGreat
open Go.RowKit
attribute [local go_sem ↓] Go.wp_at_zero Go.wp_at_succ

theorem cmp1_any (a b : Int) (w : World) : Calls Tryz.prog 221 #[.int .i64 a, .int .i64 b] w (BoolRes (decide (a < b)) w) := by
  go_enter Tryz.func221, Tryz.ntmps221
  go_wp2
  go_ret
  exact ⟨retb (by first | rfl | (rw [Bool.eq_iff_iff]; simp)), rfl⟩

theorem cmp2_any (a b : Int) (w : World) : Calls Tryz.prog 222 #[.int .i64 a, .int .i64 b] w (BoolRes (decide (a ≤ b)) w) := by
  go_enter Tryz.func222, Tryz.ntmps222
  go_wp2
  go_ret
  exact ⟨retb (by first | rfl | (rw [Bool.eq_iff_iff]; simp)), rfl⟩

theorem cmp3_any (a b : Int) (w : World) : Calls Tryz.prog 223 #[.int .i64 a, .int .i64 b] w (BoolRes (decide (a = b)) w) := by
  go_enter Tryz.func223, Tryz.ntmps223
  go_wp2
  go_ret
  exact ⟨retb (by first | rfl | (rw [Bool.eq_iff_iff]; simp)), rfl⟩

theorem cmp4_any (a b : Int) (w : World) : Calls Tryz.prog 224 #[.int .i64 a, .int .i64 b] w (BoolRes (decide (a ≠ b)) w) := by
  go_enter Tryz.func224, Tryz.ntmps224
  go_wp2
  go_ret
  exact ⟨retb (by first | rfl | (rw [Bool.eq_iff_iff]; simp)), rfl⟩

theorem cmp5_any (a b : Int) (w : World) : Calls Tryz.prog 225 #[.int .i64 a, .int .i64 b] w (BoolRes (decide (b < a)) w) := by
  go_enter Tryz.func225, Tryz.ntmps225
  go_wp2
  go_ret
  exact ⟨retb (by first | rfl | (rw [Bool.eq_iff_iff]; simp)), rfl⟩

theorem cmp6_any (a b : Int) (w : World) : Calls Tryz.prog 226 #[.int .i64 a, .int .i64 b] w (BoolRes (decide (b ≤ a)) w) := by
  go_enter Tryz.func226, Tryz.ntmps226
  go_wp2
  go_ret
  exact ⟨retb (by first | rfl | (rw [Bool.eq_iff_iff]; simp)), rfl⟩

theorem ncompares_any (w : World) : Calls Tryz.prog 185 #[] w fun e w' => e = .returned (.agg #[.func (.func 220) #[] #[], .func (.func 221) #[] #[], .func (.func 222) #[] #[], .func (.func 223) #[] #[], .func (.func 224) #[] #[], .func (.func 225) #[] #[], .func (.func 226) #[] #[]]) ∧ Below w.heap.size w w' := by
  go_enter Tryz.func185, Tryz.ntmps185
  go_wp2
  refine bodyPost_ret (v := .agg #[.func (.func 220) #[] #[], .func (.func 221) #[] #[], .func (.func 222) #[] #[], .func (.func 223) #[] #[], .func (.func 224) #[] #[], .func (.func 225) #[] #[], .func (.func 226) #[] #[]]) (by simp [results, Tryz.results185, go_sem]) rfl (And.intro rfl ?_)
  repeat (first | exact Below.refl _ _ | refine Below.setCell ?_ (by simp) _ | refine Below.alloc ?_ (by simp) _)

theorem ix7_1 (f0 f1 f2 f3 f4 f5 f6 : Value) (W : World) : (Instr.index 199 (.agg #[f0, f1, f2, f3, f4, f5, f6]) (.int .i64 1)).run Tryz.prog W = .ok f1 W := by
  simp [Instr.index, run_underlying Tryz.underlying199, asIntOf, go_sem]

theorem ix7_2 (f0 f1 f2 f3 f4 f5 f6 : Value) (W : World) : (Instr.index 199 (.agg #[f0, f1, f2, f3, f4, f5, f6]) (.int .i64 2)).run Tryz.prog W = .ok f2 W := by
  simp [Instr.index, run_underlying Tryz.underlying199, asIntOf, go_sem]

theorem ix7_3 (f0 f1 f2 f3 f4 f5 f6 : Value) (W : World) : (Instr.index 199 (.agg #[f0, f1, f2, f3, f4, f5, f6]) (.int .i64 3)).run Tryz.prog W = .ok f3 W := by
  simp [Instr.index, run_underlying Tryz.underlying199, asIntOf, go_sem]

theorem ix7_4 (f0 f1 f2 f3 f4 f5 f6 : Value) (W : World) : (Instr.index 199 (.agg #[f0, f1, f2, f3, f4, f5, f6]) (.int .i64 4)).run Tryz.prog W = .ok f4 W := by
  simp [Instr.index, run_underlying Tryz.underlying199, asIntOf, go_sem]

theorem ix7_5 (f0 f1 f2 f3 f4 f5 f6 : Value) (W : World) : (Instr.index 199 (.agg #[f0, f1, f2, f3, f4, f5, f6]) (.int .i64 5)).run Tryz.prog W = .ok f5 W := by
  simp [Instr.index, run_underlying Tryz.underlying199, asIntOf, go_sem]

theorem ix7_6 (f0 f1 f2 f3 f4 f5 f6 : Value) (W : World) : (Instr.index 199 (.agg #[f0, f1, f2, f3, f4, f5, f6]) (.int .i64 6)).run Tryz.prog W = .ok f6 W := by
  simp [Instr.index, run_underlying Tryz.underlying199, asIntOf, go_sem]

/-- A Bool, and whatever memory was made. -/
def BoolBel (b : Bool) (w : World) (e : Ending) (w' : World) : Prop := e = .returned (.bool b) ∧ Below w.heap.size w w'
set_option maxHeartbeats 800000 in
theorem ncmp_any (op a b : Int) (w : World) : Calls Tryz.prog 121 #[.int .i64 op, .int .i64 a, .int .i64 b] w (BoolBel (cmpB op a b) w) := by
  by_cases h : 1 ≤ op ∧ op ≤ 6
  · obtain h1 | h2 | h3 | h4 | h5 | h6 : op = 1 ∨ op = 2 ∨ op = 3 ∨ op = 4 ∨ op = 5 ∨ op = 6 := by omega

    · subst h1
      have HC := hid (ncompares_any w)
      have hix := fun W => ix7_1 (.func (.func 220) #[] #[]) (.func (.func 221) #[] #[]) (.func (.func 222) #[] #[]) (.func (.func 223) #[] #[]) (.func (.func 224) #[] #[]) (.func (.func 225) #[] #[]) (.func (.func 226) #[] #[]) W
      clear h
      go_enter Tryz.func121, Tryz.ntmps121
      go_wp2_with fail
      refine HC.out.mono ?_
      rintro e w' ⟨rfl, hb⟩
      go_wp2_with fail
      refine (cmp1_any _ _ _).mono ?_
      rintro e w2 ⟨rfl, rfl⟩
      go_wp2
      go_ret
      exact ⟨retb (by first | rfl | (show _ = cmpB 1 a b; unfold cmpB; simp)), hb⟩

    · subst h2
      have HC := hid (ncompares_any w)
      have hix := fun W => ix7_2 (.func (.func 220) #[] #[]) (.func (.func 221) #[] #[]) (.func (.func 222) #[] #[]) (.func (.func 223) #[] #[]) (.func (.func 224) #[] #[]) (.func (.func 225) #[] #[]) (.func (.func 226) #[] #[]) W
      clear h
      go_enter Tryz.func121, Tryz.ntmps121
      go_wp2_with fail
      refine HC.out.mono ?_
      rintro e w' ⟨rfl, hb⟩
      go_wp2_with fail
      refine (cmp2_any _ _ _).mono ?_
      rintro e w2 ⟨rfl, rfl⟩
      go_wp2
      go_ret
      exact ⟨retb (by first | rfl | (show _ = cmpB 2 a b; unfold cmpB; simp)), hb⟩

    · subst h3
      have HC := hid (ncompares_any w)
      have hix := fun W => ix7_3 (.func (.func 220) #[] #[]) (.func (.func 221) #[] #[]) (.func (.func 222) #[] #[]) (.func (.func 223) #[] #[]) (.func (.func 224) #[] #[]) (.func (.func 225) #[] #[]) (.func (.func 226) #[] #[]) W
      clear h
      go_enter Tryz.func121, Tryz.ntmps121
      go_wp2_with fail
      refine HC.out.mono ?_
      rintro e w' ⟨rfl, hb⟩
      go_wp2_with fail
      refine (cmp3_any _ _ _).mono ?_
      rintro e w2 ⟨rfl, rfl⟩
      go_wp2
      go_ret
      exact ⟨retb (by first | rfl | (show _ = cmpB 3 a b; unfold cmpB; simp)), hb⟩

    · subst h4
      have HC := hid (ncompares_any w)
      have hix := fun W => ix7_4 (.func (.func 220) #[] #[]) (.func (.func 221) #[] #[]) (.func (.func 222) #[] #[]) (.func (.func 223) #[] #[]) (.func (.func 224) #[] #[]) (.func (.func 225) #[] #[]) (.func (.func 226) #[] #[]) W
      clear h
      go_enter Tryz.func121, Tryz.ntmps121
      go_wp2_with fail
      refine HC.out.mono ?_
      rintro e w' ⟨rfl, hb⟩
      go_wp2_with fail
      refine (cmp4_any _ _ _).mono ?_
      rintro e w2 ⟨rfl, rfl⟩
      go_wp2
      go_ret
      exact ⟨retb (by first | rfl | (show _ = cmpB 4 a b; unfold cmpB; simp)), hb⟩

    · subst h5
      have HC := hid (ncompares_any w)
      have hix := fun W => ix7_5 (.func (.func 220) #[] #[]) (.func (.func 221) #[] #[]) (.func (.func 222) #[] #[]) (.func (.func 223) #[] #[]) (.func (.func 224) #[] #[]) (.func (.func 225) #[] #[]) (.func (.func 226) #[] #[]) W
      clear h
      go_enter Tryz.func121, Tryz.ntmps121
      go_wp2_with fail
      refine HC.out.mono ?_
      rintro e w' ⟨rfl, hb⟩
      go_wp2_with fail
      refine (cmp5_any _ _ _).mono ?_
      rintro e w2 ⟨rfl, rfl⟩
      go_wp2
      go_ret
      exact ⟨retb (by first | rfl | (show _ = cmpB 5 a b; unfold cmpB; simp)), hb⟩

    · subst h6
      have HC := hid (ncompares_any w)
      have hix := fun W => ix7_6 (.func (.func 220) #[] #[]) (.func (.func 221) #[] #[]) (.func (.func 222) #[] #[]) (.func (.func 223) #[] #[]) (.func (.func 224) #[] #[]) (.func (.func 225) #[] #[]) (.func (.func 226) #[] #[]) W
      clear h
      go_enter Tryz.func121, Tryz.ntmps121
      go_wp2_with fail
      refine HC.out.mono ?_
      rintro e w' ⟨rfl, hb⟩
      go_wp2_with fail
      refine (cmp6_any _ _ _).mono ?_
      rintro e w2 ⟨rfl, rfl⟩
      go_wp2
      go_ret
      exact ⟨retb (by first | rfl | (show _ = cmpB 6 a b; unfold cmpB; simp)), hb⟩

  · have HB : Hid (cmpB op a b = false) := hid (by unfold cmpB; repeat (rw [if_neg (by omega)]))
    cases t1 : decide (op < 1) <;> cases t2 : decide (6 < op)
    · exfalso; simp at t1 t2; omega
    all_goals
      clear h
      go_enter Tryz.func121, Tryz.ntmps121
      go_wp2
      go_ret
      exact ⟨retb HB.out.symm, Below.refl _ _⟩
end Go.Proofs.YtnmpgijiimglcaaGreat
