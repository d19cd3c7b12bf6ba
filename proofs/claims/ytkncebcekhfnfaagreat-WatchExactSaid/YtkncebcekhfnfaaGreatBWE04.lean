/-
  gnomonref7: what Neg, Add, Sub, Mul and Do answer.
  Copies of slices and octagons: slices.Clone, widen.copied, gnomonref12.Copy, gnomonhelp.CopyOct.
  widen.cells: the cells of two octagons put together by a function that only reckons.
-/
import Derived.Test.YtkncebcekhfnfaaGreatBWE03
import Derived.Test.YtkncebcekhfnfaaGreatBWE02
import Derived.IntWalk
import Derived.Deep.DeepCutAuto
namespace Go.Proofs.YtkncebcekhfnfaaGreat
section
open Go.RowKit
attribute [local go_sem ↓] Go.wp_at_zero Go.wp_at_succ

set_option maxHeartbeats 800000 in
theorem r7neg_any (a : Int) (w : World) (ha : I64 a) : Calls Tryz.prog 135 #[.int .i64 a] w (PairRes (negW a) w) := by
  have HA := hid ha
  clear ha
  cases t1 : (a == -9223372036854775808)
  all_goals
    go_enter Tryz.func135, Tryz.ntmps135
    go_wp2
    go_ret2
    have ha := HA.out
    unfold I64 at ha
    simp only [beq_iff_eq, beq_eq_false_iff_ne] at t1
    refine prok ?_
    unfold negW
    first | exact fit_wrap (by omega) | exact fit_out (by omega)

set_option maxHeartbeats 1600000 in
theorem r7add_any (a b : Int) (w : World) (ha : I64 a) (hb : I64 b) : Calls Tryz.prog 136 #[.int .i64 a, .int .i64 b] w (PairRes (addW a b) w) := by
  have HA := hid ha
  have HB := hid hb
  clear ha hb
  cases t1 : decide (0 < b) <;> cases t2 : decide (wrap64 (9223372036854775807 - b) < a) <;> cases t3 : decide (b < 0) <;> cases t4 : decide (a < wrap64 (-9223372036854775808 - b))
  all_goals
    go_enter Tryz.func136, Tryz.ntmps136
    go_wp2
    go_ret2
    have ha := HA.out
    have hb := HB.out
    unfold I64 at ha hb
    simp only [decide_eq_true_eq, decide_eq_false_iff_not] at t1 t2 t3 t4
    unfold wrap64 at t2 t4
    refine prok ?_
    unfold addW
    first | exact fit_wrap (by omega) | exact fit_out (by omega)

set_option maxHeartbeats 1600000 in
theorem r7sub_any (a b : Int) (w : World) (ha : I64 a) (hb : I64 b) : Calls Tryz.prog 137 #[.int .i64 a, .int .i64 b] w (PairRes (subW a b) w) := by
  have HA := hid ha
  have HB := hid hb
  clear ha hb
  cases t1 : decide (b < 0) <;> cases t2 : decide (wrap64 (9223372036854775807 + b) < a) <;> cases t3 : decide (0 < b) <;> cases t4 : decide (a < wrap64 (-9223372036854775808 + b))
  all_goals
    go_enter Tryz.func137, Tryz.ntmps137
    go_wp2
    go_ret2
    have ha := HA.out
    have hb := HB.out
    unfold I64 at ha hb
    simp only [decide_eq_true_eq, decide_eq_false_iff_not] at t1 t2 t3 t4
    unfold wrap64 at t2 t4
    refine prok ?_
    unfold subW
    first | exact fit_wrap (by omega) | exact fit_out (by omega)

theorem mul_back {a b : Int} (ha : I64 a) (hb : I64 b) (a0 : a ≠ 0) (b0 : b ≠ 0) (b1 : b ≠ -1) : (wrap64 ((wrap64 (a * b)).tdiv b) = a) ↔ I64 (a * b) := by
  have hw : I64 (wrap64 (a * b)) := by unfold I64 wrap64; omega
  have hin : wrap64 ((wrap64 (a * b)).tdiv b) = (wrap64 (a * b)).tdiv b := IntWalk.wrap64_in _ (tdiv_in hw b0 (by simp [b1]))
  rw [hin]
  constructor
  · intro h
    have h1 := Int.mul_tdiv_add_tmod (wrap64 (a * b)) b
    rw [h, Int.mul_comm] at h1
    have h2 : ((wrap64 (a * b)).tmod b).natAbs = (wrap64 (a * b)).natAbs % b.natAbs := Int.natAbs_tmod _ _
    have h3 : (wrap64 (a * b)).natAbs % b.natAbs < b.natAbs := Nat.mod_lt _ (by omega)
    unfold I64 at *
    generalize (wrap64 (a * b)).tmod b = r at *
    generalize a * b = p at *
    unfold wrap64 at h1 hw
    omega
  · intro h
    have e : wrap64 (a * b) = a * b := IntWalk.wrap64_in _ h
    rw [e, Int.mul_tdiv_cancel _ b0]

theorem mulW_zero_l (b : Int) : mulW 0 b = (0, 0) := by unfold mulW; rw [Int.zero_mul]; rfl
theorem mulW_zero_r (a : Int) : mulW a 0 = (0, 0) := by unfold mulW; rw [Int.mul_zero]; rfl
theorem mulW_neg_l (b : Int) : mulW (-1) b = negW b := by unfold mulW negW; rw [Int.neg_one_mul]
theorem mulW_neg_r (a : Int) : mulW a (-1) = negW a := by unfold mulW negW; rw [Int.mul_neg_one]
set_option maxHeartbeats 1600000 in
theorem r7mul_any (a b : Int) (w : World) (ha : I64 a) (hb : I64 b) : Calls Tryz.prog 138 #[.int .i64 a, .int .i64 b] w (PairRes (mulW a b) w) := by
  have HNA := hid (r7neg_any a w ha)
  have HNB := hid (r7neg_any b w hb)
  have HA := hid ha
  have HB := hid hb
  clear ha hb
  by_cases a0 : a = 0
  · subst a0
    rw [mulW_zero_l]
    go_enter Tryz.func138, Tryz.ntmps138
    go_wp2
    go_ret2
    exact prok rfl
  by_cases b0 : b = 0
  · subst b0
    have t1 : (a == 0) = false := by simp [a0]
    rw [mulW_zero_r]
    go_enter Tryz.func138, Tryz.ntmps138
    go_wp2
    go_ret2
    exact prok rfl
  have t1 : (a == 0) = false := by simp [a0]
  have t2 : (b == 0) = false := by simp [b0]
  by_cases a1 : a = -1
  · subst a1
    rw [mulW_neg_l]
    generalize negW b = p at *
    go_enter Tryz.func138, Tryz.ntmps138
    go_wp2_with fail
    refine HNB.out.mono ?_
    rintro e w' ⟨rfl, rfl⟩
    obtain ⟨p, q⟩ := p
    unfold pairV
    go_wp2
    go_ret2
    exact prok rfl
  have t3 : (a == -1) = false := by simp [a1]
  by_cases b1 : b = -1
  · subst b1
    rw [mulW_neg_r]
    generalize negW a = p at *
    go_enter Tryz.func138, Tryz.ntmps138
    go_wp2_with fail
    refine HNA.out.mono ?_
    rintro e w' ⟨rfl, rfl⟩
    obtain ⟨p, q⟩ := p
    unfold pairV
    go_wp2
    go_ret2
    exact prok rfl
  have t4 : (b == -1) = false := by simp [b1]
  have HM := hid (mul_back HA.out HB.out a0 b0 b1)
  have hne : ¬ b = 0 := b0
  have hov : (wrap64 (a * b) == -9223372036854775808 && b == -1) = false := by simp [b1]
  clear a0 b0 a1 b1 HNA HNB HA HB
  cases t5 : (wrap64 ((wrap64 (a * b)).tdiv b) != a)
  all_goals
    go_enter Tryz.func138, Tryz.ntmps138
    go_wp2
    go_ret2
    have hm := HM.out
    simp only [bne_iff_ne, bne_eq_false_iff_eq] at t5
    refine prok ?_
    unfold mulW
    first | (exact fit_wrap (hm.1 t5)) | (refine fit_out ?_; have hn : ¬ I64 (a * b) := fun h => t5 (hm.2 h); unfold I64 at hn; omega)

/-- What the document's Do answers. -/
def doW (kd a b : Int) : Int × Int := if kd = 5 then negW a else if kd = 6 then addW a b else if kd = 7 then subW a b else if kd = 8 then mulW a b else if kd = 9 then divW a b else remW a b
theorem r7do_5 (a b : Int) (w : World) (ha : I64 a) (hb : I64 b) : Calls Tryz.prog 96 #[.int .i64 5, .int .i64 a, .int .i64 b] w (PairRes (negW a) w) := by
    have HC := hid (r7neg_any a w ha)
    generalize negW a = p at *
    clear ha hb
    go_enter Tryz.func96, Tryz.ntmps96
    go_wp2_with fail
    refine HC.out.mono ?_
    rintro e w' ⟨rfl, rfl⟩
    obtain ⟨p, q⟩ := p
    unfold pairV
    go_wp2
    go_ret2
    exact prok rfl
theorem r7do_6 (a b : Int) (w : World) (ha : I64 a) (hb : I64 b) : Calls Tryz.prog 96 #[.int .i64 6, .int .i64 a, .int .i64 b] w (PairRes (addW a b) w) := by
    have HC := hid (r7add_any a b w ha hb)
    generalize addW a b = p at *
    clear ha hb
    go_enter Tryz.func96, Tryz.ntmps96
    go_wp2_with fail
    refine HC.out.mono ?_
    rintro e w' ⟨rfl, rfl⟩
    obtain ⟨p, q⟩ := p
    unfold pairV
    go_wp2
    go_ret2
    exact prok rfl
theorem r7do_7 (a b : Int) (w : World) (ha : I64 a) (hb : I64 b) : Calls Tryz.prog 96 #[.int .i64 7, .int .i64 a, .int .i64 b] w (PairRes (subW a b) w) := by
    have HC := hid (r7sub_any a b w ha hb)
    generalize subW a b = p at *
    clear ha hb
    go_enter Tryz.func96, Tryz.ntmps96
    go_wp2_with fail
    refine HC.out.mono ?_
    rintro e w' ⟨rfl, rfl⟩
    obtain ⟨p, q⟩ := p
    unfold pairV
    go_wp2
    go_ret2
    exact prok rfl
theorem r7do_8 (a b : Int) (w : World) (ha : I64 a) (hb : I64 b) : Calls Tryz.prog 96 #[.int .i64 8, .int .i64 a, .int .i64 b] w (PairRes (mulW a b) w) := by
    have HC := hid (r7mul_any a b w ha hb)
    generalize mulW a b = p at *
    clear ha hb
    go_enter Tryz.func96, Tryz.ntmps96
    go_wp2_with fail
    refine HC.out.mono ?_
    rintro e w' ⟨rfl, rfl⟩
    obtain ⟨p, q⟩ := p
    unfold pairV
    go_wp2
    go_ret2
    exact prok rfl
theorem r7do_9 (a b : Int) (w : World) (ha : I64 a) (hb : I64 b) : Calls Tryz.prog 96 #[.int .i64 9, .int .i64 a, .int .i64 b] w (PairRes (divW a b) w) := by
    have HC := hid (rdiv_any a b w ha hb)
    generalize divW a b = p at *
    clear ha hb
    go_enter Tryz.func96, Tryz.ntmps96
    go_wp2_with fail
    refine HC.out.mono ?_
    rintro e w' ⟨rfl, rfl⟩
    obtain ⟨p, q⟩ := p
    unfold pairV
    go_wp2
    go_ret2
    exact prok rfl
theorem r7do_o (kd a b : Int) (w : World) (ha : I64 a) (hb : I64 b) (h5 : kd ≠ 5) (h6 : kd ≠ 6) (h7 : kd ≠ 7) (h8 : kd ≠ 8) (h9 : kd ≠ 9) : Calls Tryz.prog 96 #[.int .i64 kd, .int .i64 a, .int .i64 b] w (PairRes (remW a b) w) := by
    have HC := hid (rrem_any a b w ha hb)
    generalize remW a b = p at *
    clear ha hb
    have t5 : (kd == 5) = false := by simp [h5]
    have t6 : (kd == 6) = false := by simp [h6]
    have t7 : (kd == 7) = false := by simp [h7]
    have t8 : (kd == 8) = false := by simp [h8]
    have t9 : (kd == 9) = false := by simp [h9]
    clear h5 h6 h7 h8 h9
    go_enter Tryz.func96, Tryz.ntmps96
    go_wp2_with fail
    refine HC.out.mono ?_
    rintro e w' ⟨rfl, rfl⟩
    obtain ⟨p, q⟩ := p
    unfold pairV
    go_wp2
    go_ret2
    exact prok rfl
theorem r7do_any (kd a b : Int) (w : World) (ha : I64 a) (hb : I64 b) : Calls Tryz.prog 96 #[.int .i64 kd, .int .i64 a, .int .i64 b] w (PairRes (doW kd a b) w) := by
  unfold doW
  split
  · rename_i h; subst h; exact r7do_5 a b w ha hb
  · split
    · rename_i h; subst h; exact r7do_6 a b w ha hb
    · split
      · rename_i h; subst h; exact r7do_7 a b w ha hb
      · split
        · rename_i h; subst h; exact r7do_8 a b w ha hb
        · split
          · rename_i h; subst h; exact r7do_9 a b w ha hb
          · rename_i h5 h6 h7 h8 h9; exact r7do_o kd a b w ha hb h5 h6 h7 h8 h9
end
section
open Go.RowKit
attribute [local go_sem ↓] Go.wp_at_zero Go.wp_at_succ

set_option maxHeartbeats 400000 in
theorem copyoct_any (n : Int) (e : Bool) (m : List Int) (A : Option Addr) (cap : Nat) (w : World) (hr : Rd w w.heap.size A m) (hm : m.length ≤ 17592186044416) :
    Calls Tryz.prog 24 #[.agg #[.int .i64 n, .bool e, .slice A m.length cap]] w fun e' w' => ∃ A' cap', e' = .returned (.agg #[.int .i64 n, .bool e, .slice A' m.length cap']) ∧ Own w' w.heap.size A' cap' m ∧ Below w.heap.size w w' := by
  go_enter Tryz.func24, Tryz.ntmps24
  go_wp2_with (at_builtin; go_loud (refine wpList_append_ints _ _ _ rfl rfl Tryz.underlying28 (w.heap.size + 2) none 0 [] rfl (own_nil _ _) w.heap.size A cap m m rfl (hr.below (((Below.refl _ _).alloc (Nat.le_refl _) _).alloc (by simp) _)) rfl hm (by simp) ?_); intro A1 c1 w1 hown1 hg1 _; have hb1 := below_grown (B := w.heap.size + 2) hg1 (by simp [Value.ownBlock]) (by simp); obtain ⟨b0, b1⟩ := blk_two hb1; obtain ⟨x0, x1, x2, fx⟩ := octbox b0; obtain ⟨y0, y1, y2, fy⟩ := octbox b1; clear hg1)
  refine bodyPost_ret (v := .agg #[.int .i64 n, .bool e, .slice A1 m.length c1]) (by simp [results, Tryz.results24, go_sem, y0, y1, y2]) rfl ⟨A1, c1, rfl, ?_, ?_⟩
  · exact ((((hown1.setFar (by simp) _).setFar (by simp) _).setFar (by simp) _).setFar (by simp) _).less (by omega)
  · exact ((((((((Below.refl _ _).alloc (Nat.le_refl _) _).alloc (by simp) _).trans (hb1.mono (by omega))).setCell (by simp) _).setCell (by simp) _).setCell (by simp) _).setCell (by simp) _)
end
section

end
end Go.Proofs.YtkncebcekhfnfaaGreat
