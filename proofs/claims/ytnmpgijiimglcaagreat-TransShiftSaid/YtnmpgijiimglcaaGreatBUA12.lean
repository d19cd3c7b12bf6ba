/-
  What is known behind an edge, in plain words; it may be.
  num, gnomonref7: what each call answers.
  num.Cmp, gnomonref7.Cmp, Neg, Add, Sub: what each call answers.
-/
import Derived.Test.YtnmpgijiimglcaaGreatBUA11
import Derived.Test.YtnmpgijiimglcaaGreatBUA08
import Derived.Test.YtnmpgijiimglcaaGreatBUA01
import Derived.IntWalk
import Derived.Laws.EntriesVeiled
namespace Go.Proofs.YtnmpgijiimglcaaGreat
section
open Go.RowKit

/-- Behind an edge, of what is closed and isn't empty. -/
def edgeO (c : O) (e : Edg) : O :=
  if e.kd = 14 then emptyO c.n
  else if e.kd = 9 ∨ e.kd = 10 then forgetO c e.dst.toNat
  else if e.kd = 12 then assumesO c e.op e.av e.an e.bv e.bn
  else if e.kd = 2 then (if e.av < 0 then giveO c e.dst.toNat (oneR e.an) else if e.av = e.dst then c else linkO c (2 * e.dst.toNat) (2 * e.av.toNat) 0)
  else if e.kd = 3 then (if e.av < 0 then numberO c 3 e.dst.toNat e.an e.bn else if e.av = e.dst then turnsO c e.dst.toNat else linkO c (2 * e.dst.toNat) (2 * e.av.toNat + 1) 0)
  else if e.kd = 4 ∨ e.kd = 5 then (if e.av < 0 ∧ e.bv < 0 then numberO c e.kd e.dst.toNat e.an e.bn else addsO c (decide (e.kd = 5)) e.dst.toNat e.av e.an e.bv e.bn)
  else if e.kd = 6 ∨ e.kd = 7 ∨ e.kd = 8 then (if e.av < 0 ∧ e.bv < 0 then numberO c e.kd e.dst.toNat e.an e.bn else productsO c e.kd e.dst.toNat e.av e.an e.bv e.bn)
  else c
def transO (o : O) (e : Edg) : O := if (closeO o).e then closeO o else edgeO (closeO o) e
def rightT (n : Int) (e : Edg) : Bool := rightE n (if 0 ≤ e.arr then 1 else 0) { e with arr := if 0 ≤ e.arr then 0 else e.arr }
def transErr (o : O) (e : Edg) : Int := if check o ≠ 0 then check o else if rightT o.n e then 0 else 160
def transAns (o : O) (e : Edg) : O := if transErr o e = 0 then transO o e else ⟨0, false, []⟩
def assumeErr (o : O) (op av bv : Int) : Int := if check o ≠ 0 then check o else if 1 ≤ op ∧ op ≤ 6 ∧ av < o.n ∧ bv < o.n then 0 else 160
def assumeO (o : O) (op av an bv bn : Int) : O := if (closeO o).e then closeO o else assumesO (closeO o) op av an bv bn
def assumeAns (o : O) (op av an bv bn : Int) : O := if assumeErr o op av bv = 0 then assumeO o op av an bv bn else ⟨0, false, []⟩
section
variable {n : Int} {o : O}
theorem OkO.unlikeVars (h : OkO n o) {av an bv bn : Int} (h0 : 0 ≤ av) (h1 : 0 ≤ bv) (ha : av < n) (hb : bv < n) : OkO n (unlikeVarsO o av an bv bn) := by
  unfold unlikeVarsO
  split
  · rw [h.n_]; exact h.empty
  · dsimp only
    have h2 : OkO n (if G (2 * o.n).toNat o.m (2 * av.toNat) (2 * bv.toNat) = 0 then atMostO o av an bv bn true else o) := by
      split
      · exact h.atMost ha hb (.inl h0)
      · exact h
    split
    · exact h2.atMost hb ha (.inl h1)
    · exact h2
theorem OkO.unlikeNum (h : OkO n o) {av an bv bn : Int} (h0 : 0 ≤ av) (ha : av < n) (hb : bv < n) : OkO n (unlikeNumO o av an bv bn) := by
  unfold unlikeNumO
  dsimp only
  have h2 : OkO n (if (varR (2 * o.n).toNat o.m av.toNat).hh && decide ((varR (2 * o.n).toNat o.m av.toNat).hi = bn) then atMostO o av an bv bn true else o) := by
    split
    · exact h.atMost ha hb (.inl h0)
    · exact h
  split
  · exact h2.atMost hb ha (.inr h0)
  · exact h2
theorem OkO.unlike (h : OkO n o) {av an bv bn : Int} (ha : av < n) (hb : bv < n) (hab : 0 ≤ av ∨ 0 ≤ bv) : OkO n (unlikeO o av an bv bn) := by
  unfold unlikeO
  split
  · rw [if_neg (by omega)]
    exact h.unlikeNum (by omega) hb ha
  · split
    · exact h.unlikeVars (by omega) (by omega) ha hb
    · exact h.unlikeNum (by omega) ha hb
theorem OkO.assumes (h : OkO n o) {op av an bv bn : Int} (ha : av < n) (hb : bv < n) : OkO n (assumesO o op av an bv bn) := by
  unfold assumesO
  split
  · split
    · exact h
    · rw [h.n_]; exact h.empty
  · split
    · exact ((h.atMost ha hb (by omega)).atMost hb ha (by omega)).close
    · split
      · exact (h.unlike ha hb (by omega)).close
      · split
        · exact (h.atMost hb ha (by omega)).close
        · split
          · exact (h.atMost ha hb (by omega)).close
          · split
            · exact (h.atMost hb ha (by omega)).close
            · exact (h.atMost ha hb (by omega)).close
theorem OkO.link (h : OkO n o) {i j : Nat} (hi : (i : Int) < 2 * n) (hj : (j : Int) < 2 * n) (k : Int) : OkO n (linkO o i j k) :=
  (((h.forget _).with_ hi hj _).with_ hj hi _).close
theorem OkO.shift (h : OkO n o) {dst y : Nat} (hd : (dst : Int) < n) (hy : (y : Int) < n) (he : o.e = false) (k : Int) : OkO n (shiftO o dst y k) := by
  unfold shiftO
  split
  · exact h.forget _
  · split
    · exact h.link (by omega) (by omega) _
    · rcases h.form with e | ⟨N, m, hN, hn, rfl, hc⟩
      · rw [e] at he; cases he
      · dsimp only
        rw [show (2 * n).toNat = N by omega]
        exact (OkO.of_cells hN hn (shiftM_cells (by omega) hc)).close
theorem OkO.turns (h : OkO n o) (he : o.e = false) (v : Nat) : OkO n (turnsO o v) := by
  unfold turnsO
  rcases h.form with e | ⟨N, m, hN, hn, rfl, hc⟩
  · rw [e] at he; cases he
  · dsimp only
    rw [show (2 * n).toNat = N by omega]
    exact (OkO.of_cells hN hn (turnM_cells (by omega) hc)).close
theorem OkO.sums (h : OkO n o) {dst u w : Nat} (hd : (dst : Int) < n) (hu : (u : Int) < n) (hw : (w : Int) < n) (b : Bool) : OkO n (sumsO o dst u w b) := by
  unfold sumsO
  dsimp only
  have h1 := fun r => (h.forget dst).ranged hd r
  have h2 : ∀ (x : O) (c : Prop) [Decidable c] (i j : Nat) (r : Rg), OkO n x → (i : Int) < 2 * n → (j : Int) < 2 * n → OkO n (if c then pairO x i j r else x) := fun x c _ i j r hx hi hj => by
    split
    · exact hx.pair hi hj r
    · exact hx
  refine (h2 _ _ _ _ _ (h2 _ _ _ _ _ (h1 _) (by omega) ?_) (by omega) (by omega)).close
  split <;> omega
theorem OkO.number (h : OkO n o) {dst : Nat} (hd : (dst : Int) < n) (kd a b : Int) : OkO n (numberO o kd dst a b) := by
  unfold numberO
  split
  · exact h.give hd _
  · rw [h.n_]; exact h.empty
theorem OkO.adds (h : OkO n o) (he : o.e = false) {dst : Nat} {av an bv bn : Int} (hd : (dst : Int) < n) (ha : av < n) (hb : bv < n) (_hab : 0 ≤ av ∨ 0 ≤ bv) (b : Bool) : OkO n (addsO o b dst av an bv bn) := by
  unfold addsO
  split
  · split
    · exact h.sums hd (by omega) (by omega) _
    · split
      · split
        · exact h.shift hd (by omega) he _
        · exact h.give hd _
      · exact h.shift hd (by omega) he _
  · split
    · exact h.give hd _
    · exact h.shift hd (by omega) he _
end
theorem right_dst {n na : Int} {e : Edg} (h : rightE n na e = true) (hk : 2 ≤ e.kd ∧ e.kd ≤ 10) : 0 ≤ e.dst ∧ e.dst < n := by
  unfold rightE wDst at h
  simp only [Bool.and_eq_true] at h
  have := h.1.1.1.1.2
  rw [decide_eq_true hk] at this
  simpa using this
theorem right_a {n na : Int} {e : Edg} (h : rightE n na e = true) : e.av = -1 ∨ (0 ≤ e.av ∧ e.av < n) := by
  unfold rightE at h
  simp only [Bool.and_eq_true] at h
  have := h.1.2
  cases hw : wA e.kd <;> rw [hw] at this <;> simp [opdNo, opdOk] at this <;> omega
theorem right_b {n na : Int} {e : Edg} (h : rightE n na e = true) : e.bv = -1 ∨ (0 ≤ e.bv ∧ e.bv < n) := by
  unfold rightE at h
  simp only [Bool.and_eq_true] at h
  have := h.2
  cases hw : wB e.kd <;> rw [hw] at this <;> simp [opdNo, opdOk] at this <;> omega
theorem edgeO_ok {n : Int} {o : O} {e : Edg} (h : OkO n o) (he : o.e = false) (hn : 0 ≤ n) (hr : rightT n e = true) : OkO n (edgeO o e) := by
  have ha := right_a hr
  have hb := right_b hr
  have hd := fun hk => right_dst hr hk
  dsimp only at ha hb hd
  unfold edgeO
  split
  · rw [h.n_]; exact h.empty
  · split
    · exact h.forget _
    · split
      · exact h.assumes (by omega) (by omega)
      · split
        · have := hd (by omega)
          split
          · exact h.give (by omega) _
          · split
            · exact h
            · exact h.link (by omega) (by omega) _
        · split
          · have := hd (by omega)
            split
            · exact h.number (by omega) _ _ _
            · split
              · exact h.turns he _
              · exact h.link (by omega) (by omega) _
          · split
            · have := hd (by omega)
              split
              · exact h.number (by omega) _ _ _
              · exact h.adds he (by omega) (by omega) (by omega) (by omega) _
            · split
              · have := hd (by omega)
                split
                · exact h.number (by omega) _ _ _
                · exact h.give (by omega) _
              · exact h
end
section
open Go.RowKit
attribute [local go_sem ↓] Go.wp_at_zero Go.wp_at_succ

theorem ret2 {a b : Int} {p : Int × Int} (h : p = (a, b)) : Ending.returned (.tuple #[.int .i64 a, .int .i64 b]) = .returned (pairV p) := by rw [h]; rfl
/-- Two numbers, and the world as it was. -/
def PairRes (p : Int × Int) (w : World) (e : Ending) (w' : World) : Prop := e = .returned (pairV p) ∧ w = w'
def IntRes (p : Int) (w : World) (e : Ending) (w' : World) : Prop := e = .returned (.int .i64 p) ∧ w = w'
def BoolRes (p : Bool) (w : World) (e : Ending) (w' : World) : Prop := e = .returned (.bool p) ∧ w = w'
def I64 (a : Int) : Prop := -9223372036854775808 ≤ a ∧ a ≤ 9223372036854775807
theorem prok {a b : Int} {w : World} {p : Int × Int} (h : p = (a, b)) : PairRes p w (.returned (.tuple #[.int .i64 a, .int .i64 b])) w := ⟨ret2 h, rfl⟩
theorem fit_in {a : Int} (h : -9223372036854775808 ≤ a ∧ a ≤ 9223372036854775807) : fit a = (a, 0) := by unfold fit inI; rw [if_pos (by rw [decide_eq_true_eq]; exact h)]
theorem fit_out {a : Int} (h : a < -9223372036854775808 ∨ 9223372036854775807 < a) : fit a = (0, 1) := by unfold fit inI; rw [if_neg (by rw [decide_eq_true_eq]; omega)]
theorem tdiv_in {a b : Int} (ha : -9223372036854775808 ≤ a ∧ a ≤ 9223372036854775807) (hne : ¬ b = 0) (hov : (a == -9223372036854775808 && b == -1) = false) : -9223372036854775808 ≤ a.tdiv b ∧ a.tdiv b ≤ 9223372036854775807 := by
  have h : (a.tdiv b).natAbs = a.natAbs / b.natAbs := Int.natAbs_tdiv a b
  have h1 : a.natAbs / b.natAbs ≤ a.natAbs := Nat.div_le_self _ _
  by_cases e : a = -9223372036854775808
  · subst e
    have hb : b ≠ -1 := by rintro rfl; simp at hov
    by_cases e1 : b = 1
    · subst e1; simp
    · have h2 : (-9223372036854775808 : Int).natAbs / b.natAbs ≤ (-9223372036854775808 : Int).natAbs / 2 := Nat.div_le_div_left (by omega) (by omega)
      have h3 : (-9223372036854775808 : Int).natAbs / 2 = 4611686018427387904 := by decide
      omega
  · omega
theorem div_w {a b : Int} (ha : -9223372036854775808 ≤ a ∧ a ≤ 9223372036854775807) (hne : ¬ b = 0) (hov : (a == -9223372036854775808 && b == -1) = false) : a.tdiv b = wrap64 (a.tdiv b) := (IntWalk.wrap64_in _ (tdiv_in ha hne hov)).symm
theorem tmod_in {a b : Int} (ha : -9223372036854775808 ≤ a ∧ a ≤ 9223372036854775807) : -9223372036854775808 ≤ a.tmod b ∧ a.tmod b ≤ 9223372036854775807 := by
  have h : (a.tmod b).natAbs = a.natAbs % b.natAbs := Int.natAbs_tmod a b
  have h1 : a.natAbs % b.natAbs ≤ a.natAbs := Nat.mod_le _ _
  rcases Int.le_total 0 a with h0 | h0
  · have := Int.tmod_nonneg b h0; omega
  · have := Int.tmod_nonneg b (show 0 ≤ -a by omega)
    rw [Int.neg_tmod] at this
    omega
theorem rem_r {a b : Int} (ha : -9223372036854775808 ≤ a ∧ a ≤ 9223372036854775807) (hne : ¬ b = 0) (hov : (a == -9223372036854775808 && b == -1) = false) : a.tmod b = wrap64 (a - wrap64 (wrap64 (a.tdiv b) * b)) := by
  have hm := tmod_in (b := b) ha
  have e : a.tdiv b * b = a - a.tmod b := by have := Int.mul_tdiv_add_tmod a b; rw [Int.mul_comm] at this; omega
  rw [← div_w ha hne hov, e, IntWalk.wrap64_in (a - a.tmod b) ?_, show a - (a - a.tmod b) = a.tmod b by omega, IntWalk.wrap64_in _ hm]
  rcases Int.le_total 0 a with h0 | h0
  · have h1 := Int.tmod_nonneg b h0
    have h : (a.tmod b).natAbs = a.natAbs % b.natAbs := Int.natAbs_tmod a b
    have h2 : a.natAbs % b.natAbs ≤ a.natAbs := Nat.mod_le _ _
    omega
  · have h1 := Int.tmod_nonneg b (show 0 ≤ -a by omega)
    rw [Int.neg_tmod] at h1
    have h : (a.tmod b).natAbs = a.natAbs % b.natAbs := Int.natAbs_tmod a b
    have h2 : a.natAbs % b.natAbs ≤ a.natAbs := Nat.mod_le _ _
    omega
theorem fit_wrap {a : Int} (h : -9223372036854775808 ≤ a ∧ a ≤ 9223372036854775807) : fit a = (wrap64 a, 0) := by rw [IntWalk.wrap64_in a h]; exact fit_in h

set_option maxHeartbeats 800000 in
theorem nadd_any (a b : Int) (w : World) (ha : I64 a) (hb : I64 b) : Calls Tryz.prog 101 #[.int .i64 a, .int .i64 b] w (PairRes (addW a b) w) := by
  have HA := hid ha
  have HB := hid hb
  clear ha hb
  cases t1 : decide (a < 0) <;> cases t2 : decide (b < 0) <;> cases t3 : decide (wrap64 (a + b) < 0)
  all_goals
    go_enter Tryz.func101, Tryz.ntmps101
    go_wp2
    go_ret2
    have ha := HA.out
    have hb := HB.out
    unfold I64 at ha hb
    simp only [decide_eq_true_eq, decide_eq_false_iff_not] at t1 t2 t3
    unfold wrap64 at t3
    refine prok ?_
    unfold addW
    first | exact fit_wrap (by omega) | exact fit_out (by omega)

set_option maxHeartbeats 800000 in
theorem nsub_any (a b : Int) (w : World) (ha : I64 a) (hb : I64 b) : Calls Tryz.prog 102 #[.int .i64 a, .int .i64 b] w (PairRes (subW a b) w) := by
  have HA := hid ha
  have HB := hid hb
  clear ha hb
  cases t1 : decide (a < 0) <;> cases t2 : decide (b < 0) <;> cases t3 : decide (wrap64 (a - b) < 0)
  all_goals
    go_enter Tryz.func102, Tryz.ntmps102
    go_wp2
    go_ret2
    have ha := HA.out
    have hb := HB.out
    unfold I64 at ha hb
    simp only [decide_eq_true_eq, decide_eq_false_iff_not] at t1 t2 t3
    unfold wrap64 at t3
    refine prok ?_
    unfold subW
    first | exact fit_wrap (by omega) | exact fit_out (by omega)

set_option maxHeartbeats 400000 in
theorem nneg_any (a : Int) (w : World) (ha : I64 a) : Calls Tryz.prog 198 #[.int .i64 a] w (PairRes (negW a) w) := by
  have HC := hid (nsub_any 0 a w (by unfold I64; omega) ha)
  rw [show subW 0 a = negW a from by unfold subW negW; rw [Int.zero_sub]] at HC
  generalize negW a = p at *
  go_enter Tryz.func198, Tryz.ntmps198
  go_wp2_with fail
  refine HC.out.mono ?_
  rintro e w' ⟨rfl, rfl⟩
  obtain ⟨p, q⟩ := p
  unfold pairV
  go_wp2
  go_ret2
  exact prok rfl

set_option maxHeartbeats 800000 in
theorem rdivides_any (a b : Int) (w : World) : Calls Tryz.prog 183 #[.int .i64 a, .int .i64 b] w (IntRes (divErr a b) w) := by
  cases t1 : (b == 0) <;> cases t2 : (a == -9223372036854775808) <;> cases t3 : (b == -1)
  all_goals
    go_enter Tryz.func183, Tryz.ntmps183
    go_wp2
    go_ret
    simp only [beq_iff_eq, beq_eq_false_iff_ne] at t1 t2 t3
    unfold divErr
    first | (rw [if_pos t1]; exact ⟨rfl, rfl⟩) | (rw [if_neg t1, if_pos ⟨t2, t3⟩]; exact ⟨rfl, rfl⟩) | (rw [if_neg t1, if_neg (fun h => t2 h.1)]; exact ⟨rfl, rfl⟩) | (rw [if_neg t1, if_neg (fun h => t3 h.2)]; exact ⟨rfl, rfl⟩)

set_option maxHeartbeats 800000 in
theorem rdiv_any (a b : Int) (w : World) (ha : I64 a) (hb : I64 b) : Calls Tryz.prog 111 #[.int .i64 a, .int .i64 b] w (PairRes (divW a b) w) := by
  have HD := hid (rdivides_any a b w)
  have HA := hid ha
  have HB := hid hb
  clear ha hb
  cases t : (divErr a b != 0)
  · have e0 : divErr a b = 0 := by simpa using t
    have HW : Hid (divW a b = (a.tdiv b, 0)) := hid (by unfold divW; rw [if_pos e0])
    have hb0 : (b == 0) = false := by
      rw [beq_eq_false_iff_ne]; intro h; subst h; unfold divErr at e0; simp at e0
    have hov : (a == -9223372036854775808 && b == -1) = false := by
      rw [Bool.eq_false_iff]; intro h
      simp only [Bool.and_eq_true, beq_iff_eq] at h
      unfold divErr at e0; rw [if_neg (by omega), if_pos h] at e0; cases e0
    rw [e0] at HD
    clear e0 t
    have hne : ¬ b = 0 := by simpa using hb0
    go_enter Tryz.func111, Tryz.ntmps111
    go_wp2_with fail
    refine HD.out.mono ?_
    rintro e w' ⟨rfl, rfl⟩
    go_wp2
    go_ret2
    refine prok ?_
    exact HW.out.trans (congrArg (fun x => (x, (0 : Int))) (div_w HA.out hne hov))
  · have HW : Hid (divW a b = (0, divErr a b)) := hid (by unfold divW; rw [if_neg (by simpa using t)])
    generalize divErr a b = er at *
    go_enter Tryz.func111, Tryz.ntmps111
    go_wp2_with fail
    refine HD.out.mono ?_
    rintro e w' ⟨rfl, rfl⟩
    go_wp2
    go_ret2
    exact prok HW.out

set_option maxHeartbeats 800000 in
theorem rrem_any (a b : Int) (w : World) (ha : I64 a) (hb : I64 b) : Calls Tryz.prog 112 #[.int .i64 a, .int .i64 b] w (PairRes (remW a b) w) := by
  have HD := hid (rdivides_any a b w)
  have HA := hid ha
  have HB := hid hb
  clear ha hb
  cases t : (divErr a b != 0)
  · have e0 : divErr a b = 0 := by simpa using t
    have HW : Hid (remW a b = (a.tmod b, 0)) := hid (by unfold remW; rw [if_pos e0])
    have hb0 : (b == 0) = false := by
      rw [beq_eq_false_iff_ne]; intro h; subst h; unfold divErr at e0; simp at e0
    have hov : (a == -9223372036854775808 && b == -1) = false := by
      rw [Bool.eq_false_iff]; intro h
      simp only [Bool.and_eq_true, beq_iff_eq] at h
      unfold divErr at e0; rw [if_neg (by omega), if_pos h] at e0; cases e0
    rw [e0] at HD
    clear e0 t
    have hne : ¬ b = 0 := by simpa using hb0
    go_enter Tryz.func112, Tryz.ntmps112
    go_wp2_with fail
    refine HD.out.mono ?_
    rintro e w' ⟨rfl, rfl⟩
    go_wp2
    go_ret2
    refine prok ?_
    exact HW.out.trans (congrArg (fun x => (x, (0 : Int))) (rem_r HA.out hne hov))
  · have HW : Hid (remW a b = (0, divErr a b)) := hid (by unfold remW; rw [if_neg (by simpa using t)])
    generalize divErr a b = er at *
    go_enter Tryz.func112, Tryz.ntmps112
    go_wp2_with fail
    refine HD.out.mono ?_
    rintro e w' ⟨rfl, rfl⟩
    go_wp2
    go_ret2
    exact prok HW.out
end
section
open Go.RowKit
attribute [local go_sem ↓] Go.wp_at_zero Go.wp_at_succ

theorem cmp1_any (a b : Int) (w : World) : Calls Tryz.prog 221 #[.int .i64 a, .int .i64 b] w (BoolRes (decide (a < b)) w) := by
  go_enter Tryz.func221, Tryz.ntmps221
  go_wp2
  go_ret
  exact ⟨retb (by first | rfl | (rw [Bool.eq_iff_iff]; simp)), rfl⟩

theorem cmp2_any (a b : Int) (w : World) : Calls Tryz.prog 222 #[.int .i64 a, .int .i64 b] w (BoolRes (decide (a ≤ b)) w) := by
  go_enter Tryz.func222, Tryz.ntmps222
  go_wp2
  go_ret
  exact ⟨retb (by first | rfl | (rw [Bool.eq_iff_iff]; simp)), rfl⟩

theorem cmp3_any (a b : Int) (w : World) : Calls Tryz.prog 223 #[.int .i64 a, .int .i64 b] w (BoolRes (decide (a = b)) w) := by
  go_enter Tryz.func223, Tryz.ntmps223
  go_wp2
  go_ret
  exact ⟨retb (by first | rfl | (rw [Bool.eq_iff_iff]; simp)), rfl⟩

theorem cmp4_any (a b : Int) (w : World) : Calls Tryz.prog 224 #[.int .i64 a, .int .i64 b] w (BoolRes (decide (a ≠ b)) w) := by
  go_enter Tryz.func224, Tryz.ntmps224
  go_wp2
  go_ret
  exact ⟨retb (by first | rfl | (rw [Bool.eq_iff_iff]; simp)), rfl⟩

theorem cmp5_any (a b : Int) (w : World) : Calls Tryz.prog 225 #[.int .i64 a, .int .i64 b] w (BoolRes (decide (b < a)) w) := by
  go_enter Tryz.func225, Tryz.ntmps225
  go_wp2
  go_ret
  exact ⟨retb (by first | rfl | (rw [Bool.eq_iff_iff]; simp)), rfl⟩

theorem cmp6_any (a b : Int) (w : World) : Calls Tryz.prog 226 #[.int .i64 a, .int .i64 b] w (BoolRes (decide (b ≤ a)) w) := by
  go_enter Tryz.func226, Tryz.ntmps226
  go_wp2
  go_ret
  exact ⟨retb (by first | rfl | (rw [Bool.eq_iff_iff]; simp)), rfl⟩

theorem ncompares_any (w : World) : Calls Tryz.prog 185 #[] w fun e w' => e = .returned (.agg #[.func (.func 220) #[] #[], .func (.func 221) #[] #[], .func (.func 222) #[] #[], .func (.func 223) #[] #[], .func (.func 224) #[] #[], .func (.func 225) #[] #[], .func (.func 226) #[] #[]]) ∧ Below w.heap.size w w' := by
  go_enter Tryz.func185, Tryz.ntmps185
  go_wp2
  refine bodyPost_ret (v := .agg #[.func (.func 220) #[] #[], .func (.func 221) #[] #[], .func (.func 222) #[] #[], .func (.func 223) #[] #[], .func (.func 224) #[] #[], .func (.func 225) #[] #[], .func (.func 226) #[] #[]]) (by simp [results, Tryz.results185, go_sem]) rfl (And.intro rfl ?_)
  repeat (first | exact Below.refl _ _ | refine Below.setCell ?_ (by simp) _ | refine Below.alloc ?_ (by simp) _)

theorem ix7_1 (f0 f1 f2 f3 f4 f5 f6 : Value) (W : World) : (Instr.index 199 (.agg #[f0, f1, f2, f3, f4, f5, f6]) (.int .i64 1)).run Tryz.prog W = .ok f1 W := by
  simp [Instr.index, run_underlying Tryz.underlying199, asIntOf, go_sem]

theorem ix7_2 (f0 f1 f2 f3 f4 f5 f6 : Value) (W : World) : (Instr.index 199 (.agg #[f0, f1, f2, f3, f4, f5, f6]) (.int .i64 2)).run Tryz.prog W = .ok f2 W := by
  simp [Instr.index, run_underlying Tryz.underlying199, asIntOf, go_sem]

theorem ix7_3 (f0 f1 f2 f3 f4 f5 f6 : Value) (W : World) : (Instr.index 199 (.agg #[f0, f1, f2, f3, f4, f5, f6]) (.int .i64 3)).run Tryz.prog W = .ok f3 W := by
  simp [Instr.index, run_underlying Tryz.underlying199, asIntOf, go_sem]

theorem ix7_4 (f0 f1 f2 f3 f4 f5 f6 : Value) (W : World) : (Instr.index 199 (.agg #[f0, f1, f2, f3, f4, f5, f6]) (.int .i64 4)).run Tryz.prog W = .ok f4 W := by
  simp [Instr.index, run_underlying Tryz.underlying199, asIntOf, go_sem]

theorem ix7_5 (f0 f1 f2 f3 f4 f5 f6 : Value) (W : World) : (Instr.index 199 (.agg #[f0, f1, f2, f3, f4, f5, f6]) (.int .i64 5)).run Tryz.prog W = .ok f5 W := by
  simp [Instr.index, run_underlying Tryz.underlying199, asIntOf, go_sem]

theorem ix7_6 (f0 f1 f2 f3 f4 f5 f6 : Value) (W : World) : (Instr.index 199 (.agg #[f0, f1, f2, f3, f4, f5, f6]) (.int .i64 6)).run Tryz.prog W = .ok f6 W := by
  simp [Instr.index, run_underlying Tryz.underlying199, asIntOf, go_sem]

/-- A Bool, and whatever memory was made. -/
def BoolBel (b : Bool) (w : World) (e : Ending) (w' : World) : Prop := e = .returned (.bool b) ∧ Below w.heap.size w w'
set_option maxHeartbeats 800000 in
theorem ncmp_any (op a b : Int) (w : World) : Calls Tryz.prog 121 #[.int .i64 op, .int .i64 a, .int .i64 b] w (BoolBel (cmpB op a b) w) := by
  by_cases h : 1 ≤ op ∧ op ≤ 6
  · obtain h1 | h2 | h3 | h4 | h5 | h6 : op = 1 ∨ op = 2 ∨ op = 3 ∨ op = 4 ∨ op = 5 ∨ op = 6 := by omega

    · subst h1
      have HC := hid (ncompares_any w)
      have hix := fun W => ix7_1 (.func (.func 220) #[] #[]) (.func (.func 221) #[] #[]) (.func (.func 222) #[] #[]) (.func (.func 223) #[] #[]) (.func (.func 224) #[] #[]) (.func (.func 225) #[] #[]) (.func (.func 226) #[] #[]) W
      clear h
      go_enter Tryz.func121, Tryz.ntmps121
      go_wp2_with fail
      refine HC.out.mono ?_
      rintro e w' ⟨rfl, hb⟩
      go_wp2_with fail
      refine (cmp1_any _ _ _).mono ?_
      rintro e w2 ⟨rfl, rfl⟩
      go_wp2
      go_ret
      exact ⟨retb (by first | rfl | (show _ = cmpB 1 a b; unfold cmpB; simp)), hb⟩

    · subst h2
      have HC := hid (ncompares_any w)
      have hix := fun W => ix7_2 (.func (.func 220) #[] #[]) (.func (.func 221) #[] #[]) (.func (.func 222) #[] #[]) (.func (.func 223) #[] #[]) (.func (.func 224) #[] #[]) (.func (.func 225) #[] #[]) (.func (.func 226) #[] #[]) W
      clear h
      go_enter Tryz.func121, Tryz.ntmps121
      go_wp2_with fail
      refine HC.out.mono ?_
      rintro e w' ⟨rfl, hb⟩
      go_wp2_with fail
      refine (cmp2_any _ _ _).mono ?_
      rintro e w2 ⟨rfl, rfl⟩
      go_wp2
      go_ret
      exact ⟨retb (by first | rfl | (show _ = cmpB 2 a b; unfold cmpB; simp)), hb⟩

    · subst h3
      have HC := hid (ncompares_any w)
      have hix := fun W => ix7_3 (.func (.func 220) #[] #[]) (.func (.func 221) #[] #[]) (.func (.func 222) #[] #[]) (.func (.func 223) #[] #[]) (.func (.func 224) #[] #[]) (.func (.func 225) #[] #[]) (.func (.func 226) #[] #[]) W
      clear h
      go_enter Tryz.func121, Tryz.ntmps121
      go_wp2_with fail
      refine HC.out.mono ?_
      rintro e w' ⟨rfl, hb⟩
      go_wp2_with fail
      refine (cmp3_any _ _ _).mono ?_
      rintro e w2 ⟨rfl, rfl⟩
      go_wp2
      go_ret
      exact ⟨retb (by first | rfl | (show _ = cmpB 3 a b; unfold cmpB; simp)), hb⟩

    · subst h4
      have HC := hid (ncompares_any w)
      have hix := fun W => ix7_4 (.func (.func 220) #[] #[]) (.func (.func 221) #[] #[]) (.func (.func 222) #[] #[]) (.func (.func 223) #[] #[]) (.func (.func 224) #[] #[]) (.func (.func 225) #[] #[]) (.func (.func 226) #[] #[]) W
      clear h
      go_enter Tryz.func121, Tryz.ntmps121
      go_wp2_with fail
      refine HC.out.mono ?_
      rintro e w' ⟨rfl, hb⟩
      go_wp2_with fail
      refine (cmp4_any _ _ _).mono ?_
      rintro e w2 ⟨rfl, rfl⟩
      go_wp2
      go_ret
      exact ⟨retb (by first | rfl | (show _ = cmpB 4 a b; unfold cmpB; simp)), hb⟩

    · subst h5
      have HC := hid (ncompares_any w)
      have hix := fun W => ix7_5 (.func (.func 220) #[] #[]) (.func (.func 221) #[] #[]) (.func (.func 222) #[] #[]) (.func (.func 223) #[] #[]) (.func (.func 224) #[] #[]) (.func (.func 225) #[] #[]) (.func (.func 226) #[] #[]) W
      clear h
      go_enter Tryz.func121, Tryz.ntmps121
      go_wp2_with fail
      refine HC.out.mono ?_
      rintro e w' ⟨rfl, hb⟩
      go_wp2_with fail
      refine (cmp5_any _ _ _).mono ?_
      rintro e w2 ⟨rfl, rfl⟩
      go_wp2
      go_ret
      exact ⟨retb (by first | rfl | (show _ = cmpB 5 a b; unfold cmpB; simp)), hb⟩

    · subst h6
      have HC := hid (ncompares_any w)
      have hix := fun W => ix7_6 (.func (.func 220) #[] #[]) (.func (.func 221) #[] #[]) (.func (.func 222) #[] #[]) (.func (.func 223) #[] #[]) (.func (.func 224) #[] #[]) (.func (.func 225) #[] #[]) (.func (.func 226) #[] #[]) W
      clear h
      go_enter Tryz.func121, Tryz.ntmps121
      go_wp2_with fail
      refine HC.out.mono ?_
      rintro e w' ⟨rfl, hb⟩
      go_wp2_with fail
      refine (cmp6_any _ _ _).mono ?_
      rintro e w2 ⟨rfl, rfl⟩
      go_wp2
      go_ret
      exact ⟨retb (by first | rfl | (show _ = cmpB 6 a b; unfold cmpB; simp)), hb⟩

  · have HB : Hid (cmpB op a b = false) := hid (by unfold cmpB; repeat (rw [if_neg (by omega)]))
    cases t1 : decide (op < 1) <;> cases t2 : decide (6 < op)
    · exfalso; simp at t1 t2; omega
    all_goals
      clear h
      go_enter Tryz.func121, Tryz.ntmps121
      go_wp2
      go_ret
      exact ⟨retb HB.out.symm, Below.refl _ _⟩
end
end Go.Proofs.YtnmpgijiimglcaaGreat
