/-
  A slice of slices of int64 that the call itself made, each with numbers of its own; append onto it (OwnRows, for int64).
  Numbers of 64 bits: what num and the document's numbers tell, in plain words.
  num, gnomonref7: what each call answers.
  gnomonref7: what Neg, Add, Sub, Mul and Do answer.
  Copies of slices and octagons: slices.Clone, widen.copied, gnomonref12.Copy, gnomonhelp.CopyOct.
  widen.cells: the cells of two octagons put together by a function that only reckons.
-/
import Derived.Test.YtkncebcekhfnfaaGreatBWT02
import Derived.Test.YtkncebcekhfnfaaGreatBWT00
import Derived.IntWalk
import Derived.Deep.DeepCutAuto
namespace Go.Proofs.YtkncebcekhfnfaaGreat
section
open Go.RowKit
namespace At64
theorem row_info : (Tryz.prog.info? 28).map (fun i => (i.zero, i.size, i.bytes)) = some (some (.slice none 0 0), 1, 24) := by kernel_rfl
abbrev R1 := List Int × Option Addr × Nat
def r1 (z : R1) : List Value := [.slice z.2.1 z.1.length z.2.2]
theorem r1_get : ∀ (zs : List R1) (k : Nat) (h : k < zs.length), (zs.flatMap r1)[k]? = some (.slice zs[k].2.1 zs[k].1.length zs[k].2.2)
  | [], k, h => absurd h (by simp)
  | z :: zs, 0, _ => by simp [r1]
  | z :: zs, k + 1, h => by
    rw [List.flatMap_cons, List.getElem?_append_right (by simp [r1]), show k + 1 - (r1 z).length = k by simp [r1]]
    exact r1_get zs k (by simpa using h)
theorem own_blk0 {w : World} {base cap g k : Nat} {xs : List Int} {t : TypeId} {cs : Array Value} (h : Own w base (some ⟨g, 0, none⟩) cap xs) (hk : Blk w k t cs) (ht : t ≠ 2) : g ≠ k := by
  rintro rfl
  rcases h.2 with ⟨h0, _⟩ | ⟨g', cap', cur, h1, _, h3, _⟩
  · cases h0
  · simp only [Value.slice.injEq, Option.some.injEq, Addr.mk.injEq] at h1
    obtain ⟨⟨rfl, _⟩, _⟩ := h1
    unfold Blk at hk
    rw [h3] at hk
    injection hk with hk
    injection hk with _ hk
    exact ht hk.symm
structure OwnR (w : World) (base : Nat) (A : Option Addr) (cap : Nat) (zs : List R1) : Prop where
  row : w.ownsRow base 28 1 (.slice A zs.length cap) zs.length (zs.flatMap r1)
  own : ∀ z ∈ zs, Own w base z.2.1 z.2.2 z.1
section
variable {w w' : World} {base cap : Nat} {A : Option Addr} {zs : List R1}
theorem OwnR.nil (w : World) (base : Nat) : OwnR w base none 0 [] := ⟨World.ownsRow_nil _ _ _ _, fun _ h => absurd h (by simp)⟩
theorem OwnR.below (h : OwnR w base A cap zs) (hb : Below w.heap.size w w') : OwnR w' base A cap zs :=
  ⟨World.ownsRow.kept h.row (grown_of_below hb none) (by cases h' : (Value.slice A zs.length cap).ownBlock <;> simp), fun z hz => (h.own z hz).below hb⟩
theorem OwnR.form (h : OwnR w base A cap zs) : (A = none ∧ zs = [] ∧ cap = 0) ∨ ∃ g cs, A = some ⟨g, 0, none⟩ ∧ base ≤ g ∧ g < w.heap.size ∧ w.heap[g]? = some (.cells cs 28 (0, 0)) := by
  rcases h.row.2 with ⟨h1, h0⟩ | ⟨g, cap', cur, h1, hb, hg, _⟩
  · injection h1 with h1 _ h3
    exact .inl ⟨h1, List.eq_nil_of_length_eq_zero h0, h3⟩
  · injection h1 with h1
    exact .inr ⟨g, cur, h1, hb, (Array.getElem?_eq_some_iff.1 hg).1, hg⟩
theorem OwnR.less {b2 : Nat} (h : OwnR w base A cap zs) (hb : b2 ≤ base) : OwnR w b2 A cap zs := by
  refine ⟨⟨h.row.1, ?_⟩, fun z hz => (h.own z hz).less hb⟩
  rcases h.row.2 with h1 | ⟨g, cap', cur, h1, h2, h3⟩
  · exact .inl h1
  · exact .inr ⟨g, cap', cur, h1, by omega, h3⟩
theorem OwnR.cell (h : OwnR w base A cap zs) {k : Nat} (hk : k < zs.length) : ∃ g, A = some ⟨g, 0, none⟩ ∧ base ≤ g ∧ g < w.heap.size ∧ w.cell? ⟨g, k, none⟩ = some (.slice zs[k].2.1 zs[k].1.length zs[k].2.2) := by
  rcases h.form with ⟨_, rfl, _⟩ | ⟨g, cs, rfl, h1, h2, _⟩
  · simp at hk
  · exact ⟨g, rfl, h1, h2, (World.ownsRow.cellAt (w := w) (xs := zs.flatMap r1) h.row k (by omega)).trans (r1_get zs k hk)⟩
end
theorem run_append_row (w : World) (base : Nat) (ty : TypeId) (A : Option Addr) (c : Nat) (zs : List R1) (z : R1) (h : OwnR w base A c zs) (g : Nat)
    (hk : Blk w g 28 #[.slice z.2.1 z.1.length z.2.2]) (hz : Own w base z.2.1 z.2.2 z.1) (hl : zs.length + 1 ≤ 1000000) (hbase : base ≤ w.heap.size) :
    ∃ A' c' w', (Builtin.append_ #[45, 45] ty #[.slice A zs.length c, .slice (some ⟨g, 0, none⟩) 1 1]).run Tryz.prog w = .ok (.slice A' (zs ++ [z]).length c') w' ∧ OwnR w' base A' c' (zs ++ [z]) ∧ w.grownBy w' (Value.slice A zs.length c).ownBlock := by
  obtain ⟨i0, hi, hz0, hz1, hz2⟩ := info_parts row_info
  obtain ⟨v', w', hrun, h2, h3, _, h5⟩ := run_append_own_at (P := Tryz.prog) w base 45 ty _ i0 _ 1 24 Tryz.underlying45 hi hz0 hz1 hz2 rfl (by omega) _ zs.length (zs.flatMap r1) h.row ⟨g, 0, none⟩ 1 1 (r1 z) rfl
    (fun j u hu => by rw [add_mk, Nat.zero_add, hk.cell j]; simpa [r1] using hu) (fun u hu => by simp [r1] at hu; subst hu; rfl) (by unfold maxLen; omega) (by omega) hbase
  have hl2 : (zs ++ [z]).length = zs.length + 1 := by simp
  have hf2 : (zs ++ [z]).flatMap r1 = zs.flatMap r1 ++ r1 z := by simp
  have keep : ∀ y : R1, Own w base y.2.1 y.2.2 y.1 → Own w' base y.2.1 y.2.2 y.1 := fun y hy => by
    refine hy.grown h3 ?_
    rcases h.form with ⟨rfl, _⟩ | ⟨gr, cs, rfl, _, _, hgr⟩
    · cases h' : (Value.slice y.2.1 y.1.length y.2.2).ownBlock <;> simp [Value.ownBlock]
    · rcases hy.form with ⟨e, _⟩ | ⟨gy, e, _⟩
      · rw [e]; exact .inl rfl
      · rw [e]
        rw [e] at hy
        exact .inr (fun e' => own_blk0 hy (show Blk w gr 28 cs from hgr) (by decide) (by simpa [Value.ownBlock] using e'))
  rcases h2.2 with ⟨_, h0⟩ | ⟨g', cap', cur, rfl, h4⟩
  · omega
  · refine ⟨_, cap', w', by rw [hl2]; exact hrun, ⟨by rw [hf2, hl2]; exact h2, fun y hy => ?_⟩, h3⟩
    rcases List.mem_append.1 hy with hy | hy
    · exact keep y (h.own y hy)
    · rw [List.mem_singleton] at hy; subst hy; exact keep y hz
end At64
end
section
open Go.RowKit

def inI (a : Int) : Bool := decide (-9223372036854775808 ≤ a ∧ a ≤ 9223372036854775807)
/-- A number that an int64 holds, or what goes wrong. -/
def fit (a : Int) : Int × Int := if inI a then (a, 0) else (0, 1)
def addW (a b : Int) : Int × Int := fit (a + b)
def subW (a b : Int) : Int × Int := fit (a - b)
def negW (a : Int) : Int × Int := fit (-a)
def mulW (a b : Int) : Int × Int := fit (a * b)
def divErr (a b : Int) : Int := if b = 0 then 2 else if a = -9223372036854775808 ∧ b = -1 then 1 else 0
def divW (a b : Int) : Int × Int := if divErr a b = 0 then (a.tdiv b, 0) else (0, divErr a b)
def remW (a b : Int) : Int × Int := if divErr a b = 0 then (a.tmod b, 0) else (0, divErr a b)
/-- Two numbers held against each other. -/
def cmpB (op a b : Int) : Bool := if op = 1 then decide (a < b) else if op = 2 then decide (a ≤ b) else if op = 3 then decide (a = b) else if op = 4 then decide (a ≠ b) else if op = 5 then decide (b < a) else if op = 6 then decide (b ≤ a) else false
def pairV (p : Int × Int) : Value := .tuple #[.int .i64 p.1, .int .i64 p.2]
end
section
open Go.RowKit
attribute [local go_sem ↓] Go.wp_at_zero Go.wp_at_succ

theorem ret2 {a b : Int} {p : Int × Int} (h : p = (a, b)) : Ending.returned (.tuple #[.int .i64 a, .int .i64 b]) = .returned (pairV p) := by rw [h]; rfl
/-- Two numbers, and the world as it was. -/
def PairRes (p : Int × Int) (w : World) (e : Ending) (w' : World) : Prop := e = .returned (pairV p) ∧ w = w'
def IntRes (p : Int) (w : World) (e : Ending) (w' : World) : Prop := e = .returned (.int .i64 p) ∧ w = w'
def BoolRes (p : Bool) (w : World) (e : Ending) (w' : World) : Prop := e = .returned (.bool p) ∧ w = w'
def I64 (a : Int) : Prop := -9223372036854775808 ≤ a ∧ a ≤ 9223372036854775807
theorem prok {a b : Int} {w : World} {p : Int × Int} (h : p = (a, b)) : PairRes p w (.returned (.tuple #[.int .i64 a, .int .i64 b])) w := ⟨ret2 h, rfl⟩
theorem fit_in {a : Int} (h : -9223372036854775808 ≤ a ∧ a ≤ 9223372036854775807) : fit a = (a, 0) := by unfold fit inI; rw [if_pos (by rw [decide_eq_true_eq]; exact h)]
theorem fit_out {a : Int} (h : a < -9223372036854775808 ∨ 9223372036854775807 < a) : fit a = (0, 1) := by unfold fit inI; rw [if_neg (by rw [decide_eq_true_eq]; omega)]
theorem tdiv_in {a b : Int} (ha : -9223372036854775808 ≤ a ∧ a ≤ 9223372036854775807) (hne : ¬ b = 0) (hov : (a == -9223372036854775808 && b == -1) = false) : -9223372036854775808 ≤ a.tdiv b ∧ a.tdiv b ≤ 9223372036854775807 := by
  have h : (a.tdiv b).natAbs = a.natAbs / b.natAbs := Int.natAbs_tdiv a b
  have h1 : a.natAbs / b.natAbs ≤ a.natAbs := Nat.div_le_self _ _
  by_cases e : a = -9223372036854775808
  · subst e
    have hb : b ≠ -1 := by rintro rfl; simp at hov
    by_cases e1 : b = 1
    · subst e1; simp
    · have h2 : (-9223372036854775808 : Int).natAbs / b.natAbs ≤ (-9223372036854775808 : Int).natAbs / 2 := Nat.div_le_div_left (by omega) (by omega)
      have h3 : (-9223372036854775808 : Int).natAbs / 2 = 4611686018427387904 := by decide
      omega
  · omega
theorem div_w {a b : Int} (ha : -9223372036854775808 ≤ a ∧ a ≤ 9223372036854775807) (hne : ¬ b = 0) (hov : (a == -9223372036854775808 && b == -1) = false) : a.tdiv b = wrap64 (a.tdiv b) := (IntWalk.wrap64_in _ (tdiv_in ha hne hov)).symm
theorem tmod_in {a b : Int} (ha : -9223372036854775808 ≤ a ∧ a ≤ 9223372036854775807) : -9223372036854775808 ≤ a.tmod b ∧ a.tmod b ≤ 9223372036854775807 := by
  have h : (a.tmod b).natAbs = a.natAbs % b.natAbs := Int.natAbs_tmod a b
  have h1 : a.natAbs % b.natAbs ≤ a.natAbs := Nat.mod_le _ _
  rcases Int.le_total 0 a with h0 | h0
  · have := Int.tmod_nonneg b h0; omega
  · have := Int.tmod_nonneg b (show 0 ≤ -a by omega)
    rw [Int.neg_tmod] at this
    omega
theorem fit_wrap {a : Int} (h : -9223372036854775808 ≤ a ∧ a ≤ 9223372036854775807) : fit a = (wrap64 a, 0) := by rw [IntWalk.wrap64_in a h]; exact fit_in h

set_option maxHeartbeats 800000 in
theorem nadd_any (a b : Int) (w : World) (ha : I64 a) (hb : I64 b) : Calls Tryz.prog 127 #[.int .i64 a, .int .i64 b] w (PairRes (addW a b) w) := by
  have HA := hid ha
  have HB := hid hb
  clear ha hb
  cases t1 : decide (a < 0) <;> cases t2 : decide (b < 0) <;> cases t3 : decide (wrap64 (a + b) < 0)
  all_goals
    go_enter Tryz.func127, Tryz.ntmps127
    go_wp2
    go_ret2
    have ha := HA.out
    have hb := HB.out
    unfold I64 at ha hb
    simp only [decide_eq_true_eq, decide_eq_false_iff_not] at t1 t2 t3
    unfold wrap64 at t3
    refine prok ?_
    unfold addW
    first | exact fit_wrap (by omega) | exact fit_out (by omega)

set_option maxHeartbeats 800000 in
theorem nsub_any (a b : Int) (w : World) (ha : I64 a) (hb : I64 b) : Calls Tryz.prog 128 #[.int .i64 a, .int .i64 b] w (PairRes (subW a b) w) := by
  have HA := hid ha
  have HB := hid hb
  clear ha hb
  cases t1 : decide (a < 0) <;> cases t2 : decide (b < 0) <;> cases t3 : decide (wrap64 (a - b) < 0)
  all_goals
    go_enter Tryz.func128, Tryz.ntmps128
    go_wp2
    go_ret2
    have ha := HA.out
    have hb := HB.out
    unfold I64 at ha hb
    simp only [decide_eq_true_eq, decide_eq_false_iff_not] at t1 t2 t3
    unfold wrap64 at t3
    refine prok ?_
    unfold subW
    first | exact fit_wrap (by omega) | exact fit_out (by omega)

set_option maxHeartbeats 400000 in
theorem nneg_any (a : Int) (w : World) (ha : I64 a) : Calls Tryz.prog 126 #[.int .i64 a] w (PairRes (negW a) w) := by
  have HC := hid (nsub_any 0 a w (by unfold I64; omega) ha)
  rw [show subW 0 a = negW a from by unfold subW negW; rw [Int.zero_sub]] at HC
  generalize negW a = p at *
  go_enter Tryz.func126, Tryz.ntmps126
  go_wp2_with fail
  refine HC.out.mono ?_
  rintro e w' ⟨rfl, rfl⟩
  obtain ⟨p, q⟩ := p
  unfold pairV
  go_wp2
  go_ret2
  exact prok rfl

set_option maxHeartbeats 800000 in
theorem ndivides_any (a b : Int) (w : World) : Calls Tryz.prog 153 #[.int .i64 a, .int .i64 b] w (IntRes (divErr a b) w) := by
  cases t1 : (b == 0) <;> cases t2 : (a == -9223372036854775808) <;> cases t3 : (b == -1)
  all_goals
    go_enter Tryz.func153, Tryz.ntmps153
    go_wp2
    go_ret
    simp only [beq_iff_eq, beq_eq_false_iff_ne] at t1 t2 t3
    unfold divErr
    first | (rw [if_pos t1]; exact ⟨rfl, rfl⟩) | (rw [if_neg t1, if_pos ⟨t2, t3⟩]; exact ⟨rfl, rfl⟩) | (rw [if_neg t1, if_neg (fun h => t2 h.1)]; exact ⟨rfl, rfl⟩) | (rw [if_neg t1, if_neg (fun h => t3 h.2)]; exact ⟨rfl, rfl⟩)

set_option maxHeartbeats 800000 in
theorem ndiv_any (a b : Int) (w : World) (ha : I64 a) (hb : I64 b) : Calls Tryz.prog 130 #[.int .i64 a, .int .i64 b] w (PairRes (divW a b) w) := by
  have HD := hid (ndivides_any a b w)
  have HA := hid ha
  have HB := hid hb
  clear ha hb
  cases t : (divErr a b != 0)
  · have e0 : divErr a b = 0 := by simpa using t
    have HW : Hid (divW a b = (a.tdiv b, 0)) := hid (by unfold divW; rw [if_pos e0])
    have hb0 : (b == 0) = false := by
      rw [beq_eq_false_iff_ne]; intro h; subst h; unfold divErr at e0; simp at e0
    have hov : (a == -9223372036854775808 && b == -1) = false := by
      rw [Bool.eq_false_iff]; intro h
      simp only [Bool.and_eq_true, beq_iff_eq] at h
      unfold divErr at e0; rw [if_neg (by omega), if_pos h] at e0; cases e0
    rw [e0] at HD
    clear e0 t
    have hne : ¬ b = 0 := by simpa using hb0
    go_enter Tryz.func130, Tryz.ntmps130
    go_wp2_with fail
    refine HD.out.mono ?_
    rintro e w' ⟨rfl, rfl⟩
    go_wp2
    go_ret2
    refine prok ?_
    exact HW.out.trans (congrArg (fun x => (x, (0 : Int))) (div_w HA.out hne hov))
  · have HW : Hid (divW a b = (0, divErr a b)) := hid (by unfold divW; rw [if_neg (by simpa using t)])
    generalize divErr a b = er at *
    go_enter Tryz.func130, Tryz.ntmps130
    go_wp2_with fail
    refine HD.out.mono ?_
    rintro e w' ⟨rfl, rfl⟩
    go_wp2
    go_ret2
    exact prok HW.out

set_option maxHeartbeats 800000 in
theorem nrem_any (a b : Int) (w : World) (ha : I64 a) (hb : I64 b) : Calls Tryz.prog 131 #[.int .i64 a, .int .i64 b] w (PairRes (remW a b) w) := by
  have HD := hid (ndivides_any a b w)
  have HA := hid ha
  have HB := hid hb
  clear ha hb
  cases t : (divErr a b != 0)
  · have e0 : divErr a b = 0 := by simpa using t
    have HW : Hid (remW a b = (a.tmod b, 0)) := hid (by unfold remW; rw [if_pos e0])
    have hb0 : (b == 0) = false := by
      rw [beq_eq_false_iff_ne]; intro h; subst h; unfold divErr at e0; simp at e0
    have hov : (a == -9223372036854775808 && b == -1) = false := by
      rw [Bool.eq_false_iff]; intro h
      simp only [Bool.and_eq_true, beq_iff_eq] at h
      unfold divErr at e0; rw [if_neg (by omega), if_pos h] at e0; cases e0
    rw [e0] at HD
    clear e0 t
    have hne : ¬ b = 0 := by simpa using hb0
    go_enter Tryz.func131, Tryz.ntmps131
    go_wp2_with fail
    refine HD.out.mono ?_
    rintro e w' ⟨rfl, rfl⟩
    go_wp2
    go_ret2
    refine prok ?_
    exact HW.out
  · have HW : Hid (remW a b = (0, divErr a b)) := hid (by unfold remW; rw [if_neg (by simpa using t)])
    generalize divErr a b = er at *
    go_enter Tryz.func131, Tryz.ntmps131
    go_wp2_with fail
    refine HD.out.mono ?_
    rintro e w' ⟨rfl, rfl⟩
    go_wp2
    go_ret2
    exact prok HW.out
end
section

end
section
open Go.RowKit
attribute [local go_sem ↓] Go.wp_at_zero Go.wp_at_succ

set_option maxHeartbeats 400000 in
theorem clone_any (m : List Int) (A : Option Addr) (cap : Nat) (w : World) (hr : Rd w w.heap.size A m) (hm : m.length ≤ 17592186044416) :
    Calls Tryz.prog 104 #[.slice A m.length cap] w fun e w' => ∃ A' cap', e = .returned (.slice A' m.length cap') ∧ Own w' w.heap.size A' cap' m ∧ Below w.heap.size w w' := by
  have q := fun w => Lib.run_eql_slice_nil (P := Tryz.prog) w 28 2 A m.length cap 0 0 Tryz.underlying28
  go_enter Tryz.func104, Tryz.ntmps104
  go_wp2_with (at_builtin; go_loud (refine wpList_append_ints _ _ _ rfl rfl Tryz.underlying28 w.heap.size (some ⟨w.heap.size, 0, none⟩) 0 [] rfl (own_empty w (Nat.le_refl _)) w.heap.size A cap m m rfl (hr.below ((Below.refl _ _).alloc (Nat.le_refl _) _)) rfl hm (by simp) ?_); intro A1 c1 w1 hown1 hg1 _; have hb1 := below_grown (B := w.heap.size) hg1 (by simp [Value.ownBlock]) (by simp); clear hg1)
  · go_ret
    have hA : A = none := by simpa using (‹A.isNone = true› : _)
    subst hA
    obtain rfl : m = [] := hr.nil
    exact ⟨none, 0, rfl, own_nil _ _, Below.refl _ _⟩
  · go_ret
    exact ⟨A1, c1, rfl, hown1, ((Below.refl _ _).alloc (Nat.le_refl _) _).trans hb1⟩
end
section

end
end Go.Proofs.YtkncebcekhfnfaaGreat
