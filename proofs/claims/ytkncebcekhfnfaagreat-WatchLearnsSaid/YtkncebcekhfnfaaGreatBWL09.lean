/-
  A slice of slices of int64 that the call itself made, each with numbers of its own; append onto it (OwnRows, for int64).
  gnomonref7: what Neg, Add, Sub, Mul and Do answer.
  A point that takes an edge is one of what is known behind it. Plain.
  Closing where no sum saturates: what comes out is tight (no cell is above the sum of two that meet); what is tight stays as it is when it is closed. Plain.
  A point that takes an edge is one of what is known behind it: sums, products, the edge. Plain.
  span.In's Var, Sum, Diff: what they answer of a closed octagon.
  A slice that reads so, of old memory or of one's own; what callees tell of it.
-/
import Derived.Test.YtkncebcekhfnfaaGreatBWL02
import Derived.Test.YtkncebcekhfnfaaGreatBWL07
import Derived.IntWalk
import Derived.Test.YtkncebcekhfnfaaGreatBWL06
import Derived.Test.YtkncebcekhfnfaaGreatBWL05
namespace Go.Proofs.YtkncebcekhfnfaaGreat
section
open Go.RowKit
namespace At64
theorem row_info : (Tryz.prog.info? 28).map (fun i => (i.zero, i.size, i.bytes)) = some (some (.slice none 0 0), 1, 24) := by kernel_rfl
abbrev R1 := List Int × Option Addr × Nat
def r1 (z : R1) : List Value := [.slice z.2.1 z.1.length z.2.2]
theorem r1_get : ∀ (zs : List R1) (k : Nat) (h : k < zs.length), (zs.flatMap r1)[k]? = some (.slice zs[k].2.1 zs[k].1.length zs[k].2.2)
  | [], k, h => absurd h (by simp)
  | z :: zs, 0, _ => by simp [r1]
  | z :: zs, k + 1, h => by
    rw [List.flatMap_cons, List.getElem?_append_right (by simp [r1]), show k + 1 - (r1 z).length = k by simp [r1]]
    exact r1_get zs k (by simpa using h)
theorem own_blk0 {w : World} {base cap g k : Nat} {xs : List Int} {t : TypeId} {cs : Array Value} (h : Own w base (some ⟨g, 0, none⟩) cap xs) (hk : Blk w k t cs) (ht : t ≠ 2) : g ≠ k := by
  rintro rfl
  rcases h.2 with ⟨h0, _⟩ | ⟨g', cap', cur, h1, _, h3, _⟩
  · cases h0
  · simp only [Value.slice.injEq, Option.some.injEq, Addr.mk.injEq] at h1
    obtain ⟨⟨rfl, _⟩, _⟩ := h1
    unfold Blk at hk
    rw [h3] at hk
    injection hk with hk
    injection hk with _ hk
    exact ht hk.symm
structure OwnR (w : World) (base : Nat) (A : Option Addr) (cap : Nat) (zs : List R1) : Prop where
  row : w.ownsRow base 28 1 (.slice A zs.length cap) zs.length (zs.flatMap r1)
  own : ∀ z ∈ zs, Own w base z.2.1 z.2.2 z.1
section
variable {w w' : World} {base cap : Nat} {A : Option Addr} {zs : List R1}
theorem OwnR.nil (w : World) (base : Nat) : OwnR w base none 0 [] := ⟨World.ownsRow_nil _ _ _ _, fun _ h => absurd h (by simp)⟩
theorem OwnR.below (h : OwnR w base A cap zs) (hb : Below w.heap.size w w') : OwnR w' base A cap zs :=
  ⟨World.ownsRow.kept h.row (grown_of_below hb none) (by cases h' : (Value.slice A zs.length cap).ownBlock <;> simp), fun z hz => (h.own z hz).below hb⟩
theorem OwnR.form (h : OwnR w base A cap zs) : (A = none ∧ zs = [] ∧ cap = 0) ∨ ∃ g cs, A = some ⟨g, 0, none⟩ ∧ base ≤ g ∧ g < w.heap.size ∧ w.heap[g]? = some (.cells cs 28 (0, 0)) := by
  rcases h.row.2 with ⟨h1, h0⟩ | ⟨g, cap', cur, h1, hb, hg, _⟩
  · injection h1 with h1 _ h3
    exact .inl ⟨h1, List.eq_nil_of_length_eq_zero h0, h3⟩
  · injection h1 with h1
    exact .inr ⟨g, cur, h1, hb, (Array.getElem?_eq_some_iff.1 hg).1, hg⟩
theorem OwnR.setFar (h : OwnR w base A cap zs) {p : Addr} (hp : p.block < base) (u : Value) : OwnR (w.setCell p u) base A cap zs :=
  ⟨World.ownsRow.kept h.row (grown_setCell w p u) (by
    rcases h.form with ⟨rfl, _⟩ | ⟨g, cs, rfl, h1, _⟩
    · exact .inl rfl
    · exact .inr (fun e => by simp [Value.ownBlock] at e; omega)), fun z hz => (h.own z hz).setFar hp u⟩
theorem OwnR.less {b2 : Nat} (h : OwnR w base A cap zs) (hb : b2 ≤ base) : OwnR w b2 A cap zs := by
  refine ⟨⟨h.row.1, ?_⟩, fun z hz => (h.own z hz).less hb⟩
  rcases h.row.2 with h1 | ⟨g, cap', cur, h1, h2, h3⟩
  · exact .inl h1
  · exact .inr ⟨g, cap', cur, h1, by omega, h3⟩
theorem OwnR.cell (h : OwnR w base A cap zs) {k : Nat} (hk : k < zs.length) : ∃ g, A = some ⟨g, 0, none⟩ ∧ base ≤ g ∧ g < w.heap.size ∧ w.cell? ⟨g, k, none⟩ = some (.slice zs[k].2.1 zs[k].1.length zs[k].2.2) := by
  rcases h.form with ⟨_, rfl, _⟩ | ⟨g, cs, rfl, h1, h2, _⟩
  · simp at hk
  · exact ⟨g, rfl, h1, h2, (World.ownsRow.cellAt (w := w) (xs := zs.flatMap r1) h.row k (by omega)).trans (r1_get zs k hk)⟩
end
theorem run_append_row (w : World) (base : Nat) (ty : TypeId) (A : Option Addr) (c : Nat) (zs : List R1) (z : R1) (h : OwnR w base A c zs) (g : Nat)
    (hk : Blk w g 28 #[.slice z.2.1 z.1.length z.2.2]) (hz : Own w base z.2.1 z.2.2 z.1) (hl : zs.length + 1 ≤ 1000000) (hbase : base ≤ w.heap.size) :
    ∃ A' c' w', (Builtin.append_ #[45, 45] ty #[.slice A zs.length c, .slice (some ⟨g, 0, none⟩) 1 1]).run Tryz.prog w = .ok (.slice A' (zs ++ [z]).length c') w' ∧ OwnR w' base A' c' (zs ++ [z]) ∧ w.grownBy w' (Value.slice A zs.length c).ownBlock := by
  obtain ⟨i0, hi, hz0, hz1, hz2⟩ := info_parts row_info
  obtain ⟨v', w', hrun, h2, h3, _, h5⟩ := run_append_own_at (P := Tryz.prog) w base 45 ty _ i0 _ 1 24 Tryz.underlying45 hi hz0 hz1 hz2 rfl (by omega) _ zs.length (zs.flatMap r1) h.row ⟨g, 0, none⟩ 1 1 (r1 z) rfl
    (fun j u hu => by rw [add_mk, Nat.zero_add, hk.cell j]; simpa [r1] using hu) (fun u hu => by simp [r1] at hu; subst hu; rfl) (by unfold maxLen; omega) (by omega) hbase
  have hl2 : (zs ++ [z]).length = zs.length + 1 := by simp
  have hf2 : (zs ++ [z]).flatMap r1 = zs.flatMap r1 ++ r1 z := by simp
  have keep : ∀ y : R1, Own w base y.2.1 y.2.2 y.1 → Own w' base y.2.1 y.2.2 y.1 := fun y hy => by
    refine hy.grown h3 ?_
    rcases h.form with ⟨rfl, _⟩ | ⟨gr, cs, rfl, _, _, hgr⟩
    · cases h' : (Value.slice y.2.1 y.1.length y.2.2).ownBlock <;> simp [Value.ownBlock]
    · rcases hy.form with ⟨e, _⟩ | ⟨gy, e, _⟩
      · rw [e]; exact .inl rfl
      · rw [e]
        rw [e] at hy
        exact .inr (fun e' => own_blk0 hy (show Blk w gr 28 cs from hgr) (by decide) (by simpa [Value.ownBlock] using e'))
  rcases h2.2 with ⟨_, h0⟩ | ⟨g', cap', cur, rfl, h4⟩
  · omega
  · refine ⟨_, cap', w', by rw [hl2]; exact hrun, ⟨by rw [hf2, hl2]; exact h2, fun y hy => ?_⟩, h3⟩
    rcases List.mem_append.1 hy with hy | hy
    · exact keep y (h.own y hy)
    · rw [List.mem_singleton] at hy; subst hy; exact keep y hz
end At64
end
section
open Go.RowKit
attribute [local go_sem ↓] Go.wp_at_zero Go.wp_at_succ

set_option maxHeartbeats 800000 in
theorem r7neg_any (a : Int) (w : World) (ha : I64 a) : Calls Tryz.prog 135 #[.int .i64 a] w (PairRes (negW a) w) := by
  have HA := hid ha
  clear ha
  cases t1 : (a == -9223372036854775808)
  all_goals
    go_enter Tryz.func135, Tryz.ntmps135
    go_wp2
    go_ret2
    have ha := HA.out
    unfold I64 at ha
    simp only [beq_iff_eq, beq_eq_false_iff_ne] at t1
    refine prok ?_
    unfold negW
    first | exact fit_wrap (by omega) | exact fit_out (by omega)

set_option maxHeartbeats 1600000 in
theorem r7add_any (a b : Int) (w : World) (ha : I64 a) (hb : I64 b) : Calls Tryz.prog 136 #[.int .i64 a, .int .i64 b] w (PairRes (addW a b) w) := by
  have HA := hid ha
  have HB := hid hb
  clear ha hb
  cases t1 : decide (0 < b) <;> cases t2 : decide (wrap64 (9223372036854775807 - b) < a) <;> cases t3 : decide (b < 0) <;> cases t4 : decide (a < wrap64 (-9223372036854775808 - b))
  all_goals
    go_enter Tryz.func136, Tryz.ntmps136
    go_wp2
    go_ret2
    have ha := HA.out
    have hb := HB.out
    unfold I64 at ha hb
    simp only [decide_eq_true_eq, decide_eq_false_iff_not] at t1 t2 t3 t4
    unfold wrap64 at t2 t4
    refine prok ?_
    unfold addW
    first | exact fit_wrap (by omega) | exact fit_out (by omega)

set_option maxHeartbeats 1600000 in
theorem r7sub_any (a b : Int) (w : World) (ha : I64 a) (hb : I64 b) : Calls Tryz.prog 137 #[.int .i64 a, .int .i64 b] w (PairRes (subW a b) w) := by
  have HA := hid ha
  have HB := hid hb
  clear ha hb
  cases t1 : decide (b < 0) <;> cases t2 : decide (wrap64 (9223372036854775807 + b) < a) <;> cases t3 : decide (0 < b) <;> cases t4 : decide (a < wrap64 (-9223372036854775808 + b))
  all_goals
    go_enter Tryz.func137, Tryz.ntmps137
    go_wp2
    go_ret2
    have ha := HA.out
    have hb := HB.out
    unfold I64 at ha hb
    simp only [decide_eq_true_eq, decide_eq_false_iff_not] at t1 t2 t3 t4
    unfold wrap64 at t2 t4
    refine prok ?_
    unfold subW
    first | exact fit_wrap (by omega) | exact fit_out (by omega)

theorem mul_back {a b : Int} (ha : I64 a) (hb : I64 b) (a0 : a ≠ 0) (b0 : b ≠ 0) (b1 : b ≠ -1) : (wrap64 ((wrap64 (a * b)).tdiv b) = a) ↔ I64 (a * b) := by
  have hw : I64 (wrap64 (a * b)) := by unfold I64 wrap64; omega
  have hin : wrap64 ((wrap64 (a * b)).tdiv b) = (wrap64 (a * b)).tdiv b := IntWalk.wrap64_in _ (tdiv_in hw b0 (by simp [b1]))
  rw [hin]
  constructor
  · intro h
    have h1 := Int.mul_tdiv_add_tmod (wrap64 (a * b)) b
    rw [h, Int.mul_comm] at h1
    have h2 : ((wrap64 (a * b)).tmod b).natAbs = (wrap64 (a * b)).natAbs % b.natAbs := Int.natAbs_tmod _ _
    have h3 : (wrap64 (a * b)).natAbs % b.natAbs < b.natAbs := Nat.mod_lt _ (by omega)
    unfold I64 at *
    generalize (wrap64 (a * b)).tmod b = r at *
    generalize a * b = p at *
    unfold wrap64 at h1 hw
    omega
  · intro h
    have e : wrap64 (a * b) = a * b := IntWalk.wrap64_in _ h
    rw [e, Int.mul_tdiv_cancel _ b0]

theorem mulW_zero_l (b : Int) : mulW 0 b = (0, 0) := by unfold mulW; rw [Int.zero_mul]; rfl
theorem mulW_zero_r (a : Int) : mulW a 0 = (0, 0) := by unfold mulW; rw [Int.mul_zero]; rfl
theorem mulW_neg_l (b : Int) : mulW (-1) b = negW b := by unfold mulW negW; rw [Int.neg_one_mul]
theorem mulW_neg_r (a : Int) : mulW a (-1) = negW a := by unfold mulW negW; rw [Int.mul_neg_one]
set_option maxHeartbeats 1600000 in
theorem r7mul_any (a b : Int) (w : World) (ha : I64 a) (hb : I64 b) : Calls Tryz.prog 138 #[.int .i64 a, .int .i64 b] w (PairRes (mulW a b) w) := by
  have HNA := hid (r7neg_any a w ha)
  have HNB := hid (r7neg_any b w hb)
  have HA := hid ha
  have HB := hid hb
  clear ha hb
  by_cases a0 : a = 0
  · subst a0
    rw [mulW_zero_l]
    go_enter Tryz.func138, Tryz.ntmps138
    go_wp2
    go_ret2
    exact prok rfl
  by_cases b0 : b = 0
  · subst b0
    have t1 : (a == 0) = false := by simp [a0]
    rw [mulW_zero_r]
    go_enter Tryz.func138, Tryz.ntmps138
    go_wp2
    go_ret2
    exact prok rfl
  have t1 : (a == 0) = false := by simp [a0]
  have t2 : (b == 0) = false := by simp [b0]
  by_cases a1 : a = -1
  · subst a1
    rw [mulW_neg_l]
    generalize negW b = p at *
    go_enter Tryz.func138, Tryz.ntmps138
    go_wp2_with fail
    refine HNB.out.mono ?_
    rintro e w' ⟨rfl, rfl⟩
    obtain ⟨p, q⟩ := p
    unfold pairV
    go_wp2
    go_ret2
    exact prok rfl
  have t3 : (a == -1) = false := by simp [a1]
  by_cases b1 : b = -1
  · subst b1
    rw [mulW_neg_r]
    generalize negW a = p at *
    go_enter Tryz.func138, Tryz.ntmps138
    go_wp2_with fail
    refine HNA.out.mono ?_
    rintro e w' ⟨rfl, rfl⟩
    obtain ⟨p, q⟩ := p
    unfold pairV
    go_wp2
    go_ret2
    exact prok rfl
  have t4 : (b == -1) = false := by simp [b1]
  have HM := hid (mul_back HA.out HB.out a0 b0 b1)
  have hne : ¬ b = 0 := b0
  have hov : (wrap64 (a * b) == -9223372036854775808 && b == -1) = false := by simp [b1]
  clear a0 b0 a1 b1 HNA HNB HA HB
  cases t5 : (wrap64 ((wrap64 (a * b)).tdiv b) != a)
  all_goals
    go_enter Tryz.func138, Tryz.ntmps138
    go_wp2
    go_ret2
    have hm := HM.out
    simp only [bne_iff_ne, bne_eq_false_iff_eq] at t5
    refine prok ?_
    unfold mulW
    first | (exact fit_wrap (hm.1 t5)) | (refine fit_out ?_; have hn : ¬ I64 (a * b) := fun h => t5 (hm.2 h); unfold I64 at hn; omega)

/-- What the document's Do answers. -/
def doW (kd a b : Int) : Int × Int := if kd = 5 then negW a else if kd = 6 then addW a b else if kd = 7 then subW a b else if kd = 8 then mulW a b else if kd = 9 then divW a b else remW a b
theorem r7do_5 (a b : Int) (w : World) (ha : I64 a) (hb : I64 b) : Calls Tryz.prog 96 #[.int .i64 5, .int .i64 a, .int .i64 b] w (PairRes (negW a) w) := by
    have HC := hid (r7neg_any a w ha)
    generalize negW a = p at *
    clear ha hb
    go_enter Tryz.func96, Tryz.ntmps96
    go_wp2_with fail
    refine HC.out.mono ?_
    rintro e w' ⟨rfl, rfl⟩
    obtain ⟨p, q⟩ := p
    unfold pairV
    go_wp2
    go_ret2
    exact prok rfl
theorem r7do_6 (a b : Int) (w : World) (ha : I64 a) (hb : I64 b) : Calls Tryz.prog 96 #[.int .i64 6, .int .i64 a, .int .i64 b] w (PairRes (addW a b) w) := by
    have HC := hid (r7add_any a b w ha hb)
    generalize addW a b = p at *
    clear ha hb
    go_enter Tryz.func96, Tryz.ntmps96
    go_wp2_with fail
    refine HC.out.mono ?_
    rintro e w' ⟨rfl, rfl⟩
    obtain ⟨p, q⟩ := p
    unfold pairV
    go_wp2
    go_ret2
    exact prok rfl
theorem r7do_7 (a b : Int) (w : World) (ha : I64 a) (hb : I64 b) : Calls Tryz.prog 96 #[.int .i64 7, .int .i64 a, .int .i64 b] w (PairRes (subW a b) w) := by
    have HC := hid (r7sub_any a b w ha hb)
    generalize subW a b = p at *
    clear ha hb
    go_enter Tryz.func96, Tryz.ntmps96
    go_wp2_with fail
    refine HC.out.mono ?_
    rintro e w' ⟨rfl, rfl⟩
    obtain ⟨p, q⟩ := p
    unfold pairV
    go_wp2
    go_ret2
    exact prok rfl
theorem r7do_8 (a b : Int) (w : World) (ha : I64 a) (hb : I64 b) : Calls Tryz.prog 96 #[.int .i64 8, .int .i64 a, .int .i64 b] w (PairRes (mulW a b) w) := by
    have HC := hid (r7mul_any a b w ha hb)
    generalize mulW a b = p at *
    clear ha hb
    go_enter Tryz.func96, Tryz.ntmps96
    go_wp2_with fail
    refine HC.out.mono ?_
    rintro e w' ⟨rfl, rfl⟩
    obtain ⟨p, q⟩ := p
    unfold pairV
    go_wp2
    go_ret2
    exact prok rfl
theorem r7do_9 (a b : Int) (w : World) (ha : I64 a) (hb : I64 b) : Calls Tryz.prog 96 #[.int .i64 9, .int .i64 a, .int .i64 b] w (PairRes (divW a b) w) := by
    have HC := hid (rdiv_any a b w ha hb)
    generalize divW a b = p at *
    clear ha hb
    go_enter Tryz.func96, Tryz.ntmps96
    go_wp2_with fail
    refine HC.out.mono ?_
    rintro e w' ⟨rfl, rfl⟩
    obtain ⟨p, q⟩ := p
    unfold pairV
    go_wp2
    go_ret2
    exact prok rfl
theorem r7do_o (kd a b : Int) (w : World) (ha : I64 a) (hb : I64 b) (h5 : kd ≠ 5) (h6 : kd ≠ 6) (h7 : kd ≠ 7) (h8 : kd ≠ 8) (h9 : kd ≠ 9) : Calls Tryz.prog 96 #[.int .i64 kd, .int .i64 a, .int .i64 b] w (PairRes (remW a b) w) := by
    have HC := hid (rrem_any a b w ha hb)
    generalize remW a b = p at *
    clear ha hb
    have t5 : (kd == 5) = false := by simp [h5]
    have t6 : (kd == 6) = false := by simp [h6]
    have t7 : (kd == 7) = false := by simp [h7]
    have t8 : (kd == 8) = false := by simp [h8]
    have t9 : (kd == 9) = false := by simp [h9]
    clear h5 h6 h7 h8 h9
    go_enter Tryz.func96, Tryz.ntmps96
    go_wp2_with fail
    refine HC.out.mono ?_
    rintro e w' ⟨rfl, rfl⟩
    obtain ⟨p, q⟩ := p
    unfold pairV
    go_wp2
    go_ret2
    exact prok rfl
theorem r7do_any (kd a b : Int) (w : World) (ha : I64 a) (hb : I64 b) : Calls Tryz.prog 96 #[.int .i64 kd, .int .i64 a, .int .i64 b] w (PairRes (doW kd a b) w) := by
  unfold doW
  split
  · rename_i h; subst h; exact r7do_5 a b w ha hb
  · split
    · rename_i h; subst h; exact r7do_6 a b w ha hb
    · split
      · rename_i h; subst h; exact r7do_7 a b w ha hb
      · split
        · rename_i h; subst h; exact r7do_8 a b w ha hb
        · split
          · rename_i h; subst h; exact r7do_9 a b w ha hb
          · rename_i h5 h6 h7 h8 h9; exact r7do_o kd a b w ha hb h5 h6 h7 h8 h9
end
section
open Go.RowKit

def opdX (x : List Int) (v n : Int) : Int := if 0 ≤ v then gI x v else n
end
section
open Go.RowKit

/-- c is at most the sum of a and b, where neither is without end. -/
def LeS (c a b : Int) : Prop := a = 9223372036854775807 ∨ b = 9223372036854775807 ∨ (c ≤ a + b ∧ c ≠ 9223372036854775807)
def Tri (N : Nat) (xs : List Int) : Prop := ∀ i j k : Nat, i < N → j < N → k < N → LeS (G N xs i j) (G N xs i k) (G N xs k j)
/-- The cells of an octagon, as tight as they are. -/
structure Tight (N : Nat) (xs : List Int) : Prop where
  cells : Cells N xs
  tri : Tri N xs
  ev : ∀ i : Nat, i < N → even (G N xs i (nx i)) = G N xs i (nx i)
  str : ∀ i j : Nat, i < N → j < N → i ≠ j → G N xs i j ≤ half (plus (G N xs i (nx i)) (G N xs (nx j) j))

/-! ### One round of paths. -/
end
section
open Go.RowKit

/-- Where a point goes behind an edge that it takes. -/
def Behind (e : Edg) (x y : List Int) : Prop :=
  e.kd ≠ 14 ∧ (e.kd = 12 → cmpB e.op (opdX x e.av e.an) (opdX x e.bv e.bn) = true) ∧
  (if e.kd = 9 ∨ e.kd = 10 then ∃ v, y = x.set e.dst.toNat v
    else if e.kd = 2 then y = x.set e.dst.toNat (opdX x e.av e.an)
    else if 3 ≤ e.kd ∧ e.kd ≤ 8 then (kindW e.kd (opdX x e.av e.an) (opdX x e.bv e.bn)).2 = 0 ∧ y = x.set e.dst.toNat (kindW e.kd (opdX x e.av e.an) (opdX x e.bv e.bn)).1
    else y = x)
def I64s (x : List Int) : Prop := ∀ i : Nat, -9223372036854775808 ≤ gI x (i : Int) ∧ gI x (i : Int) ≤ 9223372036854775807
theorem opdX_i64 {x : List Int} (hx : I64s x) {v k : Int} (hk : -9223372036854775808 ≤ k ∧ k ≤ 9223372036854775807) : -9223372036854775808 ≤ opdX x v k ∧ opdX x v k ≤ 9223372036854775807 := by
  unfold opdX
  split
  · rename_i h
    have := hx v.toNat
    rwa [Int.toNat_of_nonneg h] at this
  · exact hk
end
section

end
section

end
end Go.Proofs.YtkncebcekhfnfaaGreat
