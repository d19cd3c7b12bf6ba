/-
  A point of an octagon is one of the octagon closed. Plain.
  A point that takes an edge is one of what is known behind it. Plain.
  Closing where no sum saturates: what comes out is tight (no cell is above the sum of two that meet); what is tight stays as it is when it is closed. Plain.
  A point that takes an edge is one of what is known behind it: sums, products, the edge. Plain.
  num.Cmp, gnomonref7.Cmp, Neg, Add, Sub: what each call answers.
  dbm.within, copied, With: what each call answers, of octagons that may be.
  dbm.With, trans.limits, trans.closed, trans.empty: of octagons that may be.
  trans's and order's small functions: closed, empty, plus, minus, twice, negated, upTo, from, only.
  trans.ranged: a variable bounded by a range.
  dbm.Get, and span's reading of a closed octagon: what they answer.
  trans.atMost: what it answers.
  span.In: what a closed octagon tells of a variable, a sum, a difference, an operand.
  span.In's Var, Sum, Diff: what they answer of a closed octagon.
  A slice that reads so, of old memory or of one's own; what callees tell of it.
-/
import Derived.Test.YtkncebcekhfnfaaGreatBWT10
import Derived.Test.YtkncebcekhfnfaaGreatBWT12
import Derived.Test.YtkncebcekhfnfaaGreatBWT03
import Derived.Laws.EntriesVeiled
import Derived.Test.YtkncebcekhfnfaaGreatBWT05
import Derived.Test.YtkncebcekhfnfaaGreatBWT09
namespace Go.Proofs.YtkncebcekhfnfaaGreat
section
open Go.RowKit

/-- A point's number on a side. -/
def sideX (x : List Int) (i : Nat) : Int := if i % 2 = 0 then gI x ((i / 2 : Nat) : Int) else -gI x ((i / 2 : Nat) : Int)
theorem sideX_nx (x : List Int) (i : Nat) : sideX x (nx i) = -sideX x i := by
  unfold sideX nx
  by_cases h : i % 2 = 0
  · rw [if_pos h, if_pos h, if_neg (by omega), show (i + 1) / 2 = i / 2 by omega]
  · rw [if_neg h, if_neg h, if_pos (by omega), show (i - 1) / 2 = i / 2 by omega, Int.neg_neg]
/-- How far a point's sides are apart. -/
def apartX (x : List Int) (i j : Nat) : Int := sideX x i - sideX x j
/-- A bound lets a number be. -/
def Lets (c d : Int) : Prop := c = 9223372036854775807 ∨ d ≤ c
/-- The matrix has the point. -/
def HasM (N : Nat) (m x : List Int) : Prop := ∀ i j : Nat, i < N → j < N → Lets (G N m i j) (apartX x i j)

theorem bndS {a : Int} (h : isBound a = true) : a = 9223372036854775807 ∨ (-4611686018427387904 ≤ a ∧ a ≤ 4611686018427387904) := by
  unfold isBound at h; exact of_decide_eq_true h
theorem lets_min {a b d : Int} (h : Lets a d) (k : Lets b d) (ha : isBound a = true) (hb : isBound b = true) : Lets (min a b) d := by
  have := bndS ha
  have := bndS hb
  unfold Lets at *; omega
theorem lets_near {s d : Int} (h : d ≤ s) : Lets (near s) d := by
  unfold Lets near
  split
  · omega
  · split <;> omega
theorem lets_plus {a b d e : Int} (ha : isBound a = true) (hb : isBound b = true) (h : Lets a d) (k : Lets b e) : Lets (plus a b) (d + e) := by
  have h1 := near_of ha
  have h2 := near_of hb
  unfold plus
  rw [h1, h2]
  split
  · exact .inl rfl
  · unfold Lets at h k
    exact lets_near (by omega)
theorem lets_even {a d : Int} (ha : isBound a = true) (h : Lets a (2 * d)) : Lets (even a) (2 * d) := by
  have h1 := near_of ha
  unfold even Lets at *
  rw [h1]
  split <;> omega
theorem lets_half {a d : Int} (ha : isBound a = true) (h : Lets a (2 * d)) : Lets (half a) d := by
  have h1 := near_of ha
  unfold half Lets at *
  rw [h1]
  split <;> omega

section
variable {N : Nat} {xs x : List Int}
theorem HasM.set (hl : xs.length = N * N) (h : HasM N xs x) {i j : Nat} (hi : i < N) (hj : j < N) {v : Int} (hv : Lets v (apartX x i j)) : HasM N (xs.set (i * N + j) v) x := fun a b ha hb => by
  rw [G_set hl hi hj v hb]
  split
  · rename_i e; rw [e.1, e.2]; exact hv
  · exact h a b ha hb
/-- A step that keeps the size, the bounds, the point. -/
def Keeps (N : Nat) (x xs ys : List Int) : Prop := xs.length = N * N → AllB xs → HasM N xs x → ys.length = N * N ∧ AllB ys ∧ HasM N ys x
theorem Keeps.rep {f : Nat → List Int → List Int} : ∀ (t : Nat) (_ : ∀ i zs, i < t → Keeps N x zs (f i zs)) (zs : List Int), Keeps N x zs (rep f t zs)
  | 0, _, _, hl, hb, hx => ⟨hl, hb, hx⟩
  | t + 1, hf, zs, hl, hb, hx => by
    obtain ⟨h1, h2, h3⟩ := Keeps.rep t (fun i zs hi => hf i zs (by omega)) zs hl hb hx
    exact hf t _ (by omega) h1 h2 h3
theorem pStep_keeps {k i j : Nat} (hk : k < N) (hi : i < N) (hj : j < N) (zs : List Int) : Keeps N x zs (pStep N k i j zs) := fun hl hb hx => by
  have h1 := pStep_low N k i j zs
  refine ⟨h1.len.trans hl, h1.all hb, hx.set hl hi hj (lets_min (hx i j hi hj) ?_ (hb _) (isBound_plus _ _))⟩
  have := lets_plus (hb (i * N + k)) (hb (k * N + j)) (hx i k hi hk) (hx k j hk hj)
  have e : apartX x i k + apartX x k j = apartX x i j := by unfold apartX; omega
  rwa [e] at this
theorem paths_keeps (zs : List Int) : Keeps N x zs (paths N N zs) :=
  Keeps.rep N (fun _k zs hk => Keeps.rep N (fun _i zs hi => Keeps.rep N (fun _j zs hj => pStep_keeps hk hi hj zs) zs) zs) zs
theorem apartX_nx (x : List Int) (i j : Nat) : apartX x (nx j) (nx i) = apartX x i j := by unfold apartX; rw [sideX_nx, sideX_nx]; omega
theorem mStep_keeps (hN : N % 2 = 0) {i j : Nat} (hi : i < N) (hj : j < N) (zs : List Int) : Keeps N x zs (mStep N i j zs) := fun hl hb hx => by
  have h1 := mStep_low N i j zs
  have k1 := hx i j hi hj
  have k2 := hx (nx j) (nx i) (nxl hN hj) (nxl hN hi)
  rw [apartX_nx] at k2
  have k3 := lets_min k1 k2 (hb _) (hb _)
  refine ⟨h1.len.trans hl, h1.all hb, (hx.set hl hi hj k3).set (by rw [List.length_set]; exact hl) (nxl hN hj) (nxl hN hi) (by rw [apartX_nx]; exact k3)⟩
theorem mirrors_keeps (hN : N % 2 = 0) (zs : List Int) : Keeps N x zs (mirrors N N zs) :=
  Keeps.rep N (fun _i zs hi => Keeps.rep N (fun _j zs hj => mStep_keeps hN hi hj zs) zs) zs
theorem apartX_two (x : List Int) (i : Nat) : apartX x i (nx i) = 2 * sideX x i := by unfold apartX; rw [sideX_nx]; omega
theorem eStep_keeps (hN : N % 2 = 0) {i : Nat} (hi : i < N) (zs : List Int) : Keeps N x zs (eStep N i zs) := fun hl hb hx => by
  have h1 := eStep_low N i zs
  have k1 := hx i (nx i) hi (nxl hN hi)
  rw [apartX_two] at k1
  exact ⟨h1.len.trans hl, h1.all hb, hx.set hl hi (nxl hN hi) (by rw [apartX_two]; exact lets_even (hb _) k1)⟩
theorem evens_keeps (hN : N % 2 = 0) (zs : List Int) : Keeps N x zs (evens N N zs) := Keeps.rep N (fun _i zs hi => eStep_keeps hN hi zs) zs
theorem sStep_keeps (hN : N % 2 = 0) {i j : Nat} (hi : i < N) (hj : j < N) (zs : List Int) : Keeps N x zs (sStep N i j zs) := fun hl hb hx => by
  have h1 := sStep_low N i j zs
  refine ⟨h1.len.trans hl, h1.all hb, ?_⟩
  unfold sStep
  split
  · exact hx
  · refine hx.set hl hi hj (lets_min (hx i j hi hj) (lets_half (isBound_plus _ _) ?_) (hb _) (isBound_half _))
    have k1 := hx i (nx i) hi (nxl hN hi)
    have k2 := hx (nx j) j (nxl hN hj) hj
    have := lets_plus (hb (i * N + nx i)) (hb (nx j * N + j)) k1 k2
    have e : apartX x i (nx i) + apartX x (nx j) j = 2 * apartX x i j := by unfold apartX; rw [sideX_nx, sideX_nx]; omega
    rwa [e] at this
theorem strengthens_keeps (hN : N % 2 = 0) (zs : List Int) : Keeps N x zs (strengthens N N zs) :=
  Keeps.rep N (fun _i zs hi => Keeps.rep N (fun _j zs hj => sStep_keeps hN hi hj zs) zs) zs
theorem negs_has (hx : HasM N xs x) : ∀ t, t ≤ N → negs N xs t = false
  | 0, _ => rfl
  | t + 1, ht => by
    unfold negs
    rw [negs_has hx t (by omega), Bool.false_or, decide_eq_false_iff_not]
    have := hx t t (by omega) (by omega)
    unfold Lets apartX G at this
    omega
theorem sideNegs_has (hN : N % 2 = 0) (hb : AllB xs) (hx : HasM N xs x) : ∀ t, t ≤ N → sideNegs N xs t = false
  | 0, _ => rfl
  | t + 1, ht => by
    unfold sideNegs
    rw [sideNegs_has hN hb hx t (by omega), Bool.or_false, decide_eq_false_iff_not]
    have h1 := hx t (nx t) (by omega) (nxl hN (by omega))
    have h2 := hx (nx t) t (nxl hN (by omega)) (by omega)
    have := lets_plus (hb (t * N + nx t)) (hb (nx t * N + t)) h1 h2
    have e : apartX x t (nx t) + apartX x (nx t) t = 0 := by unfold apartX; omega
    rw [e] at this
    unfold Lets at this
    omega
/-- The points stay. -/
theorem closeM_has (hN : N % 2 = 0) (hl : xs.length = N * N) (hb : AllB xs) (hx : HasM N xs x) : ∃ ys, closeM N xs = some ys ∧ HasM N ys x := by
  obtain ⟨l1, b1, x1⟩ := paths_keeps (x := x) xs hl hb hx
  obtain ⟨l2, b2, x2⟩ := mirrors_keeps hN (x := x) _ l1 b1 x1
  obtain ⟨l3, b3, x3⟩ := evens_keeps hN (x := x) _ l2 b2 x2
  obtain ⟨_, _, x4⟩ := strengthens_keeps hN (x := x) _ l3 b3 x3
  unfold closeM
  rw [negs_has x2 N (Nat.le_refl _), sideNegs_has hN b3 x3 N (Nat.le_refl _)]
  exact ⟨_, rfl, x4⟩
end

/-- An octagon that may be has a point. -/
def HasO (o : O) (x : List Int) : Prop := o.e = false ∧ (x.length : Int) = o.n ∧ HasM (2 * o.n).toNat o.m x
theorem closeO_has {o : O} {x : List Int} (hc : check o = 0) (h : HasO o x) : HasO (closeO o) x := by
  obtain ⟨he, hl, hx⟩ := h
  obtain ⟨n, e, m⟩ := o
  dsimp only at *
  subst he
  obtain ⟨h0, h1, _, _⟩ := check_ok hc
  dsimp only at h0 h1
  obtain ⟨N, hN⟩ : ∃ N : Nat, (N : Int) = 2 * n := ⟨(2 * n).toNat, by omega⟩
  have hNt : (2 * n).toNat = N := by omega
  rw [hNt] at hx
  have cs := cells_of hN hc
  obtain ⟨ys, hy, hx'⟩ := closeM_has (by omega) cs.len (check_bounds hc) hx
  rw [closeO_some (by rw [hNt]; exact hy)]
  exact ⟨rfl, hl, by dsimp only; rw [hNt]; exact hx'⟩
end
section
open Go.RowKit

def opdX (x : List Int) (v n : Int) : Int := if 0 ≤ v then gI x v else n
end
section
open Go.RowKit

/-- c is at most the sum of a and b, where neither is without end. -/
def LeS (c a b : Int) : Prop := a = 9223372036854775807 ∨ b = 9223372036854775807 ∨ (c ≤ a + b ∧ c ≠ 9223372036854775807)
def Tri (N : Nat) (xs : List Int) : Prop := ∀ i j k : Nat, i < N → j < N → k < N → LeS (G N xs i j) (G N xs i k) (G N xs k j)
/-- The cells of an octagon, as tight as they are. -/
structure Tight (N : Nat) (xs : List Int) : Prop where
  cells : Cells N xs
  tri : Tri N xs
  ev : ∀ i : Nat, i < N → even (G N xs i (nx i)) = G N xs i (nx i)
  str : ∀ i j : Nat, i < N → j < N → i ≠ j → G N xs i j ≤ half (plus (G N xs i (nx i)) (G N xs (nx j) j))

/-! ### One round of paths. -/
end
section
open Go.RowKit

/-- Where a point goes behind an edge that it takes. -/
def Behind (e : Edg) (x y : List Int) : Prop :=
  e.kd ≠ 14 ∧ (e.kd = 12 → cmpB e.op (opdX x e.av e.an) (opdX x e.bv e.bn) = true) ∧
  (if e.kd = 9 ∨ e.kd = 10 then ∃ v, y = x.set e.dst.toNat v
    else if e.kd = 2 then y = x.set e.dst.toNat (opdX x e.av e.an)
    else if 3 ≤ e.kd ∧ e.kd ≤ 8 then (kindW e.kd (opdX x e.av e.an) (opdX x e.bv e.bn)).2 = 0 ∧ y = x.set e.dst.toNat (kindW e.kd (opdX x e.av e.an) (opdX x e.bv e.bn)).1
    else y = x)
def I64s (x : List Int) : Prop := ∀ i : Nat, -9223372036854775808 ≤ gI x (i : Int) ∧ gI x (i : Int) ≤ 9223372036854775807
theorem opdX_i64 {x : List Int} (hx : I64s x) {v k : Int} (hk : -9223372036854775808 ≤ k ∧ k ≤ 9223372036854775807) : -9223372036854775808 ≤ opdX x v k ∧ opdX x v k ≤ 9223372036854775807 := by
  unfold opdX
  split
  · rename_i h
    have := hx v.toNat
    rwa [Int.toNat_of_nonneg h] at this
  · exact hk
end
section
open Go.RowKit
attribute [local go_sem ↓] Go.wp_at_zero Go.wp_at_succ

theorem cmp1_any (a b : Int) (w : World) : Calls Tryz.prog 159 #[.int .i64 a, .int .i64 b] w (BoolRes (decide (a < b)) w) := by
  go_enter Tryz.func159, Tryz.ntmps159
  go_wp2
  go_ret
  exact ⟨retb (by first | rfl | (rw [Bool.eq_iff_iff]; simp)), rfl⟩

theorem cmp2_any (a b : Int) (w : World) : Calls Tryz.prog 160 #[.int .i64 a, .int .i64 b] w (BoolRes (decide (a ≤ b)) w) := by
  go_enter Tryz.func160, Tryz.ntmps160
  go_wp2
  go_ret
  exact ⟨retb (by first | rfl | (rw [Bool.eq_iff_iff]; simp)), rfl⟩

theorem cmp3_any (a b : Int) (w : World) : Calls Tryz.prog 161 #[.int .i64 a, .int .i64 b] w (BoolRes (decide (a = b)) w) := by
  go_enter Tryz.func161, Tryz.ntmps161
  go_wp2
  go_ret
  exact ⟨retb (by first | rfl | (rw [Bool.eq_iff_iff]; simp)), rfl⟩

theorem cmp4_any (a b : Int) (w : World) : Calls Tryz.prog 162 #[.int .i64 a, .int .i64 b] w (BoolRes (decide (a ≠ b)) w) := by
  go_enter Tryz.func162, Tryz.ntmps162
  go_wp2
  go_ret
  exact ⟨retb (by first | rfl | (rw [Bool.eq_iff_iff]; simp)), rfl⟩

theorem cmp5_any (a b : Int) (w : World) : Calls Tryz.prog 163 #[.int .i64 a, .int .i64 b] w (BoolRes (decide (b < a)) w) := by
  go_enter Tryz.func163, Tryz.ntmps163
  go_wp2
  go_ret
  exact ⟨retb (by first | rfl | (rw [Bool.eq_iff_iff]; simp)), rfl⟩

theorem cmp6_any (a b : Int) (w : World) : Calls Tryz.prog 164 #[.int .i64 a, .int .i64 b] w (BoolRes (decide (b ≤ a)) w) := by
  go_enter Tryz.func164, Tryz.ntmps164
  go_wp2
  go_ret
  exact ⟨retb (by first | rfl | (rw [Bool.eq_iff_iff]; simp)), rfl⟩

theorem ncompares_any (w : World) : Calls Tryz.prog 150 #[] w fun e w' => e = .returned (.agg #[.func (.func 158) #[] #[], .func (.func 159) #[] #[], .func (.func 160) #[] #[], .func (.func 161) #[] #[], .func (.func 162) #[] #[], .func (.func 163) #[] #[], .func (.func 164) #[] #[]]) ∧ Below w.heap.size w w' := by
  go_enter Tryz.func150, Tryz.ntmps150
  go_wp2
  refine bodyPost_ret (v := .agg #[.func (.func 158) #[] #[], .func (.func 159) #[] #[], .func (.func 160) #[] #[], .func (.func 161) #[] #[], .func (.func 162) #[] #[], .func (.func 163) #[] #[], .func (.func 164) #[] #[]]) (by simp [results, Tryz.results150, go_sem]) rfl (And.intro rfl ?_)
  repeat (first | exact Below.refl _ _ | refine Below.setCell ?_ (by simp) _ | refine Below.alloc ?_ (by simp) _)

theorem ix7_1 (f0 f1 f2 f3 f4 f5 f6 : Value) (W : World) : (Instr.index 188 (.agg #[f0, f1, f2, f3, f4, f5, f6]) (.int .i64 1)).run Tryz.prog W = .ok f1 W := by
  simp [Instr.index, run_underlying Tryz.underlying188, asIntOf, go_sem]

theorem ix7_2 (f0 f1 f2 f3 f4 f5 f6 : Value) (W : World) : (Instr.index 188 (.agg #[f0, f1, f2, f3, f4, f5, f6]) (.int .i64 2)).run Tryz.prog W = .ok f2 W := by
  simp [Instr.index, run_underlying Tryz.underlying188, asIntOf, go_sem]

theorem ix7_3 (f0 f1 f2 f3 f4 f5 f6 : Value) (W : World) : (Instr.index 188 (.agg #[f0, f1, f2, f3, f4, f5, f6]) (.int .i64 3)).run Tryz.prog W = .ok f3 W := by
  simp [Instr.index, run_underlying Tryz.underlying188, asIntOf, go_sem]

theorem ix7_4 (f0 f1 f2 f3 f4 f5 f6 : Value) (W : World) : (Instr.index 188 (.agg #[f0, f1, f2, f3, f4, f5, f6]) (.int .i64 4)).run Tryz.prog W = .ok f4 W := by
  simp [Instr.index, run_underlying Tryz.underlying188, asIntOf, go_sem]

theorem ix7_5 (f0 f1 f2 f3 f4 f5 f6 : Value) (W : World) : (Instr.index 188 (.agg #[f0, f1, f2, f3, f4, f5, f6]) (.int .i64 5)).run Tryz.prog W = .ok f5 W := by
  simp [Instr.index, run_underlying Tryz.underlying188, asIntOf, go_sem]

theorem ix7_6 (f0 f1 f2 f3 f4 f5 f6 : Value) (W : World) : (Instr.index 188 (.agg #[f0, f1, f2, f3, f4, f5, f6]) (.int .i64 6)).run Tryz.prog W = .ok f6 W := by
  simp [Instr.index, run_underlying Tryz.underlying188, asIntOf, go_sem]

/-- A Bool, and whatever memory was made. -/
def BoolBel (b : Bool) (w : World) (e : Ending) (w' : World) : Prop := e = .returned (.bool b) ∧ Below w.heap.size w w'
set_option maxHeartbeats 800000 in
theorem ncmp_any (op a b : Int) (w : World) : Calls Tryz.prog 124 #[.int .i64 op, .int .i64 a, .int .i64 b] w (BoolBel (cmpB op a b) w) := by
  by_cases h : 1 ≤ op ∧ op ≤ 6
  · obtain h1 | h2 | h3 | h4 | h5 | h6 : op = 1 ∨ op = 2 ∨ op = 3 ∨ op = 4 ∨ op = 5 ∨ op = 6 := by omega

    · subst h1
      have HC := hid (ncompares_any w)
      have hix := fun W => ix7_1 (.func (.func 158) #[] #[]) (.func (.func 159) #[] #[]) (.func (.func 160) #[] #[]) (.func (.func 161) #[] #[]) (.func (.func 162) #[] #[]) (.func (.func 163) #[] #[]) (.func (.func 164) #[] #[]) W
      clear h
      go_enter Tryz.func124, Tryz.ntmps124
      go_wp2_with fail
      refine HC.out.mono ?_
      rintro e w' ⟨rfl, hb⟩
      go_wp2_with fail
      refine (cmp1_any _ _ _).mono ?_
      rintro e w2 ⟨rfl, rfl⟩
      go_wp2
      go_ret
      exact ⟨retb (by first | rfl | (show _ = cmpB 1 a b; unfold cmpB; simp)), hb⟩

    · subst h2
      have HC := hid (ncompares_any w)
      have hix := fun W => ix7_2 (.func (.func 158) #[] #[]) (.func (.func 159) #[] #[]) (.func (.func 160) #[] #[]) (.func (.func 161) #[] #[]) (.func (.func 162) #[] #[]) (.func (.func 163) #[] #[]) (.func (.func 164) #[] #[]) W
      clear h
      go_enter Tryz.func124, Tryz.ntmps124
      go_wp2_with fail
      refine HC.out.mono ?_
      rintro e w' ⟨rfl, hb⟩
      go_wp2_with fail
      refine (cmp2_any _ _ _).mono ?_
      rintro e w2 ⟨rfl, rfl⟩
      go_wp2
      go_ret
      exact ⟨retb (by first | rfl | (show _ = cmpB 2 a b; unfold cmpB; simp)), hb⟩

    · subst h3
      have HC := hid (ncompares_any w)
      have hix := fun W => ix7_3 (.func (.func 158) #[] #[]) (.func (.func 159) #[] #[]) (.func (.func 160) #[] #[]) (.func (.func 161) #[] #[]) (.func (.func 162) #[] #[]) (.func (.func 163) #[] #[]) (.func (.func 164) #[] #[]) W
      clear h
      go_enter Tryz.func124, Tryz.ntmps124
      go_wp2_with fail
      refine HC.out.mono ?_
      rintro e w' ⟨rfl, hb⟩
      go_wp2_with fail
      refine (cmp3_any _ _ _).mono ?_
      rintro e w2 ⟨rfl, rfl⟩
      go_wp2
      go_ret
      exact ⟨retb (by first | rfl | (show _ = cmpB 3 a b; unfold cmpB; simp)), hb⟩

    · subst h4
      have HC := hid (ncompares_any w)
      have hix := fun W => ix7_4 (.func (.func 158) #[] #[]) (.func (.func 159) #[] #[]) (.func (.func 160) #[] #[]) (.func (.func 161) #[] #[]) (.func (.func 162) #[] #[]) (.func (.func 163) #[] #[]) (.func (.func 164) #[] #[]) W
      clear h
      go_enter Tryz.func124, Tryz.ntmps124
      go_wp2_with fail
      refine HC.out.mono ?_
      rintro e w' ⟨rfl, hb⟩
      go_wp2_with fail
      refine (cmp4_any _ _ _).mono ?_
      rintro e w2 ⟨rfl, rfl⟩
      go_wp2
      go_ret
      exact ⟨retb (by first | rfl | (show _ = cmpB 4 a b; unfold cmpB; simp)), hb⟩

    · subst h5
      have HC := hid (ncompares_any w)
      have hix := fun W => ix7_5 (.func (.func 158) #[] #[]) (.func (.func 159) #[] #[]) (.func (.func 160) #[] #[]) (.func (.func 161) #[] #[]) (.func (.func 162) #[] #[]) (.func (.func 163) #[] #[]) (.func (.func 164) #[] #[]) W
      clear h
      go_enter Tryz.func124, Tryz.ntmps124
      go_wp2_with fail
      refine HC.out.mono ?_
      rintro e w' ⟨rfl, hb⟩
      go_wp2_with fail
      refine (cmp5_any _ _ _).mono ?_
      rintro e w2 ⟨rfl, rfl⟩
      go_wp2
      go_ret
      exact ⟨retb (by first | rfl | (show _ = cmpB 5 a b; unfold cmpB; simp)), hb⟩

    · subst h6
      have HC := hid (ncompares_any w)
      have hix := fun W => ix7_6 (.func (.func 158) #[] #[]) (.func (.func 159) #[] #[]) (.func (.func 160) #[] #[]) (.func (.func 161) #[] #[]) (.func (.func 162) #[] #[]) (.func (.func 163) #[] #[]) (.func (.func 164) #[] #[]) W
      clear h
      go_enter Tryz.func124, Tryz.ntmps124
      go_wp2_with fail
      refine HC.out.mono ?_
      rintro e w' ⟨rfl, hb⟩
      go_wp2_with fail
      refine (cmp6_any _ _ _).mono ?_
      rintro e w2 ⟨rfl, rfl⟩
      go_wp2
      go_ret
      exact ⟨retb (by first | rfl | (show _ = cmpB 6 a b; unfold cmpB; simp)), hb⟩

  · have HB : Hid (cmpB op a b = false) := hid (by unfold cmpB; repeat (rw [if_neg (by omega)]))
    cases t1 : decide (op < 1) <;> cases t2 : decide (6 < op)
    · exfalso; simp at t1 t2; omega
    all_goals
      clear h
      go_enter Tryz.func124, Tryz.ntmps124
      go_wp2
      go_ret
      exact ⟨retb HB.out.symm, Below.refl _ _⟩
end
section
open Go.RowKit
attribute [local go_sem ↓] Go.wp_at_zero Go.wp_at_succ

/-- Two new blocks. -/
theorem new_two (w : World) (cs0 cs1 : Array Value) (t0 t1 : TypeId) : Blk ((w.alloc (.cells cs0 t0)).alloc (.cells cs1 t1)) w.heap.size t0 cs0 ∧ Blk ((w.alloc (.cells cs0 t0)).alloc (.cells cs1 t1)) (w.heap.size + 1) t1 cs1 ∧ Below w.heap.size w ((w.alloc (.cells cs0 t0)).alloc (.cells cs1 t1)) ∧ ((w.alloc (.cells cs0 t0)).alloc (.cells cs1 t1)).heap.size = w.heap.size + 2 := by
  obtain ⟨h1, h2⟩ := blk_two (w := w) (Below.refl _ ((w.alloc (.cells cs0 t0)).alloc (.cells cs1 t1)))
  exact ⟨h1, h2, ((Below.refl _ _).alloc (Nat.le_refl _) _).alloc (by simp) _, by simp⟩
end
section

end
section

end
section

end
section
open Go.RowKit
attribute [local go_sem ↓] Go.wp_at_zero Go.wp_at_succ

theorem new_one (w : World) (cs : Array Value) (t : TypeId) : Blk (w.alloc (.cells cs t)) w.heap.size t cs ∧ Below w.heap.size w (w.alloc (.cells cs t)) ∧ (w.alloc (.cells cs t)).heap.size = w.heap.size + 1 :=
  ⟨Blk.new w t cs, new1 w _, by simp⟩

theorem opbox {w : World} {g : Nat} {t : TypeId} {a b : Value} (h : Blk w g t #[a, b]) : w.cell? ⟨g, 0, none⟩ = some a ∧ w.cell? ⟨g, 1, none⟩ = some b ∧ ∀ j, w.frozen? ⟨g, j, none⟩ = false :=
  ⟨h.cell 0, h.cell 1, h.fr⟩
end
section

end
section
open Go.RowKit
attribute [local go_sem ↓] Go.wp_at_zero Go.wp_at_succ

def BelVal (v : Value) (w : World) (e : Ending) (w' : World) : Prop := e = .returned v ∧ Below w.heap.size w w'
end
section

end
section

end
end Go.Proofs.YtkncebcekhfnfaaGreat
