/-
  Graphs as data; when a graph is one (P9.2), in plain words; how its edges lie in memory.
  What is known behind an edge, in plain words; it may be.
  A point of an octagon is one of the octagon closed. Plain.
  A point that takes an edge is one of what is known behind it. Plain.
  Closing where no sum saturates: what comes out is tight (no cell is above the sum of two that meet); what is tight stays as it is when it is closed. Plain.
  A point that takes an edge is one of what is known behind it: sums, products, the edge. Plain.
  num.Cmp, gnomonref7.Cmp, Neg, Add, Sub: what each call answers.
  dbm.within, copied, With: what each call answers, of octagons that may be.
  dbm.With, trans.limits, trans.closed, trans.empty: of octagons that may be.
  trans's and order's small functions: closed, empty, plus, minus, twice, negated, upTo, from, only.
  trans.ranged: a variable bounded by a range.
  dbm.Get, and span's reading of a closed octagon: what they answer.
  trans.atMost: what it answers.
  span.In: what a closed octagon tells of a variable, a sum, a difference, an operand.
  span.In's Var, Sum, Diff: what they answer of a closed octagon.
  A slice that reads so, of old memory or of one's own; what callees tell of it.
-/
import Derived.Test.YtkncebcekhfnfaaGreatBWE09
import Derived.Test.YtkncebcekhfnfaaGreatBWE03
import Derived.Laws.EntriesVeiled
import Derived.Test.YtkncebcekhfnfaaGreatBWE04
import Derived.Test.YtkncebcekhfnfaaGreatBWE06
namespace Go.Proofs.YtkncebcekhfnfaaGreat
section
open Go.RowKit

/-- An edge: ten numbers. -/
structure Edg where
  fr : Int
  te : Int
  kd : Int
  dst : Int
  arr : Int
  op : Int
  av : Int
  an : Int
  bv : Int
  bn : Int
def Edg.cells (e : Edg) : List Value := [.int .i64 e.fr, .int .i64 e.te, .int .i64 e.kd, .int .i64 e.dst, .int .i64 e.arr, .int .i64 e.op, .int .i64 e.av, .int .i64 e.an, .int .i64 e.bv, .int .i64 e.bn]
def Edg.val (e : Edg) : Value := .agg #[.int .i64 e.fr, .int .i64 e.te, .int .i64 e.kd, .int .i64 e.dst, .int .i64 e.arr, .int .i64 e.op, .int .i64 e.av, .int .i64 e.an, .int .i64 e.bv, .int .i64 e.bn]
/-- A graph: how many variables, temporaries, the arrays' sizes, points, exit, edges. -/
structure Gr where
  nv : Nat
  tm : Int
  sz : List Int
  pts : Int
  ex : Int
  es : List Edg
def Gr.all (g : Gr) : Int := g.nv + g.tm

def wDst (k : Int) : Bool := decide (2 ≤ k ∧ k ≤ 10)
def wA (k : Int) : Bool := decide ((2 ≤ k ∧ k ≤ 8) ∨ (10 ≤ k ∧ k ≤ 12))
def wB (k : Int) : Bool := decide ((4 ≤ k ∧ k ≤ 8) ∨ (11 ≤ k ∧ k ≤ 12))
def wArr (k : Int) : Bool := decide (k = 10 ∨ k = 11)
def wOp (k : Int) : Bool := decide (k = 12)
def opdOk (n v m : Int) : Bool := decide (v = -1 ∨ (0 ≤ v ∧ v < n ∧ m = 0))
def opdNo (v m : Int) : Bool := decide (v = -1 ∧ m = 0)
/-- All but From and To. -/
def rightE (n na : Int) (e : Edg) : Bool :=
  decide (1 ≤ e.kd ∧ e.kd ≤ 14) && (bif wDst e.kd then decide (0 ≤ e.dst ∧ e.dst < n) else decide (e.dst = -1)) && (bif wArr e.kd then decide (0 ≤ e.arr ∧ e.arr < na) else decide (e.arr = -1)) &&
  (bif wOp e.kd then decide (1 ≤ e.op ∧ e.op ≤ 6) else decide (e.op = 0)) && (bif wA e.kd then opdOk n e.av e.an else opdNo e.av e.an) && (bif wB e.kd then opdOk n e.bv e.bn else opdNo e.bv e.bn)
def inE (pts ex : Int) (e : Edg) : Bool := decide (0 ≤ e.fr ∧ e.fr < pts ∧ 0 ≤ e.te ∧ e.te < pts ∧ e.fr ≠ ex)
def edgeOk (g : Gr) (e : Edg) : Bool := inE g.pts g.ex e && rightE g.all g.sz.length e
def notOp (op : Int) : Int := if op = 1 then 6 else if op = 2 then 5 else if op = 3 then 4 else if op = 4 then 3 else if op = 5 then 2 else if op = 6 then 1 else 0
/-- The edges from a point. -/
def outsE (es : List Edg) (p : Int) : List Edg := es.filter (fun e => decide (e.fr = p))
def fork2 (a b : Edg) : Bool := decide (a.kd = 12) && decide (b.kd = 12) && decide (a.av = b.av ∧ a.an = b.an) && decide (a.bv = b.bv ∧ a.bn = b.bn) && decide (b.op = notOp a.op)
def forkE : List Edg → Bool
  | [] => true
  | [a] => decide (a.kd ≠ 12)
  | [a, b] => fork2 a b
  | _ => false
def arrOk (s : Int) : Bool := decide (1 ≤ s ∧ s ≤ 1024)
def forksOk (g : Gr) (k : Nat) : Bool := (List.range k).all (fun p => forkE (outsE g.es p))
def varsBad (g : Gr) : Bool := decide (g.tm < 0 ∨ 64 < g.tm ∨ 64 < g.all)
def ptsBad (g : Gr) : Bool := decide (g.pts < 1 ∨ 4096 < g.pts ∨ 8192 < g.es.length)
def formOk (g : Gr) : Bool := decide (g.sz.length ≤ 16) && g.sz.all arrOk && decide (0 ≤ g.ex ∧ g.ex < g.pts) && g.es.all (edgeOk g) && forksOk g g.pts.toNat
/-- What is wrong with a graph. -/
def chk (g : Gr) : Int := if varsBad g = true then 90 else if ptsBad g = true then 91 else if formOk g = true then 0 else 92

/-- The slice of declarations at A: their sizes read as sz. -/
def RdD (w : World) (B : Nat) (A : Option Addr) (sz : List Int) : Prop :=
  ∀ k : Nat, k < sz.length → ∃ b off, A = some ⟨b, off, none⟩ ∧ b < B ∧ (∃ s, w.cell? ⟨b, off + k * 2, none⟩ = some (.string s)) ∧ w.cell? ⟨b, off + k * 2 + 1, none⟩ = some (.int .i64 (gI sz k))
/-- The slice of edges at A reads as es. -/
def RdE (w : World) (B : Nat) (A : Option Addr) (es : List Edg) : Prop :=
  ∀ (k : Nat) (h : k < es.length), ∃ b off, A = some ⟨b, off, none⟩ ∧ b < B ∧ ∀ r, r < 10 → w.cell? ⟨b, off + k * 10 + r, none⟩ = es[k].cells[r]?
section
variable {w w' : World} {B B' : Nat} {A : Option Addr} {sz : List Int} {es : List Edg}
theorem RdD.below (h : RdD w B A sz) (hb : Below B w w') : RdD w' B A sz := fun k hk => by
  obtain ⟨b, off, hA, hB, ⟨s, hs⟩, hc⟩ := h k hk
  exact ⟨b, off, hA, hB, ⟨s, (hb.cell (p := ⟨b, _, none⟩) hB).trans hs⟩, (hb.cell (p := ⟨b, _, none⟩) hB).trans hc⟩
theorem RdD.more (h : RdD w B A sz) (hB : B ≤ B') : RdD w B' A sz := fun k hk => by
  obtain ⟨b, off, hA, hB', hc⟩ := h k hk
  exact ⟨b, off, hA, by omega, hc⟩
theorem RdE.below (h : RdE w B A es) (hb : Below B w w') : RdE w' B A es := fun k hk => by
  obtain ⟨b, off, hA, hB, hc⟩ := h k hk
  exact ⟨b, off, hA, hB, fun r hr => (hb.cell (p := ⟨b, _, none⟩) hB).trans (hc r hr)⟩
theorem RdE.more (h : RdE w B A es) (hB : B ≤ B') : RdE w B' A es := fun k hk => by
  obtain ⟨b, off, hA, hB', hc⟩ := h k hk
  exact ⟨b, off, hA, by omega, hc⟩
theorem RdD.up (h : RdD w w.heap.size A sz) (hb : Below w.heap.size w w') : RdD w' w'.heap.size A sz := (h.below hb).more hb.size
theorem RdE.up (h : RdE w w.heap.size A es) (hb : Below w.heap.size w w') : RdE w' w'.heap.size A es := (h.below hb).more hb.size
end
/-! ### Prefixes of the edges -/
theorem outs_succ (es : List Edg) (k : Nat) (h : k < es.length) (p : Int) : outsE (es.take (k + 1)) p = outsE (es.take k) p ++ (if es[k].fr = p then [es[k]] else []) := by
  unfold outsE
  rw [List.take_succ_eq_append_getElem h, List.filter_append]
  congr 1
  by_cases e : es[k].fr = p <;> simp [e]
/-- The numbers of the edges from a point, of the first k. -/
def idxE (es : List Edg) (k : Nat) (p : Int) : List Nat := (List.range k).filter (fun i => decide ((es.getD i ⟨0, 0, 0, 0, 0, 0, 0, 0, 0, 0⟩).fr = p))
theorem idx_succ (es : List Edg) (k : Nat) (h : k < es.length) (p : Int) : idxE es (k + 1) p = idxE es k p ++ (if es[k].fr = p then [k] else []) := by
  unfold idxE
  rw [List.range_succ, List.filter_append]
  congr 1
  by_cases e : es[k].fr = p <;> simp [h, e]
theorem idx_outs (es : List Edg) (k : Nat) (h : k ≤ es.length) (p : Int) : (idxE es k p).map (fun i => es.getD i ⟨0, 0, 0, 0, 0, 0, 0, 0, 0, 0⟩) = outsE (es.take k) p := by
  induction k with
  | zero => simp [idxE, outsE]
  | succ k ih =>
    rw [idx_succ es k h, outs_succ es k h, List.map_append, ih (by omega)]
    congr 1
    by_cases e : es[k].fr = p <;> simp [e, show k < es.length from h]
theorem idx_lt {es : List Edg} {k : Nat} {p : Int} {i : Nat} (h : i ∈ idxE es k p) : i < k := by
  unfold idxE at h
  simp at h
  exact h.1
end
section
open Go.RowKit

theorem right_a {n na : Int} {e : Edg} (h : rightE n na e = true) : e.av = -1 ∨ (0 ≤ e.av ∧ e.av < n) := by
  unfold rightE at h
  simp only [Bool.and_eq_true] at h
  have := h.1.2
  cases hw : wA e.kd <;> rw [hw] at this <;> simp [opdNo, opdOk] at this <;> omega
theorem right_b {n na : Int} {e : Edg} (h : rightE n na e = true) : e.bv = -1 ∨ (0 ≤ e.bv ∧ e.bv < n) := by
  unfold rightE at h
  simp only [Bool.and_eq_true] at h
  have := h.2
  cases hw : wB e.kd <;> rw [hw] at this <;> simp [opdNo, opdOk] at this <;> omega
end
section
open Go.RowKit

/-- A point's number on a side. -/
def sideX (x : List Int) (i : Nat) : Int := if i % 2 = 0 then gI x ((i / 2 : Nat) : Int) else -gI x ((i / 2 : Nat) : Int)
/-- How far a point's sides are apart. -/
def apartX (x : List Int) (i j : Nat) : Int := sideX x i - sideX x j
/-- A bound lets a number be. -/
def Lets (c d : Int) : Prop := c = 9223372036854775807 ∨ d ≤ c
/-- The matrix has the point. -/
def HasM (N : Nat) (m x : List Int) : Prop := ∀ i j : Nat, i < N → j < N → Lets (G N m i j) (apartX x i j)

theorem bndS {a : Int} (h : isBound a = true) : a = 9223372036854775807 ∨ (-4611686018427387904 ≤ a ∧ a ≤ 4611686018427387904) := by
  unfold isBound at h; exact of_decide_eq_true h
/-- An octagon that may be has a point. -/
def HasO (o : O) (x : List Int) : Prop := o.e = false ∧ (x.length : Int) = o.n ∧ HasM (2 * o.n).toNat o.m x
end
section
open Go.RowKit

def opdX (x : List Int) (v n : Int) : Int := if 0 ≤ v then gI x v else n
end
section
open Go.RowKit

section
variable {N : Nat} {xs : List Int}
theorem Cells.b (h : Cells N xs) {i j : Nat} (hi : i < N) (hj : j < N) : isBound (G N xs i j) = true := h.bd i j hi hj
theorem Cells.d (h : Cells N xs) {i : Nat} (hi : i < N) : G N xs i i = 0 := h.diag i hi

end

/-! ### One round of paths. -/
end
section
open Go.RowKit

/-- Where a point goes behind an edge that it takes. -/
def Behind (e : Edg) (x y : List Int) : Prop :=
  e.kd ≠ 14 ∧ (e.kd = 12 → cmpB e.op (opdX x e.av e.an) (opdX x e.bv e.bn) = true) ∧
  (if e.kd = 9 ∨ e.kd = 10 then ∃ v, y = x.set e.dst.toNat v
    else if e.kd = 2 then y = x.set e.dst.toNat (opdX x e.av e.an)
    else if 3 ≤ e.kd ∧ e.kd ≤ 8 then (kindW e.kd (opdX x e.av e.an) (opdX x e.bv e.bn)).2 = 0 ∧ y = x.set e.dst.toNat (kindW e.kd (opdX x e.av e.an) (opdX x e.bv e.bn)).1
    else y = x)
def I64s (x : List Int) : Prop := ∀ i : Nat, -9223372036854775808 ≤ gI x (i : Int) ∧ gI x (i : Int) ≤ 9223372036854775807
theorem opdX_i64 {x : List Int} (hx : I64s x) {v k : Int} (hk : -9223372036854775808 ≤ k ∧ k ≤ 9223372036854775807) : -9223372036854775808 ≤ opdX x v k ∧ opdX x v k ≤ 9223372036854775807 := by
  unfold opdX
  split
  · rename_i h
    have := hx v.toNat
    rwa [Int.toNat_of_nonneg h] at this
  · exact hk
end
section
open Go.RowKit
attribute [local go_sem ↓] Go.wp_at_zero Go.wp_at_succ

theorem cmp1_any (a b : Int) (w : World) : Calls Tryz.prog 159 #[.int .i64 a, .int .i64 b] w (BoolRes (decide (a < b)) w) := by
  go_enter Tryz.func159, Tryz.ntmps159
  go_wp2
  go_ret
  exact ⟨retb (by first | rfl | (rw [Bool.eq_iff_iff]; simp)), rfl⟩

theorem cmp2_any (a b : Int) (w : World) : Calls Tryz.prog 160 #[.int .i64 a, .int .i64 b] w (BoolRes (decide (a ≤ b)) w) := by
  go_enter Tryz.func160, Tryz.ntmps160
  go_wp2
  go_ret
  exact ⟨retb (by first | rfl | (rw [Bool.eq_iff_iff]; simp)), rfl⟩

theorem cmp3_any (a b : Int) (w : World) : Calls Tryz.prog 161 #[.int .i64 a, .int .i64 b] w (BoolRes (decide (a = b)) w) := by
  go_enter Tryz.func161, Tryz.ntmps161
  go_wp2
  go_ret
  exact ⟨retb (by first | rfl | (rw [Bool.eq_iff_iff]; simp)), rfl⟩

theorem cmp4_any (a b : Int) (w : World) : Calls Tryz.prog 162 #[.int .i64 a, .int .i64 b] w (BoolRes (decide (a ≠ b)) w) := by
  go_enter Tryz.func162, Tryz.ntmps162
  go_wp2
  go_ret
  exact ⟨retb (by first | rfl | (rw [Bool.eq_iff_iff]; simp)), rfl⟩

theorem cmp5_any (a b : Int) (w : World) : Calls Tryz.prog 163 #[.int .i64 a, .int .i64 b] w (BoolRes (decide (b < a)) w) := by
  go_enter Tryz.func163, Tryz.ntmps163
  go_wp2
  go_ret
  exact ⟨retb (by first | rfl | (rw [Bool.eq_iff_iff]; simp)), rfl⟩

theorem cmp6_any (a b : Int) (w : World) : Calls Tryz.prog 164 #[.int .i64 a, .int .i64 b] w (BoolRes (decide (b ≤ a)) w) := by
  go_enter Tryz.func164, Tryz.ntmps164
  go_wp2
  go_ret
  exact ⟨retb (by first | rfl | (rw [Bool.eq_iff_iff]; simp)), rfl⟩

theorem ncompares_any (w : World) : Calls Tryz.prog 150 #[] w fun e w' => e = .returned (.agg #[.func (.func 158) #[] #[], .func (.func 159) #[] #[], .func (.func 160) #[] #[], .func (.func 161) #[] #[], .func (.func 162) #[] #[], .func (.func 163) #[] #[], .func (.func 164) #[] #[]]) ∧ Below w.heap.size w w' := by
  go_enter Tryz.func150, Tryz.ntmps150
  go_wp2
  refine bodyPost_ret (v := .agg #[.func (.func 158) #[] #[], .func (.func 159) #[] #[], .func (.func 160) #[] #[], .func (.func 161) #[] #[], .func (.func 162) #[] #[], .func (.func 163) #[] #[], .func (.func 164) #[] #[]]) (by simp [results, Tryz.results150, go_sem]) rfl (And.intro rfl ?_)
  repeat (first | exact Below.refl _ _ | refine Below.setCell ?_ (by simp) _ | refine Below.alloc ?_ (by simp) _)

theorem ix7_1 (f0 f1 f2 f3 f4 f5 f6 : Value) (W : World) : (Instr.index 188 (.agg #[f0, f1, f2, f3, f4, f5, f6]) (.int .i64 1)).run Tryz.prog W = .ok f1 W := by
  simp [Instr.index, run_underlying Tryz.underlying188, asIntOf, go_sem]

theorem ix7_2 (f0 f1 f2 f3 f4 f5 f6 : Value) (W : World) : (Instr.index 188 (.agg #[f0, f1, f2, f3, f4, f5, f6]) (.int .i64 2)).run Tryz.prog W = .ok f2 W := by
  simp [Instr.index, run_underlying Tryz.underlying188, asIntOf, go_sem]

theorem ix7_3 (f0 f1 f2 f3 f4 f5 f6 : Value) (W : World) : (Instr.index 188 (.agg #[f0, f1, f2, f3, f4, f5, f6]) (.int .i64 3)).run Tryz.prog W = .ok f3 W := by
  simp [Instr.index, run_underlying Tryz.underlying188, asIntOf, go_sem]

theorem ix7_4 (f0 f1 f2 f3 f4 f5 f6 : Value) (W : World) : (Instr.index 188 (.agg #[f0, f1, f2, f3, f4, f5, f6]) (.int .i64 4)).run Tryz.prog W = .ok f4 W := by
  simp [Instr.index, run_underlying Tryz.underlying188, asIntOf, go_sem]

theorem ix7_5 (f0 f1 f2 f3 f4 f5 f6 : Value) (W : World) : (Instr.index 188 (.agg #[f0, f1, f2, f3, f4, f5, f6]) (.int .i64 5)).run Tryz.prog W = .ok f5 W := by
  simp [Instr.index, run_underlying Tryz.underlying188, asIntOf, go_sem]

theorem ix7_6 (f0 f1 f2 f3 f4 f5 f6 : Value) (W : World) : (Instr.index 188 (.agg #[f0, f1, f2, f3, f4, f5, f6]) (.int .i64 6)).run Tryz.prog W = .ok f6 W := by
  simp [Instr.index, run_underlying Tryz.underlying188, asIntOf, go_sem]

/-- A Bool, and whatever memory was made. -/
def BoolBel (b : Bool) (w : World) (e : Ending) (w' : World) : Prop := e = .returned (.bool b) ∧ Below w.heap.size w w'
set_option maxHeartbeats 800000 in
theorem ncmp_any (op a b : Int) (w : World) : Calls Tryz.prog 124 #[.int .i64 op, .int .i64 a, .int .i64 b] w (BoolBel (cmpB op a b) w) := by
  by_cases h : 1 ≤ op ∧ op ≤ 6
  · obtain h1 | h2 | h3 | h4 | h5 | h6 : op = 1 ∨ op = 2 ∨ op = 3 ∨ op = 4 ∨ op = 5 ∨ op = 6 := by omega

    · subst h1
      have HC := hid (ncompares_any w)
      have hix := fun W => ix7_1 (.func (.func 158) #[] #[]) (.func (.func 159) #[] #[]) (.func (.func 160) #[] #[]) (.func (.func 161) #[] #[]) (.func (.func 162) #[] #[]) (.func (.func 163) #[] #[]) (.func (.func 164) #[] #[]) W
      clear h
      go_enter Tryz.func124, Tryz.ntmps124
      go_wp2_with fail
      refine HC.out.mono ?_
      rintro e w' ⟨rfl, hb⟩
      go_wp2_with fail
      refine (cmp1_any _ _ _).mono ?_
      rintro e w2 ⟨rfl, rfl⟩
      go_wp2
      go_ret
      exact ⟨retb (by first | rfl | (show _ = cmpB 1 a b; unfold cmpB; simp)), hb⟩

    · subst h2
      have HC := hid (ncompares_any w)
      have hix := fun W => ix7_2 (.func (.func 158) #[] #[]) (.func (.func 159) #[] #[]) (.func (.func 160) #[] #[]) (.func (.func 161) #[] #[]) (.func (.func 162) #[] #[]) (.func (.func 163) #[] #[]) (.func (.func 164) #[] #[]) W
      clear h
      go_enter Tryz.func124, Tryz.ntmps124
      go_wp2_with fail
      refine HC.out.mono ?_
      rintro e w' ⟨rfl, hb⟩
      go_wp2_with fail
      refine (cmp2_any _ _ _).mono ?_
      rintro e w2 ⟨rfl, rfl⟩
      go_wp2
      go_ret
      exact ⟨retb (by first | rfl | (show _ = cmpB 2 a b; unfold cmpB; simp)), hb⟩

    · subst h3
      have HC := hid (ncompares_any w)
      have hix := fun W => ix7_3 (.func (.func 158) #[] #[]) (.func (.func 159) #[] #[]) (.func (.func 160) #[] #[]) (.func (.func 161) #[] #[]) (.func (.func 162) #[] #[]) (.func (.func 163) #[] #[]) (.func (.func 164) #[] #[]) W
      clear h
      go_enter Tryz.func124, Tryz.ntmps124
      go_wp2_with fail
      refine HC.out.mono ?_
      rintro e w' ⟨rfl, hb⟩
      go_wp2_with fail
      refine (cmp3_any _ _ _).mono ?_
      rintro e w2 ⟨rfl, rfl⟩
      go_wp2
      go_ret
      exact ⟨retb (by first | rfl | (show _ = cmpB 3 a b; unfold cmpB; simp)), hb⟩

    · subst h4
      have HC := hid (ncompares_any w)
      have hix := fun W => ix7_4 (.func (.func 158) #[] #[]) (.func (.func 159) #[] #[]) (.func (.func 160) #[] #[]) (.func (.func 161) #[] #[]) (.func (.func 162) #[] #[]) (.func (.func 163) #[] #[]) (.func (.func 164) #[] #[]) W
      clear h
      go_enter Tryz.func124, Tryz.ntmps124
      go_wp2_with fail
      refine HC.out.mono ?_
      rintro e w' ⟨rfl, hb⟩
      go_wp2_with fail
      refine (cmp4_any _ _ _).mono ?_
      rintro e w2 ⟨rfl, rfl⟩
      go_wp2
      go_ret
      exact ⟨retb (by first | rfl | (show _ = cmpB 4 a b; unfold cmpB; simp)), hb⟩

    · subst h5
      have HC := hid (ncompares_any w)
      have hix := fun W => ix7_5 (.func (.func 158) #[] #[]) (.func (.func 159) #[] #[]) (.func (.func 160) #[] #[]) (.func (.func 161) #[] #[]) (.func (.func 162) #[] #[]) (.func (.func 163) #[] #[]) (.func (.func 164) #[] #[]) W
      clear h
      go_enter Tryz.func124, Tryz.ntmps124
      go_wp2_with fail
      refine HC.out.mono ?_
      rintro e w' ⟨rfl, hb⟩
      go_wp2_with fail
      refine (cmp5_any _ _ _).mono ?_
      rintro e w2 ⟨rfl, rfl⟩
      go_wp2
      go_ret
      exact ⟨retb (by first | rfl | (show _ = cmpB 5 a b; unfold cmpB; simp)), hb⟩

    · subst h6
      have HC := hid (ncompares_any w)
      have hix := fun W => ix7_6 (.func (.func 158) #[] #[]) (.func (.func 159) #[] #[]) (.func (.func 160) #[] #[]) (.func (.func 161) #[] #[]) (.func (.func 162) #[] #[]) (.func (.func 163) #[] #[]) (.func (.func 164) #[] #[]) W
      clear h
      go_enter Tryz.func124, Tryz.ntmps124
      go_wp2_with fail
      refine HC.out.mono ?_
      rintro e w' ⟨rfl, hb⟩
      go_wp2_with fail
      refine (cmp6_any _ _ _).mono ?_
      rintro e w2 ⟨rfl, rfl⟩
      go_wp2
      go_ret
      exact ⟨retb (by first | rfl | (show _ = cmpB 6 a b; unfold cmpB; simp)), hb⟩

  · have HB : Hid (cmpB op a b = false) := hid (by unfold cmpB; repeat (rw [if_neg (by omega)]))
    cases t1 : decide (op < 1) <;> cases t2 : decide (6 < op)
    · exfalso; simp at t1 t2; omega
    all_goals
      clear h
      go_enter Tryz.func124, Tryz.ntmps124
      go_wp2
      go_ret
      exact ⟨retb HB.out.symm, Below.refl _ _⟩
set_option maxHeartbeats 800000 in
theorem rcmp_any (op a b : Int) (w : World) : Calls Tryz.prog 94 #[.int .i64 op, .int .i64 a, .int .i64 b] w (BoolRes (cmpB op a b) w) := by
  by_cases h : 1 ≤ op ∧ op ≤ 6
  · obtain h1 | h2 | h3 | h4 | h5 | h6 : op = 1 ∨ op = 2 ∨ op = 3 ∨ op = 4 ∨ op = 5 ∨ op = 6 := by omega

    · subst h1
      have HB : Hid (cmpB 1 a b = decide (a < b)) := hid rfl
      clear h
      go_enter Tryz.func94, Tryz.ntmps94
      go_wp2
      go_ret
      exact ⟨retb (Eq.trans (by first | rfl | (rw [Bool.eq_iff_iff]; simp)) HB.out.symm), rfl⟩

    · subst h2
      have HB : Hid (cmpB 2 a b = decide (a ≤ b)) := hid rfl
      clear h
      go_enter Tryz.func94, Tryz.ntmps94
      go_wp2
      go_ret
      exact ⟨retb (Eq.trans (by first | rfl | (rw [Bool.eq_iff_iff]; simp)) HB.out.symm), rfl⟩

    · subst h3
      have HB : Hid (cmpB 3 a b = decide (a = b)) := hid rfl
      clear h
      go_enter Tryz.func94, Tryz.ntmps94
      go_wp2
      go_ret
      exact ⟨retb (Eq.trans (by first | rfl | (rw [Bool.eq_iff_iff]; simp)) HB.out.symm), rfl⟩

    · subst h4
      have HB : Hid (cmpB 4 a b = decide (a ≠ b)) := hid rfl
      clear h
      go_enter Tryz.func94, Tryz.ntmps94
      go_wp2
      go_ret
      exact ⟨retb (Eq.trans (by first | rfl | (rw [Bool.eq_iff_iff]; simp)) HB.out.symm), rfl⟩

    · subst h5
      have HB : Hid (cmpB 5 a b = decide (b < a)) := hid rfl
      clear h
      go_enter Tryz.func94, Tryz.ntmps94
      go_wp2
      go_ret
      exact ⟨retb (Eq.trans (by first | rfl | (rw [Bool.eq_iff_iff]; simp)) HB.out.symm), rfl⟩

    · subst h6
      have HB : Hid (cmpB 6 a b = decide (b ≤ a)) := hid rfl
      clear h
      go_enter Tryz.func94, Tryz.ntmps94
      go_wp2
      go_ret
      exact ⟨retb (Eq.trans (by first | rfl | (rw [Bool.eq_iff_iff]; simp)) HB.out.symm), rfl⟩

  · have HB : Hid (cmpB op a b = false) := hid (by unfold cmpB; repeat (rw [if_neg (by omega)]))
    have t1 : (op == 1) = false := by rw [beq_eq_false_iff_ne]; omega
    have t2 : (op == 2) = false := by rw [beq_eq_false_iff_ne]; omega
    have t3 : (op == 3) = false := by rw [beq_eq_false_iff_ne]; omega
    have t4 : (op == 4) = false := by rw [beq_eq_false_iff_ne]; omega
    have t5 : (op == 5) = false := by rw [beq_eq_false_iff_ne]; omega
    have t6 : (op == 6) = false := by rw [beq_eq_false_iff_ne]; omega
    clear h
    go_enter Tryz.func94, Tryz.ntmps94
    go_wp2
    go_ret
    exact ⟨retb HB.out.symm, rfl⟩
end
section
open Go.RowKit
attribute [local go_sem ↓] Go.wp_at_zero Go.wp_at_succ

/-- Two new blocks. -/
theorem new_two (w : World) (cs0 cs1 : Array Value) (t0 t1 : TypeId) : Blk ((w.alloc (.cells cs0 t0)).alloc (.cells cs1 t1)) w.heap.size t0 cs0 ∧ Blk ((w.alloc (.cells cs0 t0)).alloc (.cells cs1 t1)) (w.heap.size + 1) t1 cs1 ∧ Below w.heap.size w ((w.alloc (.cells cs0 t0)).alloc (.cells cs1 t1)) ∧ ((w.alloc (.cells cs0 t0)).alloc (.cells cs1 t1)).heap.size = w.heap.size + 2 := by
  obtain ⟨h1, h2⟩ := blk_two (w := w) (Below.refl _ ((w.alloc (.cells cs0 t0)).alloc (.cells cs1 t1)))
  exact ⟨h1, h2, ((Below.refl _ _).alloc (Nat.le_refl _) _).alloc (by simp) _, by simp⟩
end
section

end
section

end
section

end
section
open Go.RowKit
attribute [local go_sem ↓] Go.wp_at_zero Go.wp_at_succ

theorem new_one (w : World) (cs : Array Value) (t : TypeId) : Blk (w.alloc (.cells cs t)) w.heap.size t cs ∧ Below w.heap.size w (w.alloc (.cells cs t)) ∧ (w.alloc (.cells cs t)).heap.size = w.heap.size + 1 :=
  ⟨Blk.new w t cs, new1 w _, by simp⟩

theorem opbox {w : World} {g : Nat} {t : TypeId} {a b : Value} (h : Blk w g t #[a, b]) : w.cell? ⟨g, 0, none⟩ = some a ∧ w.cell? ⟨g, 1, none⟩ = some b ∧ ∀ j, w.frozen? ⟨g, j, none⟩ = false :=
  ⟨h.cell 0, h.cell 1, h.fr⟩
end
section

end
section
open Go.RowKit
attribute [local go_sem ↓] Go.wp_at_zero Go.wp_at_succ

def BelVal (v : Value) (w : World) (e : Ending) (w' : World) : Prop := e = .returned v ∧ Below w.heap.size w w'
end
section

end
section

end
end Go.Proofs.YtkncebcekhfnfaaGreat
