/-
  A row of slices, each of which has a row of its own (a slice of slices that grow by append): generic in the element.
  Graphs as data; when a graph is one (P9.2), in plain words; how its edges lie in memory.
  What is known behind an edge, in plain words; it may be.
  num, gnomonref7: what each call answers.
-/
import Derived.Test.YtnmpgijiimglcaaGreatBTS03
import Derived.Deep.OwnRows
import Derived.Test.YtnmpgijiimglcaaGreatBTS15
import Derived.Test.YtnmpgijiimglcaaGreatBTS13
import Derived.Test.YtnmpgijiimglcaaGreatMem
import Derived.IntWalk
namespace Go.Proofs.YtnmpgijiimglcaaGreat
section
open Go.RowKit

/-- Block F holds n slices 'f p'; slice p has the elements 'ls p', in a row of its own; no two share one. -/
structure LL {α : Type} (enc : α → List Value) (w : World) (base F n : Nat) (T e : TypeId) (size : Nat) (f : Nat → Value) (ls : Nat → List α) : Prop where
  row : w.rowIs F T n f
  ge : base ≤ F
  own : ∀ p, p < n → w.ownsRow base e size (f p) (ls p).length ((ls p).flatMap enc)
  apart : ∀ p q k, p < n → q < n → p ≠ q → (f p).ownBlock = some k → (f q).ownBlock ≠ some k
  ne : ∀ p, p < n → (f p).ownBlock ≠ some F

section
variable {α : Type} {enc : α → List Value} {w w' w1 : World} {base F n : Nat} {T e : TypeId} {size : Nat} {f : Nat → Value} {ls : Nat → List α}
theorem LL.below (h : LL enc w base F n T e size f ls) (hb : Below w.heap.size w w') : LL enc w' base F n T e size f ls :=
  ⟨h.row.of_block (hb.block _ h.row.lt), h.ge, fun p hp => World.ownsRow.kept (h.own p hp) (grown_of_below hb none) (by cases h' : (f p).ownBlock <;> simp), h.apart, h.ne⟩
theorem LL.setFar (h : LL enc w base F n T e size f ls) {p : Addr} (hp : p.block < base) (u : Value) : LL enc (w.setCell p u) base F n T e size f ls :=
  ⟨h.row.of_block (heap_setCell_other w p F u (by have := h.ge; omega)), h.ge, fun q hq => World.ownsRow.kept (h.own q hq) (grown_setCell w p u) (by
    cases h' : (f q).ownBlock
    · exact .inl rfl
    · rename_i k
      have := ((h.own q hq).lt k h').1
      exact .inr (fun e => by simp at e; omega)), h.apart, h.ne⟩
/-- One append onto slice x, stored back. -/
theorem LL.put (h : LL enc w base F n T e size f ls) {x : Nat} (hx : x < n) {v : Value} {y : α} (hg : w.grownBy w1 (f x).ownBlock)
    (ho : w1.ownsRow base e size v ((ls x).length + 1) ((ls x).flatMap enc ++ enc y)) (hv : v.ownBlock = (f x).ownBlock ∨ v.ownBlock = some w.heap.size) :
    LL enc (w1.setCell ⟨F, x, none⟩ v) base F n T e size (fun j => if j = x then v else f j) (fun j => if j = x then ls x ++ [y] else ls j) := by
  have hFw := h.row.lt
  have hF1 : w1.heap[F]? = w.heap[F]? := hg.block F hFw (fun e => h.ne x hx e.symm)
  have hvF : v.ownBlock ≠ some F := by
    rcases hv with e | e <;> rw [e]
    · exact h.ne x hx
    · intro e; simp at e; omega
  have hlt : ∀ p, p < n → ∀ k, (f p).ownBlock = some k → k < w.heap.size := fun p hp k hk => ((h.own p hp).lt k hk).2
  refine ⟨(h.row.of_block hF1).set x v, h.ge, fun p hp => ?_, fun p q k hp hq hpq => ?_, fun p hp => ?_⟩
  · by_cases e : p = x
    · subst e
      simp only [if_pos]
      have : (ls p ++ [y]).length = (ls p).length + 1 := by simp
      rw [this, List.flatMap_append]
      have : [y].flatMap enc = enc y := by simp
      rw [this]
      exact World.ownsRow.kept ho (grown_setCell w1 ⟨F, p, none⟩ v) (.inr hvF)
    · simp only [if_neg e]
      refine World.ownsRow.kept (World.ownsRow.kept (h.own p hp) hg ?_) (grown_setCell w1 ⟨F, x, none⟩ v) (.inr (h.ne p hp))
      cases hk : (f p).ownBlock
      · exact .inl rfl
      · rename_i k
        exact .inr (fun e' => h.apart p x k hp hx e hk e'.symm)
  · by_cases e : p = x
    · subst e
      simp only [if_pos, if_neg (Ne.symm hpq)]
      intro hk hk'
      rcases hv with e | e
      · exact h.apart p q k hp hq hpq (e ▸ hk) hk'
      · rw [e] at hk; simp at hk; have := hlt q hq k hk'; omega
    · by_cases e' : q = x
      · subst e'
        simp only [if_pos, if_neg e]
        intro hk hk'
        rcases hv with e2 | e2
        · exact h.apart p q k hp hq hpq hk (e2 ▸ hk')
        · rw [e2] at hk'; simp at hk'; have := hlt p hp k hk; omega
      · simp only [if_neg e, if_neg e']
        exact h.apart p q k hp hq hpq
  · by_cases e : p = x
    · subst e; simp only [if_pos]; exact hvF
    · simp only [if_neg e]; exact h.ne p hp
theorem LL.congr {ls' : Nat → List α} (h : LL enc w base F n T e size f ls) (hl : ∀ p, p < n → ls p = ls' p) : LL enc w base F n T e size f ls' :=
  ⟨h.row, h.ge, fun p hp => hl p hp ▸ h.own p hp, h.apart, h.ne⟩
theorem LL.less {b2 : Nat} (h : LL enc w base F n T e size f ls) (hb : b2 ≤ base) : LL enc w b2 F n T e size f ls :=
  ⟨h.row, by have := h.ge; omega, fun p hp => by
    refine ⟨(h.own p hp).1, ?_⟩
    rcases (h.own p hp).2 with h1 | ⟨g, cap', cur, h1, h2, h3⟩
    · exact .inl h1
    · exact .inr ⟨g, cap', cur, h1, by omega, h3⟩, h.apart, h.ne⟩
/-- Slice p as it stands: nil, or a row of its own. -/
theorem LL.slice (h : LL enc w base F n T e size f ls) {p : Nat} (hp : p < n) : (f p = .slice none 0 0 ∧ ls p = []) ∨ ∃ g cap, f p = .slice (some ⟨g, 0, none⟩) (ls p).length cap ∧ base ≤ g ∧ g < w.heap.size ∧ g ≠ F ∧ (ls p).length ≤ cap ∧ cap ≤ maxLen := by
  rcases (h.own p hp).2 with ⟨h1, h0⟩ | ⟨g, cap, cur, h1, hb, hg, hc, hm, _⟩
  · exact .inl ⟨h1, List.eq_nil_of_length_eq_zero h0⟩
  · refine .inr ⟨g, cap, h1, hb, (Array.getElem?_eq_some_iff.1 hg).1, fun e => h.ne p hp (by rw [h1, e]; rfl), hc, hm⟩
theorem LL.cell (h : LL enc w base F n T e size f ls) {p : Nat} (hp : p < n) {g cap : Nat} (hf : f p = .slice (some ⟨g, 0, none⟩) (ls p).length cap) {j : Nat} (hj : j < (ls p).length * size) : w.cell? ⟨g, j, none⟩ = ((ls p).flatMap enc)[j]? := by
  have := h.own p hp
  rw [hf] at this
  exact this.cellAt j hj
end
end
section
open Go.RowKit

/-- An edge: ten numbers. -/
structure Edg where
  fr : Int
  te : Int
  kd : Int
  dst : Int
  arr : Int
  op : Int
  av : Int
  an : Int
  bv : Int
  bn : Int
def Edg.cells (e : Edg) : List Value := [.int .i64 e.fr, .int .i64 e.te, .int .i64 e.kd, .int .i64 e.dst, .int .i64 e.arr, .int .i64 e.op, .int .i64 e.av, .int .i64 e.an, .int .i64 e.bv, .int .i64 e.bn]
def Edg.val (e : Edg) : Value := .agg #[.int .i64 e.fr, .int .i64 e.te, .int .i64 e.kd, .int .i64 e.dst, .int .i64 e.arr, .int .i64 e.op, .int .i64 e.av, .int .i64 e.an, .int .i64 e.bv, .int .i64 e.bn]
/-- A graph: how many variables, temporaries, the arrays' sizes, points, exit, edges. -/
structure Gr where
  nv : Nat
  tm : Int
  sz : List Int
  pts : Int
  ex : Int
  es : List Edg
def Gr.all (g : Gr) : Int := g.nv + g.tm

def wDst (k : Int) : Bool := decide (2 ≤ k ∧ k ≤ 10)
def wA (k : Int) : Bool := decide ((2 ≤ k ∧ k ≤ 8) ∨ (10 ≤ k ∧ k ≤ 12))
def wB (k : Int) : Bool := decide ((4 ≤ k ∧ k ≤ 8) ∨ (11 ≤ k ∧ k ≤ 12))
def wArr (k : Int) : Bool := decide (k = 10 ∨ k = 11)
def wOp (k : Int) : Bool := decide (k = 12)
def opdOk (n v m : Int) : Bool := decide (v = -1 ∨ (0 ≤ v ∧ v < n ∧ m = 0))
def opdNo (v m : Int) : Bool := decide (v = -1 ∧ m = 0)
/-- All but From and To. -/
def rightE (n na : Int) (e : Edg) : Bool :=
  decide (1 ≤ e.kd ∧ e.kd ≤ 14) && (bif wDst e.kd then decide (0 ≤ e.dst ∧ e.dst < n) else decide (e.dst = -1)) && (bif wArr e.kd then decide (0 ≤ e.arr ∧ e.arr < na) else decide (e.arr = -1)) &&
  (bif wOp e.kd then decide (1 ≤ e.op ∧ e.op ≤ 6) else decide (e.op = 0)) && (bif wA e.kd then opdOk n e.av e.an else opdNo e.av e.an) && (bif wB e.kd then opdOk n e.bv e.bn else opdNo e.bv e.bn)
/-- The slice of declarations at A: their sizes read as sz. -/
def RdD (w : World) (B : Nat) (A : Option Addr) (sz : List Int) : Prop :=
  ∀ k : Nat, k < sz.length → ∃ b off, A = some ⟨b, off, none⟩ ∧ b < B ∧ (∃ s, w.cell? ⟨b, off + k * 2, none⟩ = some (.string s)) ∧ w.cell? ⟨b, off + k * 2 + 1, none⟩ = some (.int .i64 (gI sz k))
/-- The slice of edges at A reads as es. -/
def RdE (w : World) (B : Nat) (A : Option Addr) (es : List Edg) : Prop :=
  ∀ (k : Nat) (h : k < es.length), ∃ b off, A = some ⟨b, off, none⟩ ∧ b < B ∧ ∀ r, r < 10 → w.cell? ⟨b, off + k * 10 + r, none⟩ = es[k].cells[r]?
section
variable {w w' : World} {B B' : Nat} {A : Option Addr} {sz : List Int} {es : List Edg}
theorem RdD.below (h : RdD w B A sz) (hb : Below B w w') : RdD w' B A sz := fun k hk => by
  obtain ⟨b, off, hA, hB, ⟨s, hs⟩, hc⟩ := h k hk
  exact ⟨b, off, hA, hB, ⟨s, (hb.cell (p := ⟨b, _, none⟩) hB).trans hs⟩, (hb.cell (p := ⟨b, _, none⟩) hB).trans hc⟩
theorem RdD.more (h : RdD w B A sz) (hB : B ≤ B') : RdD w B' A sz := fun k hk => by
  obtain ⟨b, off, hA, hB', hc⟩ := h k hk
  exact ⟨b, off, hA, by omega, hc⟩
theorem RdE.below (h : RdE w B A es) (hb : Below B w w') : RdE w' B A es := fun k hk => by
  obtain ⟨b, off, hA, hB, hc⟩ := h k hk
  exact ⟨b, off, hA, hB, fun r hr => (hb.cell (p := ⟨b, _, none⟩) hB).trans (hc r hr)⟩
theorem RdE.more (h : RdE w B A es) (hB : B ≤ B') : RdE w B' A es := fun k hk => by
  obtain ⟨b, off, hA, hB', hc⟩ := h k hk
  exact ⟨b, off, hA, by omega, hc⟩
theorem RdD.up (h : RdD w w.heap.size A sz) (hb : Below w.heap.size w w') : RdD w' w'.heap.size A sz := (h.below hb).more hb.size
theorem RdE.up (h : RdE w w.heap.size A es) (hb : Below w.heap.size w w') : RdE w' w'.heap.size A es := (h.below hb).more hb.size
end
/-- A graph that lies in memory: its value. -/
structure GrAt (w : World) (g : Gr) (v : Value) : Prop where
  at_ : ∃ V cv D cd E ce, v = .agg #[.slice V g.nv cv, .int .i64 g.tm, .slice D g.sz.length cd, .int .i64 g.pts, .int .i64 g.ex, .slice E g.es.length ce] ∧ RdD w w.heap.size D g.sz ∧ RdE w w.heap.size E g.es
  nv : g.nv ≤ 17592186044416
  sz : g.sz.length ≤ 17592186044416
  es : g.es.length ≤ 17592186044416
theorem GrAt.up {w w' : World} {g : Gr} {v : Value} (h : GrAt w g v) (hb : Below w.heap.size w w') : GrAt w' g v := by
  obtain ⟨V, cv, D, cd, E, ce, h1, h2, h3⟩ := h.at_
  exact ⟨⟨V, cv, D, cd, E, ce, h1, h2.up hb, h3.up hb⟩, h.nv, h.sz, h.es⟩

/-! ### Prefixes of the edges -/
end
section
open Go.RowKit

/-- Behind an edge, of what is closed and isn't empty. -/
def edgeO (c : O) (e : Edg) : O :=
  if e.kd = 14 then emptyO c.n
  else if e.kd = 9 ∨ e.kd = 10 then forgetO c e.dst.toNat
  else if e.kd = 12 then assumesO c e.op e.av e.an e.bv e.bn
  else if e.kd = 2 then (if e.av < 0 then giveO c e.dst.toNat (oneR e.an) else if e.av = e.dst then c else linkO c (2 * e.dst.toNat) (2 * e.av.toNat) 0)
  else if e.kd = 3 then (if e.av < 0 then numberO c 3 e.dst.toNat e.an e.bn else if e.av = e.dst then turnsO c e.dst.toNat else linkO c (2 * e.dst.toNat) (2 * e.av.toNat + 1) 0)
  else if e.kd = 4 ∨ e.kd = 5 then (if e.av < 0 ∧ e.bv < 0 then numberO c e.kd e.dst.toNat e.an e.bn else addsO c (decide (e.kd = 5)) e.dst.toNat e.av e.an e.bv e.bn)
  else if e.kd = 6 ∨ e.kd = 7 ∨ e.kd = 8 then (if e.av < 0 ∧ e.bv < 0 then numberO c e.kd e.dst.toNat e.an e.bn else productsO c e.kd e.dst.toNat e.av e.an e.bv e.bn)
  else c
def transO (o : O) (e : Edg) : O := if (closeO o).e then closeO o else edgeO (closeO o) e
def rightT (n : Int) (e : Edg) : Bool := rightE n (if 0 ≤ e.arr then 1 else 0) { e with arr := if 0 ≤ e.arr then 0 else e.arr }
def transErr (o : O) (e : Edg) : Int := if check o ≠ 0 then check o else if rightT o.n e then 0 else 160
def transAns (o : O) (e : Edg) : O := if transErr o e = 0 then transO o e else ⟨0, false, []⟩
def assumeErr (o : O) (op av bv : Int) : Int := if check o ≠ 0 then check o else if 1 ≤ op ∧ op ≤ 6 ∧ av < o.n ∧ bv < o.n then 0 else 160
def assumeO (o : O) (op av an bv bn : Int) : O := if (closeO o).e then closeO o else assumesO (closeO o) op av an bv bn
def assumeAns (o : O) (op av an bv bn : Int) : O := if assumeErr o op av bv = 0 then assumeO o op av an bv bn else ⟨0, false, []⟩
section
variable {n : Int} {o : O}
theorem OkO.unlikeVars (h : OkO n o) {av an bv bn : Int} (h0 : 0 ≤ av) (h1 : 0 ≤ bv) (ha : av < n) (hb : bv < n) : OkO n (unlikeVarsO o av an bv bn) := by
  unfold unlikeVarsO
  split
  · rw [h.n_]; exact h.empty
  · dsimp only
    have h2 : OkO n (if G (2 * o.n).toNat o.m (2 * av.toNat) (2 * bv.toNat) = 0 then atMostO o av an bv bn true else o) := by
      split
      · exact h.atMost ha hb (.inl h0)
      · exact h
    split
    · exact h2.atMost hb ha (.inl h1)
    · exact h2
theorem OkO.unlikeNum (h : OkO n o) {av an bv bn : Int} (h0 : 0 ≤ av) (ha : av < n) (hb : bv < n) : OkO n (unlikeNumO o av an bv bn) := by
  unfold unlikeNumO
  dsimp only
  have h2 : OkO n (if (varR (2 * o.n).toNat o.m av.toNat).hh && decide ((varR (2 * o.n).toNat o.m av.toNat).hi = bn) then atMostO o av an bv bn true else o) := by
    split
    · exact h.atMost ha hb (.inl h0)
    · exact h
  split
  · exact h2.atMost hb ha (.inr h0)
  · exact h2
theorem OkO.unlike (h : OkO n o) {av an bv bn : Int} (ha : av < n) (hb : bv < n) (hab : 0 ≤ av ∨ 0 ≤ bv) : OkO n (unlikeO o av an bv bn) := by
  unfold unlikeO
  split
  · rw [if_neg (by omega)]
    exact h.unlikeNum (by omega) hb ha
  · split
    · exact h.unlikeVars (by omega) (by omega) ha hb
    · exact h.unlikeNum (by omega) ha hb
theorem OkO.turns (h : OkO n o) (he : o.e = false) (v : Nat) : OkO n (turnsO o v) := by
  unfold turnsO
  rcases h.form with e | ⟨N, m, hN, hn, rfl, hc⟩
  · rw [e] at he; cases he
  · dsimp only
    rw [show (2 * n).toNat = N by omega]
    exact (OkO.of_cells hN hn (turnM_cells (by omega) hc)).close
theorem OkO.sums (h : OkO n o) {dst u w : Nat} (hd : (dst : Int) < n) (hu : (u : Int) < n) (hw : (w : Int) < n) (b : Bool) : OkO n (sumsO o dst u w b) := by
  unfold sumsO
  dsimp only
  have h1 := fun r => (h.forget dst).ranged hd r
  have h2 : ∀ (x : O) (c : Prop) [Decidable c] (i j : Nat) (r : Rg), OkO n x → (i : Int) < 2 * n → (j : Int) < 2 * n → OkO n (if c then pairO x i j r else x) := fun x c _ i j r hx hi hj => by
    split
    · exact hx.pair hi hj r
    · exact hx
  refine (h2 _ _ _ _ _ (h2 _ _ _ _ _ (h1 _) (by omega) ?_) (by omega) (by omega)).close
  split <;> omega
theorem OkO.number (h : OkO n o) {dst : Nat} (hd : (dst : Int) < n) (kd a b : Int) : OkO n (numberO o kd dst a b) := by
  unfold numberO
  split
  · exact h.give hd _
  · rw [h.n_]; exact h.empty
end
end
section
open Go.RowKit
attribute [local go_sem ↓] Go.wp_at_zero Go.wp_at_succ

def IntRes (p : Int) (w : World) (e : Ending) (w' : World) : Prop := e = .returned (.int .i64 p) ∧ w = w'
def BoolRes (p : Bool) (w : World) (e : Ending) (w' : World) : Prop := e = .returned (.bool p) ∧ w = w'
def I64 (a : Int) : Prop := -9223372036854775808 ≤ a ∧ a ≤ 9223372036854775807
end
end Go.Proofs.YtnmpgijiimglcaaGreat
