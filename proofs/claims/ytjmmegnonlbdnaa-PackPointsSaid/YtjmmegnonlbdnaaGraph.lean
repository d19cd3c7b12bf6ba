/-
  Graphs as data; when a graph is one (P9.2), in plain words; how its edges lie in memory.
-/
import Derived.Test.YtjmmegnonlbdnaaLists
namespace Go.Proofs.Ytjmmegnonlbdnaa
open Go.RowKit

/-- An edge: ten numbers. -/
structure Edg where
  fr : Int
  te : Int
  kd : Int
  dst : Int
  arr : Int
  op : Int
  av : Int
  an : Int
  bv : Int
  bn : Int
def Edg.cells (e : Edg) : List Value := [.int .i64 e.fr, .int .i64 e.te, .int .i64 e.kd, .int .i64 e.dst, .int .i64 e.arr, .int .i64 e.op, .int .i64 e.av, .int .i64 e.an, .int .i64 e.bv, .int .i64 e.bn]
def Edg.val (e : Edg) : Value := .agg #[.int .i64 e.fr, .int .i64 e.te, .int .i64 e.kd, .int .i64 e.dst, .int .i64 e.arr, .int .i64 e.op, .int .i64 e.av, .int .i64 e.an, .int .i64 e.bv, .int .i64 e.bn]
/-- A graph: how many variables, temporaries, the arrays' sizes, points, exit, edges. -/
structure Gr where
  nv : Nat
  tm : Int
  sz : List Int
  pts : Int
  ex : Int
  es : List Edg
def Gr.all (g : Gr) : Int := g.nv + g.tm

def wDst (k : Int) : Bool := decide (2 ≤ k ∧ k ≤ 10)
def wA (k : Int) : Bool := decide ((2 ≤ k ∧ k ≤ 8) ∨ (10 ≤ k ∧ k ≤ 12))
def wB (k : Int) : Bool := decide ((4 ≤ k ∧ k ≤ 8) ∨ (11 ≤ k ∧ k ≤ 12))
def wArr (k : Int) : Bool := decide (k = 10 ∨ k = 11)
def wOp (k : Int) : Bool := decide (k = 12)
def opdOk (n v m : Int) : Bool := decide (v = -1 ∨ (0 ≤ v ∧ v < n ∧ m = 0))
def opdNo (v m : Int) : Bool := decide (v = -1 ∧ m = 0)
/-- All but From and To. -/
def rightE (n na : Int) (e : Edg) : Bool :=
  decide (1 ≤ e.kd ∧ e.kd ≤ 14) && (bif wDst e.kd then decide (0 ≤ e.dst ∧ e.dst < n) else decide (e.dst = -1)) && (bif wArr e.kd then decide (0 ≤ e.arr ∧ e.arr < na) else decide (e.arr = -1)) &&
  (bif wOp e.kd then decide (1 ≤ e.op ∧ e.op ≤ 6) else decide (e.op = 0)) && (bif wA e.kd then opdOk n e.av e.an else opdNo e.av e.an) && (bif wB e.kd then opdOk n e.bv e.bn else opdNo e.bv e.bn)
def inE (pts ex : Int) (e : Edg) : Bool := decide (0 ≤ e.fr ∧ e.fr < pts ∧ 0 ≤ e.te ∧ e.te < pts ∧ e.fr ≠ ex)
def edgeOk (g : Gr) (e : Edg) : Bool := inE g.pts g.ex e && rightE g.all g.sz.length e
def notOp (op : Int) : Int := if op = 1 then 6 else if op = 2 then 5 else if op = 3 then 4 else if op = 4 then 3 else if op = 5 then 2 else if op = 6 then 1 else 0
/-- The edges from a point. -/
def outsE (es : List Edg) (p : Int) : List Edg := es.filter (fun e => decide (e.fr = p))
def fork2 (a b : Edg) : Bool := decide (a.kd = 12) && decide (b.kd = 12) && decide (a.av = b.av ∧ a.an = b.an) && decide (a.bv = b.bv ∧ a.bn = b.bn) && decide (b.op = notOp a.op)
def forkE : List Edg → Bool
  | [] => true
  | [a] => decide (a.kd ≠ 12)
  | [a, b] => fork2 a b
  | _ => false
def arrOk (s : Int) : Bool := decide (1 ≤ s ∧ s ≤ 1024)
def forksOk (g : Gr) (k : Nat) : Bool := (List.range k).all (fun p => forkE (outsE g.es p))
def varsBad (g : Gr) : Bool := decide (g.tm < 0 ∨ 64 < g.tm ∨ 64 < g.all)
def ptsBad (g : Gr) : Bool := decide (g.pts < 1 ∨ 4096 < g.pts ∨ 8192 < g.es.length)
def formOk (g : Gr) : Bool := decide (g.sz.length ≤ 16) && g.sz.all arrOk && decide (0 ≤ g.ex ∧ g.ex < g.pts) && g.es.all (edgeOk g) && forksOk g g.pts.toNat
/-- What is wrong with a graph. -/
def chk (g : Gr) : Int := if varsBad g = true then 90 else if ptsBad g = true then 91 else if formOk g = true then 0 else 92

/-- The slice of declarations at A: their sizes read as sz. -/
def RdD (w : World) (B : Nat) (A : Option Addr) (sz : List Int) : Prop :=
  ∀ k : Nat, k < sz.length → ∃ b off, A = some ⟨b, off, none⟩ ∧ b < B ∧ (∃ s, w.cell? ⟨b, off + k * 2, none⟩ = some (.string s)) ∧ w.cell? ⟨b, off + k * 2 + 1, none⟩ = some (.int .i64 (gI sz k))
/-- The slice of edges at A reads as es. -/
def RdE (w : World) (B : Nat) (A : Option Addr) (es : List Edg) : Prop :=
  ∀ (k : Nat) (h : k < es.length), ∃ b off, A = some ⟨b, off, none⟩ ∧ b < B ∧ ∀ r, r < 10 → w.cell? ⟨b, off + k * 10 + r, none⟩ = es[k].cells[r]?
section
variable {w w' : World} {B B' : Nat} {A : Option Addr} {sz : List Int} {es : List Edg}
theorem RdD.below (h : RdD w B A sz) (hb : Below B w w') : RdD w' B A sz := fun k hk => by
  obtain ⟨b, off, hA, hB, ⟨s, hs⟩, hc⟩ := h k hk
  exact ⟨b, off, hA, hB, ⟨s, (hb.cell (p := ⟨b, _, none⟩) hB).trans hs⟩, (hb.cell (p := ⟨b, _, none⟩) hB).trans hc⟩
theorem RdD.more (h : RdD w B A sz) (hB : B ≤ B') : RdD w B' A sz := fun k hk => by
  obtain ⟨b, off, hA, hB', hc⟩ := h k hk
  exact ⟨b, off, hA, by omega, hc⟩
theorem RdE.below (h : RdE w B A es) (hb : Below B w w') : RdE w' B A es := fun k hk => by
  obtain ⟨b, off, hA, hB, hc⟩ := h k hk
  exact ⟨b, off, hA, hB, fun r hr => (hb.cell (p := ⟨b, _, none⟩) hB).trans (hc r hr)⟩
theorem RdE.more (h : RdE w B A es) (hB : B ≤ B') : RdE w B' A es := fun k hk => by
  obtain ⟨b, off, hA, hB', hc⟩ := h k hk
  exact ⟨b, off, hA, by omega, hc⟩
theorem RdD.up (h : RdD w w.heap.size A sz) (hb : Below w.heap.size w w') : RdD w' w'.heap.size A sz := (h.below hb).more hb.size
theorem RdE.up (h : RdE w w.heap.size A es) (hb : Below w.heap.size w w') : RdE w' w'.heap.size A es := (h.below hb).more hb.size
end
/-! ### Prefixes of the edges -/
theorem outs_succ (es : List Edg) (k : Nat) (h : k < es.length) (p : Int) : outsE (es.take (k + 1)) p = outsE (es.take k) p ++ (if es[k].fr = p then [es[k]] else []) := by
  unfold outsE
  rw [List.take_succ_eq_append_getElem h, List.filter_append]
  congr 1
  by_cases e : es[k].fr = p <;> simp [e]
end Go.Proofs.Ytjmmegnonlbdnaa
