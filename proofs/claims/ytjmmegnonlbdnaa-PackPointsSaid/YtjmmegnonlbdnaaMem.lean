/-
  Words for memory: an octagon as data; a slice of int64 that reads as a list.
-/
import Derived.Test.YtjmmegnonlbdnaaCell
import Derived.Test.YtjmmegnonlbdnaaFlow
import Derived.Deep.LoopGhost
import Derived.Deep.DeepMust
import Derived.Deep.DeepFit
namespace Go.Proofs.Ytjmmegnonlbdnaa
open Go.RowKit

structure O where
  n : Int
  e : Bool
  m : List Int

/-- The number at an index (0 outside). -/
def gI (xs : List Int) (k : Int) : Int := xs.getD k.toNat 0

/-- The slice at A reads as xs: below block B. -/
def Rd (w : World) (B : Nat) (A : Option Addr) (xs : List Int) : Prop :=
  ∀ k : Nat, k < xs.length → ∃ b off, A = some ⟨b, off, none⟩ ∧ b < B ∧ w.cell? ⟨b, off + k, none⟩ = some (.int .i64 (gI xs k))

section
variable {w w' : World} {B B' : Nat} {A : Option Addr} {xs : List Int}
theorem Rd.below (h : Rd w B A xs) (hb : Below B w w') : Rd w' B A xs := fun k hk => by
  obtain ⟨b, off, hA, hB, hc⟩ := h k hk
  exact ⟨b, off, hA, hB, (hb.cell (p := ⟨b, off + k, none⟩) hB).trans hc⟩
theorem Rd.nil (h : Rd w B none xs) : xs = [] := by
  cases xs with
  | nil => rfl
  | cons x xs => obtain ⟨b, off, hA, _⟩ := h 0 (by simp); cases hA
theorem Rd.more (h : Rd w B A xs) (hB : B ≤ B') : Rd w B' A xs := fun k hk => by
  obtain ⟨b, off, hA, hB', hc⟩ := h k hk
  exact ⟨b, off, hA, by omega, hc⟩
/-- At an index of Go's. -/
theorem Rd.at_ (h : Rd w B A xs) {i : Int} (h0 : 0 ≤ i) (h1 : i < xs.length) : ∃ b off, A = some ⟨b, off, none⟩ ∧ b < B ∧ w.cell? ⟨b, off + i.toNat, none⟩ = some (.int .i64 (gI xs i)) := by
  obtain ⟨b, off, hA, hB, hc⟩ := h i.toNat (by omega)
  exact ⟨b, off, hA, hB, by rw [hc]; unfold gI; rfl⟩
end

theorem later {w : World} {p : Addr} {v : Value} (h : w.cell? p = some v) : ∀ W, Below w.heap.size w W → W.cell? p = some v := fun _ hb => cell_later hb h
theorem bstep {w W w2 : World} {B : Nat} (h : Below B w W) (hB : B ≤ W.heap.size) (h2 : Below W.heap.size W w2) : Below B w w2 := h.trans (h2.mono hB)
/-- Block g is just these cells, none frozen. -/
def Blk (w : World) (g : Nat) (t : TypeId) (cs : Array Value) : Prop := w.heap[g]? = some (.cells cs t (0, 0))
section
variable {w w' : World} {g : Nat} {t : TypeId} {cs : Array Value}
theorem Blk.lt (h : Blk w g t cs) : g < w.heap.size := (Array.getElem?_eq_some_iff.1 h).1
theorem Blk.cell (h : Blk w g t cs) (i : Nat) : w.cell? ⟨g, i, none⟩ = cs[i]? := cell_of_row w g i cs t (0, 0) h
theorem Blk.fr (h : Blk w g t cs) (i : Nat) : w.frozen? ⟨g, i, none⟩ = false := frozen_of_row w g i cs t h
theorem Blk.new (w : World) (t : TypeId) (cs : Array Value) : Blk (w.alloc (.cells cs t)) w.heap.size t cs := heap_alloc_new w _
theorem Blk.below {B : Nat} (h : Blk w g t cs) (hb : Below B w w') (hg : g < B) : Blk w' g t cs := (hb.block g hg).trans h
theorem Blk.later (h : Blk w g t cs) (hb : Below w.heap.size w w') : Blk w' g t cs := h.below hb h.lt
theorem Blk.alloc (h : Blk w g t cs) (o : Obj) : Blk (w.alloc o) g t cs := h.later ((Below.refl _ _).alloc (Nat.le_refl _) _)
theorem Blk.set_ (h : Blk w g t cs) (i : Nat) (u : Value) : Blk (w.setCell ⟨g, i, none⟩ u) g t (cs.setIfInBounds i u) := heap_setCell_same w g i cs t u h
theorem Blk.far (h : Blk w g t cs) {p : Addr} (hp : p.block ≠ g) (u : Value) : Blk (w.setCell p u) g t cs := (heap_setCell_other w p g u (fun e => hp e.symm)).trans h
theorem octbox {n : Int} {e : Bool} {A : Option Addr} {L cap : Nat} (h : Blk w g t #[.int .i64 n, .bool e, .slice A L cap]) :
    w.cell? ⟨g, 0, none⟩ = some (.int .i64 n) ∧ w.cell? ⟨g, 1, none⟩ = some (.bool e) ∧ w.cell? ⟨g, 2, none⟩ = some (.slice A L cap) ∧ ∀ j, w.frozen? ⟨g, j, none⟩ = false :=
  ⟨h.cell 0, h.cell 1, h.cell 2, h.fr⟩
/-- Two new blocks, and whatever leaves them. -/
theorem blk_two {cs cs' : Array Value} {t' : TypeId} (hb : Below (w.heap.size + 2) ((w.alloc (.cells cs t)).alloc (.cells cs' t')) w') : Blk w' w.heap.size t cs ∧ Blk w' (w.heap.size + 1) t' cs' := by
  refine ⟨((Blk.new w t cs).alloc _).below hb (by omega), ?_⟩
  have := (Blk.new (w.alloc (.cells cs t)) t' cs').below hb (by simp)
  simpa using this
end
theorem new1 (w : World) (o : Obj) : Below w.heap.size w (w.alloc o) := (Below.refl _ _).alloc (Nat.le_refl _) _
theorem bup {w0 w w' : World} (h : Below w0.heap.size w0 w) (hb : Below w.heap.size w w') : Below w0.heap.size w0 w' := h.trans (hb.mono h.size)
theorem Rd.up {w w' : World} {A : Option Addr} {xs : List Int} (h : Rd w w.heap.size A xs) (hb : Below w.heap.size w w') : Rd w' w'.heap.size A xs := (h.below hb).more hb.size
end Go.Proofs.Ytjmmegnonlbdnaa
