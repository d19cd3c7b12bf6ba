/-
  Three stores into an octagon's block.
-/
import Derived.Test.YtjmmegnonlbdnaaBPP12
import Derived.Test.YtjmmegnonlbdnaaFlowM
namespace Go.Proofs.Ytjmmegnonlbdnaa
open Go.RowKit

section
variable {W : World} {g k : Nat} {t : TypeId} {cs : Array Value} {a0 a1 a2 v0 v1 v2 : Value} {base cap B : Nat} {A : Option Addr} {m : List Int}
theorem Blk.set3 (h : Blk W g t #[a0, a1, a2]) : Blk (((W.setCell ⟨g, 0, none⟩ v0).setCell ⟨g, 1, none⟩ v1).setCell ⟨g, 2, none⟩ v2) g t #[v0, v1, v2] :=
  ((h.set_ 0 v0).set_ 1 v1).set_ 2 v2
theorem below1 {i : Nat} {v : Value} (hg : B ≤ g) (hB : B ≤ W.heap.size) : Below B W (W.setCell ⟨g, i, none⟩ v) :=
  below_grown (grown_setCell W ⟨g, i, none⟩ v) (fun k hk => by injection hk with hk; subst hk; exact hg) hB
theorem below3 (hg : B ≤ g) (hB : B ≤ W.heap.size) : Below B W (((W.setCell ⟨g, 0, none⟩ v0).setCell ⟨g, 1, none⟩ v1).setCell ⟨g, 2, none⟩ v2) :=
  (below1 hg hB).trans ((below1 hg (by simpa using hB)).trans (below1 hg (by simpa using hB)))
end

/-- A region that stores three cells into block g: before (false), and behind (true). -/
def SB (w0 : World) (g : Nat) (v0 v1 v2 : Value) : Bool → World → Prop
  | false => fun W => Below w0.heap.size w0 W
  | true => fun W => ∃ W0, Below w0.heap.size w0 W0 ∧ W = ((W0.setCell ⟨g, 0, none⟩ v0).setCell ⟨g, 1, none⟩ v1).setCell ⟨g, 2, none⟩ v2
theorem SB.cell {w0 W : World} {g k i : Nat} {v0 v1 v2 v : Value} {b : Bool} (h : SB w0 g v0 v1 v2 b W) (hc : w0.cell? ⟨k, i, none⟩ = some v) (hk : k ≠ g) : W.cell? ⟨k, i, none⟩ = some v := by
  cases b with
  | false => exact cell_later h hc
  | true =>
    obtain ⟨W0, h0, rfl⟩ := h
    have e : ∀ (X : World) (j : Nat) (u : Value), (X.setCell ⟨g, j, none⟩ u).cell? ⟨k, i, none⟩ = X.cell? ⟨k, i, none⟩ := fun X j u =>
      World.cell?_setCell_other X ⟨g, j, none⟩ ⟨k, i, none⟩ u (fun e => hk (by injection e with e; exact e.symm))
    rw [e, e, e]
    exact cell_later h0 hc
theorem SB.laters {w0 : World} {g k i : Nat} {v0 v1 v2 v : Value} (hc : w0.cell? ⟨k, i, none⟩ = some v) (hk : k ≠ g) : ∀ W, AnyB (SB w0 g v0 v1 v2) W → W.cell? ⟨k, i, none⟩ = some v := fun _ ⟨_, h⟩ => h.cell hc hk
theorem SB.boxes {w0 : World} {g : Nat} {t : TypeId} {v0 v1 v2 c0 c1 c2 : Value} (hk : Blk w0 g t #[c0, c1, c2]) : (∀ W, SB w0 g v0 v1 v2 false W → W.cell? ⟨g, 0, none⟩ = some c0) ∧ (∀ W, SB w0 g v0 v1 v2 false W → W.cell? ⟨g, 1, none⟩ = some c1) ∧ (∀ W, SB w0 g v0 v1 v2 false W → W.cell? ⟨g, 2, none⟩ = some c2) ∧ (∀ W, SB w0 g v0 v1 v2 false W → ∀ j, W.frozen? ⟨g, j, none⟩ = false) :=
  ⟨fun _ h => (hk.later h).cell 0, fun _ h => (hk.later h).cell 1, fun _ h => (hk.later h).cell 2, fun _ h => (hk.later h).fr⟩
end Go.Proofs.Ytjmmegnonlbdnaa
