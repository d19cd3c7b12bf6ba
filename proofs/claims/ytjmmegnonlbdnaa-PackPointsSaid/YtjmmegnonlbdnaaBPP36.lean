/-
  Numbers of 64 bits: what num and the document's numbers tell, in plain words.
  Ranges, and what an octagon tells of them, in plain words.
  gnomonref13: a matrix being closed; plus; Across.
  gnomonref13.Of, Close: what they answer, of octagons that may be.
  gnomonref12.Top, gnomonref12.Bound: what they answer.
  What trans and the document's transfer tell, in plain words.
  What trans makes of octagons that may be may be. Plain.
  What is known behind an edge, in plain words; it may be.
  num, gnomonref7: what each call answers.
  num.Cmp, gnomonref7.Cmp, Neg, Add, Sub: what each call answers.
  dbm.within, copied, With: what each call answers, of octagons that may be.
  dbm.With, trans.limits, trans.closed, trans.empty: of octagons that may be.
  trans's and order's small functions: closed, empty, plus, minus, twice, negated, upTo, from, only.
  dbm.Get, and span's reading of a closed octagon: what they answer.
  trans.ranged: a variable bounded by a range.
  trans.atMost: what it answers.
  span.In: what a closed octagon tells of a variable, a sum, a difference, an operand.
-/
import Derived.Test.YtjmmegnonlbdnaaBound
import Derived.Test.YtjmmegnonlbdnaaCloseOk
import Derived.Test.YtjmmegnonlbdnaaCloseLaw
import Derived.Test.YtjmmegnonlbdnaaGraph
import Derived.Test.YtjmmegnonlbdnaaMem
import Derived.IntWalk
import Derived.Laws.EntriesVeiled
import Derived.Test.YtjmmegnonlbdnaaBPP09
import Derived.Test.YtjmmegnonlbdnaaBPP11
import Derived.Test.YtjmmegnonlbdnaaClose
namespace Go.Proofs.Ytjmmegnonlbdnaa
section

end
section

end
section
open Go.RowKit
attribute [local go_sem ↓] Go.wp_at_zero Go.wp_at_succ

def MC (B gx : Nat) (n : Int) (A : Option Addr) (cap : Nat) (xs : List Int) (W : World) : Prop :=
  B ≤ gx ∧ (∀ g, A = some ⟨g, 0, none⟩ → g ≠ gx) ∧ (∃ s, Blk W gx 113 #[.int .i64 n, .slice A xs.length cap, .bool s]) ∧ Own W B A cap xs
/-- What a region keeps: all but the matrix's own block; there only 'saturated' may turn. -/
def SC (w0 : World) (gx : Nat) (n : Int) (A : Option Addr) (L cap : Nat) (W : World) : Prop :=
  w0.grownBy W (some gx) ∧ ∃ s, Blk W gx 113 #[.int .i64 n, .slice A L cap, .bool s]
section
variable {B gx cap gm : Nat} {n : Int} {A : Option Addr} {xs : List Int} {W W' w0 : World}
theorem MC.base (h : MC B gx n A cap xs W) : B ≤ gx := h.1
theorem MC.go (h : MC B gx n A cap xs w0) (hs : SC w0 gx n A xs.length cap W) : MC B gx n A cap xs W := by
  refine ⟨h.1, h.2.1, hs.2, h.2.2.2.grown hs.1 ?_⟩
  rcases h.2.2.2.form with ⟨rfl, _⟩ | ⟨g, rfl, _⟩
  · exact .inl rfl
  · refine .inr fun e => h.2.1 g rfl ?_
    simpa [Value.ownBlock] using e
theorem SC.bel {L : Nat} (h : SC w0 gx n A L cap W) (hB : B ≤ gx) (hB' : B ≤ w0.heap.size) : Below B w0 W := below_grown h.1 (fun k hk => by injection hk with hk; omega) hB'
theorem MC.some (h : MC B gx n A cap xs W) (hl : 0 < xs.length) : ∃ gm, A = .some ⟨gm, 0, none⟩ ∧ B ≤ gm ∧ gm < W.heap.size ∧ gm ≠ gx := by
  rcases h.2.2.2.form with ⟨_, h0, _⟩ | ⟨g, h1, h2, h3⟩
  · rw [h0] at hl; simp at hl
  · exact ⟨g, h1, h2, h3, h.2.1 g h1⟩
theorem MC.m_ (h : MC B gx n A cap xs W) : W.cell? ⟨gx, 1, none⟩ = Option.some (.slice A xs.length cap) := by obtain ⟨s, hk⟩ := h.2.2.1; exact hk.cell 1
theorem MC.c_ (h : MC B gx n (.some ⟨gm, 0, none⟩) cap xs W) {k : Nat} (hk : k < xs.length) : W.cell? ⟨gm, k, none⟩ = Option.some (.int .i64 (gI xs k)) := by
  obtain ⟨b, off, hA, _, hc⟩ := h.2.2.2.rd k hk
  simp only [Option.some.injEq, Addr.mk.injEq] at hA
  obtain ⟨rfl, rfl, _⟩ := hA
  simpa using hc
theorem MC.f_ (h : MC B gx n (.some ⟨gm, 0, none⟩) cap xs W) (k : Nat) : W.frozen? ⟨gm, k, none⟩ = false := h.2.2.2.frozen k
theorem MC.set (h : MC B gx n (.some ⟨gm, 0, none⟩) cap xs W) (k : Nat) (v : Int) : MC B gx n (.some ⟨gm, 0, none⟩) cap (xs.set k v) (W.setCell ⟨gm, k, none⟩ (.int .i64 v)) := by
  refine ⟨h.1, h.2.1, ?_, h.2.2.2.store k v⟩
  obtain ⟨s, hk⟩ := h.2.2.1
  rw [List.length_set]
  exact ⟨s, hk.far (p := ⟨gm, k, none⟩) (h.2.1 gm rfl) _⟩
end


theorem MC.some_lt {B gx cap gm : Nat} {n : Int} {xs : List Int} {W : World} (h : MC B gx n (Option.some ⟨gm, 0, none⟩) cap xs W) : gm < W.heap.size := by
  rcases h.2.2.2.form with ⟨h0, _⟩ | ⟨g, h1, _, h3⟩
  · cases h0
  · injection h1 with h1; injection h1 with h1; omega
theorem idxr_ok {n : Int} {N i j : Nat} (hN : (N : Int) = 2 * n) (hi : i < N) (hj : j < N) (hn : N ≤ 128) :
    0 ≤ (i : Int) * (2 * n) ∧ (i : Int) * (2 * n) ≤ 16384 ∧ ((i : Int) * (2 * n) + (j : Int)).toNat = i * N + j ∧ i * N + j < N * N ∧ 0 ≤ (i : Int) * (2 * n) + (j : Int) ∧ (i : Int) * (2 * n) + (j : Int) < ((N * N : Nat) : Int) := by
  have h := idx_ok hN hi hj hn
  rw [Int.mul_comm (2 * n) (i : Int)] at h
  exact h

theorem across_nx (i : Nat) (w : World) (h : i ≤ 1000) :
    Calls Try.prog 36 #[.int .i64 (i : Int)] w fun e w' => e = .returned (.int .i64 ((nx i : Nat) : Int)) ∧ w = w' := by
  rw [← xor1_nx]
  exact across_any _ _ (by omega) (by omega)
end
section

end
section

end
section

end
section

end
section

end
section
open Go.RowKit
attribute [local go_sem ↓] Go.wp_at_zero Go.wp_at_succ

def I64 (a : Int) : Prop := -9223372036854775808 ≤ a ∧ a ≤ 9223372036854775807
end
section

end
section
open Go.RowKit
attribute [local go_sem ↓] Go.wp_at_zero Go.wp_at_succ

/-- Two new blocks. -/
theorem new_two (w : World) (cs0 cs1 : Array Value) (t0 t1 : TypeId) : Blk ((w.alloc (.cells cs0 t0)).alloc (.cells cs1 t1)) w.heap.size t0 cs0 ∧ Blk ((w.alloc (.cells cs0 t0)).alloc (.cells cs1 t1)) (w.heap.size + 1) t1 cs1 ∧ Below w.heap.size w ((w.alloc (.cells cs0 t0)).alloc (.cells cs1 t1)) ∧ ((w.alloc (.cells cs0 t0)).alloc (.cells cs1 t1)).heap.size = w.heap.size + 2 := by
  obtain ⟨h1, h2⟩ := blk_two (w := w) (Below.refl _ ((w.alloc (.cells cs0 t0)).alloc (.cells cs1 t1)))
  exact ⟨h1, h2, ((Below.refl _ _).alloc (Nat.le_refl _) _).alloc (by simp) _, by simp⟩
end
section

end
section

end
section
open Go.RowKit
attribute [local go_sem ↓] Go.wp_at_zero Go.wp_at_succ

theorem new_one (w : World) (cs : Array Value) (t : TypeId) : Blk (w.alloc (.cells cs t)) w.heap.size t cs ∧ Below w.heap.size w (w.alloc (.cells cs t)) ∧ (w.alloc (.cells cs t)).heap.size = w.heap.size + 1 :=
  ⟨Blk.new w t cs, new1 w _, by simp⟩

theorem opbox {w : World} {g : Nat} {t : TypeId} {a b : Value} (h : Blk w g t #[a, b]) : w.cell? ⟨g, 0, none⟩ = some a ∧ w.cell? ⟨g, 1, none⟩ = some b ∧ ∀ j, w.frozen? ⟨g, j, none⟩ = false :=
  ⟨h.cell 0, h.cell 1, h.fr⟩
end
section

end
section

end
section
open Go.RowKit
attribute [local go_sem ↓] Go.wp_at_zero Go.wp_at_succ

def BelVal (v : Value) (w : World) (e : Ending) (w' : World) : Prop := e = .returned v ∧ Below w.heap.size w w'
end
end Go.Proofs.Ytjmmegnonlbdnaa
