/-
  gnomonlaw22.upTo, gnomonlaw22.known: known answers true.
-/
import Derived.Test.YtofmidhkiobldaaRefWiden
import Derived.Test.YtofmidhkiobldaaEq
namespace Go.Proofs.Ytofmidhkiobldaa
open Go.RowKit
attribute [local go_sem ↓] Go.wp_at_zero Go.wp_at_succ

theorem Blk.rd {w : World} {g : Nat} {t : TypeId} {xs : List Int} (h : Blk w g t (i64s xs).toArray) : Rd w w.heap.size (some ⟨g, 0, none⟩) xs := fun k hk =>
  ⟨g, 0, rfl, h.lt, by rw [Nat.zero_add, h.cell k, List.getElem?_toArray, i64s_get xs hk]⟩

theorem kW : widenO ⟨1, false, [0, 2, 9223372036854775807, 0]⟩ ⟨1, false, [0, 4, 9223372036854775807, 0]⟩ [0, 5] = (⟨1, false, [0, 10, 9223372036854775807, 0]⟩, 0) := by
  have h1 : (widenO ⟨1, false, [0, 2, 9223372036854775807, 0]⟩ ⟨1, false, [0, 4, 9223372036854775807, 0]⟩ [0, 5]).1.m = [0, 10, 9223372036854775807, 0] := by decide +kernel
  have h2 : (widenO ⟨1, false, [0, 2, 9223372036854775807, 0]⟩ ⟨1, false, [0, 4, 9223372036854775807, 0]⟩ [0, 5]).1.n = 1 := by decide +kernel
  have h3 : (widenO ⟨1, false, [0, 2, 9223372036854775807, 0]⟩ ⟨1, false, [0, 4, 9223372036854775807, 0]⟩ [0, 5]).1.e = false := by decide +kernel
  have h4 : (widenO ⟨1, false, [0, 2, 9223372036854775807, 0]⟩ ⟨1, false, [0, 4, 9223372036854775807, 0]⟩ [0, 5]).2 = 0 := by decide +kernel
  generalize widenO ⟨1, false, [0, 2, 9223372036854775807, 0]⟩ ⟨1, false, [0, 4, 9223372036854775807, 0]⟩ [0, 5] = q at *
  obtain ⟨⟨n, e, m⟩, x⟩ := q
  dsimp only at h1 h2 h3 h4
  rw [h1, h2, h3, h4]
theorem kN : narrowO ⟨1, false, [0, 9223372036854775807, 9223372036854775807, 0]⟩ ⟨1, false, [0, 18, 9223372036854775807, 0]⟩ = (⟨1, false, [0, 18, 9223372036854775807, 0]⟩, 0) := by
  have h1 : (narrowO ⟨1, false, [0, 9223372036854775807, 9223372036854775807, 0]⟩ ⟨1, false, [0, 18, 9223372036854775807, 0]⟩).1.m = [0, 18, 9223372036854775807, 0] := by decide +kernel
  have h2 : (narrowO ⟨1, false, [0, 9223372036854775807, 9223372036854775807, 0]⟩ ⟨1, false, [0, 18, 9223372036854775807, 0]⟩).1.n = 1 := by decide +kernel
  have h3 : (narrowO ⟨1, false, [0, 9223372036854775807, 9223372036854775807, 0]⟩ ⟨1, false, [0, 18, 9223372036854775807, 0]⟩).1.e = false := by decide +kernel
  have h4 : (narrowO ⟨1, false, [0, 9223372036854775807, 9223372036854775807, 0]⟩ ⟨1, false, [0, 18, 9223372036854775807, 0]⟩).2 = 0 := by decide +kernel
  generalize narrowO ⟨1, false, [0, 9223372036854775807, 9223372036854775807, 0]⟩ ⟨1, false, [0, 18, 9223372036854775807, 0]⟩ = q at *
  obtain ⟨⟨n, e, m⟩, x⟩ := q
  dsimp only at h1 h2 h3 h4
  rw [h1, h2, h3, h4]

theorem oct4_true (a b c d : Int) (A A' : Option Addr) (c1 c2 : Nat) (w : World) (hx : Rd w w.heap.size A [a, b, c, d]) (hy : Rd w w.heap.size A' [a, b, c, d]) :
    Calls Try.prog 16 #[.agg #[.int .i64 1, .bool false, .slice A 4 c1], .agg #[.int .i64 1, .bool false, .slice A' 4 c2]] w fun e w' => e = .returned (.bool true) ∧ Below w.heap.size w w' :=
  (oct_any ⟨1, false, [a, b, c, d]⟩ ⟨1, false, [a, b, c, d]⟩ A A' c1 c2 w hx hy (by simp)).mono fun _ _ ⟨he, hb⟩ => ⟨he.trans (retb ((eqO_iff _ _).2 rfl)), hb⟩
end Go.Proofs.Ytofmidhkiobldaa
