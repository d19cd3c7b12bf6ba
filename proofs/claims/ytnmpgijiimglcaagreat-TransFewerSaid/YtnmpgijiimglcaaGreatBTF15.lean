/-
  Numbers of 64 bits: what num and the document's numbers tell, in plain words.
  Ranges, and what an octagon tells of them, in plain words.
  gnomonref13: a matrix being closed; plus; Across.
  gnomonref13.Of, Close: what they answer, of octagons that may be.
-/
import Derived.Test.YtnmpgijiimglcaaGreatBTF00
import Derived.Test.YtnmpgijiimglcaaGreatCloseOk
import Derived.Test.YtnmpgijiimglcaaGreatBTF13
namespace Go.Proofs.YtnmpgijiimglcaaGreat
section
open Go.RowKit

def inI (a : Int) : Bool := decide (-9223372036854775808 ≤ a ∧ a ≤ 9223372036854775807)
/-- A number that an int64 holds, or what goes wrong. -/
def fit (a : Int) : Int × Int := if inI a then (a, 0) else (0, 1)
def addW (a b : Int) : Int × Int := fit (a + b)
def subW (a b : Int) : Int × Int := fit (a - b)
def negW (a : Int) : Int × Int := fit (-a)
def mulW (a b : Int) : Int × Int := fit (a * b)
def divErr (a b : Int) : Int := if b = 0 then 2 else if a = -9223372036854775808 ∧ b = -1 then 1 else 0
def divW (a b : Int) : Int × Int := if divErr a b = 0 then (a.tdiv b, 0) else (0, divErr a b)
def remW (a b : Int) : Int × Int := if divErr a b = 0 then (a.tmod b, 0) else (0, divErr a b)
/-- Two numbers held against each other. -/
def cmpB (op a b : Int) : Bool := if op = 1 then decide (a < b) else if op = 2 then decide (a ≤ b) else if op = 3 then decide (a = b) else if op = 4 then decide (a ≠ b) else if op = 5 then decide (b < a) else if op = 6 then decide (b ≤ a) else false
end
section
open Go.RowKit

/-- A range: its ends, and whether it has them. -/
structure Rg where
  lo : Int
  hi : Int
  hl : Bool
  hh : Bool
def Rg.val (r : Rg) : Value := .agg #[.int .i64 r.lo, .int .i64 r.hi, .bool r.hl, .bool r.hh]
def rg0 : Rg := ⟨0, 0, false, false⟩
def oneR (n : Int) : Rg := ⟨n, n, true, true⟩
/-- Of two cells: the greatest, and the least's negative. -/
def sidesR (up down : Int) : Rg := ⟨if down = 9223372036854775807 then 0 else -down, if up = 9223372036854775807 then 0 else up, !decide (down = 9223372036854775807), !decide (up = 9223372036854775807)⟩
def varR (N : Nat) (m : List Int) (v : Nat) : Rg := sidesR (half (G N m (2 * v) (2 * v + 1))) (half (G N m (2 * v + 1) (2 * v)))
def sumR (N : Nat) (m : List Int) (u v : Nat) : Rg := sidesR (G N m (2 * u) (2 * v + 1)) (G N m (2 * u + 1) (2 * v))
def diffR (N : Nat) (m : List Int) (u v : Nat) : Rg := sidesR (G N m (2 * u) (2 * v)) (G N m (2 * u + 1) (2 * v + 1))
def opdR (N : Nat) (m : List Int) (v n : Int) : Rg := if 0 ≤ v then varR N m v.toNat else oneR n
def nearR (has : Bool) (n : Int) : Bool := has && decide (-1073741824 ≤ n ∧ n ≤ 1073741824)
def mulR (a b : Rg) : Rg :=
  if nearR a.hl a.lo && nearR a.hh a.hi && nearR b.hl b.lo && nearR b.hh b.hi then
    ⟨min (min (a.lo * b.lo) (a.lo * b.hi)) (min (a.hi * b.lo) (a.hi * b.hi)), max (max (a.lo * b.lo) (a.lo * b.hi)) (max (a.hi * b.lo) (a.hi * b.hi)), true, true⟩
  else rg0
/-- The one number above 0 that a range has; or 0. -/
def oneOf (b : Rg) : Int := if b.hl && b.hh && decide (b.lo = b.hi) && decide (0 < b.lo) then b.lo else 0
def divR (a b : Rg) : Rg := if oneOf b = 0 then rg0 else ⟨if a.hl then a.lo.tdiv (oneOf b) else 0, if a.hh then a.hi.tdiv (oneOf b) else 0, a.hl, a.hh⟩
def remR (a b : Rg) : Rg :=
  if oneOf b = 0 then rg0
  else ⟨if a.hl && decide (0 ≤ a.lo) then 0 else 1 - oneOf b,
    if a.hh && decide (a.hi ≤ 0) then 0 else if a.hh && (a.hl && decide (0 ≤ a.lo)) then min (oneOf b - 1) a.hi else oneOf b - 1, true, true⟩
end
section
open Go.RowKit
attribute [local go_sem ↓] Go.wp_at_zero Go.wp_at_succ

def MC (B gx : Nat) (n : Int) (A : Option Addr) (cap : Nat) (xs : List Int) (W : World) : Prop :=
  B ≤ gx ∧ (∀ g, A = some ⟨g, 0, none⟩ → g ≠ gx) ∧ (∃ s, Blk W gx 192 #[.int .i64 n, .slice A xs.length cap, .bool s]) ∧ Own W B A cap xs
/-- What a region keeps: all but the matrix's own block; there only 'saturated' may turn. -/
def SC (w0 : World) (gx : Nat) (n : Int) (A : Option Addr) (L cap : Nat) (W : World) : Prop :=
  w0.grownBy W (some gx) ∧ ∃ s, Blk W gx 192 #[.int .i64 n, .slice A L cap, .bool s]
section
variable {B gx cap gm : Nat} {n : Int} {A : Option Addr} {xs : List Int} {W W' w0 : World}
theorem MC.base (h : MC B gx n A cap xs W) : B ≤ gx := h.1
theorem MC.sx (h : MC B gx n A cap xs W) : SC W gx n A xs.length cap W := ⟨World.grownBy.refl _ _, h.2.2.1⟩
theorem MC.go (h : MC B gx n A cap xs w0) (hs : SC w0 gx n A xs.length cap W) : MC B gx n A cap xs W := by
  refine ⟨h.1, h.2.1, hs.2, h.2.2.2.grown hs.1 ?_⟩
  rcases h.2.2.2.form with ⟨rfl, _⟩ | ⟨g, rfl, _⟩
  · exact .inl rfl
  · refine .inr fun e => h.2.1 g rfl ?_
    simpa [Value.ownBlock] using e
theorem SC.up {L : Nat} (h : SC w0 gx n A L cap W) (hb : Below W.heap.size W W') : SC w0 gx n A L cap W' :=
  ⟨h.1.trans (grown_of_below hb _), h.2.imp fun _ hk => hk.later hb⟩
theorem SC.drew {L : Nat} (h : SC w0 gx n A L cap W) : SC w0 gx n A L cap W.drew := h.up (Below.refl _ _).drew
theorem MC.up (h : MC B gx n A cap xs W) (hb : Below W.heap.size W W') : MC B gx n A cap xs W' := h.go (h.sx.up hb)
theorem MC.lt (h : MC B gx n A cap xs W) : gx < W.heap.size := by obtain ⟨s, hk⟩ := h.2.2.1; exact hk.lt
theorem SC.bel {L : Nat} (h : SC w0 gx n A L cap W) (hB : B ≤ gx) (hB' : B ≤ w0.heap.size) : Below B w0 W := below_grown h.1 (fun k hk => by injection hk with hk; omega) hB'
theorem MC.some (h : MC B gx n A cap xs W) (hl : 0 < xs.length) : ∃ gm, A = .some ⟨gm, 0, none⟩ ∧ B ≤ gm ∧ gm < W.heap.size ∧ gm ≠ gx := by
  rcases h.2.2.2.form with ⟨_, h0, _⟩ | ⟨g, h1, h2, h3⟩
  · rw [h0] at hl; simp at hl
  · exact ⟨g, h1, h2, h3, h.2.1 g h1⟩
theorem MC.n_ (h : MC B gx n A cap xs W) : W.cell? ⟨gx, 0, none⟩ = Option.some (.int .i64 n) := by obtain ⟨s, hk⟩ := h.2.2.1; exact hk.cell 0
theorem MC.m_ (h : MC B gx n A cap xs W) : W.cell? ⟨gx, 1, none⟩ = Option.some (.slice A xs.length cap) := by obtain ⟨s, hk⟩ := h.2.2.1; exact hk.cell 1
theorem MC.c_ (h : MC B gx n (.some ⟨gm, 0, none⟩) cap xs W) {k : Nat} (hk : k < xs.length) : W.cell? ⟨gm, k, none⟩ = Option.some (.int .i64 (gI xs k)) := by
  obtain ⟨b, off, hA, _, hc⟩ := h.2.2.2.rd k hk
  simp only [Option.some.injEq, Addr.mk.injEq] at hA
  obtain ⟨rfl, rfl, _⟩ := hA
  simpa using hc
theorem MC.f_ (h : MC B gx n (.some ⟨gm, 0, none⟩) cap xs W) (k : Nat) : W.frozen? ⟨gm, k, none⟩ = false := h.2.2.2.frozen k
theorem MC.set (h : MC B gx n (.some ⟨gm, 0, none⟩) cap xs W) (k : Nat) (v : Int) : MC B gx n (.some ⟨gm, 0, none⟩) cap (xs.set k v) (W.setCell ⟨gm, k, none⟩ (.int .i64 v)) := by
  refine ⟨h.1, h.2.1, ?_, h.2.2.2.store k v⟩
  obtain ⟨s, hk⟩ := h.2.2.1
  rw [List.length_set]
  exact ⟨s, hk.far (p := ⟨gm, k, none⟩) (h.2.1 gm rfl) _⟩
end


theorem idxr_ok {n : Int} {N i j : Nat} (hN : (N : Int) = 2 * n) (hi : i < N) (hj : j < N) (hn : N ≤ 128) :
    0 ≤ (i : Int) * (2 * n) ∧ (i : Int) * (2 * n) ≤ 16384 ∧ ((i : Int) * (2 * n) + (j : Int)).toNat = i * N + j ∧ i * N + j < N * N ∧ 0 ≤ (i : Int) * (2 * n) + (j : Int) ∧ (i : Int) * (2 * n) + (j : Int) < ((N * N : Nat) : Int) := by
  have h := idx_ok hN hi hj hn
  rw [Int.mul_comm (2 * n) (i : Int)] at h
  exact h

theorem across_nx (i : Nat) (w : World) (h : i ≤ 1000) :
    Calls Tryz.prog 61 #[.int .i64 (i : Int)] w fun e w' => e = .returned (.int .i64 ((nx i : Nat) : Int)) ∧ w = w' := by
  rw [← xor1_nx]
  exact across_any _ _ (by omega) (by omega)
end
section
open Go.RowKit
attribute [local go_sem ↓] Go.wp_at_zero Go.wp_at_succ
end
end Go.Proofs.YtnmpgijiimglcaaGreat
