/-
  close.matrix: a matrix in memory; its methods at and sum.
-/
import Derived.Test.YtjmmegnonlbdnaaBPP12
namespace Go.Proofs.Ytjmmegnonlbdnaa
open Go.RowKit
attribute [local go_sem ↓] Go.wp_at_zero Go.wp_at_succ

/-- t rounds of f. -/
def rep {α : Type} (f : Nat → α → α) : Nat → α → α
  | 0, x => x
  | t + 1, x => f t (rep f t x)
/-- All cells are bounds. -/
def AllB (xs : List Int) : Prop := ∀ i : Nat, isBound (gI xs i) = true
theorem gI_put (xs : List Int) (k : Nat) (v : Int) (i : Nat) (hk : k < xs.length) : gI (xs.set k v) i = if i = k then v else gI xs i := by
  unfold gI
  simp only [Int.toNat_natCast, List.getD, List.getElem?_set]
  by_cases h : k = i
  · subst h; simp [hk]
  · rw [if_neg h, if_neg (fun e => h e.symm)]
theorem AllB.set {xs : List Int} (h : AllB xs) {k : Nat} {v : Int} (hv : isBound v = true) (hk : k < xs.length) : AllB (xs.set k v) := fun i => by
  rw [gI_put xs k v i hk]
  split
  · exact hv
  · exact h i

theorem own_far {W : World} {base cap g i : Nat} {A : Option Addr} {m : List Int} {v : Value} (h : Own W base A cap m) (hn : ∀ k, A = some ⟨k, 0, none⟩ → k ≠ g) : Own (W.setCell ⟨g, i, none⟩ v) base A cap m := by
  refine h.grown (grown_setCell W ⟨g, i, none⟩ v) ?_
  rcases h.form with ⟨rfl, _⟩ | ⟨g', rfl, _⟩
  · exact .inl rfl
  · refine .inr fun e => hn g' rfl ?_
    simpa [Value.ownBlock] using e

def MX (B gx : Nat) (n : Int) (A : Option Addr) (cap : Nat) (e : Bool) (xs : List Int) (W : World) : Prop :=
  B ≤ gx ∧ (∀ g, A = some ⟨g, 0, none⟩ → g ≠ gx) ∧ (∃ s, Blk W gx 95 #[.int .i64 n, .slice A xs.length cap, .bool s, .bool e]) ∧ Own W B A cap xs
/-- What a region keeps: all but the matrix's own block; there only 'saturated' may turn. -/
def SX (w0 : World) (gx : Nat) (n : Int) (A : Option Addr) (L cap : Nat) (e : Bool) (W : World) : Prop :=
  w0.grownBy W (some gx) ∧ ∃ s, Blk W gx 95 #[.int .i64 n, .slice A L cap, .bool s, .bool e]
section
variable {B gx cap gm : Nat} {n : Int} {A : Option Addr} {e : Bool} {xs : List Int} {W W' w0 : World}
theorem MX.base (h : MX B gx n A cap e xs W) : B ≤ gx := h.1
theorem MX.sx (h : MX B gx n A cap e xs W) : SX W gx n A xs.length cap e W := ⟨World.grownBy.refl _ _, h.2.2.1⟩
theorem MX.go (h : MX B gx n A cap e xs w0) (hs : SX w0 gx n A xs.length cap e W) : MX B gx n A cap e xs W := by
  refine ⟨h.1, h.2.1, hs.2, h.2.2.2.grown hs.1 ?_⟩
  rcases h.2.2.2.form with ⟨rfl, _⟩ | ⟨g, rfl, _⟩
  · exact .inl rfl
  · refine .inr fun e => h.2.1 g rfl ?_
    simpa [Value.ownBlock] using e
theorem SX.up {L : Nat} (h : SX w0 gx n A L cap e W) (hb : Below W.heap.size W W') : SX w0 gx n A L cap e W' :=
  ⟨h.1.trans (grown_of_below hb _), h.2.imp fun _ hk => hk.later hb⟩
theorem SX.drew {L : Nat} (h : SX w0 gx n A L cap e W) : SX w0 gx n A L cap e W.drew := h.up (Below.refl _ _).drew
theorem MX.up (h : MX B gx n A cap e xs W) (hb : Below W.heap.size W W') : MX B gx n A cap e xs W' := h.go (h.sx.up hb)
theorem SX.bel {L : Nat} (h : SX w0 gx n A L cap e W) (hB : B ≤ gx) (hB' : B ≤ w0.heap.size) : Below B w0 W := below_grown h.1 (fun k hk => by injection hk with hk; omega) hB'
theorem MX.some (h : MX B gx n A cap e xs W) (hl : 0 < xs.length) : ∃ gm, A = .some ⟨gm, 0, none⟩ ∧ B ≤ gm ∧ gm < W.heap.size ∧ gm ≠ gx := by
  rcases h.2.2.2.form with ⟨_, h0, _⟩ | ⟨g, h1, h2, h3⟩
  · rw [h0] at hl; simp at hl
  · exact ⟨g, h1, h2, h3, h.2.1 g h1⟩
theorem MX.n_ (h : MX B gx n A cap e xs W) : W.cell? ⟨gx, 0, none⟩ = Option.some (.int .i64 n) := by obtain ⟨s, hk⟩ := h.2.2.1; exact hk.cell 0
theorem MX.m_ (h : MX B gx n A cap e xs W) : W.cell? ⟨gx, 1, none⟩ = Option.some (.slice A xs.length cap) := by obtain ⟨s, hk⟩ := h.2.2.1; exact hk.cell 1
theorem MX.e_ (h : MX B gx n A cap e xs W) : W.cell? ⟨gx, 3, none⟩ = Option.some (.bool e) := by obtain ⟨s, hk⟩ := h.2.2.1; exact hk.cell 3
theorem MX.c_ (h : MX B gx n (.some ⟨gm, 0, none⟩) cap e xs W) {k : Nat} (hk : k < xs.length) : W.cell? ⟨gm, k, none⟩ = Option.some (.int .i64 (gI xs k)) := by
  obtain ⟨b, off, hA, _, hc⟩ := h.2.2.2.rd k hk
  simp only [Option.some.injEq, Addr.mk.injEq] at hA
  obtain ⟨rfl, rfl, _⟩ := hA
  simpa using hc
theorem MX.f_ (h : MX B gx n (.some ⟨gm, 0, none⟩) cap e xs W) (k : Nat) : W.frozen? ⟨gm, k, none⟩ = false := h.2.2.2.frozen k
theorem MX.set (h : MX B gx n (.some ⟨gm, 0, none⟩) cap e xs W) (k : Nat) (v : Int) : MX B gx n (.some ⟨gm, 0, none⟩) cap e (xs.set k v) (W.setCell ⟨gm, k, none⟩ (.int .i64 v)) := by
  refine ⟨h.1, h.2.1, ?_, h.2.2.2.store k v⟩
  obtain ⟨s, hk⟩ := h.2.2.1
  rw [List.length_set]
  exact ⟨s, hk.far (p := ⟨gm, k, none⟩) (h.2.1 gm rfl) _⟩
theorem MX.setE (h : MX B gx n A cap e xs W) (u : Bool) : MX B gx n A cap u xs (W.setCell ⟨gx, 3, none⟩ (.bool u)) := by
  obtain ⟨s, hk⟩ := h.2.2.1
  exact ⟨h.1, h.2.1, ⟨s, hk.set_ 3 (.bool u)⟩, own_far h.2.2.2 h.2.1⟩
end

theorem idx_ok {n : Int} {N i j : Nat} (hN : (N : Int) = 2 * n) (hi : i < N) (hj : j < N) (hn : N ≤ 128) :
    0 ≤ 2 * n * (i : Int) ∧ 2 * n * (i : Int) ≤ 16384 ∧ (2 * n * (i : Int) + (j : Int)).toNat = i * N + j ∧ i * N + j < N * N ∧ 0 ≤ 2 * n * (i : Int) + (j : Int) ∧ 2 * n * (i : Int) + (j : Int) < ((N * N : Nat) : Int) := by
  rw [← hN]
  have e1 : (N : Int) * (i : Int) = ((i * N : Nat) : Int) := by rw [Int.natCast_mul, Int.mul_comm]
  have h1 : i * N + N ≤ N * N := by
    have := Nat.mul_le_mul_right N (show i + 1 ≤ N from hi)
    rw [Nat.add_mul] at this; omega
  have h2 : N * N ≤ 128 * 128 := Nat.mul_le_mul hn hn
  rw [e1]
  refine ⟨by omega, by omega, by omega, by omega, by omega, by omega⟩

set_option maxHeartbeats 1000000 in
theorem mat_at {B gx cap gm : Nat} {n : Int} {e : Bool} {xs : List Int} {W : World} (i j N : Nat) (h : MX B gx n (some ⟨gm, 0, none⟩) cap e xs W) (hN : (N : Int) = 2 * n) (hn : N ≤ 128) (hl : xs.length = N * N) (hi : i < N) (hj : j < N) :
    Calls Try.prog 72 #[.pointer (some ⟨gx, 0, none⟩), .int .i64 (i : Int), .int .i64 (j : Int)] W fun e' W' => e' = .returned (.pointer (some ⟨gm, i * N + j, none⟩)) ∧ Below W.heap.size W W' := by
  obtain ⟨b1, b2, b3, b4, b5, b6⟩ := idx_ok hN hi hj hn
  rw [← hl] at b6
  have fn := later h.n_
  have fm := later h.m_
  have hn0 : 0 ≤ 2 * n := by omega
  have hn1 : 2 * n ≤ 128 := by omega
  have HN := hid hN
  have HL := hid hl
  clear hN hl b4
  go_enter Try.func72, Try.ntmps72
  go_wp2
  refine wp_region_flow 15 (fun X => Below W.heap.size W X) (by kernel_rfl) (by kernel_rfl) (Below.refl _ _).drew ?_
  (repeat (first | (refine Flow.skip (by rfl) ?_; simp only [Act.put, List.setIfInBounds_toArray, List.set_cons_zero, List.set_cons_succ]) | (refine' Flow.take _ (by rfl) (fun W hW R hR => ?_) ?_; rotate_left; (go_simp; (try go_bits); with_reducible exact hR); simp only [Act.put, List.setIfInBounds_toArray, List.set_cons_zero, List.set_cons_succ])))
  intro w4 hb4
  go_wp2
  go_ret
  exact ⟨rfl, hb4⟩

set_option maxHeartbeats 1000000 in
theorem mat_sum {B gx cap : Nat} {n : Int} {A : Option Addr} {e : Bool} {xs : List Int} {W : World} (a b : Int) (h : MX B gx n A cap e xs W) :
    Calls Try.prog 74 #[.pointer (some ⟨gx, 0, none⟩), .int .i64 a, .int .i64 b] W fun e' W' => e' = .returned (.int .i64 (plus a b)) ∧ SX W gx n A xs.length cap e W' := by
  obtain ⟨s, hk⟩ := h.2.2.1
  have c2 := hk.cell 2
  have f2 := hk.fr 2
  have k2 := fun u => hk.set_ 2 (.bool u)
  cases s
  · go_enter Try.func74, Try.ntmps74
    go_wp2_with fail
    refine (sat_any a b _).mono ?_
    rintro e1 w1 ⟨rfl, rfl⟩
    go_wp2_with fail
    refine (plus_any a b _).mono ?_
    rintro e1 w1 ⟨rfl, rfl⟩
    go_wp2
    go_ret
    exact ⟨rfl, grown_setCell _ ⟨gx, 2, none⟩ _, _, k2 _⟩
  · go_enter Try.func74, Try.ntmps74
    go_wp2_with fail
    refine (plus_any a b _).mono ?_
    rintro e1 w1 ⟨rfl, rfl⟩
    go_wp2
    go_ret
    exact ⟨rfl, grown_setCell _ ⟨gx, 2, none⟩ _, _, k2 _⟩
end Go.Proofs.Ytjmmegnonlbdnaa
