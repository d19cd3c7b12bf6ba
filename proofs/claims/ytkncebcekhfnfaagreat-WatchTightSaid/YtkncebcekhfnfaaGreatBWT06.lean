/-
  widen.above, its two functions, the two closures of Widen and Narrow; the reference's step.
  widen.Widen, widen.Narrow: what each call answers.
  gnomonref12.Check: what is wrong with an octagon: the same as dbm.Check tells.
  gnomonref22.step, Widen, Narrow; gnomonref12.Empty; gnomonref14.Pair: what each call answers: the same as widen tells.
  gnomonref22.Widen, gnomonref22.Narrow: what each call answers, of octagons that may be.
  gnomonref22.Widen: what a call answers, of octagons that may be.
  gnomonhelp.Longs, gnomonhelp.Oct: equal as data.
  gnomonlaw22.upTo, gnomonlaw22.known: known answers true.
  close.matrix: a matrix in memory; its methods at and sum.
  close.matrix.paths: what it makes of a matrix of bounds.
-/
import Derived.Test.YtkncebcekhfnfaaGreatBWT02
import Derived.Test.YtkncebcekhfnfaaGreatBWT05
import Derived.Test.YtkncebcekhfnfaaGreatBWT03
namespace Go.Proofs.YtkncebcekhfnfaaGreat
section

end
section
open Go.RowKit

theorem pair_ok {a b : O} (h : pairErr a b = 0) : check a = 0 ∧ check b = 0 ∧ a.n = b.n := by
  unfold pairErr at h
  by_cases h1 : check a = 0
  · by_cases h2 : check b = 0
    · by_cases h3 : a.n = b.n
      · exact ⟨h1, h2, h3⟩
      · simp [h1, h2, h3] at h
    · simp [h1, h2] at h
  · simp [h1] at h
theorem check_ok {o : O} (h : check o = 0) : 0 ≤ o.n ∧ o.n ≤ 64 ∧ (o.e = true → o.m = []) ∧ (o.e = false → (o.m.length : Int) = 4 * o.n * o.n) := by
  by_cases hs : sizeBad o = true
  · unfold check at h; rw [if_pos hs] at h; omega
  · unfold sizeBad at hs
    simp at hs
    obtain ⟨⟨⟨h1, h2⟩, h3⟩, h4⟩ := hs
    exact ⟨h1, h2, h3, h4⟩
end
section
open Go.RowKit

set_option maxHeartbeats 400000 in
theorem across_any (i : Int) (w : World) (h0 : 0 ≤ i) (h1 : i ≤ 1000) :
    Calls Tryz.prog 68 #[.int .i64 i] w fun e w' => e = .returned (.int .i64 (xor1 i)) ∧ w = w' := by
  by_cases h : i % 2 = 0
  · have t : (i % 2 == 0) = true := by simpa using h
    clear h
    go_enter Tryz.func68, Tryz.ntmps68
    go_wp2
    go_ret
    exact ⟨ret64 (by unfold xor1; rw [if_pos (by simpa using t)]), rfl⟩
  · have t : (i % 2 == 0) = false := by simpa using h
    have t1 : 1 ≤ i := by omega
    clear h
    go_enter Tryz.func68, Tryz.ntmps68
    go_wp2
    go_ret
    exact ⟨ret64 (by unfold xor1; rw [if_neg (by simpa using t)]), rfl⟩
end
section
open Go.RowKit
attribute [local go_sem ↓] Go.wp_at_zero Go.wp_at_succ

set_option maxHeartbeats 400000 in
theorem rempty_any (n : Int) (w : World) :
    Calls Tryz.prog 38 #[.int .i64 n] w fun e w' => e = .returned (.agg #[.int .i64 n, .bool true, .slice none 0 0]) ∧ Below w.heap.size w w' := by
  go_enter Tryz.func38, Tryz.ntmps38
  go_wp2
  refine bodyPost_ret (v := .agg #[.int .i64 n, .bool true, .slice none 0 0]) (by simp [results, Tryz.results38, go_sem]) rfl ⟨rfl, ?_⟩
  exact (Below.refl _ _).alloc (Nat.le_refl _) _
end
section

end
section

end
section

end
section

end
section
open Go.RowKit
attribute [local go_sem ↓] Go.wp_at_zero Go.wp_at_succ

/-- t rounds of f. -/
def rep {α : Type} (f : Nat → α → α) : Nat → α → α
  | 0, x => x
  | t + 1, x => f t (rep f t x)
/-- All cells are bounds. -/
def AllB (xs : List Int) : Prop := ∀ i : Nat, isBound (gI xs i) = true
theorem gI_put (xs : List Int) (k : Nat) (v : Int) (i : Nat) (hk : k < xs.length) : gI (xs.set k v) i = if i = k then v else gI xs i := by
  unfold gI
  simp only [Int.toNat_natCast, List.getD, List.getElem?_set]
  by_cases h : k = i
  · subst h; simp [hk]
  · rw [if_neg h, if_neg (fun e => h e.symm)]
theorem AllB.set {xs : List Int} (h : AllB xs) {k : Nat} {v : Int} (hv : isBound v = true) (hk : k < xs.length) : AllB (xs.set k v) := fun i => by
  rw [gI_put xs k v i hk]
  split
  · exact hv
  · exact h i

theorem own_far {W : World} {base cap g i : Nat} {A : Option Addr} {m : List Int} {v : Value} (h : Own W base A cap m) (hn : ∀ k, A = some ⟨k, 0, none⟩ → k ≠ g) : Own (W.setCell ⟨g, i, none⟩ v) base A cap m := by
  refine h.grown (grown_setCell W ⟨g, i, none⟩ v) ?_
  rcases h.form with ⟨rfl, _⟩ | ⟨g', rfl, _⟩
  · exact .inl rfl
  · refine .inr fun e => hn g' rfl ?_
    simpa [Value.ownBlock] using e

def MX (B gx : Nat) (n : Int) (A : Option Addr) (cap : Nat) (e : Bool) (xs : List Int) (W : World) : Prop :=
  B ≤ gx ∧ (∀ g, A = some ⟨g, 0, none⟩ → g ≠ gx) ∧ (∃ s, Blk W gx 173 #[.int .i64 n, .slice A xs.length cap, .bool s, .bool e]) ∧ Own W B A cap xs
/-- What a region keeps: all but the matrix's own block; there only 'saturated' may turn. -/
def SX (w0 : World) (gx : Nat) (n : Int) (A : Option Addr) (L cap : Nat) (e : Bool) (W : World) : Prop :=
  w0.grownBy W (some gx) ∧ ∃ s, Blk W gx 173 #[.int .i64 n, .slice A L cap, .bool s, .bool e]
section
variable {B gx cap gm : Nat} {n : Int} {A : Option Addr} {e : Bool} {xs : List Int} {W W' w0 : World}
theorem MX.base (h : MX B gx n A cap e xs W) : B ≤ gx := h.1
theorem MX.sx (h : MX B gx n A cap e xs W) : SX W gx n A xs.length cap e W := ⟨World.grownBy.refl _ _, h.2.2.1⟩
theorem MX.go (h : MX B gx n A cap e xs w0) (hs : SX w0 gx n A xs.length cap e W) : MX B gx n A cap e xs W := by
  refine ⟨h.1, h.2.1, hs.2, h.2.2.2.grown hs.1 ?_⟩
  rcases h.2.2.2.form with ⟨rfl, _⟩ | ⟨g, rfl, _⟩
  · exact .inl rfl
  · refine .inr fun e => h.2.1 g rfl ?_
    simpa [Value.ownBlock] using e
theorem SX.up {L : Nat} (h : SX w0 gx n A L cap e W) (hb : Below W.heap.size W W') : SX w0 gx n A L cap e W' :=
  ⟨h.1.trans (grown_of_below hb _), h.2.imp fun _ hk => hk.later hb⟩
theorem SX.drew {L : Nat} (h : SX w0 gx n A L cap e W) : SX w0 gx n A L cap e W.drew := h.up (Below.refl _ _).drew
theorem MX.up (h : MX B gx n A cap e xs W) (hb : Below W.heap.size W W') : MX B gx n A cap e xs W' := h.go (h.sx.up hb)
theorem SX.bel {L : Nat} (h : SX w0 gx n A L cap e W) (hB : B ≤ gx) (hB' : B ≤ w0.heap.size) : Below B w0 W := below_grown h.1 (fun k hk => by injection hk with hk; omega) hB'
theorem MX.some (h : MX B gx n A cap e xs W) (hl : 0 < xs.length) : ∃ gm, A = .some ⟨gm, 0, none⟩ ∧ B ≤ gm ∧ gm < W.heap.size ∧ gm ≠ gx := by
  rcases h.2.2.2.form with ⟨_, h0, _⟩ | ⟨g, h1, h2, h3⟩
  · rw [h0] at hl; simp at hl
  · exact ⟨g, h1, h2, h3, h.2.1 g h1⟩
theorem MX.n_ (h : MX B gx n A cap e xs W) : W.cell? ⟨gx, 0, none⟩ = Option.some (.int .i64 n) := by obtain ⟨s, hk⟩ := h.2.2.1; exact hk.cell 0
theorem MX.m_ (h : MX B gx n A cap e xs W) : W.cell? ⟨gx, 1, none⟩ = Option.some (.slice A xs.length cap) := by obtain ⟨s, hk⟩ := h.2.2.1; exact hk.cell 1
theorem MX.e_ (h : MX B gx n A cap e xs W) : W.cell? ⟨gx, 3, none⟩ = Option.some (.bool e) := by obtain ⟨s, hk⟩ := h.2.2.1; exact hk.cell 3
theorem MX.c_ (h : MX B gx n (.some ⟨gm, 0, none⟩) cap e xs W) {k : Nat} (hk : k < xs.length) : W.cell? ⟨gm, k, none⟩ = Option.some (.int .i64 (gI xs k)) := by
  obtain ⟨b, off, hA, _, hc⟩ := h.2.2.2.rd k hk
  simp only [Option.some.injEq, Addr.mk.injEq] at hA
  obtain ⟨rfl, rfl, _⟩ := hA
  simpa using hc
theorem MX.f_ (h : MX B gx n (.some ⟨gm, 0, none⟩) cap e xs W) (k : Nat) : W.frozen? ⟨gm, k, none⟩ = false := h.2.2.2.frozen k
theorem MX.set (h : MX B gx n (.some ⟨gm, 0, none⟩) cap e xs W) (k : Nat) (v : Int) : MX B gx n (.some ⟨gm, 0, none⟩) cap e (xs.set k v) (W.setCell ⟨gm, k, none⟩ (.int .i64 v)) := by
  refine ⟨h.1, h.2.1, ?_, h.2.2.2.store k v⟩
  obtain ⟨s, hk⟩ := h.2.2.1
  rw [List.length_set]
  exact ⟨s, hk.far (p := ⟨gm, k, none⟩) (h.2.1 gm rfl) _⟩
theorem MX.setE (h : MX B gx n A cap e xs W) (u : Bool) : MX B gx n A cap u xs (W.setCell ⟨gx, 3, none⟩ (.bool u)) := by
  obtain ⟨s, hk⟩ := h.2.2.1
  exact ⟨h.1, h.2.1, ⟨s, hk.set_ 3 (.bool u)⟩, own_far h.2.2.2 h.2.1⟩
end

theorem idx_ok {n : Int} {N i j : Nat} (hN : (N : Int) = 2 * n) (hi : i < N) (hj : j < N) (hn : N ≤ 128) :
    0 ≤ 2 * n * (i : Int) ∧ 2 * n * (i : Int) ≤ 16384 ∧ (2 * n * (i : Int) + (j : Int)).toNat = i * N + j ∧ i * N + j < N * N ∧ 0 ≤ 2 * n * (i : Int) + (j : Int) ∧ 2 * n * (i : Int) + (j : Int) < ((N * N : Nat) : Int) := by
  rw [← hN]
  have e1 : (N : Int) * (i : Int) = ((i * N : Nat) : Int) := by rw [Int.natCast_mul, Int.mul_comm]
  have h1 : i * N + N ≤ N * N := by
    have := Nat.mul_le_mul_right N (show i + 1 ≤ N from hi)
    rw [Nat.add_mul] at this; omega
  have h2 : N * N ≤ 128 * 128 := Nat.mul_le_mul hn hn
  rw [e1]
  refine ⟨by omega, by omega, by omega, by omega, by omega, by omega⟩

set_option maxHeartbeats 1000000 in
theorem mat_at {B gx cap gm : Nat} {n : Int} {e : Bool} {xs : List Int} {W : World} (i j N : Nat) (h : MX B gx n (some ⟨gm, 0, none⟩) cap e xs W) (hN : (N : Int) = 2 * n) (hn : N ≤ 128) (hl : xs.length = N * N) (hi : i < N) (hj : j < N) :
    Calls Tryz.prog 142 #[.pointer (some ⟨gx, 0, none⟩), .int .i64 (i : Int), .int .i64 (j : Int)] W fun e' W' => e' = .returned (.pointer (some ⟨gm, i * N + j, none⟩)) ∧ Below W.heap.size W W' := by
  obtain ⟨b1, b2, b3, b4, b5, b6⟩ := idx_ok hN hi hj hn
  rw [← hl] at b6
  have fn := later h.n_
  have fm := later h.m_
  have hn0 : 0 ≤ 2 * n := by omega
  have hn1 : 2 * n ≤ 128 := by omega
  have HN := hid hN
  have HL := hid hl
  clear hN hl b4
  go_enter Tryz.func142, Tryz.ntmps142
  go_wp2
  refine wp_region_flow 15 (fun X => Below W.heap.size W X) (by kernel_rfl) (by kernel_rfl) (Below.refl _ _).drew ?_
  (repeat (first | (refine Flow.skip (by rfl) ?_; simp only [Act.put, List.setIfInBounds_toArray, List.set_cons_zero, List.set_cons_succ]) | (refine' Flow.take _ (by rfl) (fun W hW R hR => ?_) ?_; rotate_left; (go_simp; (try go_bits); with_reducible exact hR); simp only [Act.put, List.setIfInBounds_toArray, List.set_cons_zero, List.set_cons_succ])))
  intro w4 hb4
  go_wp2
  go_ret
  exact ⟨rfl, hb4⟩

set_option maxHeartbeats 1000000 in
theorem mat_sum {B gx cap : Nat} {n : Int} {A : Option Addr} {e : Bool} {xs : List Int} {W : World} (a b : Int) (h : MX B gx n A cap e xs W) :
    Calls Tryz.prog 144 #[.pointer (some ⟨gx, 0, none⟩), .int .i64 a, .int .i64 b] W fun e' W' => e' = .returned (.int .i64 (plus a b)) ∧ SX W gx n A xs.length cap e W' := by
  obtain ⟨s, hk⟩ := h.2.2.1
  have c2 := hk.cell 2
  have f2 := hk.fr 2
  have k2 := fun u => hk.set_ 2 (.bool u)
  cases s
  · go_enter Tryz.func144, Tryz.ntmps144
    go_wp2_with fail
    refine (sat_any a b _).mono ?_
    rintro e1 w1 ⟨rfl, rfl⟩
    go_wp2_with fail
    refine (plus_any a b _).mono ?_
    rintro e1 w1 ⟨rfl, rfl⟩
    go_wp2
    go_ret
    exact ⟨rfl, grown_setCell _ ⟨gx, 2, none⟩ _, _, k2 _⟩
  · go_enter Tryz.func144, Tryz.ntmps144
    go_wp2_with fail
    refine (plus_any a b _).mono ?_
    rintro e1 w1 ⟨rfl, rfl⟩
    go_wp2
    go_ret
    exact ⟨rfl, grown_setCell _ ⟨gx, 2, none⟩ _, _, k2 _⟩
end
section
open Go.RowKit
attribute [local go_sem ↓] Go.wp_at_zero Go.wp_at_succ

theorem near_of {a : Int} (h : isBound a = true) : near a = a := by
  unfold isBound at h
  rw [decide_eq_true_eq] at h
  unfold near
  rcases h with rfl | ⟨h1, h2⟩
  · rfl
  · rw [if_neg (by omega), if_neg (by omega)]
theorem isBound_near (a : Int) : isBound (near a) = true := by
  unfold isBound
  rw [decide_eq_true_eq]
  exact near_cases a
theorem isBound_plus (a b : Int) : isBound (plus a b) = true := by
  unfold plus
  split
  · decide
  · exact isBound_near _
theorem isBound_min {a b : Int} (ha : isBound a = true) (hb : isBound b = true) : isBound (min a b) = true := by
  rcases Int.le_total a b with h | h
  · rw [Int.min_eq_left h]; exact ha
  · rw [Int.min_eq_right h]; exact hb
theorem less_of {a b : Int} (ha : isBound a = true) (hb : isBound b = true) : less a b = min a b := by
  unfold less; rw [near_of ha, near_of hb]

def pStep (N k i j : Nat) (xs : List Int) : List Int := xs.set (i * N + j) (min (gI xs ((i * N + j : Nat) : Int)) (plus (gI xs ((i * N + k : Nat) : Int)) (gI xs ((k * N + j : Nat) : Int))))
def pRow (N k i : Nat) (t : Nat) (xs : List Int) : List Int := rep (fun j => pStep N k i j) t xs
def pMat (N k : Nat) (t : Nat) (xs : List Int) : List Int := rep (fun i => pRow N k i N) t xs
def paths (N : Nat) (t : Nat) (xs : List Int) : List Int := rep (fun k => pMat N k N) t xs

set_option maxHeartbeats 2000000 in
theorem paths_any {B gx cap : Nat} {n : Int} {A : Option Addr} {e : Bool} {xs : List Int} {W : World} (N : Nat) (h : MX B gx n A cap e xs W) (hN : (N : Int) = 2 * n) (hn : N ≤ 128) (hl : xs.length = N * N) (hb : AllB xs) (hB : B ≤ W.heap.size) :
    Calls Tryz.prog 105 #[.pointer (some ⟨gx, 0, none⟩)] W fun e' W' => (∃ v, e' = .returned v) ∧ MX B gx n A cap e (paths N N xs) W' ∧ AllB (paths N N xs) ∧ (paths N N xs).length = N * N ∧ Below B W W' := by
  have hn0 : 0 ≤ 2 * n := by omega
  have hn1 : 2 * n ≤ 128 := by omega
  have HN := hid hN
  have x0 := h.n_
  clear hN
  go_enter Tryz.func105, Tryz.ntmps105
  go_wp2
  clear x0
  go_loopw [11] (fun t wr => ∃ (k : Nat) (ys : List Int), k ≤ N ∧ t = .int .i64 k ∧ Hid (ys = paths N k xs) ∧ Hid (ys.length = N * N) ∧ MX B gx n A cap e ys wr ∧ AllB ys ∧ Below B W wr) (fun t _ => N - (Go.RowKit.intOf t).toNat)
  case atStart => exact ⟨0, xs, by omega, rfl, hid rfl, hid hl, h, hb, Below.refl _ _⟩
  case round =>
    clear h hl hb
    obtain ⟨k, ys, hk, rfl, hys, hl, hM, hb, hbw⟩ := hrel
    by_cases hkN : k < N
    · have t1 : (k : Int) < 2 * n := by have := HN.out; omega
      have x0 := hM.n_
      go_wp2
      clear x0
      go_loopw [19] (fun t wr => ∃ (i : Nat) (zs : List Int), i ≤ N ∧ t = .int .i64 i ∧ Hid (zs = pMat N k i ys) ∧ Hid (zs.length = N * N) ∧ MX B gx n A cap e zs wr ∧ AllB zs ∧ Below B W wr) (fun t _ => N - (Go.RowKit.intOf t).toNat)
      case atStart => exact ⟨0, ys, by omega, rfl, hid rfl, hl, hM, hb, hbw⟩
      case round =>
        clear hM hb hbw hl
        obtain ⟨i, zs, hi, rfl, hzs, hl, hM, hb, hbw⟩ := hrel
        by_cases hiN : i < N
        · have t2 : (i : Int) < 2 * n := by have := HN.out; omega
          have x0 := hM.n_
          go_wp2
          clear x0
          go_loopw [27] (fun t wr => ∃ (j : Nat) (us : List Int), j ≤ N ∧ t = .int .i64 j ∧ Hid (us = pRow N k i j zs) ∧ Hid (us.length = N * N) ∧ MX B gx n A cap e us wr ∧ AllB us ∧ Below B W wr) (fun t _ => N - (Go.RowKit.intOf t).toNat)
          case atStart => exact ⟨0, zs, by omega, rfl, hid rfl, hl, hM, hb, hbw⟩
          case round =>
            clear hM hb hbw hl
            obtain ⟨j, us, hj, rfl, hus, hl, hM, hb, hbw⟩ := hrel
            by_cases hjN : j < N
            · have t3 : (j : Int) < 2 * n := by have := HN.out; omega
              obtain ⟨_, _, _, g1, _, _⟩ := idx_ok HN.out hiN hjN hn
              obtain ⟨_, _, _, g2, _, _⟩ := idx_ok HN.out hiN hkN hn
              obtain ⟨_, _, _, g3, _, _⟩ := idx_ok HN.out hkN hjN hn
              rw [← hl.out] at g1 g2 g3
              obtain ⟨gm, rfl, hgB, hgW, hgx⟩ := hM.some (by omega)
              go_wp2_with fail
              refine (mat_at i j N hM HN.out hn hl.out hiN hjN).mono ?_
              rintro e5 w5 ⟨rfl, hb5⟩
              have hM5 := hM.up hb5
              have hbw5 : Below B W w5 := hbw.trans (hb5.mono (by have := hbw.size; omega))
              have fc : ∀ X, SX w5 gx n (some ⟨gm, 0, none⟩) us.length cap e X → X.cell? ⟨gm, i * N + j, none⟩ = some (.int .i64 (gI us ((i * N + j : Nat) : Int))) := fun X hX => (hM5.go hX).c_ g1
              have fd : ∀ X, SX w5 gx n (some ⟨gm, 0, none⟩) us.length cap e X → X.cell? ⟨gm, i * N + k, none⟩ = some (.int .i64 (gI us ((i * N + k : Nat) : Int))) := fun X hX => (hM5.go hX).c_ g2
              have fe : ∀ X, SX w5 gx n (some ⟨gm, 0, none⟩) us.length cap e X → X.cell? ⟨gm, k * N + j, none⟩ = some (.int .i64 (gI us ((k * N + j : Nat) : Int))) := fun X hX => (hM5.go hX).c_ g3
              clear hM hbw hb5
              go_wp2
              refine wp_region_flow 20 (SX w5 gx n (some ⟨gm, 0, none⟩) us.length cap e) (by kernel_rfl) (by kernel_rfl) hM5.sx.drew ?_
              (repeat (first | (refine Flow.skip (by rfl) ?_; simp only [Act.put, List.setIfInBounds_toArray, List.set_cons_zero, List.set_cons_succ]) | (refine' Flow.take _ (by rfl) (fun W hW R hR => ?_) ?_; rotate_left; (go_simp; (try go_bits); with_reducible exact hR); simp only [Act.put, List.setIfInBounds_toArray, List.set_cons_zero, List.set_cons_succ])))
              refine Flow.call 142 #[.pointer (some ⟨gx, 0, none⟩), .int .i64 (i : Int), .int .i64 (k : Int)] (.pointer (some ⟨gm, i * N + k, none⟩)) (by rfl) (fun X hX => by go_simp) (fun X hX => (mat_at i k N (hM5.go hX) HN.out hn hl.out hiN hkN).mono fun e' w' ⟨he, hb'⟩ => ⟨he, hX.up hb'⟩) ?_
              simp only [Act.put, List.setIfInBounds_toArray, List.set_cons_zero, List.set_cons_succ]
              (repeat (first | (refine Flow.skip (by rfl) ?_; simp only [Act.put, List.setIfInBounds_toArray, List.set_cons_zero, List.set_cons_succ]) | (refine' Flow.take _ (by rfl) (fun W hW R hR => ?_) ?_; rotate_left; (go_simp; (try go_bits); with_reducible exact hR); simp only [Act.put, List.setIfInBounds_toArray, List.set_cons_zero, List.set_cons_succ])))
              refine Flow.call 142 #[.pointer (some ⟨gx, 0, none⟩), .int .i64 (k : Int), .int .i64 (j : Int)] (.pointer (some ⟨gm, k * N + j, none⟩)) (by rfl) (fun X hX => by go_simp) (fun X hX => (mat_at k j N (hM5.go hX) HN.out hn hl.out hkN hjN).mono fun e' w' ⟨he, hb'⟩ => ⟨he, hX.up hb'⟩) ?_
              simp only [Act.put, List.setIfInBounds_toArray, List.set_cons_zero, List.set_cons_succ]
              (repeat (first | (refine Flow.skip (by rfl) ?_; simp only [Act.put, List.setIfInBounds_toArray, List.set_cons_zero, List.set_cons_succ]) | (refine' Flow.take _ (by rfl) (fun W hW R hR => ?_) ?_; rotate_left; (go_simp; (try go_bits); with_reducible exact hR); simp only [Act.put, List.setIfInBounds_toArray, List.set_cons_zero, List.set_cons_succ])))
              refine Flow.call 144 #[.pointer (some ⟨gx, 0, none⟩), .int .i64 (gI us ((i * N + k : Nat) : Int)), .int .i64 (gI us ((k * N + j : Nat) : Int))] (.int .i64 (plus (gI us ((i * N + k : Nat) : Int)) (gI us ((k * N + j : Nat) : Int)))) (by rfl) (fun X hX => by go_simp) (fun X hX => (mat_sum _ _ (hM5.go hX)).mono fun e' w' ⟨he, hs⟩ => ⟨he, hX.1.trans hs.1, hs.2⟩) ?_
              simp only [Act.put, List.setIfInBounds_toArray, List.set_cons_zero, List.set_cons_succ]
              refine Flow.call 143 #[.int .i64 (gI us ((i * N + j : Nat) : Int)), .int .i64 (plus (gI us ((i * N + k : Nat) : Int)) (gI us ((k * N + j : Nat) : Int)))] (.int .i64 (less (gI us ((i * N + j : Nat) : Int)) (plus (gI us ((i * N + k : Nat) : Int)) (gI us ((k * N + j : Nat) : Int))))) (by rfl) (fun X hX => by go_simp) (fun X hX => (less_any _ _ _).mono fun e' w' ⟨he, hw⟩ => ⟨he, hw ▸ hX⟩) ?_
              simp only [Act.put, List.setIfInBounds_toArray, List.set_cons_zero, List.set_cons_succ]
              (repeat (first | (refine Flow.skip (by rfl) ?_; simp only [Act.put, List.setIfInBounds_toArray, List.set_cons_zero, List.set_cons_succ]) | (refine' Flow.take _ (by rfl) (fun W hW R hR => ?_) ?_; rotate_left; (go_simp; (try go_bits); with_reducible exact hR); simp only [Act.put, List.setIfInBounds_toArray, List.set_cons_zero, List.set_cons_succ])))
              intro w6 h6
              have hM6 := hM5.go h6
              have c6 := hM6.c_ g1
              have f6 := hM6.f_ (i * N + j)
              have hlt6 := less_of (hb (i * N + j)) (isBound_plus (gI us ((i * N + k : Nat) : Int)) (gI us ((k * N + j : Nat) : Int)))
              have hM7 := hM6.set (i * N + j) (less (gI us ((i * N + j : Nat) : Int)) (plus (gI us ((i * N + k : Nat) : Int)) (gI us ((k * N + j : Nat) : Int))))
              have hb7 : AllB (us.set (i * N + j) (less (gI us ((i * N + j : Nat) : Int)) (plus (gI us ((i * N + k : Nat) : Int)) (gI us ((k * N + j : Nat) : Int))))) := hb.set (by rw [hlt6]; exact isBound_min (hb _) (isBound_plus _ _)) g1
              have hbw7 : Below B W (w6.setCell ⟨gm, i * N + j, none⟩ (.int .i64 (less (gI us ((i * N + j : Nat) : Int)) (plus (gI us ((i * N + k : Nat) : Int)) (gI us ((k * N + j : Nat) : Int)))))) := (hbw5.trans (h6.bel hM5.base (by have := hbw5.size; omega))).setCell (by simpa using hgB) _
              have hus7 : Hid (us.set (i * N + j) (less (gI us ((i * N + j : Nat) : Int)) (plus (gI us ((i * N + k : Nat) : Int)) (gI us ((k * N + j : Nat) : Int)))) = pRow N k i (j + 1) zs) := hid (by rw [hlt6]; have := hus.out; subst this; rfl)
              have HL6 := hid hlt6
              clear hlt6 fc fd fe
              go_wp2
              go_roundw
              case rel => exact ⟨j + 1, _, by omega, by go_num, hus7, hid (by rw [List.length_set]; exact hl.out), hM7, hb7, hbw7⟩
              case measure => simp [Go.RowKit.intOf]; omega
            · have t3 : ¬ (j : Int) < 2 * n := by have := HN.out; omega
              have hjN' : j = N := by omega
              subst hjN'
              go_wp2
              go_roundw
              case rel => exact ⟨i + 1, us, by omega, by go_num, hid (by rw [hus.out, hzs.out]; rfl), hl, hM, hb, hbw⟩
              case measure => simp [Go.RowKit.intOf]; omega
        · have t2 : ¬ (i : Int) < 2 * n := by have := HN.out; omega
          have hiN' : i = N := by omega
          subst hiN'
          go_wp2
          go_roundw
          case rel => exact ⟨k + 1, zs, by omega, by go_num, hid (by rw [hzs.out, hys.out]; rfl), hl, hM, hb, hbw⟩
          case measure => simp [Go.RowKit.intOf]; omega
    · have t1 : ¬ (k : Int) < 2 * n := by have := HN.out; omega
      have hkN' : k = N := by omega
      subst hkN'
      have hy := hys.out
      subst hy
      have HLL := hl
      go_wp2
      go_end0
      exact ⟨⟨_, rfl⟩, hM, HLL.out, hbw⟩
end
end Go.Proofs.YtkncebcekhfnfaaGreat
