/-
  close.matrix.paths: what it makes of a matrix of bounds.
-/
import Derived.Test.YtjmmegnonlbdnaaMat
namespace Go.Proofs.Ytjmmegnonlbdnaa
open Go.RowKit
attribute [local go_sem ↓] Go.wp_at_zero Go.wp_at_succ

theorem near_of {a : Int} (h : isBound a = true) : near a = a := by
  unfold isBound at h
  rw [decide_eq_true_eq] at h
  unfold near
  rcases h with rfl | ⟨h1, h2⟩
  · rfl
  · rw [if_neg (by omega), if_neg (by omega)]
theorem isBound_near (a : Int) : isBound (near a) = true := by
  unfold isBound
  rw [decide_eq_true_eq]
  exact near_cases a
theorem isBound_plus (a b : Int) : isBound (plus a b) = true := by
  unfold plus
  split
  · decide
  · exact isBound_near _
theorem isBound_min {a b : Int} (ha : isBound a = true) (hb : isBound b = true) : isBound (min a b) = true := by
  rcases Int.le_total a b with h | h
  · rw [Int.min_eq_left h]; exact ha
  · rw [Int.min_eq_right h]; exact hb
theorem less_of {a b : Int} (ha : isBound a = true) (hb : isBound b = true) : less a b = min a b := by
  unfold less; rw [near_of ha, near_of hb]

def pStep (N k i j : Nat) (xs : List Int) : List Int := xs.set (i * N + j) (min (gI xs ((i * N + j : Nat) : Int)) (plus (gI xs ((i * N + k : Nat) : Int)) (gI xs ((k * N + j : Nat) : Int))))
def pRow (N k i : Nat) (t : Nat) (xs : List Int) : List Int := rep (fun j => pStep N k i j) t xs
def pMat (N k : Nat) (t : Nat) (xs : List Int) : List Int := rep (fun i => pRow N k i N) t xs
def paths (N : Nat) (t : Nat) (xs : List Int) : List Int := rep (fun k => pMat N k N) t xs

set_option maxHeartbeats 2000000 in
theorem paths_any {B gx cap : Nat} {n : Int} {A : Option Addr} {e : Bool} {xs : List Int} {W : World} (N : Nat) (h : MX B gx n A cap e xs W) (hN : (N : Int) = 2 * n) (hn : N ≤ 128) (hl : xs.length = N * N) (hb : AllB xs) (hB : B ≤ W.heap.size) :
    Calls Try.prog 45 #[.pointer (some ⟨gx, 0, none⟩)] W fun e' W' => (∃ v, e' = .returned v) ∧ MX B gx n A cap e (paths N N xs) W' ∧ AllB (paths N N xs) ∧ (paths N N xs).length = N * N ∧ Below B W W' := by
  have hn0 : 0 ≤ 2 * n := by omega
  have hn1 : 2 * n ≤ 128 := by omega
  have HN := hid hN
  have x0 := h.n_
  clear hN
  go_enter Try.func45, Try.ntmps45
  go_wp2
  clear x0
  go_loopw [11] (fun t wr => ∃ (k : Nat) (ys : List Int), k ≤ N ∧ t = .int .i64 k ∧ Hid (ys = paths N k xs) ∧ Hid (ys.length = N * N) ∧ MX B gx n A cap e ys wr ∧ AllB ys ∧ Below B W wr) (fun t _ => N - (intOf t).toNat)
  case atStart => exact ⟨0, xs, by omega, rfl, hid rfl, hid hl, h, hb, Below.refl _ _⟩
  case round =>
    clear h hl hb
    obtain ⟨k, ys, hk, rfl, hys, hl, hM, hb, hbw⟩ := hrel
    by_cases hkN : k < N
    · have t1 : (k : Int) < 2 * n := by have := HN.out; omega
      have x0 := hM.n_
      go_wp2
      clear x0
      go_loopw [19] (fun t wr => ∃ (i : Nat) (zs : List Int), i ≤ N ∧ t = .int .i64 i ∧ Hid (zs = pMat N k i ys) ∧ Hid (zs.length = N * N) ∧ MX B gx n A cap e zs wr ∧ AllB zs ∧ Below B W wr) (fun t _ => N - (intOf t).toNat)
      case atStart => exact ⟨0, ys, by omega, rfl, hid rfl, hl, hM, hb, hbw⟩
      case round =>
        clear hM hb hbw hl
        obtain ⟨i, zs, hi, rfl, hzs, hl, hM, hb, hbw⟩ := hrel
        by_cases hiN : i < N
        · have t2 : (i : Int) < 2 * n := by have := HN.out; omega
          have x0 := hM.n_
          go_wp2
          clear x0
          go_loopw [27] (fun t wr => ∃ (j : Nat) (us : List Int), j ≤ N ∧ t = .int .i64 j ∧ Hid (us = pRow N k i j zs) ∧ Hid (us.length = N * N) ∧ MX B gx n A cap e us wr ∧ AllB us ∧ Below B W wr) (fun t _ => N - (intOf t).toNat)
          case atStart => exact ⟨0, zs, by omega, rfl, hid rfl, hl, hM, hb, hbw⟩
          case round =>
            clear hM hb hbw hl
            obtain ⟨j, us, hj, rfl, hus, hl, hM, hb, hbw⟩ := hrel
            by_cases hjN : j < N
            · have t3 : (j : Int) < 2 * n := by have := HN.out; omega
              obtain ⟨_, _, _, g1, _, _⟩ := idx_ok HN.out hiN hjN hn
              obtain ⟨_, _, _, g2, _, _⟩ := idx_ok HN.out hiN hkN hn
              obtain ⟨_, _, _, g3, _, _⟩ := idx_ok HN.out hkN hjN hn
              rw [← hl.out] at g1 g2 g3
              obtain ⟨gm, rfl, hgB, hgW, hgx⟩ := hM.some (by omega)
              go_wp2_with fail
              refine (mat_at i j N hM HN.out hn hl.out hiN hjN).mono ?_
              rintro e5 w5 ⟨rfl, hb5⟩
              have hM5 := hM.up hb5
              have hbw5 : Below B W w5 := hbw.trans (hb5.mono (by have := hbw.size; omega))
              have fc : ∀ X, SX w5 gx n (some ⟨gm, 0, none⟩) us.length cap e X → X.cell? ⟨gm, i * N + j, none⟩ = some (.int .i64 (gI us ((i * N + j : Nat) : Int))) := fun X hX => (hM5.go hX).c_ g1
              have fd : ∀ X, SX w5 gx n (some ⟨gm, 0, none⟩) us.length cap e X → X.cell? ⟨gm, i * N + k, none⟩ = some (.int .i64 (gI us ((i * N + k : Nat) : Int))) := fun X hX => (hM5.go hX).c_ g2
              have fe : ∀ X, SX w5 gx n (some ⟨gm, 0, none⟩) us.length cap e X → X.cell? ⟨gm, k * N + j, none⟩ = some (.int .i64 (gI us ((k * N + j : Nat) : Int))) := fun X hX => (hM5.go hX).c_ g3
              clear hM hbw hb5
              go_wp2
              refine wp_region_flow 20 (SX w5 gx n (some ⟨gm, 0, none⟩) us.length cap e) (by kernel_rfl) (by kernel_rfl) hM5.sx.drew ?_
              (repeat (first | (refine Flow.skip (by rfl) ?_; simp only [Act.put, List.setIfInBounds_toArray, List.set_cons_zero, List.set_cons_succ]) | (refine' Flow.take _ (by rfl) (fun W hW R hR => ?_) ?_; rotate_left; (go_simp; (try go_bits); with_reducible exact hR); simp only [Act.put, List.setIfInBounds_toArray, List.set_cons_zero, List.set_cons_succ])))
              refine Flow.call 72 #[.pointer (some ⟨gx, 0, none⟩), .int .i64 (i : Int), .int .i64 (k : Int)] (.pointer (some ⟨gm, i * N + k, none⟩)) (by rfl) (fun X hX => by go_simp) (fun X hX => (mat_at i k N (hM5.go hX) HN.out hn hl.out hiN hkN).mono fun e' w' ⟨he, hb'⟩ => ⟨he, hX.up hb'⟩) ?_
              simp only [Act.put, List.setIfInBounds_toArray, List.set_cons_zero, List.set_cons_succ]
              (repeat (first | (refine Flow.skip (by rfl) ?_; simp only [Act.put, List.setIfInBounds_toArray, List.set_cons_zero, List.set_cons_succ]) | (refine' Flow.take _ (by rfl) (fun W hW R hR => ?_) ?_; rotate_left; (go_simp; (try go_bits); with_reducible exact hR); simp only [Act.put, List.setIfInBounds_toArray, List.set_cons_zero, List.set_cons_succ])))
              refine Flow.call 72 #[.pointer (some ⟨gx, 0, none⟩), .int .i64 (k : Int), .int .i64 (j : Int)] (.pointer (some ⟨gm, k * N + j, none⟩)) (by rfl) (fun X hX => by go_simp) (fun X hX => (mat_at k j N (hM5.go hX) HN.out hn hl.out hkN hjN).mono fun e' w' ⟨he, hb'⟩ => ⟨he, hX.up hb'⟩) ?_
              simp only [Act.put, List.setIfInBounds_toArray, List.set_cons_zero, List.set_cons_succ]
              (repeat (first | (refine Flow.skip (by rfl) ?_; simp only [Act.put, List.setIfInBounds_toArray, List.set_cons_zero, List.set_cons_succ]) | (refine' Flow.take _ (by rfl) (fun W hW R hR => ?_) ?_; rotate_left; (go_simp; (try go_bits); with_reducible exact hR); simp only [Act.put, List.setIfInBounds_toArray, List.set_cons_zero, List.set_cons_succ])))
              refine Flow.call 74 #[.pointer (some ⟨gx, 0, none⟩), .int .i64 (gI us ((i * N + k : Nat) : Int)), .int .i64 (gI us ((k * N + j : Nat) : Int))] (.int .i64 (plus (gI us ((i * N + k : Nat) : Int)) (gI us ((k * N + j : Nat) : Int)))) (by rfl) (fun X hX => by go_simp) (fun X hX => (mat_sum _ _ (hM5.go hX)).mono fun e' w' ⟨he, hs⟩ => ⟨he, hX.1.trans hs.1, hs.2⟩) ?_
              simp only [Act.put, List.setIfInBounds_toArray, List.set_cons_zero, List.set_cons_succ]
              refine Flow.call 73 #[.int .i64 (gI us ((i * N + j : Nat) : Int)), .int .i64 (plus (gI us ((i * N + k : Nat) : Int)) (gI us ((k * N + j : Nat) : Int)))] (.int .i64 (less (gI us ((i * N + j : Nat) : Int)) (plus (gI us ((i * N + k : Nat) : Int)) (gI us ((k * N + j : Nat) : Int))))) (by rfl) (fun X hX => by go_simp) (fun X hX => (less_any _ _ _).mono fun e' w' ⟨he, hw⟩ => ⟨he, hw ▸ hX⟩) ?_
              simp only [Act.put, List.setIfInBounds_toArray, List.set_cons_zero, List.set_cons_succ]
              (repeat (first | (refine Flow.skip (by rfl) ?_; simp only [Act.put, List.setIfInBounds_toArray, List.set_cons_zero, List.set_cons_succ]) | (refine' Flow.take _ (by rfl) (fun W hW R hR => ?_) ?_; rotate_left; (go_simp; (try go_bits); with_reducible exact hR); simp only [Act.put, List.setIfInBounds_toArray, List.set_cons_zero, List.set_cons_succ])))
              intro w6 h6
              have hM6 := hM5.go h6
              have c6 := hM6.c_ g1
              have f6 := hM6.f_ (i * N + j)
              have hlt6 := less_of (hb (i * N + j)) (isBound_plus (gI us ((i * N + k : Nat) : Int)) (gI us ((k * N + j : Nat) : Int)))
              have hM7 := hM6.set (i * N + j) (less (gI us ((i * N + j : Nat) : Int)) (plus (gI us ((i * N + k : Nat) : Int)) (gI us ((k * N + j : Nat) : Int))))
              have hb7 : AllB (us.set (i * N + j) (less (gI us ((i * N + j : Nat) : Int)) (plus (gI us ((i * N + k : Nat) : Int)) (gI us ((k * N + j : Nat) : Int))))) := hb.set (by rw [hlt6]; exact isBound_min (hb _) (isBound_plus _ _)) g1
              have hbw7 : Below B W (w6.setCell ⟨gm, i * N + j, none⟩ (.int .i64 (less (gI us ((i * N + j : Nat) : Int)) (plus (gI us ((i * N + k : Nat) : Int)) (gI us ((k * N + j : Nat) : Int)))))) := (hbw5.trans (h6.bel hM5.base (by have := hbw5.size; omega))).setCell (by simpa using hgB) _
              have hus7 : Hid (us.set (i * N + j) (less (gI us ((i * N + j : Nat) : Int)) (plus (gI us ((i * N + k : Nat) : Int)) (gI us ((k * N + j : Nat) : Int)))) = pRow N k i (j + 1) zs) := hid (by rw [hlt6]; have := hus.out; subst this; rfl)
              have HL6 := hid hlt6
              clear hlt6 fc fd fe
              go_wp2
              go_roundw
              case rel => exact ⟨j + 1, _, by omega, by go_num, hus7, hid (by rw [List.length_set]; exact hl.out), hM7, hb7, hbw7⟩
              case measure => simp [intOf]; omega
            · have t3 : ¬ (j : Int) < 2 * n := by have := HN.out; omega
              have hjN' : j = N := by omega
              subst hjN'
              go_wp2
              go_roundw
              case rel => exact ⟨i + 1, us, by omega, by go_num, hid (by rw [hus.out, hzs.out]; rfl), hl, hM, hb, hbw⟩
              case measure => simp [intOf]; omega
        · have t2 : ¬ (i : Int) < 2 * n := by have := HN.out; omega
          have hiN' : i = N := by omega
          subst hiN'
          go_wp2
          go_roundw
          case rel => exact ⟨k + 1, zs, by omega, by go_num, hid (by rw [hzs.out, hys.out]; rfl), hl, hM, hb, hbw⟩
          case measure => simp [intOf]; omega
    · have t1 : ¬ (k : Int) < 2 * n := by have := HN.out; omega
      have hkN' : k = N := by omega
      subst hkN'
      have hy := hys.out
      subst hy
      have HLL := hl
      go_wp2
      go_end0
      exact ⟨⟨_, rfl⟩, hM, HLL.out, hbw⟩
end Go.Proofs.Ytjmmegnonlbdnaa
