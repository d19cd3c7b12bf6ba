/-
  close.matrix.sides, strengthens: what each makes of a matrix of bounds.
-/
import Derived.Test.YtjmmegnonlbdnaaMats
namespace Go.Proofs.Ytjmmegnonlbdnaa
open Go.RowKit
attribute [local go_sem ↓] Go.wp_at_zero Go.wp_at_succ

/-- Is the sum of a variable's two sides below 0? -/
def sideNegs (N : Nat) (xs : List Int) : Nat → Bool
  | 0 => false
  | t + 1 => decide (plus (gI xs ((t * N + nx t : Nat) : Int)) (gI xs ((nx t * N + t : Nat) : Int)) < 0) || sideNegs N xs t

set_option maxHeartbeats 2000000 in
theorem sides_any {B gx cap : Nat} {n : Int} {A : Option Addr} {e : Bool} {xs : List Int} {W : World} (N : Nat) (h : MX B gx n A cap e xs W) (hN : (N : Int) = 2 * n) (hn : N ≤ 128) (hl : xs.length = N * N) (hB : B ≤ W.heap.size) :
    Calls Try.prog 49 #[.pointer (some ⟨gx, 0, none⟩)] W fun e' W' => (∃ v, e' = .returned v) ∧ MX B gx n A cap (e || sideNegs N xs N) xs W' ∧ Below B W W' := by
  have hn0 : 0 ≤ 2 * n := by omega
  have hn1 : 2 * n ≤ 128 := by omega
  have HN := hid hN
  have HL := hid hl
  have x0 := h.n_
  clear hN hl
  go_enter Try.func49, Try.ntmps49
  go_wp2
  clear x0
  go_loopw [8] (fun t wr => ∃ (k : Nat) (u : Bool), k ≤ N ∧ t = .int .i64 k ∧ Hid (u = (e || sideNegs N xs k)) ∧ MX B gx n A cap u xs wr ∧ Below B W wr) (fun t _ => N - (intOf t).toNat)
  case atStart => exact ⟨0, e, by omega, rfl, hid (by simp [sideNegs]), h, Below.refl _ _⟩
  case round =>
    clear h
    obtain ⟨i, u, hi, rfl, hu, hM, hbw⟩ := hrel
    by_cases hiN : i < N
    · have t2 : (i : Int) < 2 * n := by have := HN.out; omega
      have hni := nx_lt HN.out hiN
      have bi := bits_nx (i := i) (by omega)
      obtain ⟨_, _, _, g1, _, _⟩ := idx_ok HN.out hiN hni hn
      obtain ⟨_, _, _, g2, _, _⟩ := idx_ok HN.out hni hiN hn
      rw [← HL.out] at g1 g2
      obtain ⟨gm, rfl, hgB, hgW, hgx⟩ := hM.some (by omega)
      have fc : ∀ X, SX wr gx n (some ⟨gm, 0, none⟩) xs.length cap u X → X.cell? ⟨gm, i * N + nx i, none⟩ = some (.int .i64 (gI xs ((i * N + nx i : Nat) : Int))) := fun X hX => (hM.go hX).c_ g1
      have fd : ∀ X, SX wr gx n (some ⟨gm, 0, none⟩) xs.length cap u X → X.cell? ⟨gm, nx i * N + i, none⟩ = some (.int .i64 (gI xs ((nx i * N + i : Nat) : Int))) := fun X hX => (hM.go hX).c_ g2
      have fe : ∀ X, SX wr gx n (some ⟨gm, 0, none⟩) xs.length cap u X → X.cell? ⟨gx, 3, none⟩ = some (.bool u) := fun X hX => (hM.go hX).e_
      obtain ⟨v, hv⟩ : ∃ v, v = plus (gI xs ((i * N + nx i : Nat) : Int)) (gI xs ((nx i * N + i : Nat) : Int)) := ⟨_, rfl⟩
      have HV := hid hv
      clear hv
      cases hd : decide (v < 0)
      all_goals
        go_wp2
        refine wp_region_flow 25 (SX wr gx n (some ⟨gm, 0, none⟩) xs.length cap u) (by kernel_rfl) (by kernel_rfl) hM.sx.drew ?_
        (repeat (first | (refine Flow.skip (by rfl) ?_; simp only [Act.put, List.setIfInBounds_toArray, List.set_cons_zero, List.set_cons_succ]) | (refine' Flow.take _ (by rfl) (fun W hW R hR => ?_) ?_; rotate_left; (go_simp; (try go_bits); with_reducible exact hR); simp only [Act.put, List.setIfInBounds_toArray, List.set_cons_zero, List.set_cons_succ])))
        refine Flow.call 72 #[.pointer (some ⟨gx, 0, none⟩), .int .i64 (i : Int), .int .i64 ((nx i : Nat) : Int)] (.pointer (some ⟨gm, i * N + nx i, none⟩)) (by rfl) (fun X hX => by go_simp) (fun X hX => (mat_at i (nx i) N (hM.go hX) HN.out hn HL.out hiN hni).mono fun e' w' ⟨he, hb'⟩ => ⟨he, hX.up hb'⟩) ?_
        simp only [Act.put, List.setIfInBounds_toArray, List.set_cons_zero, List.set_cons_succ]
        (repeat (first | (refine Flow.skip (by rfl) ?_; simp only [Act.put, List.setIfInBounds_toArray, List.set_cons_zero, List.set_cons_succ]) | (refine' Flow.take _ (by rfl) (fun W hW R hR => ?_) ?_; rotate_left; (go_simp; (try go_bits); with_reducible exact hR); simp only [Act.put, List.setIfInBounds_toArray, List.set_cons_zero, List.set_cons_succ])))
        refine Flow.call 72 #[.pointer (some ⟨gx, 0, none⟩), .int .i64 ((nx i : Nat) : Int), .int .i64 (i : Int)] (.pointer (some ⟨gm, nx i * N + i, none⟩)) (by rfl) (fun X hX => by go_simp) (fun X hX => (mat_at (nx i) i N (hM.go hX) HN.out hn HL.out hni hiN).mono fun e' w' ⟨he, hb'⟩ => ⟨he, hX.up hb'⟩) ?_
        simp only [Act.put, List.setIfInBounds_toArray, List.set_cons_zero, List.set_cons_succ]
        (repeat (first | (refine Flow.skip (by rfl) ?_; simp only [Act.put, List.setIfInBounds_toArray, List.set_cons_zero, List.set_cons_succ]) | (refine' Flow.take _ (by rfl) (fun W hW R hR => ?_) ?_; rotate_left; (go_simp; (try go_bits); with_reducible exact hR); simp only [Act.put, List.setIfInBounds_toArray, List.set_cons_zero, List.set_cons_succ])))
        refine Flow.call 74 #[.pointer (some ⟨gx, 0, none⟩), .int .i64 (gI xs ((i * N + nx i : Nat) : Int)), .int .i64 (gI xs ((nx i * N + i : Nat) : Int))] (.int .i64 v) (by rfl) (fun X hX => by go_simp) (fun X hX => (mat_sum _ _ (hM.go hX)).mono fun e' w' ⟨he, hs⟩ => ⟨he.trans (by rw [HV.out]), hX.1.trans hs.1, hs.2⟩) ?_
        simp only [Act.put, List.setIfInBounds_toArray, List.set_cons_zero, List.set_cons_succ]
        (repeat (first | (refine Flow.skip (by rfl) ?_; simp only [Act.put, List.setIfInBounds_toArray, List.set_cons_zero, List.set_cons_succ]) | (refine' Flow.take _ (by rfl) (fun W hW R hR => ?_) ?_; rotate_left; (go_simp; (try go_bits); with_reducible exact hR); simp only [Act.put, List.setIfInBounds_toArray, List.set_cons_zero, List.set_cons_succ])))
        intro w6 h6
        have hM6 := hM.go h6
        have x3 := hM6.e_
        obtain ⟨s, hk⟩ := hM6.2.2.1
        have f3 := hk.fr 3
        have hbw6 := hbw.trans (h6.bel hM.base (by have := hbw.size; omega))
        clear hk fc fd fe bi
      · have hM9 := hM6.setE u
        have hbw9 := hbw6.setCell (p := ⟨gx, 3, none⟩) (by simpa using hM.base) (.bool u)
        have hu9 : Hid (u = (e || sideNegs N xs (i + 1))) := hid (by have := hu.out; unfold sideNegs; rw [← HV.out, hd, Bool.false_or]; exact this)
        go_wp2
        go_roundw
        case rel => exact ⟨i + 1, u, by omega, by go_num, hu9, hM9, hbw9⟩
        case measure => simp [intOf]; omega
      · have hM9 := hM6.setE true
        have hbw9 := hbw6.setCell (p := ⟨gx, 3, none⟩) (by simpa using hM.base) (.bool true)
        have hu9 : Hid (true = (e || sideNegs N xs (i + 1))) := hid (by unfold sideNegs; rw [← HV.out, hd]; simp)
        go_wp2
        go_roundw
        case rel => exact ⟨i + 1, true, by omega, by go_num, hu9, hM9, hbw9⟩
        case measure => simp [intOf]; omega
    · have t2 : ¬ (i : Int) < 2 * n := by have := HN.out; omega
      have hiN' : i = N := by omega
      subst hiN'
      have hy := hu.out
      subst hy
      go_wp2
      go_end0
      exact ⟨⟨_, rfl⟩, hM, hbw⟩

def sStep (N i j : Nat) (xs : List Int) : List Int :=
  if i = j then xs else xs.set (i * N + j) (min (gI xs ((i * N + j : Nat) : Int)) (half (plus (gI xs ((i * N + nx i : Nat) : Int)) (gI xs ((nx j * N + j : Nat) : Int)))))
def sRow (N i : Nat) (t : Nat) (xs : List Int) : List Int := rep (fun j => sStep N i j) t xs
def strengthens (N : Nat) (t : Nat) (xs : List Int) : List Int := rep (fun i => sRow N i N) t xs

set_option maxHeartbeats 2000000 in
theorem strengthens_any {B gx cap : Nat} {n : Int} {A : Option Addr} {e : Bool} {xs : List Int} {W : World} (N : Nat) (h : MX B gx n A cap e xs W) (hN : (N : Int) = 2 * n) (hn : N ≤ 128) (hl : xs.length = N * N) (hb : AllB xs) (hB : B ≤ W.heap.size) :
    Calls Try.prog 50 #[.pointer (some ⟨gx, 0, none⟩)] W fun e' W' => (∃ v, e' = .returned v) ∧ MX B gx n A cap e (strengthens N N xs) W' ∧ AllB (strengthens N N xs) ∧ (strengthens N N xs).length = N * N ∧ Below B W W' := by
  have hn0 : 0 ≤ 2 * n := by omega
  have hn1 : 2 * n ≤ 128 := by omega
  have HN := hid hN
  have x0 := h.n_
  clear hN
  go_enter Try.func50, Try.ntmps50
  go_wp2
  clear x0
  go_loopw [10] (fun t wr => ∃ (k : Nat) (ys : List Int), k ≤ N ∧ t = .int .i64 k ∧ Hid (ys = strengthens N k xs) ∧ Hid (ys.length = N * N) ∧ MX B gx n A cap e ys wr ∧ AllB ys ∧ Below B W wr) (fun t _ => N - (intOf t).toNat)
  case atStart => exact ⟨0, xs, by omega, rfl, hid rfl, hid hl, h, hb, Below.refl _ _⟩
  case round =>
    clear h hl hb
    obtain ⟨i, zs, hi, rfl, hzs, hl, hM, hb, hbw⟩ := hrel
    by_cases hiN : i < N
    · have t2 : (i : Int) < 2 * n := by have := HN.out; omega
      have x0 := hM.n_
      go_wp2
      clear x0
      go_loopw [18] (fun t wr => ∃ (j : Nat) (us : List Int), j ≤ N ∧ t = .int .i64 j ∧ Hid (us = sRow N i j zs) ∧ Hid (us.length = N * N) ∧ MX B gx n A cap e us wr ∧ AllB us ∧ Below B W wr) (fun t _ => N - (intOf t).toNat)
      case atStart => exact ⟨0, zs, by omega, rfl, hid rfl, hl, hM, hb, hbw⟩
      case round =>
        clear hM hb hbw hl
        obtain ⟨j, us, hj, rfl, hus, hl, hM, hb, hbw⟩ := hrel
        by_cases hjN : j < N
        · have t3 : (j : Int) < 2 * n := by have := HN.out; omega
          by_cases hij : i = j
          · have tij : ((i : Int) != (j : Int)) = false := by rw [bne_eq_false_iff_eq]; omega
            have hus9 : Hid (us = sRow N i (j + 1) zs) := hid (by have := hus.out; rw [this]; show _ = sStep N i j (rep (fun j => sStep N i j) j zs); unfold sStep; rw [if_pos hij]; rfl)
            have HIJ := hid hij
            clear hij
            go_wp2
            go_roundw
            case rel => exact ⟨j + 1, _, by omega, by go_num, hus9, hl, hM, hb, hbw⟩
            case measure => simp [intOf]; omega
          · have tij : ((i : Int) != (j : Int)) = true := by rw [bne_iff_ne]; omega
            have HIJ := hid hij
            clear hij
            have hni := nx_lt HN.out hiN
            have hnj := nx_lt HN.out hjN
            have bi := bits_nx (i := i) (by omega)
            have bj := bits_nx (i := j) (by omega)
            obtain ⟨_, _, _, g1, _, _⟩ := idx_ok HN.out hiN hjN hn
            obtain ⟨_, _, _, g2, _, _⟩ := idx_ok HN.out hiN hni hn
            obtain ⟨_, _, _, g3, _, _⟩ := idx_ok HN.out hnj hjN hn
            rw [← hl.out] at g1 g2 g3
            obtain ⟨gm, rfl, hgB, hgW, hgx⟩ := hM.some (by omega)
            go_wp2_with fail
            refine (mat_at i j N hM HN.out hn hl.out hiN hjN).mono ?_
            rintro e5 w5 ⟨rfl, hb5⟩
            have hM5 := hM.up hb5
            have hbw5 : Below B W w5 := hbw.trans (hb5.mono (by have := hbw.size; omega))
            have fc : ∀ X, SX w5 gx n (some ⟨gm, 0, none⟩) us.length cap e X → X.cell? ⟨gm, i * N + j, none⟩ = some (.int .i64 (gI us ((i * N + j : Nat) : Int))) := fun X hX => (hM5.go hX).c_ g1
            have fd : ∀ X, SX w5 gx n (some ⟨gm, 0, none⟩) us.length cap e X → X.cell? ⟨gm, i * N + nx i, none⟩ = some (.int .i64 (gI us ((i * N + nx i : Nat) : Int))) := fun X hX => (hM5.go hX).c_ g2
            have fe : ∀ X, SX w5 gx n (some ⟨gm, 0, none⟩) us.length cap e X → X.cell? ⟨gm, nx j * N + j, none⟩ = some (.int .i64 (gI us ((nx j * N + j : Nat) : Int))) := fun X hX => (hM5.go hX).c_ g3
            clear hM hbw hb5
            go_wp2
            refine wp_region_flow 22 (SX w5 gx n (some ⟨gm, 0, none⟩) us.length cap e) (by kernel_rfl) (by kernel_rfl) hM5.sx.drew ?_
            (repeat (first | (refine Flow.skip (by rfl) ?_; simp only [Act.put, List.setIfInBounds_toArray, List.set_cons_zero, List.set_cons_succ]) | (refine' Flow.take _ (by rfl) (fun W hW R hR => ?_) ?_; rotate_left; (go_simp; (try go_bits); with_reducible exact hR); simp only [Act.put, List.setIfInBounds_toArray, List.set_cons_zero, List.set_cons_succ])))
            refine Flow.call 72 #[.pointer (some ⟨gx, 0, none⟩), .int .i64 (i : Int), .int .i64 ((nx i : Nat) : Int)] (.pointer (some ⟨gm, i * N + nx i, none⟩)) (by rfl) (fun X hX => by go_simp) (fun X hX => (mat_at i (nx i) N (hM5.go hX) HN.out hn hl.out hiN hni).mono fun e' w' ⟨he, hb'⟩ => ⟨he, hX.up hb'⟩) ?_
            simp only [Act.put, List.setIfInBounds_toArray, List.set_cons_zero, List.set_cons_succ]
            (repeat (first | (refine Flow.skip (by rfl) ?_; simp only [Act.put, List.setIfInBounds_toArray, List.set_cons_zero, List.set_cons_succ]) | (refine' Flow.take _ (by rfl) (fun W hW R hR => ?_) ?_; rotate_left; (go_simp; (try go_bits); with_reducible exact hR); simp only [Act.put, List.setIfInBounds_toArray, List.set_cons_zero, List.set_cons_succ])))
            refine Flow.call 72 #[.pointer (some ⟨gx, 0, none⟩), .int .i64 ((nx j : Nat) : Int), .int .i64 (j : Int)] (.pointer (some ⟨gm, nx j * N + j, none⟩)) (by rfl) (fun X hX => by go_simp) (fun X hX => (mat_at (nx j) j N (hM5.go hX) HN.out hn hl.out hnj hjN).mono fun e' w' ⟨he, hb'⟩ => ⟨he, hX.up hb'⟩) ?_
            simp only [Act.put, List.setIfInBounds_toArray, List.set_cons_zero, List.set_cons_succ]
            (repeat (first | (refine Flow.skip (by rfl) ?_; simp only [Act.put, List.setIfInBounds_toArray, List.set_cons_zero, List.set_cons_succ]) | (refine' Flow.take _ (by rfl) (fun W hW R hR => ?_) ?_; rotate_left; (go_simp; (try go_bits); with_reducible exact hR); simp only [Act.put, List.setIfInBounds_toArray, List.set_cons_zero, List.set_cons_succ])))
            refine Flow.call 74 #[.pointer (some ⟨gx, 0, none⟩), .int .i64 (gI us ((i * N + nx i : Nat) : Int)), .int .i64 (gI us ((nx j * N + j : Nat) : Int))] (.int .i64 (plus (gI us ((i * N + nx i : Nat) : Int)) (gI us ((nx j * N + j : Nat) : Int)))) (by rfl) (fun X hX => by go_simp) (fun X hX => (mat_sum _ _ (hM5.go hX)).mono fun e' w' ⟨he, hs⟩ => ⟨he, hX.1.trans hs.1, hs.2⟩) ?_
            simp only [Act.put, List.setIfInBounds_toArray, List.set_cons_zero, List.set_cons_succ]
            refine Flow.call 76 #[.int .i64 (plus (gI us ((i * N + nx i : Nat) : Int)) (gI us ((nx j * N + j : Nat) : Int)))] (.int .i64 (half (plus (gI us ((i * N + nx i : Nat) : Int)) (gI us ((nx j * N + j : Nat) : Int))))) (by rfl) (fun X hX => by go_simp) (fun X hX => (half_any _ _).mono fun e' w' ⟨he, hw⟩ => ⟨he, hw ▸ hX⟩) ?_
            simp only [Act.put, List.setIfInBounds_toArray, List.set_cons_zero, List.set_cons_succ]
            generalize hvh : half (plus (gI us ((i * N + nx i : Nat) : Int)) (gI us ((nx j * N + j : Nat) : Int))) = v
            have HVH := hid hvh
            clear hvh
            refine Flow.call 73 #[.int .i64 (gI us ((i * N + j : Nat) : Int)), .int .i64 v] (.int .i64 (less (gI us ((i * N + j : Nat) : Int)) v)) (by rfl) (fun X hX => by go_simp) (fun X hX => (less_any _ _ _).mono fun e' w' ⟨he, hw⟩ => ⟨he, hw ▸ hX⟩) ?_
            simp only [Act.put, List.setIfInBounds_toArray, List.set_cons_zero, List.set_cons_succ]
            (repeat (first | (refine Flow.skip (by rfl) ?_; simp only [Act.put, List.setIfInBounds_toArray, List.set_cons_zero, List.set_cons_succ]) | (refine' Flow.take _ (by rfl) (fun W hW R hR => ?_) ?_; rotate_left; (go_simp; (try go_bits); with_reducible exact hR); simp only [Act.put, List.setIfInBounds_toArray, List.set_cons_zero, List.set_cons_succ])))
            intro w6 h6
            have hM6 := hM5.go h6
            have c6 := hM6.c_ g1
            have f6 := hM6.f_ (i * N + j)
            have hvb : isBound v = true := by rw [← HVH.out]; exact isBound_half _
            have hlt6 := less_of (hb (i * N + j)) hvb
            have hM7 := hM6.set (i * N + j) (less (gI us ((i * N + j : Nat) : Int)) v)
            have hb7 : AllB (us.set (i * N + j) (less (gI us ((i * N + j : Nat) : Int)) v)) := hb.set (by rw [hlt6]; exact isBound_min (hb _) hvb) g1
            have hbw7 : Below B W (w6.setCell ⟨gm, i * N + j, none⟩ (.int .i64 (less (gI us ((i * N + j : Nat) : Int)) v))) := (hbw5.trans (h6.bel hM5.base (by have := hbw5.size; omega))).setCell (by simpa using hgB) _
            have hus7 : Hid (us.set (i * N + j) (less (gI us ((i * N + j : Nat) : Int)) v) = sRow N i (j + 1) zs) := hid (by
              rw [hlt6, ← HVH.out]
              have := hus.out
              show _ = sStep N i j (rep (fun j => sStep N i j) j zs)
              unfold sStep
              rw [if_neg HIJ.out]
              rw [this]; rfl)
            have HL6 := hid hlt6
            have HVB := hid hvb
            clear hlt6 hvb fc fd fe
            go_wp2
            go_roundw
            case rel => exact ⟨j + 1, _, by omega, by go_num, hus7, hid (by rw [List.length_set]; exact hl.out), hM7, hb7, hbw7⟩
            case measure => simp [intOf]; omega
        · have t3 : ¬ (j : Int) < 2 * n := by have := HN.out; omega
          have hjN' : j = N := by omega
          subst hjN'
          go_wp2
          go_roundw
          case rel => exact ⟨i + 1, us, by omega, by go_num, hid (by rw [hus.out, hzs.out]; rfl), hl, hM, hb, hbw⟩
          case measure => simp [intOf]; omega
    · have t2 : ¬ (i : Int) < 2 * n := by have := HN.out; omega
      have hiN' : i = N := by omega
      subst hiN'
      have hy := hzs.out
      subst hy
      have HLL := hl
      go_wp2
      go_end0
      exact ⟨⟨_, rfl⟩, hM, HLL.out, hbw⟩
end Go.Proofs.Ytjmmegnonlbdnaa
