/-
  close.matrix.mirrors, loops, evens: what each makes of a matrix of bounds.
  close.matrix.sides, strengthens: what each makes of a matrix of bounds.
-/
import Derived.Test.YtkncebcekhfnfaaGreatBWT06
namespace Go.Proofs.YtkncebcekhfnfaaGreat
open Go.RowKit
section
attribute [local go_sem ↓] Go.wp_at_zero Go.wp_at_succ

/-- The number across. -/
def nx (i : Nat) : Nat := if i % 2 = 0 then i + 1 else i - 1
theorem bits_nx {i : Nat} (h : i ≤ 1000) : bits .xor .i64 (i : Int) 1 = ((nx i : Nat) : Int) := by
  rw [bits_xor1 (by omega) (by omega)]
  unfold xor1 nx
  split <;> split <;> omega
theorem xor1_nx (i : Nat) : xor1 (i : Int) = ((nx i : Nat) : Int) := by
  unfold xor1 nx
  split <;> split <;> omega
theorem nx_lt {n : Int} {N i : Nat} (hN : (N : Int) = 2 * n) (hi : i < N) : nx i < N := by
  unfold nx; split <;> omega

def mStep (N i j : Nat) (xs : List Int) : List Int :=
  (xs.set (i * N + j) (min (gI xs ((i * N + j : Nat) : Int)) (gI xs ((nx j * N + nx i : Nat) : Int)))).set (nx j * N + nx i) (min (gI xs ((i * N + j : Nat) : Int)) (gI xs ((nx j * N + nx i : Nat) : Int)))
def mRow (N i : Nat) (t : Nat) (xs : List Int) : List Int := rep (fun j => mStep N i j) t xs
def mirrors (N : Nat) (t : Nat) (xs : List Int) : List Int := rep (fun i => mRow N i N) t xs

set_option maxHeartbeats 2000000 in
theorem mirrors_any {B gx cap : Nat} {n : Int} {A : Option Addr} {e : Bool} {xs : List Int} {W : World} (N : Nat) (h : MX B gx n A cap e xs W) (hN : (N : Int) = 2 * n) (hn : N ≤ 128) (hl : xs.length = N * N) (hb : AllB xs) (hB : B ≤ W.heap.size) :
    Calls Tryz.prog 106 #[.pointer (some ⟨gx, 0, none⟩)] W fun e' W' => (∃ v, e' = .returned v) ∧ MX B gx n A cap e (mirrors N N xs) W' ∧ AllB (mirrors N N xs) ∧ (mirrors N N xs).length = N * N ∧ Below B W W' := by
  have hn0 : 0 ≤ 2 * n := by omega
  have hn1 : 2 * n ≤ 128 := by omega
  have HN := hid hN
  have x0 := h.n_
  clear hN
  go_enter Tryz.func106, Tryz.ntmps106
  go_wp2
  clear x0
  go_loopw [11] (fun t wr => ∃ (k : Nat) (ys : List Int), k ≤ N ∧ t = .int .i64 k ∧ Hid (ys = mirrors N k xs) ∧ Hid (ys.length = N * N) ∧ MX B gx n A cap e ys wr ∧ AllB ys ∧ Below B W wr) (fun t _ => N - (Go.RowKit.intOf t).toNat)
  case atStart => exact ⟨0, xs, by omega, rfl, hid rfl, hid hl, h, hb, Below.refl _ _⟩
  case round =>
    clear h hl hb
    obtain ⟨i, zs, hi, rfl, hzs, hl, hM, hb, hbw⟩ := hrel
    by_cases hiN : i < N
    · have t2 : (i : Int) < 2 * n := by have := HN.out; omega
      have x0 := hM.n_
      go_wp2
      clear x0
      go_loopw [19] (fun t wr => ∃ (j : Nat) (us : List Int), j ≤ N ∧ t = .int .i64 j ∧ Hid (us = mRow N i j zs) ∧ Hid (us.length = N * N) ∧ MX B gx n A cap e us wr ∧ AllB us ∧ Below B W wr) (fun t _ => N - (Go.RowKit.intOf t).toNat)
      case atStart => exact ⟨0, zs, by omega, rfl, hid rfl, hl, hM, hb, hbw⟩
      case round =>
        clear hM hb hbw hl
        obtain ⟨j, us, hj, rfl, hus, hl, hM, hb, hbw⟩ := hrel
        by_cases hjN : j < N
        · have t3 : (j : Int) < 2 * n := by have := HN.out; omega
          have hni := nx_lt HN.out hiN
          have hnj := nx_lt HN.out hjN
          have bi := bits_nx (i := i) (by omega)
          have bj := bits_nx (i := j) (by omega)
          obtain ⟨_, _, _, g1, _, _⟩ := idx_ok HN.out hiN hjN hn
          obtain ⟨_, _, _, g2, _, _⟩ := idx_ok HN.out hnj hni hn
          rw [← hl.out] at g1 g2
          obtain ⟨gm, rfl, hgB, hgW, hgx⟩ := hM.some (by omega)
          go_wp2_with fail
          refine (mat_at i j N hM HN.out hn hl.out hiN hjN).mono ?_
          rintro e5 w5 ⟨rfl, hb5⟩
          replace hM := hM.up hb5
          replace hbw : Below B W w5 := hbw.trans (hb5.mono (by have := hbw.size; omega))
          clear hb5
          go_wp2_with fail
          refine (mat_at (nx j) (nx i) N hM HN.out hn hl.out hnj hni).mono ?_
          rintro e6 w6 ⟨rfl, hb6⟩
          have hM5 := hM.up hb6
          have hbw5 : Below B W w6 := hbw.trans (hb6.mono (by have := hbw.size; omega))
          have fc : ∀ X, SX w6 gx n (some ⟨gm, 0, none⟩) us.length cap e X → X.cell? ⟨gm, i * N + j, none⟩ = some (.int .i64 (gI us ((i * N + j : Nat) : Int))) := fun X hX => (hM5.go hX).c_ g1
          have fd : ∀ X, SX w6 gx n (some ⟨gm, 0, none⟩) us.length cap e X → X.cell? ⟨gm, nx j * N + nx i, none⟩ = some (.int .i64 (gI us ((nx j * N + nx i : Nat) : Int))) := fun X hX => (hM5.go hX).c_ g2
          clear hM hbw hb6 bi bj
          go_wp2
          refine wp_region_flow 9 (SX w6 gx n (some ⟨gm, 0, none⟩) us.length cap e) (by kernel_rfl) (by kernel_rfl) hM5.sx.drew ?_
          (repeat (first | (refine Flow.skip (by rfl) ?_; simp only [Act.put, List.setIfInBounds_toArray, List.set_cons_zero, List.set_cons_succ]) | (refine' Flow.take _ (by rfl) (fun W hW R hR => ?_) ?_; rotate_left; (go_simp; (try go_bits); with_reducible exact hR); simp only [Act.put, List.setIfInBounds_toArray, List.set_cons_zero, List.set_cons_succ])))
          refine Flow.call 143 #[.int .i64 (gI us ((i * N + j : Nat) : Int)), .int .i64 (gI us ((nx j * N + nx i : Nat) : Int))] (.int .i64 (less (gI us ((i * N + j : Nat) : Int)) (gI us ((nx j * N + nx i : Nat) : Int)))) (by rfl) (fun X hX => by go_simp) (fun X hX => (less_any _ _ _).mono fun e' w' ⟨he, hw⟩ => ⟨he, hw ▸ hX⟩) ?_
          simp only [Act.put, List.setIfInBounds_toArray, List.set_cons_zero, List.set_cons_succ]
          (repeat (first | (refine Flow.skip (by rfl) ?_; simp only [Act.put, List.setIfInBounds_toArray, List.set_cons_zero, List.set_cons_succ]) | (refine' Flow.take _ (by rfl) (fun W hW R hR => ?_) ?_; rotate_left; (go_simp; (try go_bits); with_reducible exact hR); simp only [Act.put, List.setIfInBounds_toArray, List.set_cons_zero, List.set_cons_succ])))
          intro w7 h7
          have hM7 := hM5.go h7
          have c6 := hM7.c_ g1
          have f6 := hM7.f_ (i * N + j)
          have HV := hid (less_of (hb (i * N + j)) (hb (nx j * N + nx i)))
          have hvb : isBound (less (gI us ((i * N + j : Nat) : Int)) (gI us ((nx j * N + nx i : Nat) : Int))) = true := by rw [HV.out]; exact isBound_min (hb _) (hb _)
          have HVB := hid hvb
          have hus' := HV.out
          clear hvb fc fd
          have hM8 := hM7.set (i * N + j) (less (gI us ((i * N + j : Nat) : Int)) (gI us ((nx j * N + nx i : Nat) : Int)))
          have hbw8 : Below B W (w7.setCell ⟨gm, i * N + j, none⟩ (.int .i64 (less (gI us ((i * N + j : Nat) : Int)) (gI us ((nx j * N + nx i : Nat) : Int))))) := (hbw5.trans (h7.bel hM5.base (by have := hbw5.size; omega))).setCell (by simpa using hgB) _
          have HLV : Hid (less (gI us ((i * N + j : Nat) : Int)) (gI us ((nx j * N + nx i : Nat) : Int)) = min (gI us ((i * N + j : Nat) : Int)) (gI us ((nx j * N + nx i : Nat) : Int))) := HV
          clear hus'
          generalize less (gI us ((i * N + j : Nat) : Int)) (gI us ((nx j * N + nx i : Nat) : Int)) = v at *
          have c8 := hM8.c_ (k := i * N + j) (by rw [List.length_set]; exact g1)
          rw [gI_put us (i * N + j) v (i * N + j) g1, if_pos rfl] at c8
          have f8 := hM8.f_ (nx j * N + nx i)
          have d8 := hM8.c_ (k := nx j * N + nx i) (by rw [List.length_set]; exact g2)
          have hM9 := hM8.set (nx j * N + nx i) v
          have hb9 : AllB ((us.set (i * N + j) v).set (nx j * N + nx i) v) := (hb.set HVB.out g1).set HVB.out (by rw [List.length_set]; exact g2)
          have hbw9 := hbw8.setCell (p := ⟨gm, nx j * N + nx i, none⟩) (by simpa using hgB) (.int .i64 v)
          have hus9 : Hid ((us.set (i * N + j) v).set (nx j * N + nx i) v = mRow N i (j + 1) zs) := hid (by rw [HLV.out]; have := hus.out; subst this; rfl)
          go_wp2
          go_roundw
          case rel => exact ⟨j + 1, _, by omega, by go_num, hus9, hid (by rw [List.length_set, List.length_set]; exact hl.out), hM9, hb9, hbw9⟩
          case measure => simp [Go.RowKit.intOf]; omega
        · have t3 : ¬ (j : Int) < 2 * n := by have := HN.out; omega
          have hjN' : j = N := by omega
          subst hjN'
          go_wp2
          go_roundw
          case rel => exact ⟨i + 1, us, by omega, by go_num, hid (by rw [hus.out, hzs.out]; rfl), hl, hM, hb, hbw⟩
          case measure => simp [Go.RowKit.intOf]; omega
    · have t2 : ¬ (i : Int) < 2 * n := by have := HN.out; omega
      have hiN' : i = N := by omega
      subst hiN'
      have hy := hzs.out
      subst hy
      have HLL := hl
      go_wp2
      go_end0
      exact ⟨⟨_, rfl⟩, hM, HLL.out, hbw⟩

/-- Is a number on the diagonal below 0? -/
def negs (N : Nat) (xs : List Int) : Nat → Bool
  | 0 => false
  | t + 1 => negs N xs t || decide (gI xs ((t * N + t : Nat) : Int) < 0)

set_option maxHeartbeats 2000000 in
theorem loops_any {B gx cap : Nat} {n : Int} {A : Option Addr} {e : Bool} {xs : List Int} {W : World} (N : Nat) (h : MX B gx n A cap e xs W) (hN : (N : Int) = 2 * n) (hn : N ≤ 128) (hl : xs.length = N * N) (hB : B ≤ W.heap.size) :
    Calls Tryz.prog 107 #[.pointer (some ⟨gx, 0, none⟩)] W fun e' W' => (∃ v, e' = .returned v) ∧ MX B gx n A cap (e || negs N xs N) xs W' ∧ Below B W W' := by
  have hn0 : 0 ≤ 2 * n := by omega
  have hn1 : 2 * n ≤ 128 := by omega
  have HN := hid hN
  have HL := hid hl
  have x0 := h.n_
  clear hN hl
  go_enter Tryz.func107, Tryz.ntmps107
  go_wp2
  clear x0
  go_loopw [8] (fun t wr => ∃ (k : Nat) (u : Bool), k ≤ N ∧ t = .int .i64 k ∧ Hid (u = (e || negs N xs k)) ∧ MX B gx n A cap u xs wr ∧ Below B W wr) (fun t _ => N - (Go.RowKit.intOf t).toNat)
  case atStart => exact ⟨0, e, by omega, rfl, hid (by simp [negs]), h, Below.refl _ _⟩
  case round =>
    clear h
    obtain ⟨i, u, hi, rfl, hu, hM, hbw⟩ := hrel
    by_cases hiN : i < N
    · have t2 : (i : Int) < 2 * n := by have := HN.out; omega
      have x3 := hM.e_
      obtain ⟨s, hk⟩ := hM.2.2.1
      have f3 := hk.fr 3
      cases u with
      | true =>
        have hM9 := hM.setE true
        have hbw9 := hbw.setCell (p := ⟨gx, 3, none⟩) (by simpa using hM.base) (.bool true)
        have hu9 : Hid (true = (e || negs N xs (i + 1))) := hid (by have := hu.out; unfold negs; rw [← Bool.or_assoc, ← this]; rfl)
        clear hk
        go_wp2
        go_roundw
        case rel => exact ⟨i + 1, true, by omega, by go_num, hu9, hM9, hbw9⟩
        case measure => simp [Go.RowKit.intOf]; omega
      | false =>
        obtain ⟨_, _, _, g1, _, _⟩ := idx_ok HN.out hiN hiN hn
        rw [← HL.out] at g1
        obtain ⟨gm, rfl, hgB, hgW, hgx⟩ := hM.some (by omega)
        clear hk
        go_wp2_with fail
        refine (mat_at i i N hM HN.out hn HL.out hiN hiN).mono ?_
        rintro e5 w5 ⟨rfl, hb5⟩
        replace hM := hM.up hb5
        replace hbw : Below B W w5 := hbw.trans (hb5.mono (by have := hbw.size; omega))
        clear hb5 x3 f3
        have c5 := hM.c_ g1
        obtain ⟨s, hk⟩ := hM.2.2.1
        have f3 := hk.fr 3
        have x3 := hk.cell 3
        clear hk
        have hM9 := hM.setE (decide (gI xs ((i * N + i : Nat) : Int) < 0))
        have hbw9 := hbw.setCell (p := ⟨gx, 3, none⟩) (by simpa using hM.base) (.bool (decide (gI xs ((i * N + i : Nat) : Int) < 0)))
        have hu9 : Hid (decide (gI xs ((i * N + i : Nat) : Int) < 0) = (e || negs N xs (i + 1))) := hid (by have := hu.out; unfold negs; rw [← Bool.or_assoc, ← this]; rfl)
        go_wp2
        go_roundw
        case rel => exact ⟨i + 1, _, by omega, by go_num, hu9, hM9, hbw9⟩
        case measure => simp [Go.RowKit.intOf]; omega
    · have t2 : ¬ (i : Int) < 2 * n := by have := HN.out; omega
      have hiN' : i = N := by omega
      subst hiN'
      have hy := hu.out
      subst hy
      go_wp2
      go_end0
      exact ⟨⟨_, rfl⟩, hM, hbw⟩

def eStep (N i : Nat) (xs : List Int) : List Int := xs.set (i * N + nx i) (even (gI xs ((i * N + nx i : Nat) : Int)))
def evens (N : Nat) (t : Nat) (xs : List Int) : List Int := rep (fun i => eStep N i) t xs
theorem isBound_even (a : Int) : isBound (even a) = true := by
  have h := near_cases a
  unfold even isBound
  rw [decide_eq_true_eq]
  split <;> omega
theorem isBound_half (a : Int) : isBound (half a) = true := by
  have h := near_cases a
  unfold half isBound
  rw [decide_eq_true_eq]
  split <;> omega

set_option maxHeartbeats 2000000 in
theorem evens_any {B gx cap : Nat} {n : Int} {A : Option Addr} {e : Bool} {xs : List Int} {W : World} (N : Nat) (h : MX B gx n A cap e xs W) (hN : (N : Int) = 2 * n) (hn : N ≤ 128) (hl : xs.length = N * N) (hb : AllB xs) (hB : B ≤ W.heap.size) :
    Calls Tryz.prog 108 #[.pointer (some ⟨gx, 0, none⟩)] W fun e' W' => (∃ v, e' = .returned v) ∧ MX B gx n A cap e (evens N N xs) W' ∧ AllB (evens N N xs) ∧ (evens N N xs).length = N * N ∧ Below B W W' := by
  have hn0 : 0 ≤ 2 * n := by omega
  have hn1 : 2 * n ≤ 128 := by omega
  have HN := hid hN
  have x0 := h.n_
  clear hN
  go_enter Tryz.func108, Tryz.ntmps108
  go_wp2
  clear x0
  go_loopw [9] (fun t wr => ∃ (k : Nat) (ys : List Int), k ≤ N ∧ t = .int .i64 k ∧ Hid (ys = evens N k xs) ∧ Hid (ys.length = N * N) ∧ MX B gx n A cap e ys wr ∧ AllB ys ∧ Below B W wr) (fun t _ => N - (Go.RowKit.intOf t).toNat)
  case atStart => exact ⟨0, xs, by omega, rfl, hid rfl, hid hl, h, hb, Below.refl _ _⟩
  case round =>
    clear h hl hb
    obtain ⟨i, us, hi, rfl, hus, hl, hM, hb, hbw⟩ := hrel
    by_cases hiN : i < N
    · have t2 : (i : Int) < 2 * n := by have := HN.out; omega
      have hni := nx_lt HN.out hiN
      have bi := bits_nx (i := i) (by omega)
      obtain ⟨_, _, _, g1, _, _⟩ := idx_ok HN.out hiN hni hn
      rw [← hl.out] at g1
      obtain ⟨gm, rfl, hgB, hgW, hgx⟩ := hM.some (by omega)
      go_wp2_with fail
      refine (mat_at i (nx i) N hM HN.out hn hl.out hiN hni).mono ?_
      rintro e5 w5 ⟨rfl, hb5⟩
      replace hM := hM.up hb5
      replace hbw : Below B W w5 := hbw.trans (hb5.mono (by have := hbw.size; omega))
      clear hb5
      have c5 := hM.c_ g1
      have f5 := hM.f_ (i * N + nx i)
      go_wp2_with fail
      refine (even_any _ _).mono ?_
      rintro e6 w6 ⟨rfl, rfl⟩
      have hM9 := hM.set (i * N + nx i) (even (gI us ((i * N + nx i : Nat) : Int)))
      have hb9 : AllB (us.set (i * N + nx i) (even (gI us ((i * N + nx i : Nat) : Int)))) := hb.set (isBound_even _) g1
      have hbw9 := hbw.setCell (p := ⟨gm, i * N + nx i, none⟩) (by simpa using hgB) (.int .i64 (even (gI us ((i * N + nx i : Nat) : Int))))
      have hus9 : Hid (us.set (i * N + nx i) (even (gI us ((i * N + nx i : Nat) : Int))) = evens N (i + 1) xs) := hid (by have := hus.out; subst this; rfl)
      go_wp2
      go_roundw
      case rel => exact ⟨i + 1, _, by omega, by go_num, hus9, hid (by rw [List.length_set]; exact hl.out), hM9, hb9, hbw9⟩
      case measure => simp [Go.RowKit.intOf]; omega
    · have t2 : ¬ (i : Int) < 2 * n := by have := HN.out; omega
      have hiN' : i = N := by omega
      subst hiN'
      have hy := hus.out
      subst hy
      have HLL := hl
      go_wp2
      go_end0
      exact ⟨⟨_, rfl⟩, hM, HLL.out, hbw⟩
end
section
attribute [local go_sem ↓] Go.wp_at_zero Go.wp_at_succ

/-- Is the sum of a variable's two sides below 0? -/
def sideNegs (N : Nat) (xs : List Int) : Nat → Bool
  | 0 => false
  | t + 1 => decide (plus (gI xs ((t * N + nx t : Nat) : Int)) (gI xs ((nx t * N + t : Nat) : Int)) < 0) || sideNegs N xs t

set_option maxHeartbeats 2000000 in
theorem sides_any {B gx cap : Nat} {n : Int} {A : Option Addr} {e : Bool} {xs : List Int} {W : World} (N : Nat) (h : MX B gx n A cap e xs W) (hN : (N : Int) = 2 * n) (hn : N ≤ 128) (hl : xs.length = N * N) (hB : B ≤ W.heap.size) :
    Calls Tryz.prog 109 #[.pointer (some ⟨gx, 0, none⟩)] W fun e' W' => (∃ v, e' = .returned v) ∧ MX B gx n A cap (e || sideNegs N xs N) xs W' ∧ Below B W W' := by
  have hn0 : 0 ≤ 2 * n := by omega
  have hn1 : 2 * n ≤ 128 := by omega
  have HN := hid hN
  have HL := hid hl
  have x0 := h.n_
  clear hN hl
  go_enter Tryz.func109, Tryz.ntmps109
  go_wp2
  clear x0
  go_loopw [8] (fun t wr => ∃ (k : Nat) (u : Bool), k ≤ N ∧ t = .int .i64 k ∧ Hid (u = (e || sideNegs N xs k)) ∧ MX B gx n A cap u xs wr ∧ Below B W wr) (fun t _ => N - (Go.RowKit.intOf t).toNat)
  case atStart => exact ⟨0, e, by omega, rfl, hid (by simp [sideNegs]), h, Below.refl _ _⟩
  case round =>
    clear h
    obtain ⟨i, u, hi, rfl, hu, hM, hbw⟩ := hrel
    by_cases hiN : i < N
    · have t2 : (i : Int) < 2 * n := by have := HN.out; omega
      have hni := nx_lt HN.out hiN
      have bi := bits_nx (i := i) (by omega)
      obtain ⟨_, _, _, g1, _, _⟩ := idx_ok HN.out hiN hni hn
      obtain ⟨_, _, _, g2, _, _⟩ := idx_ok HN.out hni hiN hn
      rw [← HL.out] at g1 g2
      obtain ⟨gm, rfl, hgB, hgW, hgx⟩ := hM.some (by omega)
      have fc : ∀ X, SX wr gx n (some ⟨gm, 0, none⟩) xs.length cap u X → X.cell? ⟨gm, i * N + nx i, none⟩ = some (.int .i64 (gI xs ((i * N + nx i : Nat) : Int))) := fun X hX => (hM.go hX).c_ g1
      have fd : ∀ X, SX wr gx n (some ⟨gm, 0, none⟩) xs.length cap u X → X.cell? ⟨gm, nx i * N + i, none⟩ = some (.int .i64 (gI xs ((nx i * N + i : Nat) : Int))) := fun X hX => (hM.go hX).c_ g2
      have fe : ∀ X, SX wr gx n (some ⟨gm, 0, none⟩) xs.length cap u X → X.cell? ⟨gx, 3, none⟩ = some (.bool u) := fun X hX => (hM.go hX).e_
      obtain ⟨v, hv⟩ : ∃ v, v = plus (gI xs ((i * N + nx i : Nat) : Int)) (gI xs ((nx i * N + i : Nat) : Int)) := ⟨_, rfl⟩
      have HV := hid hv
      clear hv
      cases hd : decide (v < 0)
      all_goals
        go_wp2
        refine wp_region_flow 25 (SX wr gx n (some ⟨gm, 0, none⟩) xs.length cap u) (by kernel_rfl) (by kernel_rfl) hM.sx.drew ?_
        (repeat (first | (refine Flow.skip (by rfl) ?_; simp only [Act.put, List.setIfInBounds_toArray, List.set_cons_zero, List.set_cons_succ]) | (refine' Flow.take _ (by rfl) (fun W hW R hR => ?_) ?_; rotate_left; (go_simp; (try go_bits); with_reducible exact hR); simp only [Act.put, List.setIfInBounds_toArray, List.set_cons_zero, List.set_cons_succ])))
        refine Flow.call 142 #[.pointer (some ⟨gx, 0, none⟩), .int .i64 (i : Int), .int .i64 ((nx i : Nat) : Int)] (.pointer (some ⟨gm, i * N + nx i, none⟩)) (by rfl) (fun X hX => by go_simp) (fun X hX => (mat_at i (nx i) N (hM.go hX) HN.out hn HL.out hiN hni).mono fun e' w' ⟨he, hb'⟩ => ⟨he, hX.up hb'⟩) ?_
        simp only [Act.put, List.setIfInBounds_toArray, List.set_cons_zero, List.set_cons_succ]
        (repeat (first | (refine Flow.skip (by rfl) ?_; simp only [Act.put, List.setIfInBounds_toArray, List.set_cons_zero, List.set_cons_succ]) | (refine' Flow.take _ (by rfl) (fun W hW R hR => ?_) ?_; rotate_left; (go_simp; (try go_bits); with_reducible exact hR); simp only [Act.put, List.setIfInBounds_toArray, List.set_cons_zero, List.set_cons_succ])))
        refine Flow.call 142 #[.pointer (some ⟨gx, 0, none⟩), .int .i64 ((nx i : Nat) : Int), .int .i64 (i : Int)] (.pointer (some ⟨gm, nx i * N + i, none⟩)) (by rfl) (fun X hX => by go_simp) (fun X hX => (mat_at (nx i) i N (hM.go hX) HN.out hn HL.out hni hiN).mono fun e' w' ⟨he, hb'⟩ => ⟨he, hX.up hb'⟩) ?_
        simp only [Act.put, List.setIfInBounds_toArray, List.set_cons_zero, List.set_cons_succ]
        (repeat (first | (refine Flow.skip (by rfl) ?_; simp only [Act.put, List.setIfInBounds_toArray, List.set_cons_zero, List.set_cons_succ]) | (refine' Flow.take _ (by rfl) (fun W hW R hR => ?_) ?_; rotate_left; (go_simp; (try go_bits); with_reducible exact hR); simp only [Act.put, List.setIfInBounds_toArray, List.set_cons_zero, List.set_cons_succ])))
        refine Flow.call 144 #[.pointer (some ⟨gx, 0, none⟩), .int .i64 (gI xs ((i * N + nx i : Nat) : Int)), .int .i64 (gI xs ((nx i * N + i : Nat) : Int))] (.int .i64 v) (by rfl) (fun X hX => by go_simp) (fun X hX => (mat_sum _ _ (hM.go hX)).mono fun e' w' ⟨he, hs⟩ => ⟨he.trans (by rw [HV.out]), hX.1.trans hs.1, hs.2⟩) ?_
        simp only [Act.put, List.setIfInBounds_toArray, List.set_cons_zero, List.set_cons_succ]
        (repeat (first | (refine Flow.skip (by rfl) ?_; simp only [Act.put, List.setIfInBounds_toArray, List.set_cons_zero, List.set_cons_succ]) | (refine' Flow.take _ (by rfl) (fun W hW R hR => ?_) ?_; rotate_left; (go_simp; (try go_bits); with_reducible exact hR); simp only [Act.put, List.setIfInBounds_toArray, List.set_cons_zero, List.set_cons_succ])))
        intro w6 h6
        have hM6 := hM.go h6
        have x3 := hM6.e_
        obtain ⟨s, hk⟩ := hM6.2.2.1
        have f3 := hk.fr 3
        have hbw6 := hbw.trans (h6.bel hM.base (by have := hbw.size; omega))
        clear hk fc fd fe bi
      · have hM9 := hM6.setE u
        have hbw9 := hbw6.setCell (p := ⟨gx, 3, none⟩) (by simpa using hM.base) (.bool u)
        have hu9 : Hid (u = (e || sideNegs N xs (i + 1))) := hid (by have := hu.out; unfold sideNegs; rw [← HV.out, hd, Bool.false_or]; exact this)
        go_wp2
        go_roundw
        case rel => exact ⟨i + 1, u, by omega, by go_num, hu9, hM9, hbw9⟩
        case measure => simp [Go.RowKit.intOf]; omega
      · have hM9 := hM6.setE true
        have hbw9 := hbw6.setCell (p := ⟨gx, 3, none⟩) (by simpa using hM.base) (.bool true)
        have hu9 : Hid (true = (e || sideNegs N xs (i + 1))) := hid (by unfold sideNegs; rw [← HV.out, hd]; simp)
        go_wp2
        go_roundw
        case rel => exact ⟨i + 1, true, by omega, by go_num, hu9, hM9, hbw9⟩
        case measure => simp [Go.RowKit.intOf]; omega
    · have t2 : ¬ (i : Int) < 2 * n := by have := HN.out; omega
      have hiN' : i = N := by omega
      subst hiN'
      have hy := hu.out
      subst hy
      go_wp2
      go_end0
      exact ⟨⟨_, rfl⟩, hM, hbw⟩

def sStep (N i j : Nat) (xs : List Int) : List Int :=
  if i = j then xs else xs.set (i * N + j) (min (gI xs ((i * N + j : Nat) : Int)) (half (plus (gI xs ((i * N + nx i : Nat) : Int)) (gI xs ((nx j * N + j : Nat) : Int)))))
def sRow (N i : Nat) (t : Nat) (xs : List Int) : List Int := rep (fun j => sStep N i j) t xs
def strengthens (N : Nat) (t : Nat) (xs : List Int) : List Int := rep (fun i => sRow N i N) t xs

set_option maxHeartbeats 2000000 in
theorem strengthens_any {B gx cap : Nat} {n : Int} {A : Option Addr} {e : Bool} {xs : List Int} {W : World} (N : Nat) (h : MX B gx n A cap e xs W) (hN : (N : Int) = 2 * n) (hn : N ≤ 128) (hl : xs.length = N * N) (hb : AllB xs) (hB : B ≤ W.heap.size) :
    Calls Tryz.prog 110 #[.pointer (some ⟨gx, 0, none⟩)] W fun e' W' => (∃ v, e' = .returned v) ∧ MX B gx n A cap e (strengthens N N xs) W' ∧ AllB (strengthens N N xs) ∧ (strengthens N N xs).length = N * N ∧ Below B W W' := by
  have hn0 : 0 ≤ 2 * n := by omega
  have hn1 : 2 * n ≤ 128 := by omega
  have HN := hid hN
  have x0 := h.n_
  clear hN
  go_enter Tryz.func110, Tryz.ntmps110
  go_wp2
  clear x0
  go_loopw [10] (fun t wr => ∃ (k : Nat) (ys : List Int), k ≤ N ∧ t = .int .i64 k ∧ Hid (ys = strengthens N k xs) ∧ Hid (ys.length = N * N) ∧ MX B gx n A cap e ys wr ∧ AllB ys ∧ Below B W wr) (fun t _ => N - (Go.RowKit.intOf t).toNat)
  case atStart => exact ⟨0, xs, by omega, rfl, hid rfl, hid hl, h, hb, Below.refl _ _⟩
  case round =>
    clear h hl hb
    obtain ⟨i, zs, hi, rfl, hzs, hl, hM, hb, hbw⟩ := hrel
    by_cases hiN : i < N
    · have t2 : (i : Int) < 2 * n := by have := HN.out; omega
      have x0 := hM.n_
      go_wp2
      clear x0
      go_loopw [18] (fun t wr => ∃ (j : Nat) (us : List Int), j ≤ N ∧ t = .int .i64 j ∧ Hid (us = sRow N i j zs) ∧ Hid (us.length = N * N) ∧ MX B gx n A cap e us wr ∧ AllB us ∧ Below B W wr) (fun t _ => N - (Go.RowKit.intOf t).toNat)
      case atStart => exact ⟨0, zs, by omega, rfl, hid rfl, hl, hM, hb, hbw⟩
      case round =>
        clear hM hb hbw hl
        obtain ⟨j, us, hj, rfl, hus, hl, hM, hb, hbw⟩ := hrel
        by_cases hjN : j < N
        · have t3 : (j : Int) < 2 * n := by have := HN.out; omega
          by_cases hij : i = j
          · have tij : ((i : Int) != (j : Int)) = false := by rw [bne_eq_false_iff_eq]; omega
            have hus9 : Hid (us = sRow N i (j + 1) zs) := hid (by have := hus.out; rw [this]; show _ = sStep N i j (rep (fun j => sStep N i j) j zs); unfold sStep; rw [if_pos hij]; rfl)
            have HIJ := hid hij
            clear hij
            go_wp2
            go_roundw
            case rel => exact ⟨j + 1, _, by omega, by go_num, hus9, hl, hM, hb, hbw⟩
            case measure => simp [Go.RowKit.intOf]; omega
          · have tij : ((i : Int) != (j : Int)) = true := by rw [bne_iff_ne]; omega
            have HIJ := hid hij
            clear hij
            have hni := nx_lt HN.out hiN
            have hnj := nx_lt HN.out hjN
            have bi := bits_nx (i := i) (by omega)
            have bj := bits_nx (i := j) (by omega)
            obtain ⟨_, _, _, g1, _, _⟩ := idx_ok HN.out hiN hjN hn
            obtain ⟨_, _, _, g2, _, _⟩ := idx_ok HN.out hiN hni hn
            obtain ⟨_, _, _, g3, _, _⟩ := idx_ok HN.out hnj hjN hn
            rw [← hl.out] at g1 g2 g3
            obtain ⟨gm, rfl, hgB, hgW, hgx⟩ := hM.some (by omega)
            go_wp2_with fail
            refine (mat_at i j N hM HN.out hn hl.out hiN hjN).mono ?_
            rintro e5 w5 ⟨rfl, hb5⟩
            have hM5 := hM.up hb5
            have hbw5 : Below B W w5 := hbw.trans (hb5.mono (by have := hbw.size; omega))
            have fc : ∀ X, SX w5 gx n (some ⟨gm, 0, none⟩) us.length cap e X → X.cell? ⟨gm, i * N + j, none⟩ = some (.int .i64 (gI us ((i * N + j : Nat) : Int))) := fun X hX => (hM5.go hX).c_ g1
            have fd : ∀ X, SX w5 gx n (some ⟨gm, 0, none⟩) us.length cap e X → X.cell? ⟨gm, i * N + nx i, none⟩ = some (.int .i64 (gI us ((i * N + nx i : Nat) : Int))) := fun X hX => (hM5.go hX).c_ g2
            have fe : ∀ X, SX w5 gx n (some ⟨gm, 0, none⟩) us.length cap e X → X.cell? ⟨gm, nx j * N + j, none⟩ = some (.int .i64 (gI us ((nx j * N + j : Nat) : Int))) := fun X hX => (hM5.go hX).c_ g3
            clear hM hbw hb5
            go_wp2
            refine wp_region_flow 22 (SX w5 gx n (some ⟨gm, 0, none⟩) us.length cap e) (by kernel_rfl) (by kernel_rfl) hM5.sx.drew ?_
            (repeat (first | (refine Flow.skip (by rfl) ?_; simp only [Act.put, List.setIfInBounds_toArray, List.set_cons_zero, List.set_cons_succ]) | (refine' Flow.take _ (by rfl) (fun W hW R hR => ?_) ?_; rotate_left; (go_simp; (try go_bits); with_reducible exact hR); simp only [Act.put, List.setIfInBounds_toArray, List.set_cons_zero, List.set_cons_succ])))
            refine Flow.call 142 #[.pointer (some ⟨gx, 0, none⟩), .int .i64 (i : Int), .int .i64 ((nx i : Nat) : Int)] (.pointer (some ⟨gm, i * N + nx i, none⟩)) (by rfl) (fun X hX => by go_simp) (fun X hX => (mat_at i (nx i) N (hM5.go hX) HN.out hn hl.out hiN hni).mono fun e' w' ⟨he, hb'⟩ => ⟨he, hX.up hb'⟩) ?_
            simp only [Act.put, List.setIfInBounds_toArray, List.set_cons_zero, List.set_cons_succ]
            (repeat (first | (refine Flow.skip (by rfl) ?_; simp only [Act.put, List.setIfInBounds_toArray, List.set_cons_zero, List.set_cons_succ]) | (refine' Flow.take _ (by rfl) (fun W hW R hR => ?_) ?_; rotate_left; (go_simp; (try go_bits); with_reducible exact hR); simp only [Act.put, List.setIfInBounds_toArray, List.set_cons_zero, List.set_cons_succ])))
            refine Flow.call 142 #[.pointer (some ⟨gx, 0, none⟩), .int .i64 ((nx j : Nat) : Int), .int .i64 (j : Int)] (.pointer (some ⟨gm, nx j * N + j, none⟩)) (by rfl) (fun X hX => by go_simp) (fun X hX => (mat_at (nx j) j N (hM5.go hX) HN.out hn hl.out hnj hjN).mono fun e' w' ⟨he, hb'⟩ => ⟨he, hX.up hb'⟩) ?_
            simp only [Act.put, List.setIfInBounds_toArray, List.set_cons_zero, List.set_cons_succ]
            (repeat (first | (refine Flow.skip (by rfl) ?_; simp only [Act.put, List.setIfInBounds_toArray, List.set_cons_zero, List.set_cons_succ]) | (refine' Flow.take _ (by rfl) (fun W hW R hR => ?_) ?_; rotate_left; (go_simp; (try go_bits); with_reducible exact hR); simp only [Act.put, List.setIfInBounds_toArray, List.set_cons_zero, List.set_cons_succ])))
            refine Flow.call 144 #[.pointer (some ⟨gx, 0, none⟩), .int .i64 (gI us ((i * N + nx i : Nat) : Int)), .int .i64 (gI us ((nx j * N + j : Nat) : Int))] (.int .i64 (plus (gI us ((i * N + nx i : Nat) : Int)) (gI us ((nx j * N + j : Nat) : Int)))) (by rfl) (fun X hX => by go_simp) (fun X hX => (mat_sum _ _ (hM5.go hX)).mono fun e' w' ⟨he, hs⟩ => ⟨he, hX.1.trans hs.1, hs.2⟩) ?_
            simp only [Act.put, List.setIfInBounds_toArray, List.set_cons_zero, List.set_cons_succ]
            refine Flow.call 146 #[.int .i64 (plus (gI us ((i * N + nx i : Nat) : Int)) (gI us ((nx j * N + j : Nat) : Int)))] (.int .i64 (half (plus (gI us ((i * N + nx i : Nat) : Int)) (gI us ((nx j * N + j : Nat) : Int))))) (by rfl) (fun X hX => by go_simp) (fun X hX => (half_any _ _).mono fun e' w' ⟨he, hw⟩ => ⟨he, hw ▸ hX⟩) ?_
            simp only [Act.put, List.setIfInBounds_toArray, List.set_cons_zero, List.set_cons_succ]
            generalize hvh : half (plus (gI us ((i * N + nx i : Nat) : Int)) (gI us ((nx j * N + j : Nat) : Int))) = v
            have HVH := hid hvh
            clear hvh
            refine Flow.call 143 #[.int .i64 (gI us ((i * N + j : Nat) : Int)), .int .i64 v] (.int .i64 (less (gI us ((i * N + j : Nat) : Int)) v)) (by rfl) (fun X hX => by go_simp) (fun X hX => (less_any _ _ _).mono fun e' w' ⟨he, hw⟩ => ⟨he, hw ▸ hX⟩) ?_
            simp only [Act.put, List.setIfInBounds_toArray, List.set_cons_zero, List.set_cons_succ]
            (repeat (first | (refine Flow.skip (by rfl) ?_; simp only [Act.put, List.setIfInBounds_toArray, List.set_cons_zero, List.set_cons_succ]) | (refine' Flow.take _ (by rfl) (fun W hW R hR => ?_) ?_; rotate_left; (go_simp; (try go_bits); with_reducible exact hR); simp only [Act.put, List.setIfInBounds_toArray, List.set_cons_zero, List.set_cons_succ])))
            intro w6 h6
            have hM6 := hM5.go h6
            have c6 := hM6.c_ g1
            have f6 := hM6.f_ (i * N + j)
            have hvb : isBound v = true := by rw [← HVH.out]; exact isBound_half _
            have hlt6 := less_of (hb (i * N + j)) hvb
            have hM7 := hM6.set (i * N + j) (less (gI us ((i * N + j : Nat) : Int)) v)
            have hb7 : AllB (us.set (i * N + j) (less (gI us ((i * N + j : Nat) : Int)) v)) := hb.set (by rw [hlt6]; exact isBound_min (hb _) hvb) g1
            have hbw7 : Below B W (w6.setCell ⟨gm, i * N + j, none⟩ (.int .i64 (less (gI us ((i * N + j : Nat) : Int)) v))) := (hbw5.trans (h6.bel hM5.base (by have := hbw5.size; omega))).setCell (by simpa using hgB) _
            have hus7 : Hid (us.set (i * N + j) (less (gI us ((i * N + j : Nat) : Int)) v) = sRow N i (j + 1) zs) := hid (by
              rw [hlt6, ← HVH.out]
              have := hus.out
              show _ = sStep N i j (rep (fun j => sStep N i j) j zs)
              unfold sStep
              rw [if_neg HIJ.out]
              rw [this]; rfl)
            have HL6 := hid hlt6
            have HVB := hid hvb
            clear hlt6 hvb fc fd fe
            go_wp2
            go_roundw
            case rel => exact ⟨j + 1, _, by omega, by go_num, hus7, hid (by rw [List.length_set]; exact hl.out), hM7, hb7, hbw7⟩
            case measure => simp [Go.RowKit.intOf]; omega
        · have t3 : ¬ (j : Int) < 2 * n := by have := HN.out; omega
          have hjN' : j = N := by omega
          subst hjN'
          go_wp2
          go_roundw
          case rel => exact ⟨i + 1, us, by omega, by go_num, hid (by rw [hus.out, hzs.out]; rfl), hl, hM, hb, hbw⟩
          case measure => simp [Go.RowKit.intOf]; omega
    · have t2 : ¬ (i : Int) < 2 * n := by have := HN.out; omega
      have hiN' : i = N := by omega
      subst hiN'
      have hy := hzs.out
      subst hy
      have HLL := hl
      go_wp2
      go_end0
      exact ⟨⟨_, rfl⟩, hM, HLL.out, hbw⟩
end
end Go.Proofs.YtkncebcekhfnfaaGreat
