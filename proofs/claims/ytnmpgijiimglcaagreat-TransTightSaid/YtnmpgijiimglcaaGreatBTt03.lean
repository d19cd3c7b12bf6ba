import Derived.Test.YtnmpgijiimglcaaGreatBTt02
namespace Go.Proofs.YtnmpgijiimglcaaGreat
open Go.RowKit
set_option maxRecDepth 100000
set_option maxHeartbeats 8000000
section
attribute [local go_sem ↓] Go.wp_at_zero Go.wp_at_succ
theorem zbe {a : Int} (h : zag a = true) : near a = a := by
 unfold zag at h
 rw [decide_eq_true_eq] at h
 unfold near
 rcases h with rfl | ⟨h1, h2⟩
 ·rfl
 ·rw [if_neg (by omega), if_neg (by omega)]
theorem zb5 (a : Int) : zag (near a) = true := by
 unfold zag
 rw [decide_eq_true_eq]
 exact zaO a
theorem zbi (a b : Int) : zag (plus a b) = true := by
 unfold plus
 split
 ·decide
 ·exact zb5 _
theorem zaY {a b : Int} (ha : zag a = true) (hb : zag b = true) : zag (min a b) = true := by
 rcases Int.le_total a b with h | h
 ·rw [Int.min_eq_left h]; exact ha
 ·rw [Int.min_eq_right h]; exact hb
theorem zhC {a b : Int} (ha : zag a = true) (hb : zag b = true) : less a b = min a b := by
 unfold less; rw [zbe ha, zbe hb]
def zhe (N k i j : Nat) (xs : List Int) : List Int := xs.set (i * N + j) (min (gI xs ((i * N + j : Nat) : Int)) (plus (gI xs ((i * N + k : Nat) : Int)) (gI xs ((k * N + j : Nat) : Int))))
def pRow (N k i : Nat) (t : Nat) (xs : List Int) : List Int := rep (fun j => zhe N k i j) t xs
def pMat (N k : Nat) (t : Nat) (xs : List Int) : List Int := rep (fun i => pRow N k i N) t xs
def paths (N : Nat) (t : Nat) (xs : List Int) : List Int := rep (fun k => pMat N k N) t xs
theorem zjE {B gx cap : Nat} {n : Int} {A : Option Addr} {e : Bool} {xs : List Int} {W : World} (N : Nat) (h : MX B gx n A cap e xs W) (hN : (N : Int) = 2 * n) (hn : N ≤ 128) (hl : xs.length = N * N) (hb : AllB xs) (hB : B ≤ W.heap.size) :
  Calls Tryz.prog 165 #[.pointer (some ⟨gx, 0, none⟩)] W fun e' W' => (∃ v, e' = .returned v) ∧ MX B gx n A cap e (paths N N xs) W' ∧ AllB (paths N N xs) ∧ (paths N N xs).length = N * N ∧ Below B W W' := by
 have hn0 : 0 ≤ 2 * n := by omega
 have hn1 : 2 * n ≤ 128 := by omega
 have HN := hid hN
 have x0 := h.n_
 clear hN
 go_enter Tryz.func165, Tryz.ntmps165
 go_wp2
 clear x0
 go_loopw [11] (fun t wr => ∃ (k : Nat) (ys : List Int), k ≤ N ∧ t = .int .i64 k ∧ Hid (ys = paths N k xs) ∧ Hid (ys.length = N * N) ∧ MX B gx n A cap e ys wr ∧ AllB ys ∧ Below B W wr) (fun t _ => N - (RowKit.intOf t).toNat)
 case atStart => exact ⟨0, xs, by omega, rfl, hid rfl, hid hl, h, hb, Below.refl _ _⟩
 case round =>
  clear h hl hb
  obtain ⟨k, ys, hk, rfl, hys, hl, hM, hb, a0⟩ := hrel
  by_cases hkN : k < N
  ·have t1 : (k : Int) < 2 * n := by have := HN.out; omega
   have x0 := hM.n_
   go_wp2
   clear x0
   go_loopw [19] (fun t wr => ∃ (i : Nat) (zs : List Int), i ≤ N ∧ t = .int .i64 i ∧ Hid (zs = pMat N k i ys) ∧ Hid (zs.length = N * N) ∧ MX B gx n A cap e zs wr ∧ AllB zs ∧ Below B W wr) (fun t _ => N - (RowKit.intOf t).toNat)
   case atStart => exact ⟨0, ys, by omega, rfl, hid rfl, hl, hM, hb, a0⟩
   case round =>
    clear hM hb a0 hl
    obtain ⟨i, zs, hi, rfl, hzs, hl, hM, hb, a0⟩ := hrel
    by_cases hiN : i < N
    ·have t2 : (i : Int) < 2 * n := by have := HN.out; omega
     have x0 := hM.n_
     go_wp2
     clear x0
     go_loopw [27] (fun t wr => ∃ (j : Nat) (us : List Int), j ≤ N ∧ t = .int .i64 j ∧ Hid (us = pRow N k i j zs) ∧ Hid (us.length = N * N) ∧ MX B gx n A cap e us wr ∧ AllB us ∧ Below B W wr) (fun t _ => N - (RowKit.intOf t).toNat)
     case atStart => exact ⟨0, zs, by omega, rfl, hid rfl, hl, hM, hb, a0⟩
     case round =>
      clear hM hb a0 hl
      obtain ⟨j, us, hj, rfl, hus, hl, hM, hb, a0⟩ := hrel
      by_cases hjN : j < N
      ·have t3 : (j : Int) < 2 * n := by have := HN.out; omega
       obtain ⟨_, _, _, g1, _, _⟩ := zbK HN.out hiN hjN hn
       obtain ⟨_, _, _, g2, _, _⟩ := zbK HN.out hiN hkN hn
       obtain ⟨_, _, _, g3, _, _⟩ := zbK HN.out hkN hjN hn
       rw [← hl.out] at g1 g2 g3
       obtain ⟨gm, rfl, hgB, hgW, hgx⟩ := hM.some (by omega)
       go_wp2_with fail
       refine (zcE i j N hM HN.out hn hl.out hiN hjN).mono ?_
       rintro e5 w5 ⟨rfl, a4⟩
       have hM5 := hM.up a4
       have a2 : Below B W w5 := a0.trans (a4.mono (by have := a0.size; omega))
       have fc : ∀ X, SX w5 gx n (some ⟨gm, 0, none⟩) us.length cap e X → X.cell? ⟨gm, i * N + j, none⟩ = some (.int .i64 (gI us ((i * N + j : Nat) : Int))) := fun X hX => (hM5.go hX).c_ g1
       have fd : ∀ X, SX w5 gx n (some ⟨gm, 0, none⟩) us.length cap e X → X.cell? ⟨gm, i * N + k, none⟩ = some (.int .i64 (gI us ((i * N + k : Nat) : Int))) := fun X hX => (hM5.go hX).c_ g2
       have fe : ∀ X, SX w5 gx n (some ⟨gm, 0, none⟩) us.length cap e X → X.cell? ⟨gm, k * N + j, none⟩ = some (.int .i64 (gI us ((k * N + j : Nat) : Int))) := fun X hX => (hM5.go hX).c_ g3
       clear hM a0 a4
       go_wp2
       refine zab 20 (SX w5 gx n (some ⟨gm, 0, none⟩) us.length cap e) (by kernel_rfl) (by kernel_rfl) hM5.sx.drew ?_
       refine fl_a ?_
       refine Flow.call 212 #[.pointer (some ⟨gx, 0, none⟩), (i : Int), (k : Int)] (.pointer (some ⟨gm, i * N + k, none⟩)) (by rfl) (fun X hX => by go_simp) (fun X hX => (zcE i k N (hM5.go hX) HN.out hn hl.out hiN hkN).mono fun e' w' ⟨he, hb'⟩ => ⟨he, hX.up hb'⟩) ?_
       simp only [Act.put, List.setIfInBounds_toArray, List.set_cons_zero, List.set_cons_succ]
       refine fl_a ?_
       refine Flow.call 212 #[.pointer (some ⟨gx, 0, none⟩), (k : Int), (j : Int)] (.pointer (some ⟨gm, k * N + j, none⟩)) (by rfl) (fun X hX => by go_simp) (fun X hX => (zcE k j N (hM5.go hX) HN.out hn hl.out hkN hjN).mono fun e' w' ⟨he, hb'⟩ => ⟨he, hX.up hb'⟩) ?_
       simp only [Act.put, List.setIfInBounds_toArray, List.set_cons_zero, List.set_cons_succ]
       refine fl_a ?_
       refine Flow.call 213 #[.pointer (some ⟨gx, 0, none⟩), .int .i64 (gI us ((i * N + k : Nat) : Int)), .int .i64 (gI us ((k * N + j : Nat) : Int))] (.int .i64 (plus (gI us ((i * N + k : Nat) : Int)) (gI us ((k * N + j : Nat) : Int)))) (by rfl) (fun X hX => by go_simp) (fun X hX => (zhG _ _ (hM5.go hX)).mono fun e' w' ⟨he, hs⟩ => ⟨he, hX.1.trans hs.1, hs.2⟩) ?_
       simp only [Act.put, List.setIfInBounds_toArray, List.set_cons_zero, List.set_cons_succ]
       refine Flow.call 117 #[.int .i64 (gI us ((i * N + j : Nat) : Int)), .int .i64 (plus (gI us ((i * N + k : Nat) : Int)) (gI us ((k * N + j : Nat) : Int)))] (.int .i64 (less (gI us ((i * N + j : Nat) : Int)) (plus (gI us ((i * N + k : Nat) : Int)) (gI us ((k * N + j : Nat) : Int))))) (by rfl) (fun X hX => by go_simp) (fun X hX => (zdu _ _ _).mono fun e' w' ⟨he, hw⟩ => ⟨he, hw ▸ hX⟩) ?_
       simp only [Act.put, List.setIfInBounds_toArray, List.set_cons_zero, List.set_cons_succ]
       refine fl_a ?_
       intro w6 h6
       have hM6 := hM5.go h6
       have c6 := hM6.c_ g1
       have f6 := hM6.f_ (i * N + j)
       have a1 := zhC (hb (i * N + j)) (zbi (gI us ((i * N + k : Nat) : Int)) (gI us ((k * N + j : Nat) : Int)))
       have hM7 := hM6.set (i * N + j) (less (gI us ((i * N + j : Nat) : Int)) (plus (gI us ((i * N + k : Nat) : Int)) (gI us ((k * N + j : Nat) : Int))))
       have hb7 : AllB (us.set (i * N + j) (less (gI us ((i * N + j : Nat) : Int)) (plus (gI us ((i * N + k : Nat) : Int)) (gI us ((k * N + j : Nat) : Int))))) := hb.set (by rw [a1]; exact zaY (hb _) (zbi _ _)) g1
       have a5 : Below B W (w6.setCell ⟨gm, i * N + j, none⟩ (.int .i64 (less (gI us ((i * N + j : Nat) : Int)) (plus (gI us ((i * N + k : Nat) : Int)) (gI us ((k * N + j : Nat) : Int)))))) := (a2.trans (h6.bel hM5.base (by have := a2.size; omega))).setCell (by simpa using hgB) _
       have a3 : Hid (us.set (i * N + j) (less (gI us ((i * N + j : Nat) : Int)) (plus (gI us ((i * N + k : Nat) : Int)) (gI us ((k * N + j : Nat) : Int)))) = pRow N k i (j + 1) zs) := hid (by rw [a1]; have := hus.out; subst this; rfl)
       have HL6 := hid a1
       clear a1 fc fd fe
       go_wp2
       go_roundw
       case rel => exact ⟨j + 1, _, by omega, by go_num, a3, hid (by rw [List.length_set]; exact hl.out), hM7, hb7, a5⟩
       case measure => simp [RowKit.intOf]; omega
      ·have t3 : ¬ (j : Int) < 2 * n := by have := HN.out; omega
       have hjN' : j = N := by omega
       subst hjN'
       go_wp2
       go_roundw
       case rel => exact ⟨i + 1, us, by omega, by go_num, hid (by rw [hus.out, hzs.out]; rfl), hl, hM, hb, a0⟩
       case measure => simp [RowKit.intOf]; omega
    ·have t2 : ¬ (i : Int) < 2 * n := by have := HN.out; omega
     have hiN' : i = N := by omega
     subst hiN'
     go_wp2
     go_roundw
     case rel => exact ⟨k + 1, zs, by omega, by go_num, hid (by rw [hzs.out, hys.out]; rfl), hl, hM, hb, a0⟩
     case measure => simp [RowKit.intOf]; omega
  ·have t1 : ¬ (k : Int) < 2 * n := by have := HN.out; omega
   have hkN' : k = N := by omega
   subst hkN'
   have hy := hys.out
   subst hy
   have HLL := hl
   go_wp2
   go_end0
   exact ⟨⟨_, rfl⟩, hM, HLL.out, a0⟩
end
section
attribute [local go_sem ↓] Go.wp_at_zero Go.wp_at_succ
def nx (i : Nat) : Nat := if i % 2 = 0 then i + 1 else i - 1
theorem zbT {i : Nat} (h : i ≤ 1000) : bits .xor .i64 (i : Int) 1 = ((nx i : Nat) : Int) := by
 rw [zeO (by omega) (by omega)]
 unfold xor1 nx
 split <;> split <;> omega
theorem zeI (i : Nat) : xor1 (i : Int) = ((nx i : Nat) : Int) := by
 unfold xor1 nx
 split <;> split <;> omega
theorem zfi {n : Int} {N i : Nat} (hN : (N : Int) = 2 * n) (hi : i < N) : nx i < N := by
 unfold nx; split <;> omega
def zgY (N i j : Nat) (xs : List Int) : List Int :=
 (xs.set (i * N + j) (min (gI xs ((i * N + j : Nat) : Int)) (gI xs ((nx j * N + nx i : Nat) : Int)))).set (nx j * N + nx i) (min (gI xs ((i * N + j : Nat) : Int)) (gI xs ((nx j * N + nx i : Nat) : Int)))
def mRow (N i : Nat) (t : Nat) (xs : List Int) : List Int := rep (fun j => zgY N i j) t xs
def zaB (N : Nat) (t : Nat) (xs : List Int) : List Int := rep (fun i => mRow N i N) t xs
theorem zha {B gx cap : Nat} {n : Int} {A : Option Addr} {e : Bool} {xs : List Int} {W : World} (N : Nat) (h : MX B gx n A cap e xs W) (hN : (N : Int) = 2 * n) (hn : N ≤ 128) (hl : xs.length = N * N) (hb : AllB xs) (hB : B ≤ W.heap.size) :
  Calls Tryz.prog 166 #[.pointer (some ⟨gx, 0, none⟩)] W fun e' W' => (∃ v, e' = .returned v) ∧ MX B gx n A cap e (zaB N N xs) W' ∧ AllB (zaB N N xs) ∧ (zaB N N xs).length = N * N ∧ Below B W W' := by
 have hn0 : 0 ≤ 2 * n := by omega
 have hn1 : 2 * n ≤ 128 := by omega
 have HN := hid hN
 have x0 := h.n_
 clear hN
 go_enter Tryz.func166, Tryz.ntmps166
 go_wp2
 clear x0
 go_loopw [11] (fun t wr => ∃ (k : Nat) (ys : List Int), k ≤ N ∧ t = .int .i64 k ∧ Hid (ys = zaB N k xs) ∧ Hid (ys.length = N * N) ∧ MX B gx n A cap e ys wr ∧ AllB ys ∧ Below B W wr) (fun t _ => N - (RowKit.intOf t).toNat)
 case atStart => exact ⟨0, xs, by omega, rfl, hid rfl, hid hl, h, hb, Below.refl _ _⟩
 case round =>
  clear h hl hb
  obtain ⟨i, zs, hi, rfl, hzs, hl, hM, hb, a0⟩ := hrel
  by_cases hiN : i < N
  ·have t2 : (i : Int) < 2 * n := by have := HN.out; omega
   have x0 := hM.n_
   go_wp2
   clear x0
   go_loopw [19] (fun t wr => ∃ (j : Nat) (us : List Int), j ≤ N ∧ t = .int .i64 j ∧ Hid (us = mRow N i j zs) ∧ Hid (us.length = N * N) ∧ MX B gx n A cap e us wr ∧ AllB us ∧ Below B W wr) (fun t _ => N - (RowKit.intOf t).toNat)
   case atStart => exact ⟨0, zs, by omega, rfl, hid rfl, hl, hM, hb, a0⟩
   case round =>
    clear hM hb a0 hl
    obtain ⟨j, us, hj, rfl, a4, hl, hM, hb, a0⟩ := hrel
    by_cases hjN : j < N
    ·have t3 : (j : Int) < 2 * n := by have := HN.out; omega
     have a6 := zfi HN.out hiN
     have hnj := zfi HN.out hjN
     have bi := zbT (i := i) (by omega)
     have bj := zbT (i := j) (by omega)
     obtain ⟨_, _, _, g1, _, _⟩ := zbK HN.out hiN hjN hn
     obtain ⟨_, _, _, g2, _, _⟩ := zbK HN.out hnj a6 hn
     rw [← hl.out] at g1 g2
     obtain ⟨gm, rfl, a7, hgW, hgx⟩ := hM.some (by omega)
     go_wp2_with fail
     refine (zcE i j N hM HN.out hn hl.out hiN hjN).mono ?_
     rintro e5 w5 ⟨rfl, a2⟩
     replace hM := hM.up a2
     replace a0 : Below B W w5 := a0.trans (a2.mono (by have := a0.size; omega))
     clear a2
     go_wp2_with fail
     refine (zcE (nx j) (nx i) N hM HN.out hn hl.out hnj a6).mono ?_
     rintro e6 w6 ⟨rfl, b2⟩
     have hM5 := hM.up b2
     have a5 : Below B W w6 := a0.trans (b2.mono (by have := a0.size; omega))
     have fc : ∀ X, SX w6 gx n (some ⟨gm, 0, none⟩) us.length cap e X → X.cell? ⟨gm, i * N + j, none⟩ = some (.int .i64 (gI us ((i * N + j : Nat) : Int))) := fun X hX => (hM5.go hX).c_ g1
     have fd : ∀ X, SX w6 gx n (some ⟨gm, 0, none⟩) us.length cap e X → X.cell? ⟨gm, nx j * N + nx i, none⟩ = some (.int .i64 (gI us ((nx j * N + nx i : Nat) : Int))) := fun X hX => (hM5.go hX).c_ g2
     clear hM a0 b2 bi bj
     go_wp2
     refine zab 9 (SX w6 gx n (some ⟨gm, 0, none⟩) us.length cap e) (by kernel_rfl) (by kernel_rfl) hM5.sx.drew ?_
     refine fl_a ?_
     refine Flow.call 117 #[.int .i64 (gI us ((i * N + j : Nat) : Int)), .int .i64 (gI us ((nx j * N + nx i : Nat) : Int))] (.int .i64 (less (gI us ((i * N + j : Nat) : Int)) (gI us ((nx j * N + nx i : Nat) : Int)))) (by rfl) (fun X hX => by go_simp) (fun X hX => (zdu _ _ _).mono fun e' w' ⟨he, hw⟩ => ⟨he, hw ▸ hX⟩) ?_
     simp only [Act.put, List.setIfInBounds_toArray, List.set_cons_zero, List.set_cons_succ]
     refine fl_a ?_
     intro w7 h7
     have hM7 := hM5.go h7
     have c6 := hM7.c_ g1
     have f6 := hM7.f_ (i * N + j)
     have HV := hid (zhC (hb (i * N + j)) (hb (nx j * N + nx i)))
     have hvb : zag (less (gI us ((i * N + j : Nat) : Int)) (gI us ((nx j * N + nx i : Nat) : Int))) = true := by rw [HV.out]; exact zaY (hb _) (hb _)
     have HVB := hid hvb
     have b3 := HV.out
     clear hvb fc fd
     have hM8 := hM7.set (i * N + j) (less (gI us ((i * N + j : Nat) : Int)) (gI us ((nx j * N + nx i : Nat) : Int)))
     have a9 : Below B W (w7.setCell ⟨gm, i * N + j, none⟩ (.int .i64 (less (gI us ((i * N + j : Nat) : Int)) (gI us ((nx j * N + nx i : Nat) : Int))))) := (a5.trans (h7.bel hM5.base (by have := a5.size; omega))).setCell (by simpa using a7) _
     have HLV : Hid (less (gI us ((i * N + j : Nat) : Int)) (gI us ((nx j * N + nx i : Nat) : Int)) = min (gI us ((i * N + j : Nat) : Int)) (gI us ((nx j * N + nx i : Nat) : Int))) := HV
     clear b3
     generalize less (gI us ((i * N + j : Nat) : Int)) (gI us ((nx j * N + nx i : Nat) : Int)) = v at *
     have c8 := hM8.c_ (k := i * N + j) (by rw [List.length_set]; exact g1)
     rw [zic us (i * N + j) v (i * N + j) g1, if_pos rfl] at c8
     have f8 := hM8.f_ (nx j * N + nx i)
     have d8 := hM8.c_ (k := nx j * N + nx i) (by rw [List.length_set]; exact g2)
     have hM9 := hM8.set (nx j * N + nx i) v
     have b1 : AllB ((us.set (i * N + j) v).set (nx j * N + nx i) v) := (hb.set HVB.out g1).set HVB.out (by rw [List.length_set]; exact g2)
     have a1 := a9.setCell (p := ⟨gm, nx j * N + nx i, none⟩) (by simpa using a7) (.int .i64 v)
     have a3 : Hid ((us.set (i * N + j) v).set (nx j * N + nx i) v = mRow N i (j + 1) zs) := hid (by rw [HLV.out]; have := a4.out; subst this; rfl)
     go_wp2
     go_roundw
     case rel => exact ⟨j + 1, _, by omega, by go_num, a3, hid (by rw [List.length_set, List.length_set]; exact hl.out), hM9, b1, a1⟩
     case measure => simp [RowKit.intOf]; omega
    ·have t3 : ¬ (j : Int) < 2 * n := by have := HN.out; omega
     have hjN' : j = N := by omega
     subst hjN'
     go_wp2
     go_roundw
     case rel => exact ⟨i + 1, us, by omega, by go_num, hid (by rw [a4.out, hzs.out]; rfl), hl, hM, hb, a0⟩
     case measure => simp [RowKit.intOf]; omega
  ·have t2 : ¬ (i : Int) < 2 * n := by have := HN.out; omega
   have hiN' : i = N := by omega
   subst hiN'
   have hy := hzs.out
   subst hy
   have b0 := hl
   go_wp2
   go_end0
   exact ⟨⟨_, rfl⟩, hM, b0.out, a0⟩
def negs (N : Nat) (xs : List Int) : Nat → Bool
 | 0 => false
 | t + 1 => negs N xs t || decide (gI xs ((t * N + t : Nat) : Int) < 0)
theorem zjG {B gx cap : Nat} {n : Int} {A : Option Addr} {e : Bool} {xs : List Int} {W : World} (N : Nat) (h : MX B gx n A cap e xs W) (hN : (N : Int) = 2 * n) (hn : N ≤ 128) (hl : xs.length = N * N) (hB : B ≤ W.heap.size) :
  Calls Tryz.prog 167 #[.pointer (some ⟨gx, 0, none⟩)] W fun e' W' => (∃ v, e' = .returned v) ∧ MX B gx n A cap (e || negs N xs N) xs W' ∧ Below B W W' := by
 have hn0 : 0 ≤ 2 * n := by omega
 have hn1 : 2 * n ≤ 128 := by omega
 have HN := hid hN
 have HL := hid hl
 have x0 := h.n_
 clear hN hl
 go_enter Tryz.func167, Tryz.ntmps167
 go_wp2
 clear x0
 go_loopw [8] (fun t wr => ∃ (k : Nat) (u : Bool), k ≤ N ∧ t = .int .i64 k ∧ Hid (u = (e || negs N xs k)) ∧ MX B gx n A cap u xs wr ∧ Below B W wr) (fun t _ => N - (RowKit.intOf t).toNat)
 case atStart => exact ⟨0, e, by omega, rfl, hid (by simp [negs]), h, Below.refl _ _⟩
 case round =>
  clear h
  obtain ⟨i, u, hi, rfl, hu, hM, a0⟩ := hrel
  by_cases hiN : i < N
  ·have t2 : (i : Int) < 2 * n := by have := HN.out; omega
   have x3 := hM.e_
   obtain ⟨s, hk⟩ := hM.2.2.1
   have f3 := hk.fr 3
   cases u with
   | true =>
    have hM9 := hM.setE true
    have a1 := a0.setCell (p := ⟨gx, 3, none⟩) (by simpa using hM.base) (.bool true)
    have a8 : Hid (true = (e || negs N xs (i + 1))) := hid (by have := hu.out; unfold negs; rw [← Bool.or_assoc, ← this]; rfl)
    clear hk
    go_wp2
    go_roundw
    case rel => exact ⟨i + 1, true, by omega, by go_num, a8, hM9, a1⟩
    case measure => simp [RowKit.intOf]; omega
   | false =>
    obtain ⟨_, _, _, g1, _, _⟩ := zbK HN.out hiN hiN hn
    rw [← HL.out] at g1
    obtain ⟨gm, rfl, a7, hgW, hgx⟩ := hM.some (by omega)
    clear hk
    go_wp2_with fail
    refine (zcE i i N hM HN.out hn HL.out hiN hiN).mono ?_
    rintro e5 w5 ⟨rfl, a2⟩
    replace hM := hM.up a2
    replace a0 : Below B W w5 := a0.trans (a2.mono (by have := a0.size; omega))
    clear a2 x3 f3
    have c5 := hM.c_ g1
    obtain ⟨s, hk⟩ := hM.2.2.1
    have f3 := hk.fr 3
    have x3 := hk.cell 3
    clear hk
    have hM9 := hM.setE (decide (gI xs ((i * N + i : Nat) : Int) < 0))
    have a1 := a0.setCell (p := ⟨gx, 3, none⟩) (by simpa using hM.base) (.bool (decide (gI xs ((i * N + i : Nat) : Int) < 0)))
    have a8 : Hid (decide (gI xs ((i * N + i : Nat) : Int) < 0) = (e || negs N xs (i + 1))) := hid (by have := hu.out; unfold negs; rw [← Bool.or_assoc, ← this]; rfl)
    go_wp2
    go_roundw
    case rel => exact ⟨i + 1, _, by omega, by go_num, a8, hM9, a1⟩
    case measure => simp [RowKit.intOf]; omega
  ·have t2 : ¬ (i : Int) < 2 * n := by have := HN.out; omega
   have hiN' : i = N := by omega
   subst hiN'
   have hy := hu.out
   subst hy
   go_wp2
   go_end0
   exact ⟨⟨_, rfl⟩, hM, a0⟩
def zdm (N i : Nat) (xs : List Int) : List Int := xs.set (i * N + nx i) (even (gI xs ((i * N + nx i : Nat) : Int)))
def zaU (N : Nat) (t : Nat) (xs : List Int) : List Int := rep (fun i => zdm N i) t xs
theorem zd6 (a : Int) : zag (even a) = true := by
 have h := zaO a
 unfold even zag
 rw [decide_eq_true_eq]
 split <;> omega
theorem za6 (a : Int) : zag (half a) = true := by
 have h := zaO a
 unfold half zag
 rw [decide_eq_true_eq]
 split <;> omega
theorem zk9 {B gx cap : Nat} {n : Int} {A : Option Addr} {e : Bool} {xs : List Int} {W : World} (N : Nat) (h : MX B gx n A cap e xs W) (hN : (N : Int) = 2 * n) (hn : N ≤ 128) (hl : xs.length = N * N) (hb : AllB xs) (hB : B ≤ W.heap.size) :
  Calls Tryz.prog 168 #[.pointer (some ⟨gx, 0, none⟩)] W fun e' W' => (∃ v, e' = .returned v) ∧ MX B gx n A cap e (zaU N N xs) W' ∧ AllB (zaU N N xs) ∧ (zaU N N xs).length = N * N ∧ Below B W W' := by
 have hn0 : 0 ≤ 2 * n := by omega
 have hn1 : 2 * n ≤ 128 := by omega
 have HN := hid hN
 have x0 := h.n_
 clear hN
 go_enter Tryz.func168, Tryz.ntmps168
 go_wp2
 clear x0
 go_loopw [9] (fun t wr => ∃ (k : Nat) (ys : List Int), k ≤ N ∧ t = .int .i64 k ∧ Hid (ys = zaU N k xs) ∧ Hid (ys.length = N * N) ∧ MX B gx n A cap e ys wr ∧ AllB ys ∧ Below B W wr) (fun t _ => N - (RowKit.intOf t).toNat)
 case atStart => exact ⟨0, xs, by omega, rfl, hid rfl, hid hl, h, hb, Below.refl _ _⟩
 case round =>
  clear h hl hb
  obtain ⟨i, us, hi, rfl, a4, hl, hM, hb, a0⟩ := hrel
  by_cases hiN : i < N
  ·have t2 : (i : Int) < 2 * n := by have := HN.out; omega
   have a6 := zfi HN.out hiN
   have bi := zbT (i := i) (by omega)
   obtain ⟨_, _, _, g1, _, _⟩ := zbK HN.out hiN a6 hn
   rw [← hl.out] at g1
   obtain ⟨gm, rfl, a7, hgW, hgx⟩ := hM.some (by omega)
   go_wp2_with fail
   refine (zcE i (nx i) N hM HN.out hn hl.out hiN a6).mono ?_
   rintro e5 w5 ⟨rfl, a2⟩
   replace hM := hM.up a2
   replace a0 : Below B W w5 := a0.trans (a2.mono (by have := a0.size; omega))
   clear a2
   have c5 := hM.c_ g1
   have f5 := hM.f_ (i * N + nx i)
   go_wp2_with fail
   refine (zlW _ _).mono ?_
   rintro e6 w6 ⟨rfl, rfl⟩
   have hM9 := hM.set (i * N + nx i) (even (gI us ((i * N + nx i : Nat) : Int)))
   have b1 : AllB (us.set (i * N + nx i) (even (gI us ((i * N + nx i : Nat) : Int)))) := hb.set (zd6 _) g1
   have a1 := a0.setCell (p := ⟨gm, i * N + nx i, none⟩) (by simpa using a7) (.int .i64 (even (gI us ((i * N + nx i : Nat) : Int))))
   have a3 : Hid (us.set (i * N + nx i) (even (gI us ((i * N + nx i : Nat) : Int))) = zaU N (i + 1) xs) := hid (by have := a4.out; subst this; rfl)
   go_wp2
   go_roundw
   case rel => exact ⟨i + 1, _, by omega, by go_num, a3, hid (by rw [List.length_set]; exact hl.out), hM9, b1, a1⟩
   case measure => simp [RowKit.intOf]; omega
  ·have t2 : ¬ (i : Int) < 2 * n := by have := HN.out; omega
   have hiN' : i = N := by omega
   subst hiN'
   have hy := a4.out
   subst hy
   have b0 := hl
   go_wp2
   go_end0
   exact ⟨⟨_, rfl⟩, hM, b0.out, a0⟩
end
end Go.Proofs.YtnmpgijiimglcaaGreat
