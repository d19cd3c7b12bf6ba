import Derived.Test.YtnmpgijiimglcaaGreatBSe04
namespace Go.Proofs.YtnmpgijiimglcaaGreat
open Go.RowKit
set_option maxRecDepth 100000
set_option maxHeartbeats 8000000
section
attribute [local go_sem ↓] Go.wp_at_zero Go.wp_at_succ
def nx (i : Nat) : Nat := if i % 2 = 0 then i + 1 else i - 1
theorem zbH {i : Nat} (h : i ≤ 1000) : bits .xor .i64 (i : Int) 1 = ((nx i : Nat) : Int) := by
 rw [zdX (by omega) (by omega)]
 unfold xor1 nx
 split <;> split <;> omega
theorem zd0 (i : Nat) : xor1 (i : Int) = ((nx i : Nat) : Int) := by
 unfold xor1 nx
 split <;> split <;> omega
theorem zcW {n : Int} {N i : Nat} (hN : (N : Int) = 2 * n) (hi : i < N) : nx i < N := by
 unfold nx; split <;> omega
def zgG (N i j : Nat) (xs : List Int) : List Int :=
 (xs.set (i * N + j) (min (gI xs ((i * N + j : Nat) : Int)) (gI xs ((nx j * N + nx i : Nat) : Int)))).set (nx j * N + nx i) (min (gI xs ((i * N + j : Nat) : Int)) (gI xs ((nx j * N + nx i : Nat) : Int)))
def mRow (N i : Nat) (t : Nat) (xs : List Int) : List Int := rep (fun j => zgG N i j) t xs
def zaR (N : Nat) (t : Nat) (xs : List Int) : List Int := rep (fun i => mRow N i N) t xs
theorem zfD {B gx cap : Nat} {n : Int} {A : Option Addr} {e : Bool} {xs : List Int} {W : World} (N : Nat) (h : MX B gx n A cap e xs W) (hN : (N : Int) = 2 * n) (hn : N ≤ 128) (hl : xs.length = N * N) (hb : AllB xs) (hB : B ≤ W.heap.size) :
  Calls Tryz.prog 166 #[.pointer (some ⟨gx, 0, none⟩)] W fun e' W' => (∃ v, e' = .returned v) ∧ MX B gx n A cap e (zaR N N xs) W' ∧ AllB (zaR N N xs) ∧ (zaR N N xs).length = N * N ∧ Below B W W' := by
 have hn0 : 0 ≤ 2 * n := by omega
 have hn1 : 2 * n ≤ 128 := by omega
 have HN := hid hN
 have x0 := h.n_
 clear hN
 go_enter Tryz.func166, Tryz.ntmps166
 go_wp2
 clear x0
 go_loopw [11] (fun t wr => ∃ (k : Nat) (ys : List Int), k ≤ N ∧ t = .int .i64 k ∧ Hid (ys = zaR N k xs) ∧ Hid (ys.length = N * N) ∧ MX B gx n A cap e ys wr ∧ AllB ys ∧ Below B W wr) (fun t _ => N - (RowKit.intOf t).toNat)
 case atStart => exact ⟨0, xs, by omega, rfl, hid rfl, hid hl, h, hb, Below.refl _ _⟩
 case round =>
  clear h hl hb
  obtain ⟨i, zs, hi, rfl, hzs, hl, hM, hb, a0⟩ := hrel
  by_cases hiN : i < N
  ·have t2 : (i : Int) < 2 * n := by have := HN.out; omega
   have x0 := hM.n_
   go_wp2
   clear x0
   go_loopw [19] (fun t wr => ∃ (j : Nat) (us : List Int), j ≤ N ∧ t = .int .i64 j ∧ Hid (us = mRow N i j zs) ∧ Hid (us.length = N * N) ∧ MX B gx n A cap e us wr ∧ AllB us ∧ Below B W wr) (fun t _ => N - (RowKit.intOf t).toNat)
   case atStart => exact ⟨0, zs, by omega, rfl, hid rfl, hl, hM, hb, a0⟩
   case round =>
    clear hM hb a0 hl
    obtain ⟨j, us, hj, rfl, a7, hl, hM, hb, a0⟩ := hrel
    by_cases hjN : j < N
    ·have t3 : (j : Int) < 2 * n := by have := HN.out; omega
     have a4 := zcW HN.out hiN
     have hnj := zcW HN.out hjN
     have bi := zbH (i := i) (by omega)
     have bj := zbH (i := j) (by omega)
     obtain ⟨_, _, _, g1, _, _⟩ := zbs HN.out hiN hjN hn
     obtain ⟨_, _, _, g2, _, _⟩ := zbs HN.out hnj a4 hn
     rw [← hl.out] at g1 g2
     obtain ⟨gm, rfl, a5, hgW, hgx⟩ := hM.some (by omega)
     go_wp2_with fail
     refine (zb8 i j N hM HN.out hn hl.out hiN hjN).mono ?_
     rintro e5 w5 ⟨rfl, a2⟩
     replace hM := hM.up a2
     replace a0 : Below B W w5 := a0.trans (a2.mono (by have := a0.size; omega))
     clear a2
     go_wp2_with fail
     refine (zb8 (nx j) (nx i) N hM HN.out hn hl.out hnj a4).mono ?_
     rintro e6 w6 ⟨rfl, b1⟩
     have hM5 := hM.up b1
     have a6 : Below B W w6 := a0.trans (b1.mono (by have := a0.size; omega))
     have fc : ∀ X, SX w6 gx n (some ⟨gm, 0, none⟩) us.length cap e X → X.cell? ⟨gm, i * N + j, none⟩ = some (.int .i64 (gI us ((i * N + j : Nat) : Int))) := fun X hX => (hM5.go hX).c_ g1
     have fd : ∀ X, SX w6 gx n (some ⟨gm, 0, none⟩) us.length cap e X → X.cell? ⟨gm, nx j * N + nx i, none⟩ = some (.int .i64 (gI us ((nx j * N + nx i : Nat) : Int))) := fun X hX => (hM5.go hX).c_ g2
     clear hM a0 b1 bi bj
     go_wp2
     refine zad 9 (SX w6 gx n (some ⟨gm, 0, none⟩) us.length cap e) (by kernel_rfl) (by kernel_rfl) hM5.sx.drew ?_
     refine fl_a ?_
     refine Flow.call 117 #[.int .i64 (gI us ((i * N + j : Nat) : Int)), .int .i64 (gI us ((nx j * N + nx i : Nat) : Int))] (.int .i64 (less (gI us ((i * N + j : Nat) : Int)) (gI us ((nx j * N + nx i : Nat) : Int)))) (by rfl) (fun X hX => by go_simp) (fun X hX => (zcM _ _ _).mono fun e' w' ⟨he, hw⟩ => ⟨he, hw ▸ hX⟩) ?_
     simp only [Act.put, List.setIfInBounds_toArray, List.set_cons_zero, List.set_cons_succ]
     refine fl_a ?_
     intro w7 h7
     have hM7 := hM5.go h7
     have c6 := hM7.c_ g1
     have f6 := hM7.f_ (i * N + j)
     have HV := hid (zfr (hb (i * N + j)) (hb (nx j * N + nx i)))
     have hvb : zaq (less (gI us ((i * N + j : Nat) : Int)) (gI us ((nx j * N + nx i : Nat) : Int))) = true := by rw [HV.out]; exact zaF (hb _) (hb _)
     have HVB := hid hvb
     have b0 := HV.out
     clear hvb fc fd
     have hM8 := hM7.set (i * N + j) (less (gI us ((i * N + j : Nat) : Int)) (gI us ((nx j * N + nx i : Nat) : Int)))
     have b2 : Below B W (w7.setCell ⟨gm, i * N + j, none⟩ (.int .i64 (less (gI us ((i * N + j : Nat) : Int)) (gI us ((nx j * N + nx i : Nat) : Int))))) := (a6.trans (h7.bel hM5.base (by have := a6.size; omega))).setCell (by simpa using a5) _
     have HLV : Hid (less (gI us ((i * N + j : Nat) : Int)) (gI us ((nx j * N + nx i : Nat) : Int)) = min (gI us ((i * N + j : Nat) : Int)) (gI us ((nx j * N + nx i : Nat) : Int))) := HV
     clear b0
     generalize less (gI us ((i * N + j : Nat) : Int)) (gI us ((nx j * N + nx i : Nat) : Int)) = v at *
     have c8 := hM8.c_ (k := i * N + j) (by rw [List.length_set]; exact g1)
     rw [zfZ us (i * N + j) v (i * N + j) g1, if_pos rfl] at c8
     have f8 := hM8.f_ (nx j * N + nx i)
     have d8 := hM8.c_ (k := nx j * N + nx i) (by rw [List.length_set]; exact g2)
     have hM9 := hM8.set (nx j * N + nx i) v
     have a9 : AllB ((us.set (i * N + j) v).set (nx j * N + nx i) v) := (hb.set HVB.out g1).set HVB.out (by rw [List.length_set]; exact g2)
     have a1 := b2.setCell (p := ⟨gm, nx j * N + nx i, none⟩) (by simpa using a5) (.int .i64 v)
     have a3 : Hid ((us.set (i * N + j) v).set (nx j * N + nx i) v = mRow N i (j + 1) zs) := hid (by rw [HLV.out]; have := a7.out; subst this; rfl)
     go_wp2
     go_roundw
     case rel => exact ⟨j + 1, _, by omega, by go_num, a3, hid (by rw [List.length_set, List.length_set]; exact hl.out), hM9, a9, a1⟩
     case measure => simp [RowKit.intOf]; omega
    ·have t3 : ¬ (j : Int) < 2 * n := by have := HN.out; omega
     have hjN' : j = N := by omega
     subst hjN'
     go_wp2
     go_roundw
     case rel => exact ⟨i + 1, us, by omega, by go_num, hid (by rw [a7.out, hzs.out]; rfl), hl, hM, hb, a0⟩
     case measure => simp [RowKit.intOf]; omega
  ·have t2 : ¬ (i : Int) < 2 * n := by have := HN.out; omega
   have hiN' : i = N := by omega
   subst hiN'
   have hy := hzs.out
   subst hy
   have b3 := hl
   go_wp2
   go_end0
   exact ⟨⟨_, rfl⟩, hM, b3.out, a0⟩
def negs (N : Nat) (xs : List Int) : Nat → Bool
 | 0 => false
 | t + 1 => negs N xs t || decide (gI xs ((t * N + t : Nat) : Int) < 0)
theorem zhI {B gx cap : Nat} {n : Int} {A : Option Addr} {e : Bool} {xs : List Int} {W : World} (N : Nat) (h : MX B gx n A cap e xs W) (hN : (N : Int) = 2 * n) (hn : N ≤ 128) (hl : xs.length = N * N) (hB : B ≤ W.heap.size) :
  Calls Tryz.prog 167 #[.pointer (some ⟨gx, 0, none⟩)] W fun e' W' => (∃ v, e' = .returned v) ∧ MX B gx n A cap (e || negs N xs N) xs W' ∧ Below B W W' := by
 have hn0 : 0 ≤ 2 * n := by omega
 have hn1 : 2 * n ≤ 128 := by omega
 have HN := hid hN
 have HL := hid hl
 have x0 := h.n_
 clear hN hl
 go_enter Tryz.func167, Tryz.ntmps167
 go_wp2
 clear x0
 go_loopw [8] (fun t wr => ∃ (k : Nat) (u : Bool), k ≤ N ∧ t = .int .i64 k ∧ Hid (u = (e || negs N xs k)) ∧ MX B gx n A cap u xs wr ∧ Below B W wr) (fun t _ => N - (RowKit.intOf t).toNat)
 case atStart => exact ⟨0, e, by omega, rfl, hid (by simp [negs]), h, Below.refl _ _⟩
 case round =>
  clear h
  obtain ⟨i, u, hi, rfl, hu, hM, a0⟩ := hrel
  by_cases hiN : i < N
  ·have t2 : (i : Int) < 2 * n := by have := HN.out; omega
   have x3 := hM.e_
   obtain ⟨s, hk⟩ := hM.2.2.1
   have f3 := hk.fr 3
   cases u with
   | true =>
    have hM9 := hM.setE true
    have a1 := a0.setCell (p := ⟨gx, 3, none⟩) (by simpa using hM.base) (.bool true)
    have a8 : Hid (true = (e || negs N xs (i + 1))) := hid (by have := hu.out; unfold negs; rw [← Bool.or_assoc, ← this]; rfl)
    clear hk
    go_wp2
    go_roundw
    case rel => exact ⟨i + 1, true, by omega, by go_num, a8, hM9, a1⟩
    case measure => simp [RowKit.intOf]; omega
   | false =>
    obtain ⟨_, _, _, g1, _, _⟩ := zbs HN.out hiN hiN hn
    rw [← HL.out] at g1
    obtain ⟨gm, rfl, a5, hgW, hgx⟩ := hM.some (by omega)
    clear hk
    go_wp2_with fail
    refine (zb8 i i N hM HN.out hn HL.out hiN hiN).mono ?_
    rintro e5 w5 ⟨rfl, a2⟩
    replace hM := hM.up a2
    replace a0 : Below B W w5 := a0.trans (a2.mono (by have := a0.size; omega))
    clear a2 x3 f3
    have c5 := hM.c_ g1
    obtain ⟨s, hk⟩ := hM.2.2.1
    have f3 := hk.fr 3
    have x3 := hk.cell 3
    clear hk
    have hM9 := hM.setE (decide (gI xs ((i * N + i : Nat) : Int) < 0))
    have a1 := a0.setCell (p := ⟨gx, 3, none⟩) (by simpa using hM.base) (.bool (decide (gI xs ((i * N + i : Nat) : Int) < 0)))
    have a8 : Hid (decide (gI xs ((i * N + i : Nat) : Int) < 0) = (e || negs N xs (i + 1))) := hid (by have := hu.out; unfold negs; rw [← Bool.or_assoc, ← this]; rfl)
    go_wp2
    go_roundw
    case rel => exact ⟨i + 1, _, by omega, by go_num, a8, hM9, a1⟩
    case measure => simp [RowKit.intOf]; omega
  ·have t2 : ¬ (i : Int) < 2 * n := by have := HN.out; omega
   have hiN' : i = N := by omega
   subst hiN'
   have hy := hu.out
   subst hy
   go_wp2
   go_end0
   exact ⟨⟨_, rfl⟩, hM, a0⟩
def zeA (N i : Nat) (xs : List Int) : List Int := xs.set (i * N + nx i) (even (gI xs ((i * N + nx i : Nat) : Int)))
def zcr (N : Nat) (t : Nat) (xs : List Int) : List Int := rep (fun i => zeA N i) t xs
theorem zcb (a : Int) : zaq (even a) = true := by
 have h := zaw a
 unfold even zaq
 rw [decide_eq_true_eq]
 split <;> omega
theorem za8 (a : Int) : zaq (half a) = true := by
 have h := zaw a
 unfold half zaq
 rw [decide_eq_true_eq]
 split <;> omega
theorem ziz {B gx cap : Nat} {n : Int} {A : Option Addr} {e : Bool} {xs : List Int} {W : World} (N : Nat) (h : MX B gx n A cap e xs W) (hN : (N : Int) = 2 * n) (hn : N ≤ 128) (hl : xs.length = N * N) (hb : AllB xs) (hB : B ≤ W.heap.size) :
  Calls Tryz.prog 168 #[.pointer (some ⟨gx, 0, none⟩)] W fun e' W' => (∃ v, e' = .returned v) ∧ MX B gx n A cap e (zcr N N xs) W' ∧ AllB (zcr N N xs) ∧ (zcr N N xs).length = N * N ∧ Below B W W' := by
 have hn0 : 0 ≤ 2 * n := by omega
 have hn1 : 2 * n ≤ 128 := by omega
 have HN := hid hN
 have x0 := h.n_
 clear hN
 go_enter Tryz.func168, Tryz.ntmps168
 go_wp2
 clear x0
 go_loopw [9] (fun t wr => ∃ (k : Nat) (ys : List Int), k ≤ N ∧ t = .int .i64 k ∧ Hid (ys = zcr N k xs) ∧ Hid (ys.length = N * N) ∧ MX B gx n A cap e ys wr ∧ AllB ys ∧ Below B W wr) (fun t _ => N - (RowKit.intOf t).toNat)
 case atStart => exact ⟨0, xs, by omega, rfl, hid rfl, hid hl, h, hb, Below.refl _ _⟩
 case round =>
  clear h hl hb
  obtain ⟨i, us, hi, rfl, a7, hl, hM, hb, a0⟩ := hrel
  by_cases hiN : i < N
  ·have t2 : (i : Int) < 2 * n := by have := HN.out; omega
   have a4 := zcW HN.out hiN
   have bi := zbH (i := i) (by omega)
   obtain ⟨_, _, _, g1, _, _⟩ := zbs HN.out hiN a4 hn
   rw [← hl.out] at g1
   obtain ⟨gm, rfl, a5, hgW, hgx⟩ := hM.some (by omega)
   go_wp2_with fail
   refine (zb8 i (nx i) N hM HN.out hn hl.out hiN a4).mono ?_
   rintro e5 w5 ⟨rfl, a2⟩
   replace hM := hM.up a2
   replace a0 : Below B W w5 := a0.trans (a2.mono (by have := a0.size; omega))
   clear a2
   have c5 := hM.c_ g1
   have f5 := hM.f_ (i * N + nx i)
   go_wp2_with fail
   refine (zjh _ _).mono ?_
   rintro e6 w6 ⟨rfl, rfl⟩
   have hM9 := hM.set (i * N + nx i) (even (gI us ((i * N + nx i : Nat) : Int)))
   have a9 : AllB (us.set (i * N + nx i) (even (gI us ((i * N + nx i : Nat) : Int)))) := hb.set (zcb _) g1
   have a1 := a0.setCell (p := ⟨gm, i * N + nx i, none⟩) (by simpa using a5) (.int .i64 (even (gI us ((i * N + nx i : Nat) : Int))))
   have a3 : Hid (us.set (i * N + nx i) (even (gI us ((i * N + nx i : Nat) : Int))) = zcr N (i + 1) xs) := hid (by have := a7.out; subst this; rfl)
   go_wp2
   go_roundw
   case rel => exact ⟨i + 1, _, by omega, by go_num, a3, hid (by rw [List.length_set]; exact hl.out), hM9, a9, a1⟩
   case measure => simp [RowKit.intOf]; omega
  ·have t2 : ¬ (i : Int) < 2 * n := by have := HN.out; omega
   have hiN' : i = N := by omega
   subst hiN'
   have hy := a7.out
   subst hy
   have b3 := hl
   go_wp2
   go_end0
   exact ⟨⟨_, rfl⟩, hM, b3.out, a0⟩
end
section
attribute [local go_sem ↓] Go.wp_at_zero Go.wp_at_succ
def zbf (N : Nat) (xs : List Int) : Nat → Bool
 | 0 => false
 | t + 1 => decide (plus (gI xs ((t * N + nx t : Nat) : Int)) (gI xs ((nx t * N + t : Nat) : Int)) < 0) || zbf N xs t
theorem ziE {B gx cap : Nat} {n : Int} {A : Option Addr} {e : Bool} {xs : List Int} {W : World} (N : Nat) (h : MX B gx n A cap e xs W) (hN : (N : Int) = 2 * n) (hn : N ≤ 128) (hl : xs.length = N * N) (hB : B ≤ W.heap.size) :
  Calls Tryz.prog 169 #[.pointer (some ⟨gx, 0, none⟩)] W fun e' W' => (∃ v, e' = .returned v) ∧ MX B gx n A cap (e || zbf N xs N) xs W' ∧ Below B W W' := by
 have hn0 : 0 ≤ 2 * n := by omega
 have hn1 : 2 * n ≤ 128 := by omega
 have HN := hid hN
 have HL := hid hl
 have x0 := h.n_
 clear hN hl
 go_enter Tryz.func169, Tryz.ntmps169
 go_wp2
 clear x0
 go_loopw [8] (fun t wr => ∃ (k : Nat) (u : Bool), k ≤ N ∧ t = .int .i64 k ∧ Hid (u = (e || zbf N xs k)) ∧ MX B gx n A cap u xs wr ∧ Below B W wr) (fun t _ => N - (RowKit.intOf t).toNat)
 case atStart => exact ⟨0, e, by omega, rfl, hid (by simp [zbf]), h, Below.refl _ _⟩
 case round =>
  clear h
  obtain ⟨i, u, hi, rfl, hu, hM, a0⟩ := hrel
  by_cases hiN : i < N
  ·have t2 : (i : Int) < 2 * n := by have := HN.out; omega
   have a2 := zcW HN.out hiN
   have bi := zbH (i := i) (by omega)
   obtain ⟨_, _, _, g1, _, _⟩ := zbs HN.out hiN a2 hn
   obtain ⟨_, _, _, g2, _, _⟩ := zbs HN.out a2 hiN hn
   rw [← HL.out] at g1 g2
   obtain ⟨gm, rfl, hgB, hgW, hgx⟩ := hM.some (by omega)
   have fc : ∀ X, SX wr gx n (some ⟨gm, 0, none⟩) xs.length cap u X → X.cell? ⟨gm, i * N + nx i, none⟩ = some (.int .i64 (gI xs ((i * N + nx i : Nat) : Int))) := fun X hX => (hM.go hX).c_ g1
   have fd : ∀ X, SX wr gx n (some ⟨gm, 0, none⟩) xs.length cap u X → X.cell? ⟨gm, nx i * N + i, none⟩ = some (.int .i64 (gI xs ((nx i * N + i : Nat) : Int))) := fun X hX => (hM.go hX).c_ g2
   have fe : ∀ X, SX wr gx n (some ⟨gm, 0, none⟩) xs.length cap u X → X.cell? ⟨gx, 3, none⟩ = some (.bool u) := fun X hX => (hM.go hX).e_
   obtain ⟨v, hv⟩ : ∃ v, v = plus (gI xs ((i * N + nx i : Nat) : Int)) (gI xs ((nx i * N + i : Nat) : Int)) := ⟨_, rfl⟩
   have HV := hid hv
   clear hv
   cases hd : decide (v < 0)
   all_goals
    go_wp2
    refine zad 25 (SX wr gx n (some ⟨gm, 0, none⟩) xs.length cap u) (by kernel_rfl) (by kernel_rfl) hM.sx.drew ?_
    refine fl_a ?_
    refine Flow.call 212 #[.pointer (some ⟨gx, 0, none⟩), (i : Int), .int .i64 ((nx i : Nat) : Int)] (.pointer (some ⟨gm, i * N + nx i, none⟩)) (by rfl) (fun X hX => by go_simp) (fun X hX => (zb8 i (nx i) N (hM.go hX) HN.out hn HL.out hiN a2).mono fun e' w' ⟨he, hb'⟩ => ⟨he, hX.up hb'⟩) ?_
    simp only [Act.put, List.setIfInBounds_toArray, List.set_cons_zero, List.set_cons_succ]
    refine fl_a ?_
    refine Flow.call 212 #[.pointer (some ⟨gx, 0, none⟩), .int .i64 ((nx i : Nat) : Int), (i : Int)] (.pointer (some ⟨gm, nx i * N + i, none⟩)) (by rfl) (fun X hX => by go_simp) (fun X hX => (zb8 (nx i) i N (hM.go hX) HN.out hn HL.out a2 hiN).mono fun e' w' ⟨he, hb'⟩ => ⟨he, hX.up hb'⟩) ?_
    simp only [Act.put, List.setIfInBounds_toArray, List.set_cons_zero, List.set_cons_succ]
    refine fl_a ?_
    refine Flow.call 213 #[.pointer (some ⟨gx, 0, none⟩), .int .i64 (gI xs ((i * N + nx i : Nat) : Int)), .int .i64 (gI xs ((nx i * N + i : Nat) : Int))] (.int .i64 v) (by rfl) (fun X hX => by go_simp) (fun X hX => (zfP _ _ (hM.go hX)).mono fun e' w' ⟨he, hs⟩ => ⟨he.trans (by rw [HV.out]), hX.1.trans hs.1, hs.2⟩) ?_
    simp only [Act.put, List.setIfInBounds_toArray, List.set_cons_zero, List.set_cons_succ]
    refine fl_a ?_
    intro w6 h6
    have hM6 := hM.go h6
    have x3 := hM6.e_
    obtain ⟨s, hk⟩ := hM6.2.2.1
    have f3 := hk.fr 3
    have a5 := a0.trans (h6.bel hM.base (by have := a0.size; omega))
    clear hk fc fd fe bi
   ·have hM9 := hM6.setE u
    have a3 := a5.setCell (p := ⟨gx, 3, none⟩) (by simpa using hM.base) (.bool u)
    have a9 : Hid (u = (e || zbf N xs (i + 1))) := hid (by have := hu.out; unfold zbf; rw [← HV.out, hd, Bool.false_or]; exact this)
    go_wp2
    go_roundw
    case rel => exact ⟨i + 1, u, by omega, by go_num, a9, hM9, a3⟩
    case measure => simp [RowKit.intOf]; omega
   ·have hM9 := hM6.setE true
    have a3 := a5.setCell (p := ⟨gx, 3, none⟩) (by simpa using hM.base) (.bool true)
    have a9 : Hid (true = (e || zbf N xs (i + 1))) := hid (by unfold zbf; rw [← HV.out, hd]; simp)
    go_wp2
    go_roundw
    case rel => exact ⟨i + 1, true, by omega, by go_num, a9, hM9, a3⟩
    case measure => simp [RowKit.intOf]; omega
  ·have t2 : ¬ (i : Int) < 2 * n := by have := HN.out; omega
   have hiN' : i = N := by omega
   subst hiN'
   have hy := hu.out
   subst hy
   go_wp2
   go_end0
   exact ⟨⟨_, rfl⟩, hM, a0⟩
def zb9 (N i j : Nat) (xs : List Int) : List Int :=
 if i = j then xs else xs.set (i * N + j) (min (gI xs ((i * N + j : Nat) : Int)) (half (plus (gI xs ((i * N + nx i : Nat) : Int)) (gI xs ((nx j * N + j : Nat) : Int)))))
def sRow (N i : Nat) (t : Nat) (xs : List Int) : List Int := rep (fun j => zb9 N i j) t xs
def zaU (N : Nat) (t : Nat) (xs : List Int) : List Int := rep (fun i => sRow N i N) t xs
theorem zdG {B gx cap : Nat} {n : Int} {A : Option Addr} {e : Bool} {xs : List Int} {W : World} (N : Nat) (h : MX B gx n A cap e xs W) (hN : (N : Int) = 2 * n) (hn : N ≤ 128) (hl : xs.length = N * N) (hb : AllB xs) (hB : B ≤ W.heap.size) :
  Calls Tryz.prog 170 #[.pointer (some ⟨gx, 0, none⟩)] W fun e' W' => (∃ v, e' = .returned v) ∧ MX B gx n A cap e (zaU N N xs) W' ∧ AllB (zaU N N xs) ∧ (zaU N N xs).length = N * N ∧ Below B W W' := by
 have hn0 : 0 ≤ 2 * n := by omega
 have hn1 : 2 * n ≤ 128 := by omega
 have HN := hid hN
 have x0 := h.n_
 clear hN
 go_enter Tryz.func170, Tryz.ntmps170
 go_wp2
 clear x0
 go_loopw [10] (fun t wr => ∃ (k : Nat) (ys : List Int), k ≤ N ∧ t = .int .i64 k ∧ Hid (ys = zaU N k xs) ∧ Hid (ys.length = N * N) ∧ MX B gx n A cap e ys wr ∧ AllB ys ∧ Below B W wr) (fun t _ => N - (RowKit.intOf t).toNat)
 case atStart => exact ⟨0, xs, by omega, rfl, hid rfl, hid hl, h, hb, Below.refl _ _⟩
 case round =>
  clear h hl hb
  obtain ⟨i, zs, hi, rfl, hzs, hl, hM, hb, a0⟩ := hrel
  by_cases hiN : i < N
  ·have t2 : (i : Int) < 2 * n := by have := HN.out; omega
   have x0 := hM.n_
   go_wp2
   clear x0
   go_loopw [18] (fun t wr => ∃ (j : Nat) (us : List Int), j ≤ N ∧ t = .int .i64 j ∧ Hid (us = sRow N i j zs) ∧ Hid (us.length = N * N) ∧ MX B gx n A cap e us wr ∧ AllB us ∧ Below B W wr) (fun t _ => N - (RowKit.intOf t).toNat)
   case atStart => exact ⟨0, zs, by omega, rfl, hid rfl, hl, hM, hb, a0⟩
   case round =>
    clear hM hb a0 hl
    obtain ⟨j, us, hj, rfl, a8, hl, hM, hb, a0⟩ := hrel
    by_cases hjN : j < N
    ·have t3 : (j : Int) < 2 * n := by have := HN.out; omega
     by_cases hij : i = j
     ·have tij : ((i : Int) != (j : Int)) = false := by rw [bne_eq_false_iff_eq]; omega
      have b1 : Hid (us = sRow N i (j + 1) zs) := hid (by have := a8.out; rw [this]; show _ = zb9 N i j (rep (fun j => zb9 N i j) j zs); unfold zb9; rw [if_pos hij]; rfl)
      have HIJ := hid hij
      clear hij
      go_wp2
      go_roundw
      case rel => exact ⟨j + 1, _, by omega, by go_num, b1, hl, hM, hb, a0⟩
      case measure => simp [RowKit.intOf]; omega
     ·have tij : ((i : Int) != (j : Int)) = true := by rw [bne_iff_ne]; omega
      have HIJ := hid hij
      clear hij
      have a2 := zcW HN.out hiN
      have hnj := zcW HN.out hjN
      have bi := zbH (i := i) (by omega)
      have bj := zbH (i := j) (by omega)
      obtain ⟨_, _, _, g1, _, _⟩ := zbs HN.out hiN hjN hn
      obtain ⟨_, _, _, g2, _, _⟩ := zbs HN.out hiN a2 hn
      obtain ⟨_, _, _, g3, _, _⟩ := zbs HN.out hnj hjN hn
      rw [← hl.out] at g1 g2 g3
      obtain ⟨gm, rfl, hgB, hgW, hgx⟩ := hM.some (by omega)
      go_wp2_with fail
      refine (zb8 i j N hM HN.out hn hl.out hiN hjN).mono ?_
      rintro e5 w5 ⟨rfl, b0⟩
      have hM5 := hM.up b0
      have a4 : Below B W w5 := a0.trans (b0.mono (by have := a0.size; omega))
      have fc : ∀ X, SX w5 gx n (some ⟨gm, 0, none⟩) us.length cap e X → X.cell? ⟨gm, i * N + j, none⟩ = some (.int .i64 (gI us ((i * N + j : Nat) : Int))) := fun X hX => (hM5.go hX).c_ g1
      have fd : ∀ X, SX w5 gx n (some ⟨gm, 0, none⟩) us.length cap e X → X.cell? ⟨gm, i * N + nx i, none⟩ = some (.int .i64 (gI us ((i * N + nx i : Nat) : Int))) := fun X hX => (hM5.go hX).c_ g2
      have fe : ∀ X, SX w5 gx n (some ⟨gm, 0, none⟩) us.length cap e X → X.cell? ⟨gm, nx j * N + j, none⟩ = some (.int .i64 (gI us ((nx j * N + j : Nat) : Int))) := fun X hX => (hM5.go hX).c_ g3
      clear hM a0 b0
      go_wp2
      refine zad 22 (SX w5 gx n (some ⟨gm, 0, none⟩) us.length cap e) (by kernel_rfl) (by kernel_rfl) hM5.sx.drew ?_
      refine fl_a ?_
      refine Flow.call 212 #[.pointer (some ⟨gx, 0, none⟩), (i : Int), .int .i64 ((nx i : Nat) : Int)] (.pointer (some ⟨gm, i * N + nx i, none⟩)) (by rfl) (fun X hX => by go_simp) (fun X hX => (zb8 i (nx i) N (hM5.go hX) HN.out hn hl.out hiN a2).mono fun e' w' ⟨he, hb'⟩ => ⟨he, hX.up hb'⟩) ?_
      simp only [Act.put, List.setIfInBounds_toArray, List.set_cons_zero, List.set_cons_succ]
      refine fl_a ?_
      refine Flow.call 212 #[.pointer (some ⟨gx, 0, none⟩), .int .i64 ((nx j : Nat) : Int), .int .i64 (j : Int)] (.pointer (some ⟨gm, nx j * N + j, none⟩)) (by rfl) (fun X hX => by go_simp) (fun X hX => (zb8 (nx j) j N (hM5.go hX) HN.out hn hl.out hnj hjN).mono fun e' w' ⟨he, hb'⟩ => ⟨he, hX.up hb'⟩) ?_
      simp only [Act.put, List.setIfInBounds_toArray, List.set_cons_zero, List.set_cons_succ]
      refine fl_a ?_
      refine Flow.call 213 #[.pointer (some ⟨gx, 0, none⟩), .int .i64 (gI us ((i * N + nx i : Nat) : Int)), .int .i64 (gI us ((nx j * N + j : Nat) : Int))] (.int .i64 (plus (gI us ((i * N + nx i : Nat) : Int)) (gI us ((nx j * N + j : Nat) : Int)))) (by rfl) (fun X hX => by go_simp) (fun X hX => (zfP _ _ (hM5.go hX)).mono fun e' w' ⟨he, hs⟩ => ⟨he, hX.1.trans hs.1, hs.2⟩) ?_
      simp only [Act.put, List.setIfInBounds_toArray, List.set_cons_zero, List.set_cons_succ]
      refine Flow.call 215 #[.int .i64 (plus (gI us ((i * N + nx i : Nat) : Int)) (gI us ((nx j * N + j : Nat) : Int)))] (.int .i64 (half (plus (gI us ((i * N + nx i : Nat) : Int)) (gI us ((nx j * N + j : Nat) : Int))))) (by rfl) (fun X hX => by go_simp) (fun X hX => (zcG _ _).mono fun e' w' ⟨he, hw⟩ => ⟨he, hw ▸ hX⟩) ?_
      simp only [Act.put, List.setIfInBounds_toArray, List.set_cons_zero, List.set_cons_succ]
      generalize hvh : half (plus (gI us ((i * N + nx i : Nat) : Int)) (gI us ((nx j * N + j : Nat) : Int))) = v
      have HVH := hid hvh
      clear hvh
      refine Flow.call 117 #[.int .i64 (gI us ((i * N + j : Nat) : Int)), .int .i64 v] (.int .i64 (less (gI us ((i * N + j : Nat) : Int)) v)) (by rfl) (fun X hX => by go_simp) (fun X hX => (zcM _ _ _).mono fun e' w' ⟨he, hw⟩ => ⟨he, hw ▸ hX⟩) ?_
      simp only [Act.put, List.setIfInBounds_toArray, List.set_cons_zero, List.set_cons_succ]
      refine fl_a ?_
      intro w6 h6
      have hM6 := hM5.go h6
      have c6 := hM6.c_ g1
      have f6 := hM6.f_ (i * N + j)
      have a6 : zaq v = true := by rw [← HVH.out]; exact za8 _
      have a1 := zfr (hb (i * N + j)) a6
      have hM7 := hM6.set (i * N + j) (less (gI us ((i * N + j : Nat) : Int)) v)
      have hb7 : AllB (us.set (i * N + j) (less (gI us ((i * N + j : Nat) : Int)) v)) := hb.set (by rw [a1]; exact zaF (hb _) a6) g1
      have a7 : Below B W (w6.setCell ⟨gm, i * N + j, none⟩ (.int .i64 (less (gI us ((i * N + j : Nat) : Int)) v))) := (a4.trans (h6.bel hM5.base (by have := a4.size; omega))).setCell (by simpa using hgB) _
      have b2 : Hid (us.set (i * N + j) (less (gI us ((i * N + j : Nat) : Int)) v) = sRow N i (j + 1) zs) := hid (by
       rw [a1, ← HVH.out]
       have := a8.out
       show _ = zb9 N i j (rep (fun j => zb9 N i j) j zs)
       unfold zb9
       rw [if_neg HIJ.out]
       rw [this]; rfl)
      have HL6 := hid a1
      have HVB := hid a6
      clear a1 a6 fc fd fe
      go_wp2
      go_roundw
      case rel => exact ⟨j + 1, _, by omega, by go_num, b2, hid (by rw [List.length_set]; exact hl.out), hM7, hb7, a7⟩
      case measure => simp [RowKit.intOf]; omega
    ·have t3 : ¬ (j : Int) < 2 * n := by have := HN.out; omega
     have hjN' : j = N := by omega
     subst hjN'
     go_wp2
     go_roundw
     case rel => exact ⟨i + 1, us, by omega, by go_num, hid (by rw [a8.out, hzs.out]; rfl), hl, hM, hb, a0⟩
     case measure => simp [RowKit.intOf]; omega
  ·have t2 : ¬ (i : Int) < 2 * n := by have := HN.out; omega
   have hiN' : i = N := by omega
   subst hiN'
   have hy := hzs.out
   subst hy
   have HLL := hl
   go_wp2
   go_end0
   exact ⟨⟨_, rfl⟩, hM, HLL.out, a0⟩
end
end Go.Proofs.YtnmpgijiimglcaaGreat
