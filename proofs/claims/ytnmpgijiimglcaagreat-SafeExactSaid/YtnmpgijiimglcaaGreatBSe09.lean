import Derived.Test.YtnmpgijiimglcaaGreatBSe08
namespace Go.Proofs.YtnmpgijiimglcaaGreat
open Go.RowKit
set_option maxRecDepth 100000
set_option maxHeartbeats 8000000
attribute [local go_sem ↓] Go.wp_at_zero Go.wp_at_succ
theorem zge {N : Nat} {xs : List Int} {i : Nat} (h : i < N) (hd : decide (gI xs ((i * N + i : Nat) : Int) < 0) = true) : ∀ {t : Nat}, i < t → negs N xs t = true
 | t + 1, ht => by
  unfold negs
  by_cases e : i = t
  ·subst e; rw [hd]; simp
  ·rw [zge h hd (t := t) (by omega)]; rfl
theorem minf (x p : Int) : (if p < x then p else x) = min x p := by split <;> omega
def zcx (w : World) (o : O) (e : Ending) (w' : World) : Prop := ∃ A1 c1 s, e = .returned (.tuple #[.agg #[o.n, o.e, .slice A1 o.m.length c1], .bool s]) ∧ Own w' w.heap.size A1 c1 o.m ∧ Below w.heap.size w w'
theorem zbi (o : O) (A : Option Addr) (c : Nat) (w : World) (hx : Rd w w.heap.size A o.m) (hm : o.m.length ≤ 17592186044416) (hk : check o = 0) :
  Calls Tryz.prog 95 #[.agg #[o.n, o.e, .slice A o.m.length c]] w (zcx w (closeO o)) := by
 obtain ⟨n, e, m⟩ := o
 dsimp only at *
 have j1 := zca hk
 obtain ⟨n0, n1, g5, g3⟩ := zas hk
 dsimp only at j1 n0 n1 g5 g3
 have g2 : Below w.heap.size w ((w.alloc (Obj.cells #[n, e, .slice A m.length c] 24)).alloc (Obj.cells #[.int .i64 0, false, .slice none 0 0] 24)) := ((Below.refl _ _).alloc (Nat.le_refl _) _).alloc (by simp) _
 obtain ⟨p0, p1⟩ := zdb (w := w) (Below.refl _ ((w.alloc (Obj.cells #[n, e, .slice A m.length c] 24)).alloc (Obj.cells #[.int .i64 0, false, .slice none 0 0] 24)))
 have hx0 := hx.up g2
 have HBD := hid j1
 clear j1 hk hx
 have hsz : ((w.alloc (Obj.cells #[n, e, .slice A m.length c] 24)).alloc (Obj.cells #[.int .i64 0, false, .slice none 0 0] 24)).heap.size = w.heap.size + 2 := by simp
 have i0 := hid hsz
 clear hsz
 cases e with
 | true =>
  have hm0 := g5 rfl
  subst hm0
  clear g5 g3
  rw [zgl rfl]
  go_enter Tryz.func95, Tryz.ntmps95
  go_wp2_with fail
  refine (zc7 n _).mono ?_
  generalize (w.alloc (Obj.cells #[n, true, .slice A 0 c] 24)).alloc (Obj.cells #[.int .i64 0, false, .slice none 0 0] 24) = w0 at *
  rintro e2 w2 ⟨rfl, hb2⟩
  obtain ⟨y0, y1, y2, fy⟩ := zaa (p1.later hb2)
  have hb3 := bup g2 hb2
  go_wp2
  refine bodyPost_ret (v := .tuple #[.agg #[n, true, .slice none 0 0], false]) (by simp [results, Tryz.results95, go_sem, y0, y1, y2]) rfl ⟨none, 0, false, rfl, zbA _ _, ?_⟩
  exact hb3.trans (zah (by omega) hb3.size)
 | false =>
  have hml := g3 rfl
  obtain ⟨N, hN⟩ : ∃ N : Nat, (N : Int) = 2 * n := ⟨(2 * n).toNat, by omega⟩
  have hNN : m.length = N * N := by
   have e : (4 * n * n) = ((N * N : Nat) : Int) := by rw [Int.natCast_mul, hN]; rw [show (4 : Int) = 2 * 2 from rfl]; simp only [Int.mul_assoc, Int.mul_left_comm]
   omega
  have hNt : (2 * n).toNat = N := by omega
  have hN1 : N ≤ 128 := by omega
  have hn0 : 0 ≤ 2 * n := by omega
  have hn1 : 2 * n ≤ 128 := by omega
  have HN := hid hN
  have HNN := hid hNN
  have HNT := hid hNt
  have g6 : Hid (closeO ⟨n, false, m⟩ = match zbn N m with | none => ⟨n, true, []⟩ | some ys => ⟨n, false, ys⟩) := hid (by unfold closeO; rw [if_neg (by simp)]; dsimp only; rw [hNt]; cases zbn N m <;> rfl)
  clear hml hN hNN hNt g5 g3
  generalize closeO ⟨n, false, m⟩ = R at *
  go_enter Tryz.func95, Tryz.ntmps95
  go_wp2_with (at_builtin; refine zbP _ _ _ (by rfl) (by rfl) Tryz.underlying22 (w.heap.size + 2) none 0 [] (by rfl) (zbA _ _) _ A c m m (by rfl) hx0 rfl hm (Nat.le_of_eq i0.out.symm) ?_; intro A1 c1 w1 e1 hg1 _)
  generalize (w.alloc (Obj.cells #[n, false, .slice A m.length c] 24)).alloc (Obj.cells #[.int .i64 0, false, .slice none 0 0] 24) = w0 at *
  have e9 := zaW (B := w0.heap.size) hg1 (by simp [Value.ownBlock]) (Nat.le_refl _)
  have n2 := new1 w1 (.cells #[.int .i64 (2 * n), .slice A1 m.length c1, false] 192)
  have hMC : MC (w.heap.size + 2) w1.heap.size (2 * n) A1 c1 m (w1.alloc (.cells #[.int .i64 (2 * n), .slice A1 m.length c1, false] 192)) := by
   refine ⟨by have := e9.size; have := i0.out; omega, fun g hg => ?_, ⟨false, Blk.new _ _ _⟩, e1.below (new1 _ _)⟩
   rcases e1.form with ⟨h, _⟩ | ⟨g', h, _, h2⟩
   ·rw [h] at hg; cases hg
   ·rw [h] at hg; injection hg with hg; injection hg with hg; omega
  have i2 := bup (bup g2 e9) n2
  have hBu : w.heap.size + 2 ≤ (w1.alloc (.cells #[.int .i64 (2 * n), .slice A1 m.length c1, false] 192)).heap.size := by have := e9.size; have := n2.size; have := i0.out; omega
  replace p0 := (p0.later e9).later n2
  replace p1 := (p1.later e9).later n2
  clear hx0 e9 e1 hg1 n2 g2
  generalize w1.alloc (.cells #[.int .i64 (2 * n), .slice A1 m.length c1, false] 192) = u2 at *
  generalize w1.heap.size = gx at *
  generalize hBB : w.heap.size + 2 = B at *
  have hBw : w.heap.size ≤ B := by omega
  have j2 : w.heap.size < B := by omega
  have f1 : w.heap.size + 1 < B := by omega
  clear hBB
  have hM := hMC
  have hb := HBD.out
  have a0 : Below B u2 u2 := Below.refl _ _
  clear hMC
  go_wp2
  go_loopw [6] (fun t wr => ∃ (k : Nat) (ys : List Int), k ≤ N ∧ t = .int .i64 k ∧ Hid (ys = zbR N k m) ∧ Hid (ys.length = N * N) ∧ MC B gx (2 * n) A1 c1 ys wr ∧ AllB ys ∧ Below B u2 wr) (fun t _ => N - (RowKit.intOf t).toNat)
  case atStart => exact ⟨0, m, by omega, rfl, hid rfl, HNN, hM, hb, a0⟩
  case round =>
   clear hM hb a0
   obtain ⟨k, ys, hk, rfl, g1, f3, hM, hb, a0⟩ := hrel
   by_cases hkN : k < N
   ·have t1 : (k : Int) < 2 * n := by have := HN.out; omega
    go_wp2
    go_loopw [7] (fun t wr => ∃ (i : Nat) (zs : List Int), i ≤ N ∧ t = .int .i64 i ∧ Hid (zs = pMat N k i ys) ∧ Hid (zs.length = N * N) ∧ MC B gx (2 * n) A1 c1 zs wr ∧ AllB zs ∧ Below B u2 wr) (fun t _ => N - (RowKit.intOf t).toNat)
    case atStart => exact ⟨0, ys, by omega, rfl, hid rfl, f3, hM, hb, a0⟩
    case round =>
     clear hM hb a0
     obtain ⟨i, zs, hi, rfl, d9, b9, hM, hb, a0⟩ := hrel
     by_cases hiN : i < N
     ·have t2 : (i : Int) < 2 * n := by have := HN.out; omega
      go_wp2
      go_loopw [8] (fun t wr => ∃ (j : Nat) (us : List Int), j ≤ N ∧ t = .int .i64 j ∧ Hid (us = pRow N k i j zs) ∧ Hid (us.length = N * N) ∧ MC B gx (2 * n) A1 c1 us wr ∧ AllB us ∧ Below B u2 wr) (fun t _ => N - (RowKit.intOf t).toNat)
      case atStart => exact ⟨0, zs, by omega, rfl, hid rfl, b9, hM, hb, a0⟩
      case round =>
       clear hM hb a0
       obtain ⟨j, us, hj, rfl, c7, hl, hM, hb, a0⟩ := hrel
       by_cases hjN : j < N
       ·have t3 : (j : Int) < 2 * n := by have := HN.out; omega
        as_aux_lemma =>
         obtain ⟨a1, a2, a3, a4, a5, a6⟩ := zbj (i := i) (j := j) HN.out hiN hjN hN1
         rw [← hl.out] at a4 a6
         obtain ⟨b1, b2, b3, b4, b5, b6⟩ := zbj (i := i) (j := k) HN.out hiN hkN hN1
         rw [← hl.out] at b4 b6
         obtain ⟨d1, d2, d3, d4, d5, d6⟩ := zbj (i := k) (j := j) HN.out hkN hjN hN1
         rw [← hl.out] at d4 d6
         obtain ⟨gm, rfl, c4, f5, f4⟩ := hM.some (by omega)
         have fm : ∀ X, SC wr gx (2 * n) (some ⟨gm, 0, none⟩) us.length c1 X → X.cell? ⟨gx, 1, none⟩ = some (.slice (some ⟨gm, 0, none⟩) us.length c1) := fun X hX => (hM.go hX).m_
         obtain ⟨vx, b7⟩ : ∃ v, v = gI us ((i * N + j : Nat) : Int) := ⟨_, rfl⟩
         have Hvx := hid b7
         clear b7
         have fc : ∀ X, SC wr gx (2 * n) (some ⟨gm, 0, none⟩) us.length c1 X → X.cell? ⟨gm, i * N + j, none⟩ = some (.int .i64 vx) := fun X hX => by rw [Hvx.out]; exact (hM.go hX).c_ a4
         obtain ⟨vy, c2⟩ : ∃ v, v = gI us ((i * N + k : Nat) : Int) := ⟨_, rfl⟩
         have Hvy := hid c2
         clear c2
         have fd : ∀ X, SC wr gx (2 * n) (some ⟨gm, 0, none⟩) us.length c1 X → X.cell? ⟨gm, i * N + k, none⟩ = some (.int .i64 vy) := fun X hX => by rw [Hvy.out]; exact (hM.go hX).c_ b4
         obtain ⟨vz, g0⟩ : ∃ v, v = gI us ((k * N + j : Nat) : Int) := ⟨_, rfl⟩
         have Hvz := hid g0
         clear g0
         have fe : ∀ X, SC wr gx (2 * n) (some ⟨gm, 0, none⟩) us.length c1 X → X.cell? ⟨gm, k * N + j, none⟩ = some (.int .i64 vz) := fun X hX => by rw [Hvz.out]; exact (hM.go hX).c_ d4
         go_wp2
         refine zad 45 (SC wr gx (2 * n) (some ⟨gm, 0, none⟩) us.length c1) (by kernel_rfl) (by kernel_rfl) hM.sx.drew ?_
         refine fl_a ?_
         (refine fl_c 176 #[.pointer (some ⟨gx, 0, none⟩), vy, vz] (.int .i64 (plus vy vz)) (fun X hX => (zfw _ _ (hM.go hX)).mono fun e' w' ⟨he, hs⟩ => ⟨he, hX.1.trans hs.1, hs.2⟩) ?_)
         refine fl_a ?_
         intro w6 h6
         have hM6 := hM.go h6
         have c6 := hM6.c_ a4
         have f6 := hM6.f_ (i * N + j)
         have hM7 := hM6.set (i * N + j) (if plus vy vz < vx then plus vy vz else vx)
         have i4 : AllB (us.set (i * N + j) (if plus vy vz < vx then plus vy vz else vx)) := hb.set' (by rw [minf, Hvx.out]; exact zaF (hb _) (zbz _ _))
         have a7 : Below B u2 (w6.setCell ⟨gm, i * N + j, none⟩ (.int .i64 (if plus vy vz < vx then plus vy vz else vx))) := (a0.trans (h6.bel hM.base (by have := a0.size; omega))).setCell (by simpa using c4) _
         have e6 : Hid (us.set (i * N + j) (if plus vy vz < vx then plus vy vz else vx) = pRow N k i (j + 1) zs) := hid (by rw [minf, Hvx.out, Hvy.out, Hvz.out]; have := c7.out; subst this; rfl)
         clear fm fc fd fe
         go_wp2
         go_roundw
         case rel => exact ⟨j + 1, _, by omega, by go_num, e6, hid (by rw [List.length_set]; exact hl.out), hM7, i4, a7⟩
         case measure => simp [RowKit.intOf]; omega
       ·have t3 : ¬ (j : Int) < 2 * n := by have := HN.out; omega
        have f9 : N = j := by omega
        subst f9
        go_wp2
        go_roundw
        case rel => exact ⟨i + 1, us, by omega, by go_num, hid (by rw [c7.out, d9.out]; rfl), hl, hM, hb, a0⟩
        case measure => simp [RowKit.intOf]; omega
     ·have t2 : ¬ (i : Int) < 2 * n := by have := HN.out; omega
      have c3 : N = i := by omega
      subst c3
      go_wp2
      go_roundw
      case rel => exact ⟨k + 1, zs, by omega, by go_num, hid (by rw [d9.out, g1.out]; rfl), b9, hM, hb, a0⟩
      case measure => simp [RowKit.intOf]; omega
   ·have t1 : ¬ (k : Int) < 2 * n := by have := HN.out; omega
    have hke : N = k := by omega
    subst hke
    go_wp2
    go_loopw [9] (fun t wr => ∃ (i : Nat) (zs : List Int), i ≤ N ∧ t = .int .i64 i ∧ Hid (zs = zaR N i ys) ∧ Hid (zs.length = N * N) ∧ MC B gx (2 * n) A1 c1 zs wr ∧ AllB zs ∧ Below B u2 wr) (fun t _ => N - (RowKit.intOf t).toNat)
    case atStart => exact ⟨0, ys, by omega, rfl, hid rfl, f3, hM, hb, a0⟩
    case round =>
     clear hM hb a0
     obtain ⟨i, zs, hi, rfl, d9, b9, hM, hb, a0⟩ := hrel
     by_cases hiN : i < N
     ·have t2 : (i : Int) < 2 * n := by have := HN.out; omega
      go_wp2
      go_loopw [10] (fun t wr => ∃ (j : Nat) (us : List Int), j ≤ N ∧ t = .int .i64 j ∧ Hid (us = mRow N i j zs) ∧ Hid (us.length = N * N) ∧ MC B gx (2 * n) A1 c1 us wr ∧ AllB us ∧ Below B u2 wr) (fun t _ => N - (RowKit.intOf t).toNat)
      case atStart => exact ⟨0, zs, by omega, rfl, hid rfl, b9, hM, hb, a0⟩
      case round =>
       clear hM hb a0
       obtain ⟨j, us, hj, rfl, c7, hl, hM, hb, a0⟩ := hrel
       by_cases hjN : j < N
       ·have t3 : (j : Int) < 2 * n := by have := HN.out; omega
        have d7 := zcW HN.out hiN
        have g9 := zcW HN.out hjN
        as_aux_lemma =>
         obtain ⟨a1, a2, a3, a4, a5, a6⟩ := zbj (i := i) (j := j) HN.out hiN hjN hN1
         rw [← hl.out] at a4 a6
         obtain ⟨b1, b2, b3, b4, b5, b6⟩ := zbj (i := nx j) (j := nx i) HN.out g9 d7 hN1
         rw [← hl.out] at b4 b6
         obtain ⟨gm, rfl, c4, f5, f4⟩ := hM.some (by omega)
         go_wp2_with fail
         refine (zby j _ (by omega)).mono ?_
         rintro e8 w8 ⟨rfl, rfl⟩
         go_wp2_with fail
         refine (zby i _ (by omega)).mono ?_
         rintro e8 w8 ⟨rfl, rfl⟩
         have fm : ∀ X, SC wr gx (2 * n) (some ⟨gm, 0, none⟩) us.length c1 X → X.cell? ⟨gx, 1, none⟩ = some (.slice (some ⟨gm, 0, none⟩) us.length c1) := fun X hX => (hM.go hX).m_
         obtain ⟨vx, b7⟩ : ∃ v, v = gI us ((i * N + j : Nat) : Int) := ⟨_, rfl⟩
         have Hvx := hid b7
         clear b7
         have fc : ∀ X, SC wr gx (2 * n) (some ⟨gm, 0, none⟩) us.length c1 X → X.cell? ⟨gm, i * N + j, none⟩ = some (.int .i64 vx) := fun X hX => by rw [Hvx.out]; exact (hM.go hX).c_ a4
         obtain ⟨vy, c2⟩ : ∃ v, v = gI us ((nx j * N + nx i : Nat) : Int) := ⟨_, rfl⟩
         have Hvy := hid c2
         clear c2
         have fd : ∀ X, SC wr gx (2 * n) (some ⟨gm, 0, none⟩) us.length c1 X → X.cell? ⟨gm, nx j * N + nx i, none⟩ = some (.int .i64 vy) := fun X hX => by rw [Hvy.out]; exact (hM.go hX).c_ b4
         go_wp2
         refine zad 28 (SC wr gx (2 * n) (some ⟨gm, 0, none⟩) us.length c1) (by kernel_rfl) (by kernel_rfl) hM.sx.drew ?_
         refine fl_a ?_
         intro w6 h6
         have hM6 := hM.go h6
         generalize hvv : (if vy < vx then vy else vx) = vv
         have HVV := hid hvv
         clear hvv
         have c6 := hM6.c_ a4
         have f6 := hM6.f_ (i * N + j)
         have a9 := a0.trans (h6.bel hM.base (by have := a0.size; omega))
         have hM7 := hM6.set (i * N + j) vv
         have hgW6 : gm < w6.heap.size := hM6.some_lt
         have a7 : Below B u2 (w6.setCell ⟨gm, i * N + j, none⟩ (.int .i64 vv)) := a9.setCell (by simpa using c4) _
         have f2 := hM7.sx
         rw [List.length_set] at f2
         have fm7 : ∀ X, SC (w6.setCell ⟨gm, i * N + j, none⟩ (.int .i64 vv)) gx (2 * n) (some ⟨gm, 0, none⟩) us.length c1 X → X.cell? ⟨gx, 1, none⟩ = some (.slice (some ⟨gm, 0, none⟩) us.length c1) := fun X hX => by
          have := (hM7.go (by rw [List.length_set]; exact hX)).m_
          rw [List.length_set] at this; exact this
         have fc7 : ∀ X, SC (w6.setCell ⟨gm, i * N + j, none⟩ (.int .i64 vv)) gx (2 * n) (some ⟨gm, 0, none⟩) us.length c1 X → X.cell? ⟨gm, i * N + j, none⟩ = some (.int .i64 vv) := fun X hX => by
          have := (hM7.go (by rw [List.length_set]; exact hX)).c_ (k := i * N + j) (by rw [List.length_set]; exact a4)
          rw [zfZ us (i * N + j) vv (i * N + j) a4, if_pos rfl] at this; exact this
         have HC6 := hid c6
         clear fm fc fd
         go_wp2
         refine zad 16 (SC (w6.setCell ⟨gm, i * N + j, none⟩ (.int .i64 vv)) gx (2 * n) (some ⟨gm, 0, none⟩) us.length c1) (by kernel_rfl) (by kernel_rfl) f2.drew ?_
         refine fl_a ?_
         intro w8 h8
         have hM8 := hM7.go (by rw [List.length_set]; exact h8)
         have d8 := hM8.c_ (k := nx j * N + nx i) (by rw [List.length_set]; exact b4)
         have f8 := hM8.f_ (nx j * N + nx i)
         have i5 := a7.trans (h8.bel hM.base (by have := a7.size; omega))
         have hM9 := hM8.set (nx j * N + nx i) vv
         have g4 : zaq vv = true := by rw [← HVV.out, minf, Hvx.out, Hvy.out]; exact zaF (hb _) (hb _)
         have i7 : AllB ((us.set (i * N + j) vv).set (nx j * N + nx i) vv) := (hb.set' g4).set' g4
         have e0 := i5.setCell (p := ⟨gm, nx j * N + nx i, none⟩) (by simpa using c4) (.int .i64 vv)
         have e3 : Hid ((us.set (i * N + j) vv).set (nx j * N + nx i) vv = mRow N i (j + 1) zs) := hid (by rw [← HVV.out, minf, Hvx.out, Hvy.out]; have := c7.out; subst this; rfl)
         have HVB := hid g4
         clear fm7 fc7 g4
         go_wp2
         go_roundw
         case rel => exact ⟨j + 1, _, by omega, by go_num, e3, hid (by rw [List.length_set, List.length_set]; exact hl.out), hM9, i7, e0⟩
         case measure => simp [RowKit.intOf]; omega
       ·have t3 : ¬ (j : Int) < 2 * n := by have := HN.out; omega
        have f9 : N = j := by omega
        subst f9
        go_wp2
        go_roundw
        case rel => exact ⟨i + 1, us, by omega, by go_num, hid (by rw [c7.out, d9.out]; rfl), hl, hM, hb, a0⟩
        case measure => simp [RowKit.intOf]; omega
     ·have t2 : ¬ (i : Int) < 2 * n := by have := HN.out; omega
      have c3 : N = i := by omega
      subst c3
      go_wp2
      go_loopw [12] (fun t wr => ∃ (i : Nat), i ≤ N ∧ t = .int .i64 i ∧ Hid (negs N zs i = false) ∧ MC B gx (2 * n) A1 c1 zs wr ∧ Below B u2 wr) (fun t _ => N - (RowKit.intOf t).toNat)
      case atStart => exact ⟨0, by omega, rfl, hid rfl, hM, a0⟩
      case round =>
       clear hM a0
       obtain ⟨i, hi, rfl, j0, hM, a0⟩ := hrel
       by_cases hiN : i < N
       ·have t2 : (i : Int) < 2 * n := by have := HN.out; omega
        obtain ⟨a1, a2, a3, a4, a5, a6⟩ := zbj (i := i) (j := i) HN.out hiN hiN hN1
        rw [← b9.out] at a4 a6
        obtain ⟨gm, rfl, c4, f5, f4⟩ := hM.some (by omega)
        have c5 := hM.c_ a4
        have m5 := hM.m_
        cases hd : decide (gI zs ((i * N + i : Nat) : Int) < 0)
        ·have i1 : Hid (negs N zs (i + 1) = false) := hid (by unfold negs; rw [j0.out, hd]; rfl)
         generalize gI zs ((i * N + i : Nat) : Int) = vx at *
         go_wp2
         go_roundw
         case rel => exact ⟨i + 1, by omega, by go_num, i1, hM, a0⟩
         case measure => simp [RowKit.intOf]; omega
        ·have f7 : negs N zs N = true := zge hiN hd hiN
         have e4 : R = ⟨n, true, []⟩ := by
          rw [g6.out]
          unfold zbn
          rw [← g1.out, ← d9.out, if_pos f7]
         subst e4
         have e4 : True := trivial
         clear f7
         generalize gI zs ((i * N + i : Nat) : Int) = vx at *
         as_aux_lemma =>
          have i9 : w.heap.size + 1 < gx := by have := hM.base; omega
          obtain ⟨x0, x1, x2, fx⟩ := zaa (p0.below a0 j2)
          obtain ⟨sv, d0⟩ := hM.2.2.1
          have fs := SB.laters (g := w.heap.size + 1) (v0 := .int .i64 n) (v1 := .bool true) (v2 := .slice none 0 0) (d0.cell 2) (by omega)
          have f0 := SB.laters (g := w.heap.size + 1) (v0 := .int .i64 n) (v1 := .bool true) (v2 := .slice none 0 0) x0 (by omega)
          have f00 : ∀ X, SB wr (w.heap.size + 1) (.int .i64 n) (.bool true) (.slice none 0 0) false X → X.cell? ⟨w.heap.size, 0, none⟩ = some (.int .i64 n) := fun X hX => hX.cell x0 (by omega)
          have r4 := p1.below a0 f1
          have c0 : Below w.heap.size w wr := i2.trans (a0.mono hBw)
          obtain ⟨b0, b1, b2, b3⟩ := SB.boxes (v0 := .int .i64 n) (v1 := .bool true) (v2 := .slice none 0 0) r4
          clear x0 x1 x2 fx d0
          go_wp2
          refine zaS 8 7 (SB wr (w.heap.size + 1) (.int .i64 n) (.bool true) (.slice none 0 0)) (by kernel_rfl) (by kernel_rfl) (by decide) (Below.refl _ _).drew ?_
          (repeat (first | (refine zaH.skip (by rfl) (by rfl) ?_; simp only [Act.put, List.setIfInBounds_toArray, List.set_cons_zero, List.set_cons_succ]) | (refine' zaH.take _ (by rfl) (by rfl) (fun W hW R hR => ?_) ?_; rotate_left; (go_simp; (try go_bits); with_reducible exact hR); simp only [Act.put, List.setIfInBounds_toArray, List.set_cons_zero, List.set_cons_succ])))
          (refine zaH.callB 65 #[n] (.agg #[n, true, .slice none 0 0]) (by rfl) (by kernel_rfl) (by rfl) (fun X hX => by go_simp) (fun X hX => (zc7 n X).mono fun e' w' ⟨he, hb'⟩ => ⟨he, Below.trans (show Below wr.heap.size wr X from hX) (hb'.mono (show Below wr.heap.size wr X from hX).size)⟩) ?_; simp only [Act.put, List.setIfInBounds_toArray, List.set_cons_zero, List.set_cons_succ])
          (repeat (first | (refine zaH.skip (by rfl) (by rfl) ?_; simp only [Act.put, List.setIfInBounds_toArray, List.set_cons_zero, List.set_cons_succ]) | (refine' zaH.take _ (by rfl) (by rfl) (fun W hW R hR => ?_) ?_; rotate_left; (go_simp; (try go_bits); with_reducible exact hR); simp only [Act.put, List.setIfInBounds_toArray, List.set_cons_zero, List.set_cons_succ])))
          (refine zaH.mark (by rfl) (by rfl) (by rfl) (fun W hW R hR => ?_) ?_; (go_simp; (exact hR _ ⟨W, hW, rfl⟩)))
          intro w6 h6
          obtain ⟨W0, c9, rfl⟩ := h6
          clear fs f0 f00 b0 b1 b2 b3
          obtain ⟨z0, z1, z2, fz⟩ := zaa ((r4.later c9).set3 (v0 := .int .i64 n) (v1 := .bool true) (v2 := .slice none 0 0))
          have a8 := bup c0 c9
          go_wp2
          refine bodyPost_ret (v := .tuple #[.agg #[n, true, .slice none 0 0], sv]) (by simp [results, Tryz.results95, go_sem, z0, z1, z2]) rfl ?_
          exact ⟨none, 0, sv, rfl, zbA _ _, a8.trans (zah (by omega) a8.size)⟩
       ·have t2 : ¬ (i : Int) < 2 * n := by have := HN.out; omega
        have c3 : N = i := by omega
        subst c3
        go_wp2
        go_loopw [13] (fun t wr => ∃ (i : Nat) (us : List Int), i ≤ N ∧ t = .int .i64 i ∧ Hid (us = zcr N i zs) ∧ Hid (us.length = N * N) ∧ MC B gx (2 * n) A1 c1 us wr ∧ AllB us ∧ Below B u2 wr) (fun t _ => N - (RowKit.intOf t).toNat)
        case atStart => exact ⟨0, zs, by omega, rfl, hid rfl, b9, hM, hb, a0⟩
        case round =>
         clear hM hb a0
         obtain ⟨i, us, hi, rfl, c7, hl, hM, hb, a0⟩ := hrel
         by_cases hiN : i < N
         ·have t2 : (i : Int) < 2 * n := by have := HN.out; omega
          have d7 := zcW HN.out hiN
          as_aux_lemma =>
           obtain ⟨a1, a2, a3, a4, a5, a6⟩ := zbj (i := i) (j := nx i) HN.out hiN d7 hN1
           rw [← hl.out] at a4 a6
           obtain ⟨gm, rfl, c4, f5, f4⟩ := hM.some (by omega)
           go_wp2_with fail
           refine (zby i _ (by omega)).mono ?_
           rintro e8 w8 ⟨rfl, rfl⟩
           have fm : ∀ X, SC wr gx (2 * n) (some ⟨gm, 0, none⟩) us.length c1 X → X.cell? ⟨gx, 1, none⟩ = some (.slice (some ⟨gm, 0, none⟩) us.length c1) := fun X hX => (hM.go hX).m_
           obtain ⟨vx, b7⟩ : ∃ v, v = gI us ((i * N + nx i : Nat) : Int) := ⟨_, rfl⟩
           have Hvx := hid b7
           clear b7
           have fc : ∀ X, SC wr gx (2 * n) (some ⟨gm, 0, none⟩) us.length c1 X → X.cell? ⟨gm, i * N + nx i, none⟩ = some (.int .i64 vx) := fun X hX => by rw [Hvx.out]; exact (hM.go hX).c_ a4
           go_wp2
           refine zad 13 (SC wr gx (2 * n) (some ⟨gm, 0, none⟩) us.length c1) (by kernel_rfl) (by kernel_rfl) hM.sx.drew ?_
           refine fl_a ?_
           (refine fl_c 177 #[vx] (.int .i64 (even vx)) (fun X hX => (zim _ _).mono fun e' w' ⟨he, hw⟩ => ⟨he, hw ▸ hX⟩) ?_)
           refine fl_a ?_
           intro w6 h6
           have hM6 := hM.go h6
           have c6 := hM6.c_ a4
           have f6 := hM6.f_ (i * N + nx i)
           have hM7 := hM6.set (i * N + nx i) (even vx)
           have i4 : AllB (us.set (i * N + nx i) (even vx)) := hb.set' (zcb _)
           have a7 : Below B u2 (w6.setCell ⟨gm, i * N + nx i, none⟩ (.int .i64 (even vx))) := (a0.trans (h6.bel hM.base (by have := a0.size; omega))).setCell (by simpa using c4) _
           have e6 : Hid (us.set (i * N + nx i) (even vx) = zcr N (i + 1) zs) := hid (by rw [Hvx.out]; have := c7.out; subst this; rfl)
           clear fm fc
           go_wp2
           go_roundw
           case rel => exact ⟨i + 1, _, by omega, by go_num, e6, hid (by rw [List.length_set]; exact hl.out), hM7, i4, a7⟩
           case measure => simp [RowKit.intOf]; omega
         ·have t2 : ¬ (i : Int) < 2 * n := by have := HN.out; omega
          have c3 : N = i := by omega
          subst c3
          go_wp2
          go_loopw [15, 16] (fun s t wr => ∃ (i : Nat) (b : Bool), i ≤ N ∧ s = .bool b ∧ t = .int .i64 i ∧ Hid (b = zbf N us i) ∧ MC B gx (2 * n) A1 c1 us wr ∧ Below B u2 wr) (fun _ t _ => N - (RowKit.intOf t).toNat)
          case atStart => exact ⟨0, false, by omega, rfl, rfl, hid rfl, hM, a0⟩
          case round =>
           clear hM a0
           obtain ⟨i, b, hi, rfl, rfl, i8, hM, a0⟩ := hrel
           by_cases hiN : i < N
           ·have t2 : (i : Int) < 2 * n := by have := HN.out; omega
            have d7 := zcW HN.out hiN
            as_aux_lemma =>
             obtain ⟨a1, a2, a3, a4, a5, a6⟩ := zbj (i := i) (j := nx i) HN.out hiN d7 hN1
             rw [← hl.out] at a4 a6
             obtain ⟨b1, b2, b3, b4, b5, b6⟩ := zbj (i := nx i) (j := i) HN.out d7 hiN hN1
             rw [← hl.out] at b4 b6
             obtain ⟨gm, rfl, c4, f5, f4⟩ := hM.some (by omega)
             go_wp2_with fail
             refine (zby i _ (by omega)).mono ?_
             rintro e8 w8 ⟨rfl, rfl⟩
             have fm : ∀ X, SC wr gx (2 * n) (some ⟨gm, 0, none⟩) us.length c1 X → X.cell? ⟨gx, 1, none⟩ = some (.slice (some ⟨gm, 0, none⟩) us.length c1) := fun X hX => (hM.go hX).m_
             obtain ⟨vx, b7⟩ : ∃ v, v = gI us ((i * N + nx i : Nat) : Int) := ⟨_, rfl⟩
             have Hvx := hid b7
             clear b7
             have fc : ∀ X, SC wr gx (2 * n) (some ⟨gm, 0, none⟩) us.length c1 X → X.cell? ⟨gm, i * N + nx i, none⟩ = some (.int .i64 vx) := fun X hX => by rw [Hvx.out]; exact (hM.go hX).c_ a4
             obtain ⟨vy, c2⟩ : ∃ v, v = gI us ((nx i * N + i : Nat) : Int) := ⟨_, rfl⟩
             have Hvy := hid c2
             clear c2
             have fd : ∀ X, SC wr gx (2 * n) (some ⟨gm, 0, none⟩) us.length c1 X → X.cell? ⟨gm, nx i * N + i, none⟩ = some (.int .i64 vy) := fun X hX => by rw [Hvy.out]; exact (hM.go hX).c_ b4
             have e5 : Hid ((decide (plus vx vy < 0) || b) = zbf N us (i + 1)) := hid (by rw [Hvx.out, Hvy.out, i8.out]; rfl)
             cases hd : decide (plus vx vy < 0)
             all_goals
              go_wp2
              refine zad 23 (SC wr gx (2 * n) (some ⟨gm, 0, none⟩) us.length c1) (by kernel_rfl) (by kernel_rfl) hM.sx.drew ?_
              refine fl_a ?_
              intro w6 h6
              have hM6 := hM.go h6
              have a9 := a0.trans (h6.bel hM.base (by have := a0.size; omega))
              rw [hd] at e5
              clear fm fc fd
              go_wp2_with fail
              refine (zfw vx vy hM6).mono ?_
              rintro e7 w7 ⟨rfl, h7⟩
              have hM7 := hM6.go h7
              have a7 := a9.trans (h7.bel hM.base (by have := a9.size; omega))
              generalize plus vx vy = vp at *
              go_wp2
              go_roundw
              case measure => simp [RowKit.intOf]; omega
             ·case rel => exact ⟨i + 1, b, by omega, rfl, by go_num, e5, hM7, a7⟩
             ·case rel => exact ⟨i + 1, true, by omega, rfl, by go_num, e5, hM7, a7⟩
           ·have t2 : ¬ (i : Int) < 2 * n := by have := HN.out; omega
            have c3 : N = i := by omega
            subst c3
            cases b with
            | true =>
             have e4 : R = ⟨n, true, []⟩ := by
              rw [g6.out]
              unfold zbn
              rw [← g1.out, ← d9.out, if_neg (by rw [j0.out]; simp), ← c7.out, if_pos i8.out.symm]
             subst e4
             have e4 : True := trivial
             as_aux_lemma =>
              have i9 : w.heap.size + 1 < gx := by have := hM.base; omega
              obtain ⟨x0, x1, x2, fx⟩ := zaa (p0.below a0 j2)
              obtain ⟨sv, d0⟩ := hM.2.2.1
              have fs := SB.laters (g := w.heap.size + 1) (v0 := .int .i64 n) (v1 := .bool true) (v2 := .slice none 0 0) (d0.cell 2) (by omega)
              have f0 := SB.laters (g := w.heap.size + 1) (v0 := .int .i64 n) (v1 := .bool true) (v2 := .slice none 0 0) x0 (by omega)
              have f00 : ∀ X, SB wr (w.heap.size + 1) (.int .i64 n) (.bool true) (.slice none 0 0) false X → X.cell? ⟨w.heap.size, 0, none⟩ = some (.int .i64 n) := fun X hX => hX.cell x0 (by omega)
              have r4 := p1.below a0 f1
              have c0 : Below w.heap.size w wr := i2.trans (a0.mono hBw)
              obtain ⟨b0, b1, b2, b3⟩ := SB.boxes (v0 := .int .i64 n) (v1 := .bool true) (v2 := .slice none 0 0) r4
              clear x0 x1 x2 fx d0
              go_wp2
              refine zaS 8 7 (SB wr (w.heap.size + 1) (.int .i64 n) (.bool true) (.slice none 0 0)) (by kernel_rfl) (by kernel_rfl) (by decide) (Below.refl _ _).drew ?_
              (repeat (first | (refine zaH.skip (by rfl) (by rfl) ?_; simp only [Act.put, List.setIfInBounds_toArray, List.set_cons_zero, List.set_cons_succ]) | (refine' zaH.take _ (by rfl) (by rfl) (fun W hW R hR => ?_) ?_; rotate_left; (go_simp; (try go_bits); with_reducible exact hR); simp only [Act.put, List.setIfInBounds_toArray, List.set_cons_zero, List.set_cons_succ])))
              (refine zaH.callB 65 #[n] (.agg #[n, true, .slice none 0 0]) (by rfl) (by kernel_rfl) (by rfl) (fun X hX => by go_simp) (fun X hX => (zc7 n X).mono fun e' w' ⟨he, hb'⟩ => ⟨he, Below.trans (show Below wr.heap.size wr X from hX) (hb'.mono (show Below wr.heap.size wr X from hX).size)⟩) ?_; simp only [Act.put, List.setIfInBounds_toArray, List.set_cons_zero, List.set_cons_succ])
              (repeat (first | (refine zaH.skip (by rfl) (by rfl) ?_; simp only [Act.put, List.setIfInBounds_toArray, List.set_cons_zero, List.set_cons_succ]) | (refine' zaH.take _ (by rfl) (by rfl) (fun W hW R hR => ?_) ?_; rotate_left; (go_simp; (try go_bits); with_reducible exact hR); simp only [Act.put, List.setIfInBounds_toArray, List.set_cons_zero, List.set_cons_succ])))
              (refine zaH.mark (by rfl) (by rfl) (by rfl) (fun W hW R hR => ?_) ?_; (go_simp; (exact hR _ ⟨W, hW, rfl⟩)))
              intro w6 h6
              obtain ⟨W0, c9, rfl⟩ := h6
              clear fs f0 f00 b0 b1 b2 b3
              obtain ⟨z0, z1, z2, fz⟩ := zaa ((r4.later c9).set3 (v0 := .int .i64 n) (v1 := .bool true) (v2 := .slice none 0 0))
              have a8 := bup c0 c9
              go_wp2
              refine bodyPost_ret (v := .tuple #[.agg #[n, true, .slice none 0 0], sv]) (by simp [results, Tryz.results95, go_sem, z0, z1, z2]) rfl ?_
              exact ⟨none, 0, sv, rfl, zbA _ _, a8.trans (zah (by omega) a8.size)⟩
            | false =>
             go_wp2
             go_loopw [18] (fun t wr => ∃ (i : Nat) (ps : List Int), i ≤ N ∧ t = .int .i64 i ∧ Hid (ps = zaU N i us) ∧ Hid (ps.length = N * N) ∧ MC B gx (2 * n) A1 c1 ps wr ∧ AllB ps ∧ Below B u2 wr) (fun t _ => N - (RowKit.intOf t).toNat)
             case atStart => exact ⟨0, us, by omega, rfl, hid rfl, hl, hM, hb, a0⟩
             case round =>
              clear hM hb a0
              obtain ⟨i, ps, hi, rfl, hps, j3, hM, hb, a0⟩ := hrel
              by_cases hiN : i < N
              ·have t2 : (i : Int) < 2 * n := by have := HN.out; omega
               go_wp2
               go_loopw [19] (fun t wr => ∃ (j : Nat) (qs : List Int), j ≤ N ∧ t = .int .i64 j ∧ Hid (qs = sRow N i j ps) ∧ Hid (qs.length = N * N) ∧ MC B gx (2 * n) A1 c1 qs wr ∧ AllB qs ∧ Below B u2 wr) (fun t _ => N - (RowKit.intOf t).toNat)
               case atStart => exact ⟨0, ps, by omega, rfl, hid rfl, j3, hM, hb, a0⟩
               case round =>
                clear hM hb a0
                obtain ⟨j, qs, hj, rfl, i6, b8, hM, hb, a0⟩ := hrel
                by_cases hjN : j < N
                ·have t3 : (j : Int) < 2 * n := by have := HN.out; omega
                 by_cases hij : i = j
                 ·have tij : ((i : Int) != (j : Int)) = false := by rw [bne_eq_false_iff_eq]; omega
                  have e3 : Hid (qs = sRow N i (j + 1) ps) := hid (by have := i6.out; rw [this]; show _ = zb9 N i j (rep (fun j => zb9 N i j) j ps); unfold zb9; rw [if_pos hij]; rfl)
                  have HIJ := hid hij
                  clear hij
                  go_wp2
                  go_roundw
                  case rel => exact ⟨j + 1, _, by omega, by go_num, e3, b8, hM, hb, a0⟩
                  case measure => simp [RowKit.intOf]; omega
                 ·have tij : ((i : Int) != (j : Int)) = true := by rw [bne_iff_ne]; omega
                  have HIJ := hid hij
                  clear hij
                  have d7 := zcW HN.out hiN
                  have g9 := zcW HN.out hjN
                  as_aux_lemma =>
                   obtain ⟨a1, a2, a3, a4, a5, a6⟩ := zbj (i := i) (j := j) HN.out hiN hjN hN1
                   rw [← b8.out] at a4 a6
                   obtain ⟨b1, b2, b3, b4, b5, b6⟩ := zbj (i := i) (j := nx i) HN.out hiN d7 hN1
                   rw [← b8.out] at b4 b6
                   obtain ⟨d1, d2, d3, d4, d5, d6⟩ := zbj (i := nx j) (j := j) HN.out g9 hjN hN1
                   rw [← b8.out] at d4 d6
                   obtain ⟨gm, rfl, c4, f5, f4⟩ := hM.some (by omega)
                   have fm : ∀ X, SC wr gx (2 * n) (some ⟨gm, 0, none⟩) qs.length c1 X → X.cell? ⟨gx, 1, none⟩ = some (.slice (some ⟨gm, 0, none⟩) qs.length c1) := fun X hX => (hM.go hX).m_
                   obtain ⟨vx, b7⟩ : ∃ v, v = gI qs ((i * N + j : Nat) : Int) := ⟨_, rfl⟩
                   have Hvx := hid b7
                   clear b7
                   have fc : ∀ X, SC wr gx (2 * n) (some ⟨gm, 0, none⟩) qs.length c1 X → X.cell? ⟨gm, i * N + j, none⟩ = some (.int .i64 vx) := fun X hX => by rw [Hvx.out]; exact (hM.go hX).c_ a4
                   obtain ⟨vy, c2⟩ : ∃ v, v = gI qs ((i * N + nx i : Nat) : Int) := ⟨_, rfl⟩
                   have Hvy := hid c2
                   clear c2
                   have fd : ∀ X, SC wr gx (2 * n) (some ⟨gm, 0, none⟩) qs.length c1 X → X.cell? ⟨gm, i * N + nx i, none⟩ = some (.int .i64 vy) := fun X hX => by rw [Hvy.out]; exact (hM.go hX).c_ b4
                   obtain ⟨vz, g0⟩ : ∃ v, v = gI qs ((nx j * N + j : Nat) : Int) := ⟨_, rfl⟩
                   have Hvz := hid g0
                   clear g0
                   have fe : ∀ X, SC wr gx (2 * n) (some ⟨gm, 0, none⟩) qs.length c1 X → X.cell? ⟨gm, nx j * N + j, none⟩ = some (.int .i64 vz) := fun X hX => by rw [Hvz.out]; exact (hM.go hX).c_ d4
                   go_wp2
                   refine zad 25 (SC wr gx (2 * n) (some ⟨gm, 0, none⟩) qs.length c1) (by kernel_rfl) (by kernel_rfl) hM.sx.drew ?_
                   refine fl_a ?_
                   (refine fl_c 61 #[(i : Int)] (.int .i64 ((nx i : Nat) : Int)) (fun X hX => (zby i _ (by omega)).mono fun e' w' ⟨he, hw⟩ => ⟨he, hw ▸ hX⟩) ?_)
                   refine fl_a ?_
                   (refine fl_c 61 #[.int .i64 (j : Int)] (.int .i64 ((nx j : Nat) : Int)) (fun X hX => (zby j _ (by omega)).mono fun e' w' ⟨he, hw⟩ => ⟨he, hw ▸ hX⟩) ?_)
                   refine fl_a ?_
                   intro w6 h6
                   have hM6 := hM.go h6
                   have a9 := a0.trans (h6.bel hM.base (by have := a0.size; omega))
                   clear fc fd fe fm
                   go_wp2_with fail
                   refine (zfw _ _ hM6).mono ?_
                   rintro e7 w7 ⟨rfl, h7⟩
                   have hM7 := hM6.go h7
                   have a7 := a9.trans (h7.bel hM.base (by have := a9.size; omega))
                   have fm : ∀ X, SC w7 gx (2 * n) (some ⟨gm, 0, none⟩) qs.length c1 X → X.cell? ⟨gx, 1, none⟩ = some (.slice (some ⟨gm, 0, none⟩) qs.length c1) := fun X hX => (hM7.go hX).m_
                   have fc : ∀ X, SC w7 gx (2 * n) (some ⟨gm, 0, none⟩) qs.length c1 X → X.cell? ⟨gm, i * N + j, none⟩ = some (.int .i64 vx) := fun X hX => by rw [Hvx.out]; exact (hM7.go hX).c_ a4
                   obtain ⟨vp, g8⟩ : ∃ v, v = plus vy vz := ⟨_, rfl⟩
                   have Hvp := hid g8
                   rw [← g8]
                   clear g8
                   go_wp2
                   refine zad 23 (SC w7 gx (2 * n) (some ⟨gm, 0, none⟩) qs.length c1) (by kernel_rfl) (by kernel_rfl) hM7.sx.drew ?_
                   refine fl_a ?_
                   (refine fl_c 178 #[vp] (.int .i64 (half vp)) (fun X hX => (zcR _ _).mono fun e' w' ⟨he, hw⟩ => ⟨he, hw ▸ hX⟩) ?_)
                   refine fl_a ?_
                   intro w8 h8
                   have hM8 := hM7.go h8
                   have c8 := hM8.c_ a4
                   have f8 := hM8.f_ (i * N + j)
                   have hM9 := hM8.set (i * N + j) (if half vp < vx then half vp else vx)
                   have i7 : AllB (qs.set (i * N + j) (if half vp < vx then half vp else vx)) := hb.set' (by rw [minf, Hvx.out]; exact zaF (hb _) (za8 _))
                   have e0 : Below B u2 (w8.setCell ⟨gm, i * N + j, none⟩ (.int .i64 (if half vp < vx then half vp else vx))) := (a7.trans (h8.bel hM.base (by have := a7.size; omega))).setCell (by simpa using c4) _
                   have i3 : Hid (qs.set (i * N + j) (if half vp < vx then half vp else vx) = sRow N i (j + 1) ps) := hid (by
                    rw [minf, Hvp.out, Hvx.out, Hvy.out, Hvz.out]
                    have := i6.out
                    show _ = zb9 N i j (rep (fun j => zb9 N i j) j ps)
                    unfold zb9
                    rw [if_neg HIJ.out]
                    rw [this]; rfl)
                   clear fm fc
                   go_wp2
                   go_roundw
                   case rel => exact ⟨j + 1, _, by omega, by go_num, i3, hid (by rw [List.length_set]; exact b8.out), hM9, i7, e0⟩
                   case measure => simp [RowKit.intOf]; omega
                ·have t3 : ¬ (j : Int) < 2 * n := by have := HN.out; omega
                 have f9 : N = j := by omega
                 subst f9
                 go_wp2
                 go_roundw
                 case rel => exact ⟨i + 1, qs, by omega, by go_num, hid (by rw [i6.out, hps.out]; rfl), b8, hM, hb, a0⟩
                 case measure => simp [RowKit.intOf]; omega
              ·have t2 : ¬ (i : Int) < 2 * n := by have := HN.out; omega
               as_aux_lemma =>
                have c3 : N = i := by omega
                subst c3
                have e4 : R = ⟨n, false, ps⟩ := by
                 rw [g6.out]
                 unfold zbn
                 rw [← g1.out, ← d9.out, if_neg (by rw [j0.out]; simp), ← c7.out, if_neg (by rw [← i8.out]; simp), ← hps.out]
                subst e4
                obtain ⟨x0, x1, x2, fx⟩ := zaa (p0.below a0 j2)
                obtain ⟨sv, d0⟩ := hM.2.2.1
                have hgx1 := hM.base
                have fs := SB.laters (g := w.heap.size + 1) (v0 := .int .i64 n) (v1 := .bool false) (v2 := .slice A1 ps.length c1) (d0.cell 2) (by omega)
                have fm := SB.laters (g := w.heap.size + 1) (v0 := .int .i64 n) (v1 := .bool false) (v2 := .slice A1 ps.length c1) (d0.cell 1) (by omega)
                have f0 := SB.laters (g := w.heap.size + 1) (v0 := .int .i64 n) (v1 := .bool false) (v2 := .slice A1 ps.length c1) x0 (by omega)
                have r4 := p1.below a0 f1
                have c0 : Below w.heap.size w wr := i2.trans (a0.mono hBw)
                obtain ⟨b0, b1, b2, b3⟩ := SB.boxes (v0 := .int .i64 n) (v1 := .bool false) (v2 := .slice A1 ps.length c1) r4
                clear x0 x1 x2 fx d0
                go_wp2
                refine zaS 12 11 (SB wr (w.heap.size + 1) (.int .i64 n) (.bool false) (.slice A1 ps.length c1)) (by kernel_rfl) (by kernel_rfl) (by decide) (Below.refl _ _).drew ?_
                (repeat (first | (refine zaH.skip (by rfl) (by rfl) ?_; simp only [Act.put, List.setIfInBounds_toArray, List.set_cons_zero, List.set_cons_succ]) | (refine' zaH.take _ (by rfl) (by rfl) (fun W hW R hR => ?_) ?_; rotate_left; (go_simp; (try go_bits); with_reducible exact hR); simp only [Act.put, List.setIfInBounds_toArray, List.set_cons_zero, List.set_cons_succ])))
                (refine zaH.mark (by rfl) (by rfl) (by rfl) (fun W hW R hR => ?_) ?_; (go_simp; (exact hR _ ⟨W, hW, rfl⟩)))
                intro w6 h6
                obtain ⟨W0, c9, rfl⟩ := h6
                clear fs f0 fm b0 b1 b2 b3
                obtain ⟨z0, z1, z2, fz⟩ := zaa ((r4.later c9).set3 (v0 := .int .i64 n) (v1 := .bool false) (v2 := .slice A1 ps.length c1))
                have a8 := bup c0 c9
                have g7 := (hM.up c9).2.2.2
                go_wp2
                refine bodyPost_ret (v := .tuple #[.agg #[n, false, .slice A1 ps.length c1], sv]) (by simp [results, Tryz.results95, go_sem, z0, z1, z2]) rfl ?_
                exact ⟨A1, c1, sv, rfl, (((g7.setFar (by simpa using f1) _).setFar (by simpa using f1) _).setFar (by simpa using f1) _).less hBw, a8.trans (zah (by omega) a8.size)⟩
end Go.Proofs.YtnmpgijiimglcaaGreat
