import Derived.Test.YtnmpgijiimglcaaGreatBSo04
import Derived.Test.YtnmpgijiimglcaaGreatBSo05
namespace Go.Proofs.YtnmpgijiimglcaaGreat
open Go.RowKit
set_option maxRecDepth 100000
set_option maxHeartbeats 8000000
attribute [local go_sem ↓] Go.wp_at_zero Go.wp_at_succ
theorem dempty_any (n : Int) (w : World) (h0 : 0 ≤ n) (h1 : n ≤ 64) :
  Calls Tryz.prog 115 #[n] w fun e w' => e = .returned (.tuple #[.agg #[n, true, .slice none 0 0], .int .i64 0]) ∧ Below w.heap.size w w' := by
 have hd : decide (0 ≤ n ∧ n ≤ 64) = true := by simp [h0, h1]
 go_enter Tryz.func115, Tryz.ntmps115
 go_wp2_with fail
 refine (dright_any n _).mono ?_
 rintro e1 w1 ⟨rfl, rfl⟩
 rw [hd]
 go_wp2
 refine bodyPost_ret (v := .tuple #[.agg #[n, true, .slice none 0 0], .int .i64 0]) (by simp [results, Tryz.results115, go_sem]) rfl ⟨rfl, ?_⟩
 exact new1 _ _
theorem check_bounds {o : O} (h : check o = 0) : AllB o.m := by
 obtain ⟨h0, h1, h2, h3⟩ := check_ok h
 intro p
 by_cases hp : p < o.m.length
 ·have he : o.e = false := by
   cases he : o.e with
   | false => rfl
   | true => have := h2 he; rw [this] at hp; simp at hp
  have hl := h3 he
  have hr : rowsOk o (2 * o.n).toNat = true := by
   unfold check at h
   split at h
   ·omega
   ·rw [if_neg (by simp [he])] at h
    split at h
    ·assumption
    ·omega
  obtain ⟨N, hN⟩ : ∃ N : Nat, (N : Int) = 2 * o.n := ⟨(2 * o.n).toNat, by omega⟩
  have hNN : o.m.length = N * N := by
   have e : (4 * o.n * o.n) = ((N * N : Nat) : Int) := by rw [Int.natCast_mul, hN]; rw [show (4 : Int) = 2 * 2 from rfl]; simp only [Int.mul_assoc, Int.mul_left_comm]
   omega
  have hNt : (2 * o.n).toNat = N := by omega
  have c9 : 0 < N := by
   rcases Nat.eq_zero_or_pos N with h | h
   ·rw [h] at hNN; omega
   ·exact h
  have hi : p / N < N := Nat.div_lt_of_lt_mul (by omega)
  have hj : p % N < N := Nat.mod_lt _ c9
  unfold rowsOk at hr
  rw [hNt] at hr
  have c6 := List.all_eq_true.1 hr (p / N) (List.mem_range.2 hi)
  unfold rowOk at c6
  have hc := List.all_eq_true.1 c6 (p % N) (List.mem_range.2 hj)
  unfold cellOk at hc
  simp only [Bool.and_eq_true] at hc
  have c2 : (2 * o.n * ((p / N : Nat) : Int) + ((p % N : Nat) : Int)) = (p : Int) := by
   rw [← hN, ← Int.natCast_mul, ← Int.natCast_add, Nat.div_add_mod]
  rw [← c2]
  exact hc.1.1
 ·have : gI o.m p = 0 := by unfold gI; simp [List.getD, List.getElem?_eq_none (show o.m.length ≤ p by omega)]
  rw [this]; decide
theorem idx6_0 (f0 f1 f2 f3 f4 f5 : Value) (W : World) : (Instr.index 182 (.agg #[f0, f1, f2, f3, f4, f5]) (.int .i64 0)).run Tryz.prog W = .ok f0 W := by
 simp [Instr.index, run_underlying Tryz.underlying182, asIntOf, go_sem]
theorem idx6_1 (f0 f1 f2 f3 f4 f5 : Value) (W : World) : (Instr.index 182 (.agg #[f0, f1, f2, f3, f4, f5]) (.int .i64 1)).run Tryz.prog W = .ok f1 W := by
 simp [Instr.index, run_underlying Tryz.underlying182, asIntOf, go_sem]
theorem idx6_2 (f0 f1 f2 f3 f4 f5 : Value) (W : World) : (Instr.index 182 (.agg #[f0, f1, f2, f3, f4, f5]) (.int .i64 2)).run Tryz.prog W = .ok f2 W := by
 simp [Instr.index, run_underlying Tryz.underlying182, asIntOf, go_sem]
theorem idx6_3 (f0 f1 f2 f3 f4 f5 : Value) (W : World) : (Instr.index 182 (.agg #[f0, f1, f2, f3, f4, f5]) (.int .i64 3)).run Tryz.prog W = .ok f3 W := by
 simp [Instr.index, run_underlying Tryz.underlying182, asIntOf, go_sem]
theorem idx6_4 (f0 f1 f2 f3 f4 f5 : Value) (W : World) : (Instr.index 182 (.agg #[f0, f1, f2, f3, f4, f5]) (.int .i64 4)).run Tryz.prog W = .ok f4 W := by
 simp [Instr.index, run_underlying Tryz.underlying182, asIntOf, go_sem]
theorem idx6_5 (f0 f1 f2 f3 f4 f5 : Value) (W : World) : (Instr.index 182 (.agg #[f0, f1, f2, f3, f4, f5]) (.int .i64 5)).run Tryz.prog W = .ok f5 W := by
 simp [Instr.index, run_underlying Tryz.underlying182, asIntOf, go_sem]
def closeM (N : Nat) (xs : List Int) : Option (List Int) :=
 if negs N (mirrors N N (paths N N xs)) N then none
 else if sideNegs N (evens N N (mirrors N N (paths N N xs))) N then none
 else some (strengthens N N (evens N N (mirrors N N (paths N N xs))))
def closeO (o : O) : O :=
 if o.e then ⟨o.n, true, []⟩
 else match closeM (2 * o.n).toNat o.m with
  | none => ⟨o.n, true, []⟩
  | some m => ⟨o.n, false, m⟩
def stageM (N : Nat) (xs : List Int) : Nat → List Int
 | 0 => xs
 | 1 => paths N N xs
 | 2 => mirrors N N (paths N N xs)
 | 3 => mirrors N N (paths N N xs)
 | 4 => evens N N (mirrors N N (paths N N xs))
 | 5 => evens N N (mirrors N N (paths N N xs))
 | _ => strengthens N N (evens N N (mirrors N N (paths N N xs)))
theorem closeO_none {n : Int} {m : List Int} (h : closeM (2 * n).toNat m = none) : closeO ⟨n, false, m⟩ = ⟨n, true, []⟩ := by
 unfold closeO; rw [if_neg (by simp)]; dsimp only; rw [h]
theorem closeO_some {n : Int} {m ys : List Int} (h : closeM (2 * n).toNat m = some ys) : closeO ⟨n, false, m⟩ = ⟨n, false, ys⟩ := by
 unfold closeO; rw [if_neg (by simp)]; dsimp only; rw [h]
def CloseRes (w : World) (o : O) (er : Int) (e : Ending) (w' : World) : Prop := ∃ A1 c1 s, e = .returned (.tuple #[.agg #[o.n, o.e, .slice A1 o.m.length c1], .bool s, er]) ∧ Own w' w.heap.size A1 c1 o.m ∧ Below w.heap.size w w'
theorem close_any (o : O) (A : Option Addr) (c : Nat) (w : World) (hx : Rd w w.heap.size A o.m) (hm : o.m.length ≤ 17592186044416) :
  Calls Tryz.prog 89 #[.agg #[o.n, o.e, .slice A o.m.length c]] w (CloseRes w (if check o = 0 then closeO o else ⟨0, false, []⟩) (check o)) := by
 obtain ⟨n, e, m⟩ := o
 dsimp only at *
 have a3 : Below w.heap.size w ((w.alloc (Obj.cells #[n, e, .slice A m.length c] 24)).alloc (Obj.cells #[.int .i64 0, false, .slice none 0 0] 24)) := ((Below.refl _ _).alloc (Nat.le_refl _) _).alloc (by simp) _
 obtain ⟨p0, p1⟩ := blk_two (w := w) (Below.refl _ ((w.alloc (Obj.cells #[n, e, .slice A m.length c] 24)).alloc (Obj.cells #[.int .i64 0, false, .slice none 0 0] 24)))
 replace hx := hx.up a3
 by_cases hk : check ⟨n, e, m⟩ = 0
 ·rw [if_pos hk, hk]
  have c7 := check_bounds hk
  obtain ⟨n0, n1, d7, c8⟩ := check_ok hk
  dsimp only at c7 n0 n1 d7 c8
  have d1 := hid d7
  have d3 := hid c8
  have HBD := hid c7
  have HK := hid hk
  clear d7 c8 c7
  have hm1 : m.length ≤ 281474976710656 := by omega
  go_enter Tryz.func89, Tryz.ntmps89
  go_wp2_with fail
  refine (check_any ⟨n, e, m⟩ A c _ hx hm1).mono ?_
  rw [hk]
  clear hk hm1
  generalize (w.alloc (Obj.cells #[n, e, .slice A m.length c] 24)).alloc (Obj.cells #[.int .i64 0, false, .slice none 0 0] 24) = w0 at *
  rintro e1 w1 ⟨rfl, b5⟩
  replace hx := hx.up b5
  replace p0 := p0.later b5
  replace p1 := p1.later b5
  replace a3 := bup a3 b5
  clear b5
  obtain ⟨x0, x1, x2, fx⟩ := octbox p0
  cases e with
  | true =>
   have hm0 := d1.out rfl
   subst hm0
   clear d1 d3
   go_wp2_with fail
   refine (dempty_any n w1 n0 n1).mono ?_
   rintro e2 w2 ⟨rfl, d2⟩
   replace p1 := p1.later d2
   replace a3 := bup a3 d2
   clear d2 x0 x1 x2 fx
   have n3 := new1 w2 (.cells #[n, true, .slice none 0 0] 24)
   have p3 := Blk.new w2 24 #[n, true, .slice none 0 0]
   obtain ⟨y0, y1, y2, fy⟩ := octbox (p1.later n3)
   replace a3 := bup a3 n3
   go_wp2
   refine bodyPost_ret (v := .tuple #[.agg #[n, true, .slice none 0 0], false, .int .i64 0]) (by simp [results, Tryz.results89, go_sem, y0, y1, y2]) rfl ⟨none, 0, false, rfl, own_nil _ _, ?_⟩
   exact a3.trans (below3 (by omega) a3.size)
  | false =>
   have hml := d3.out rfl
   clear d1 d3
   obtain ⟨N, hN⟩ : ∃ N : Nat, (N : Int) = 2 * n := ⟨(2 * n).toNat, by omega⟩
   have hNN : m.length = N * N := by
    have e : (4 * n * n) = ((N * N : Nat) : Int) := by rw [Int.natCast_mul, hN]; rw [show (4 : Int) = 2 * 2 from rfl]; simp only [Int.mul_assoc, Int.mul_left_comm]
    omega
   have hNt : (2 * n).toNat = N := by omega
   have hN1 : N ≤ 128 := by omega
   have HN := hid hN
   have HNN := hid hNN
   have d8 := hid hNt
   clear hml hN hNN hNt
   go_wp2_with fail
   have m0 : Below w.heap.size w w1.drew := a3.drew
   have m1 : Rd w1.drew w1.drew.heap.size A m := hx
   have q1 : Blk w1.drew (w.heap.size + 1) 24 #[.int .i64 0, false, .slice none 0 0] := p1
   go_region_held3 (fun W => W.cell? ⟨w.heap.size, 0, none⟩ = some (.int .i64 n) ∧ W.cell? ⟨w.heap.size, 2, none⟩ = some (.slice A m.length c)) (first | go_keep | (refine ⟨?_, ?_⟩ <;> (refine cell_later ‹Below _ _ _› ?_; first | assumption | go_keep)))
    (first
     | (go_at_call 164; (with_reducible refine (clone_any m A c _ m1 hm).mono ?_); rintro ee u1 ⟨B1, r1, rfl, b9, c5⟩))
   go_wp2_with fail
   have hB0 : w.heap.size + 2 ≤ w1.drew.heap.size := q1.lt
   have hMX : MX w1.drew.heap.size u1.heap.size n B1 r1 false m (u1.alloc (.cells #[n, .slice B1 m.length r1, false, false] 181)) := by
    refine ⟨c5.size, fun g hg => ?_, ⟨false, Blk.new _ _ _⟩, b9.below (new1 _ _)⟩
    rcases b9.form with ⟨h, _⟩ | ⟨g', h, _, h2⟩
    ·rw [h] at hg; cases hg
    ·rw [h] at hg; injection hg with hg; injection hg with hg; omega
   have n2 := new1 u1 (.cells #[n, .slice B1 m.length r1, false, false] 181)
   have hBu : w1.drew.heap.size ≤ (u1.alloc (.cells #[n, .slice B1 m.length r1, false, false] 181)).heap.size := Nat.le_trans c5.size n2.size
   have d0 := bup (bup m0 c5) n2
   have hBw : w.heap.size ≤ w1.drew.heap.size := m0.size
   have p0' : Blk w1.drew w.heap.size 24 #[n, false, .slice A m.length c] := p0
   replace p0 := (p0'.later c5).later n2
   replace q1 := (q1.later c5).later n2
   have d6 : w.heap.size < w1.drew.heap.size := by omega
   have c4 : w.heap.size + 1 < w1.drew.heap.size := by omega
   clear hx p1 a3 x0 x1 x2 m0 m1 c5 b9 n2 p0' hB0
   generalize u1.alloc (.cells #[n, .slice B1 m.length r1, false, false] 181) = u2 at *
   generalize u1.heap.size = gx at *
   generalize hBB : w1.drew.heap.size = B at *
   clear hBB
   go_loopw [48] (fun t wr => ∃ (k : Nat) (ys : List Int), k ≤ 6 ∧ t = .int .i64 k ∧ Hid (ys = stageM N m k) ∧ Hid (ys.length = N * N) ∧ MX B gx n B1 r1 false ys wr ∧ AllB ys ∧ Below B u2 wr ∧ Hid (3 ≤ k → negs N (stageM N m 2) N = false) ∧ Hid (5 ≤ k → sideNegs N (stageM N m 4) N = false)) (fun t _ => 6 - (RowKit.intOf t).toNat)
   case atStart => exact ⟨0, m, by omega, rfl, hid rfl, HNN, hMX, HBD.out, Below.refl _ _, hid (fun h => absurd h (by omega)), hid (fun h => absurd h (by omega))⟩
   case round =>
    clear hMX
    obtain ⟨k, ys, hk, rfl, a8, hl, hM, hb, a7, hn, hs⟩ := hrel
    have hBr0 : B ≤ wr.heap.size := Nat.le_trans hBu a7.size
    have a6 : True := trivial
    obtain rfl | rfl | rfl | rfl | rfl | rfl | rfl : k = 0 ∨ k = 1 ∨ k = 2 ∨ k = 3 ∨ k = 4 ∨ k = 5 ∨ k = 6 := by omega
    ·
     clear a6
     have c2 := fun W => idx6_0 (.func (.func 165) #[.pointer (some ⟨gx, 0, none⟩)] #[]) (.func (.func 166) #[.pointer (some ⟨gx, 0, none⟩)] #[]) (.func (.func 167) #[.pointer (some ⟨gx, 0, none⟩)] #[]) (.func (.func 168) #[.pointer (some ⟨gx, 0, none⟩)] #[]) (.func (.func 169) #[.pointer (some ⟨gx, 0, none⟩)] #[]) (.func (.func 170) #[.pointer (some ⟨gx, 0, none⟩)] #[]) W
     go_wp2_with fail
     refine (paths_any N hM HN.out hN1 hl.out hb hBr0).mono ?_
     rintro e3 w3 ⟨⟨v3, rfl⟩, hM3, a4, c3, a5⟩
     have a0 := a7.trans a5
     have xe := hM3.e_
     go_wp2
     go_roundw
     case rel => exact ⟨1, _, by omega, rfl, hid (by rw [a8.out]; rfl), hid c3, hM3, a4, a0, hid (fun h => absurd h (by omega)), hid (fun h => absurd h (by omega))⟩
     case measure => simp [RowKit.intOf]
    ·
     clear a6
     have c2 := fun W => idx6_1 (.func (.func 165) #[.pointer (some ⟨gx, 0, none⟩)] #[]) (.func (.func 166) #[.pointer (some ⟨gx, 0, none⟩)] #[]) (.func (.func 167) #[.pointer (some ⟨gx, 0, none⟩)] #[]) (.func (.func 168) #[.pointer (some ⟨gx, 0, none⟩)] #[]) (.func (.func 169) #[.pointer (some ⟨gx, 0, none⟩)] #[]) (.func (.func 170) #[.pointer (some ⟨gx, 0, none⟩)] #[]) W
     go_wp2_with fail
     refine (mirrors_any N hM HN.out hN1 hl.out hb hBr0).mono ?_
     rintro e3 w3 ⟨⟨v3, rfl⟩, hM3, a4, c3, a5⟩
     have a0 := a7.trans a5
     have xe := hM3.e_
     go_wp2
     go_roundw
     case rel => exact ⟨2, _, by omega, rfl, hid (by rw [a8.out]; rfl), hid c3, hM3, a4, a0, hid (fun h => absurd h (by omega)), hid (fun h => absurd h (by omega))⟩
     case measure => simp [RowKit.intOf]
    ·
     clear a6
     have c2 := fun W => idx6_2 (.func (.func 165) #[.pointer (some ⟨gx, 0, none⟩)] #[]) (.func (.func 166) #[.pointer (some ⟨gx, 0, none⟩)] #[]) (.func (.func 167) #[.pointer (some ⟨gx, 0, none⟩)] #[]) (.func (.func 168) #[.pointer (some ⟨gx, 0, none⟩)] #[]) (.func (.func 169) #[.pointer (some ⟨gx, 0, none⟩)] #[]) (.func (.func 170) #[.pointer (some ⟨gx, 0, none⟩)] #[]) W
     go_wp2_with fail
     refine (loops_any N hM HN.out hN1 hl.out hBr0).mono ?_
     rintro e3 w3 ⟨⟨v3, rfl⟩, hM3, a5⟩
     have a0 := a7.trans a5
     rw [Bool.false_or] at hM3
     cases hneg : negs N ys N with
     | false =>
      rw [hneg] at hM3
      have xe := hM3.e_
      go_wp2
      go_roundw
      case rel => exact ⟨3, _, by omega, rfl, hid (by rw [a8.out]; rfl), hl, hM3, hb, a0, hid (fun _ => by rw [a8.out] at hneg; exact hneg), hid (fun h => absurd h (by omega))⟩
      case measure => simp [RowKit.intOf]
     | true =>
      rw [hneg] at hM3
      have a1 : closeM N m = none := by unfold closeM; rw [if_pos (by rw [a8.out] at hneg; exact hneg)]
      have d5 := hid a1
      clear a5 hM
      have hBr : B ≤ w3.heap.size := Nat.le_trans hBu a0.size
      have r0 : Blk w3 w.heap.size _ _ := p0.below a0 d6
      have r1' : Blk w3 (w.heap.size + 1) _ _ := q1.below a0 c4
      have a9 : Below w.heap.size w w3 := d0.trans (a0.mono hBw)
      obtain ⟨x0, x1, x2, fx⟩ := octbox r0
      have xe := hM3.e_
      clear a7 r0
      go_wp2_with fail
      refine (dempty_any n w3 n0 n1).mono ?_
      rintro e4 w4 ⟨rfl, b6⟩
      clear x0 x1 x2 fx xe
      have hM4 := (hM3.up b6).up (new1 w4 (.cells #[n, true, .slice none 0 0] 24))
      have p4 := Blk.new w4 24 #[n, true, .slice none 0 0]
      have r4 := (r1'.later b6).later (new1 w4 (.cells #[n, true, .slice none 0 0] 24))
      have c0 := bup (bup a9 b6) (new1 w4 (.cells #[n, true, .slice none 0 0] 24))
      go_wp2
      generalize w4.alloc (.cells #[n, true, .slice none 0 0] 24) = w5 at *
      have hg4 := (r1'.later b6).lt
      generalize w4.heap.size = g4 at *
      obtain ⟨sv, b4⟩ := hM4.2.2.1
      have hgx := hM4.base
      have fs := SB.laters (g := w.heap.size + 1) (v0 := .int .i64 n) (v1 := .bool true) (v2 := .slice none 0 0) (b4.cell 2) (by omega)
      obtain ⟨y0, y1, y2, fy⟩ := octbox p4
      have gy0 := SB.laters (g := w.heap.size + 1) (v0 := .int .i64 n) (v1 := .bool true) (v2 := .slice none 0 0) y0 (by omega)
      have gy1 := SB.laters (g := w.heap.size + 1) (v0 := .int .i64 n) (v1 := .bool true) (v2 := .slice none 0 0) y1 (by omega)
      have gy2 := SB.laters (g := w.heap.size + 1) (v0 := .int .i64 n) (v1 := .bool true) (v2 := .slice none 0 0) y2 (by omega)
      obtain ⟨b0, b1, b2, b3⟩ := SB.boxes (v0 := .int .i64 n) (v1 := .bool true) (v2 := .slice none 0 0) r4
      clear y0 y1 y2 fy b4 a1
      refine wp_region_flowM 6 5 (SB w5 (w.heap.size + 1) (.int .i64 n) (.bool true) (.slice none 0 0)) (by kernel_rfl) (by kernel_rfl) (by decide) (Below.refl _ _).drew ?_
      (repeat (first | (refine FlowM.skip (by rfl) (by rfl) ?_; simp only [Act.put, List.setIfInBounds_toArray, List.set_cons_zero, List.set_cons_succ]) | (refine' FlowM.take _ (by rfl) (by rfl) (fun W hW R hR => ?_) ?_; rotate_left; (go_simp; (try go_bits); with_reducible exact hR); simp only [Act.put, List.setIfInBounds_toArray, List.set_cons_zero, List.set_cons_succ])))
      (refine FlowM.mark (by rfl) (by rfl) (by rfl) (fun W hW R hR => ?_) ?_; (go_simp; (exact hR _ ⟨W, hW, rfl⟩)))
      intro w6 h6
      obtain ⟨W0, b7, rfl⟩ := h6
      clear fs gy0 gy1 gy2 b0 b1 b2 b3
      obtain ⟨z0, z1, z2, fz⟩ := octbox ((r4.later b7).set3 (v0 := .int .i64 n) (v1 := .bool true) (v2 := .slice none 0 0))
      have a2 := bup c0 b7
      go_wp2
      refine bodyPost_ret (v := .tuple #[.agg #[n, true, .slice none 0 0], sv, .int .i64 0]) (by simp [results, Tryz.results89, go_sem, z0, z1, z2]) rfl ?_
      rw [closeO_none (by rw [d8.out]; exact d5.out)]
      exact ⟨none, 0, sv, rfl, own_nil _ _, a2.trans (below3 (by omega) a2.size)⟩
    ·
     clear a6
     have c2 := fun W => idx6_3 (.func (.func 165) #[.pointer (some ⟨gx, 0, none⟩)] #[]) (.func (.func 166) #[.pointer (some ⟨gx, 0, none⟩)] #[]) (.func (.func 167) #[.pointer (some ⟨gx, 0, none⟩)] #[]) (.func (.func 168) #[.pointer (some ⟨gx, 0, none⟩)] #[]) (.func (.func 169) #[.pointer (some ⟨gx, 0, none⟩)] #[]) (.func (.func 170) #[.pointer (some ⟨gx, 0, none⟩)] #[]) W
     go_wp2_with fail
     refine (evens_any N hM HN.out hN1 hl.out hb hBr0).mono ?_
     rintro e3 w3 ⟨⟨v3, rfl⟩, hM3, a4, c3, a5⟩
     have a0 := a7.trans a5
     have xe := hM3.e_
     go_wp2
     go_roundw
     case rel => exact ⟨4, _, by omega, rfl, hid (by rw [a8.out]; rfl), hid c3, hM3, a4, a0, hid (fun _ => hn.out (by omega)), hid (fun h => absurd h (by omega))⟩
     case measure => simp [RowKit.intOf]
    ·
     clear a6
     have c2 := fun W => idx6_4 (.func (.func 165) #[.pointer (some ⟨gx, 0, none⟩)] #[]) (.func (.func 166) #[.pointer (some ⟨gx, 0, none⟩)] #[]) (.func (.func 167) #[.pointer (some ⟨gx, 0, none⟩)] #[]) (.func (.func 168) #[.pointer (some ⟨gx, 0, none⟩)] #[]) (.func (.func 169) #[.pointer (some ⟨gx, 0, none⟩)] #[]) (.func (.func 170) #[.pointer (some ⟨gx, 0, none⟩)] #[]) W
     go_wp2_with fail
     refine (sides_any N hM HN.out hN1 hl.out hBr0).mono ?_
     rintro e3 w3 ⟨⟨v3, rfl⟩, hM3, a5⟩
     have a0 := a7.trans a5
     rw [Bool.false_or] at hM3
     cases hneg : sideNegs N ys N with
     | false =>
      rw [hneg] at hM3
      have xe := hM3.e_
      go_wp2
      go_roundw
      case rel => exact ⟨5, _, by omega, rfl, hid (by rw [a8.out]; rfl), hl, hM3, hb, a0, hid (fun _ => hn.out (by omega)), hid (fun _ => by rw [a8.out] at hneg; exact hneg)⟩
      case measure => simp [RowKit.intOf]
     | true =>
      rw [hneg] at hM3
      have a1 : closeM N m = none := by unfold closeM; rw [if_neg (by have := hn.out (by omega); rw [show stageM N m 2 = mirrors N N (paths N N m) from rfl] at this; simp [this]), if_pos (by rw [a8.out] at hneg; exact hneg)]
      have d5 := hid a1
      clear a5 hM
      have hBr : B ≤ w3.heap.size := Nat.le_trans hBu a0.size
      have r0 : Blk w3 w.heap.size _ _ := p0.below a0 d6
      have r1' : Blk w3 (w.heap.size + 1) _ _ := q1.below a0 c4
      have a9 : Below w.heap.size w w3 := d0.trans (a0.mono hBw)
      obtain ⟨x0, x1, x2, fx⟩ := octbox r0
      have xe := hM3.e_
      clear a7 r0
      go_wp2_with fail
      refine (dempty_any n w3 n0 n1).mono ?_
      rintro e4 w4 ⟨rfl, b6⟩
      clear x0 x1 x2 fx xe
      have hM4 := (hM3.up b6).up (new1 w4 (.cells #[n, true, .slice none 0 0] 24))
      have p4 := Blk.new w4 24 #[n, true, .slice none 0 0]
      have r4 := (r1'.later b6).later (new1 w4 (.cells #[n, true, .slice none 0 0] 24))
      have c0 := bup (bup a9 b6) (new1 w4 (.cells #[n, true, .slice none 0 0] 24))
      go_wp2
      generalize w4.alloc (.cells #[n, true, .slice none 0 0] 24) = w5 at *
      have hg4 := (r1'.later b6).lt
      generalize w4.heap.size = g4 at *
      obtain ⟨sv, b4⟩ := hM4.2.2.1
      have hgx := hM4.base
      have fs := SB.laters (g := w.heap.size + 1) (v0 := .int .i64 n) (v1 := .bool true) (v2 := .slice none 0 0) (b4.cell 2) (by omega)
      obtain ⟨y0, y1, y2, fy⟩ := octbox p4
      have gy0 := SB.laters (g := w.heap.size + 1) (v0 := .int .i64 n) (v1 := .bool true) (v2 := .slice none 0 0) y0 (by omega)
      have gy1 := SB.laters (g := w.heap.size + 1) (v0 := .int .i64 n) (v1 := .bool true) (v2 := .slice none 0 0) y1 (by omega)
      have gy2 := SB.laters (g := w.heap.size + 1) (v0 := .int .i64 n) (v1 := .bool true) (v2 := .slice none 0 0) y2 (by omega)
      obtain ⟨b0, b1, b2, b3⟩ := SB.boxes (v0 := .int .i64 n) (v1 := .bool true) (v2 := .slice none 0 0) r4
      clear y0 y1 y2 fy b4 a1
      refine wp_region_flowM 6 5 (SB w5 (w.heap.size + 1) (.int .i64 n) (.bool true) (.slice none 0 0)) (by kernel_rfl) (by kernel_rfl) (by decide) (Below.refl _ _).drew ?_
      (repeat (first | (refine FlowM.skip (by rfl) (by rfl) ?_; simp only [Act.put, List.setIfInBounds_toArray, List.set_cons_zero, List.set_cons_succ]) | (refine' FlowM.take _ (by rfl) (by rfl) (fun W hW R hR => ?_) ?_; rotate_left; (go_simp; (try go_bits); with_reducible exact hR); simp only [Act.put, List.setIfInBounds_toArray, List.set_cons_zero, List.set_cons_succ])))
      (refine FlowM.mark (by rfl) (by rfl) (by rfl) (fun W hW R hR => ?_) ?_; (go_simp; (exact hR _ ⟨W, hW, rfl⟩)))
      intro w6 h6
      obtain ⟨W0, b7, rfl⟩ := h6
      clear fs gy0 gy1 gy2 b0 b1 b2 b3
      obtain ⟨z0, z1, z2, fz⟩ := octbox ((r4.later b7).set3 (v0 := .int .i64 n) (v1 := .bool true) (v2 := .slice none 0 0))
      have a2 := bup c0 b7
      go_wp2
      refine bodyPost_ret (v := .tuple #[.agg #[n, true, .slice none 0 0], sv, .int .i64 0]) (by simp [results, Tryz.results89, go_sem, z0, z1, z2]) rfl ?_
      rw [closeO_none (by rw [d8.out]; exact d5.out)]
      exact ⟨none, 0, sv, rfl, own_nil _ _, a2.trans (below3 (by omega) a2.size)⟩
    ·
     clear a6
     have c2 := fun W => idx6_5 (.func (.func 165) #[.pointer (some ⟨gx, 0, none⟩)] #[]) (.func (.func 166) #[.pointer (some ⟨gx, 0, none⟩)] #[]) (.func (.func 167) #[.pointer (some ⟨gx, 0, none⟩)] #[]) (.func (.func 168) #[.pointer (some ⟨gx, 0, none⟩)] #[]) (.func (.func 169) #[.pointer (some ⟨gx, 0, none⟩)] #[]) (.func (.func 170) #[.pointer (some ⟨gx, 0, none⟩)] #[]) W
     go_wp2_with fail
     refine (strengthens_any N hM HN.out hN1 hl.out hb hBr0).mono ?_
     rintro e3 w3 ⟨⟨v3, rfl⟩, hM3, a4, c3, a5⟩
     have a0 := a7.trans a5
     have xe := hM3.e_
     go_wp2
     go_roundw
     case rel => exact ⟨6, _, by omega, rfl, hid (by rw [a8.out]; rfl), hid c3, hM3, a4, a0, hid (fun _ => hn.out (by omega)), hid (fun _ => hs.out (by omega))⟩
     case measure => simp [RowKit.intOf]
    ·
     have b8 : closeM N m = some ys := by
      have h1 := hn.out (by omega)
      have h2 := hs.out (by omega)
      unfold closeM
      rw [show stageM N m 2 = mirrors N N (paths N N m) from rfl] at h1
      rw [show stageM N m 4 = evens N N (mirrors N N (paths N N m)) from rfl] at h2
      rw [if_neg (by simp [h1]), if_neg (by simp [h2]), a8.out]
      rfl
     have HSM := hid b8
     have r0 := p0.below a7 d6
     have r1' := q1.below a7 c4
     have a9 : Below w.heap.size w wr := d0.trans (a7.mono hBw)
     obtain ⟨x0, x1, x2, fx⟩ := octbox r0
     obtain ⟨sv, b4⟩ := hM.2.2.1
     have hgx := hM.base
     have fs := SB.laters (g := w.heap.size + 1) (v0 := .int .i64 n) (v1 := .bool false) (v2 := .slice B1 ys.length r1) (b4.cell 2) (by omega)
     have fm := SB.laters (g := w.heap.size + 1) (v0 := .int .i64 n) (v1 := .bool false) (v2 := .slice B1 ys.length r1) (b4.cell 1) (by omega)
     have f0 := SB.laters (g := w.heap.size + 1) (v0 := .int .i64 n) (v1 := .bool false) (v2 := .slice B1 ys.length r1) x0 (by omega)
     obtain ⟨b0, b1, b2, b3⟩ := SB.boxes (v0 := .int .i64 n) (v1 := .bool false) (v2 := .slice B1 ys.length r1) r1'
     clear x0 x1 x2 fx b4 b8 r0
     go_wp2
     refine wp_region_flowM 12 11 (SB wr (w.heap.size + 1) (.int .i64 n) (.bool false) (.slice B1 ys.length r1)) (by kernel_rfl) (by kernel_rfl) (by decide) (Below.refl _ _).drew ?_
     (repeat (first | (refine FlowM.skip (by rfl) (by rfl) ?_; simp only [Act.put, List.setIfInBounds_toArray, List.set_cons_zero, List.set_cons_succ]) | (refine' FlowM.take _ (by rfl) (by rfl) (fun W hW R hR => ?_) ?_; rotate_left; (go_simp; (try go_bits); with_reducible exact hR); simp only [Act.put, List.setIfInBounds_toArray, List.set_cons_zero, List.set_cons_succ])))
     (refine FlowM.mark (by rfl) (by rfl) (by rfl) (fun W hW R hR => ?_) ?_; (go_simp; (exact hR _ ⟨W, hW, rfl⟩)))
     intro w6 h6
     obtain ⟨W0, b7, rfl⟩ := h6
     clear fs fm f0 b0 b1 b2 b3
     obtain ⟨z0, z1, z2, fz⟩ := octbox ((r1'.later b7).set3 (v0 := .int .i64 n) (v1 := .bool false) (v2 := .slice B1 ys.length r1))
     have d4 := (hM.up b7).2.2.2
     have a2 := bup a9 b7
     go_wp2
     refine bodyPost_ret (v := .tuple #[.agg #[n, false, .slice B1 ys.length r1], sv, .int .i64 0]) (by simp [results, Tryz.results89, go_sem, z0, z1, z2]) rfl ?_
     rw [closeO_some (by rw [d8.out]; exact HSM.out)]
     exact ⟨B1, r1, sv, rfl, (((d4.setFar (by simpa using c4) _).setFar (by simpa using c4) _).setFar (by simpa using c4) _).less hBw, a2.trans (below3 (by omega) a2.size)⟩
 ·rw [if_neg hk]
  have tk : (check ⟨n, e, m⟩ != 0) = true := by simp [hk]
  have hhk := hid hk
  clear hk
  go_enter Tryz.func89, Tryz.ntmps89
  go_wp2_with fail
  refine (check_any ⟨n, e, m⟩ A c _ hx (by dsimp only; omega)).mono ?_
  generalize (w.alloc (Obj.cells #[n, e, .slice A m.length c] 24)).alloc (Obj.cells #[.int .i64 0, false, .slice none 0 0] 24) = w0 at *
  rintro e1 w1 ⟨rfl, b5⟩
  replace p1 := p1.later b5
  replace a3 := bup a3 b5
  clear b5
  obtain ⟨y0, y1, y2, fy⟩ := octbox p1
  generalize check ⟨n, e, m⟩ = er at *
  go_wp2
  refine bodyPost_ret (v := .tuple #[.agg #[.int .i64 0, false, .slice none 0 0], false, er]) (by simp [results, Tryz.results89, go_sem, y0, y1, y2]) rfl ⟨none, 0, false, rfl, own_nil _ _, ?_⟩
  exact a3.trans (below3 (by omega) a3.size)
end Go.Proofs.YtnmpgijiimglcaaGreat
