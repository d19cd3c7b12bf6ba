import Derived.Test.YtnmpgijiimglcaaGreatBSe05
import Derived.Test.YtnmpgijiimglcaaGreatBSe06
namespace Go.Proofs.YtnmpgijiimglcaaGreat
open Go.RowKit
set_option maxRecDepth 100000
set_option maxHeartbeats 8000000
attribute [local go_sem ↓] Go.wp_at_zero Go.wp_at_succ
theorem zb1 (n : Int) (w : World) (h0 : 0 ≤ n) (h1 : n ≤ 64) :
  Calls Tryz.prog 115 #[n] w fun e w' => e = .returned (.tuple #[.agg #[n, true, .slice none 0 0], .int .i64 0]) ∧ Below w.heap.size w w' := by
 have hd : decide (0 ≤ n ∧ n ≤ 64) = true := by simp [h0, h1]
 go_enter Tryz.func115, Tryz.ntmps115
 go_wp2_with fail
 refine (zbC n _).mono ?_
 rintro e1 w1 ⟨rfl, rfl⟩
 rw [hd]
 go_wp2
 refine bodyPost_ret (v := .tuple #[.agg #[n, true, .slice none 0 0], .int .i64 0]) (by simp [results, Tryz.results115, go_sem]) rfl ⟨rfl, ?_⟩
 exact new1 _ _
theorem zca {o : O} (h : check o = 0) : AllB o.m := by
 obtain ⟨h0, h1, h2, h3⟩ := zas h
 intro p
 by_cases hp : p < o.m.length
 ·have he : o.e = false := by
   cases he : o.e with
   | false => rfl
   | true => have := h2 he; rw [this] at hp; simp at hp
  have hl := h3 he
  have hr : zbB o (2 * o.n).toNat = true := by
   unfold check at h
   split at h
   ·omega
   ·rw [if_neg (by simp [he])] at h
    split at h
    ·assumption
    ·omega
  obtain ⟨N, hN⟩ : ∃ N : Nat, (N : Int) = 2 * o.n := ⟨(2 * o.n).toNat, by omega⟩
  have hNN : o.m.length = N * N := by
   have e : (4 * o.n * o.n) = ((N * N : Nat) : Int) := by rw [Int.natCast_mul, hN]; rw [show (4 : Int) = 2 * 2 from rfl]; simp only [Int.mul_assoc, Int.mul_left_comm]
   omega
  have hNt : (2 * o.n).toNat = N := by omega
  have c7 : 0 < N := by
   rcases Nat.eq_zero_or_pos N with h | h
   ·rw [h] at hNN; omega
   ·exact h
  have hi : p / N < N := Nat.div_lt_of_lt_mul (by omega)
  have hj : p % N < N := Nat.mod_lt _ c7
  unfold zbB at hr
  rw [hNt] at hr
  have c6 := List.all_eq_true.1 hr (p / N) (List.mem_range.2 hi)
  unfold zcT at c6
  have hc := List.all_eq_true.1 c6 (p % N) (List.mem_range.2 hj)
  unfold zbr at hc
  simp only [Bool.and_eq_true] at hc
  have c2 : (2 * o.n * ((p / N : Nat) : Int) + ((p % N : Nat) : Int)) = (p : Int) := by
   rw [← hN, ← Int.natCast_mul, ← Int.natCast_add, Nat.div_add_mod]
  rw [← c2]
  exact hc.1.1
 ·have : gI o.m p = 0 := by unfold gI; simp [List.getD, List.getElem?_eq_none (show o.m.length ≤ p by omega)]
  rw [this]; decide
theorem zlF (f0 f1 f2 f3 f4 f5 : Value) (W : World) : (Instr.index 182 (.agg #[f0, f1, f2, f3, f4, f5]) (.int .i64 0)).run Tryz.prog W = .ok f0 W := by
 simp [Instr.index, run_underlying Tryz.underlying182, asIntOf, go_sem]
theorem zlc (f0 f1 f2 f3 f4 f5 : Value) (W : World) : (Instr.index 182 (.agg #[f0, f1, f2, f3, f4, f5]) (.int .i64 1)).run Tryz.prog W = .ok f1 W := by
 simp [Instr.index, run_underlying Tryz.underlying182, asIntOf, go_sem]
theorem zlG (f0 f1 f2 f3 f4 f5 : Value) (W : World) : (Instr.index 182 (.agg #[f0, f1, f2, f3, f4, f5]) (.int .i64 2)).run Tryz.prog W = .ok f2 W := by
 simp [Instr.index, run_underlying Tryz.underlying182, asIntOf, go_sem]
theorem zlq (f0 f1 f2 f3 f4 f5 : Value) (W : World) : (Instr.index 182 (.agg #[f0, f1, f2, f3, f4, f5]) (.int .i64 3)).run Tryz.prog W = .ok f3 W := by
 simp [Instr.index, run_underlying Tryz.underlying182, asIntOf, go_sem]
theorem zld (f0 f1 f2 f3 f4 f5 : Value) (W : World) : (Instr.index 182 (.agg #[f0, f1, f2, f3, f4, f5]) (.int .i64 4)).run Tryz.prog W = .ok f4 W := by
 simp [Instr.index, run_underlying Tryz.underlying182, asIntOf, go_sem]
theorem zk8 (f0 f1 f2 f3 f4 f5 : Value) (W : World) : (Instr.index 182 (.agg #[f0, f1, f2, f3, f4, f5]) (.int .i64 5)).run Tryz.prog W = .ok f5 W := by
 simp [Instr.index, run_underlying Tryz.underlying182, asIntOf, go_sem]
def zbn (N : Nat) (xs : List Int) : Option (List Int) :=
 if negs N (zaR N N (zbR N N xs)) N then none
 else if zbf N (zcr N N (zaR N N (zbR N N xs))) N then none
 else some (zaU N N (zcr N N (zaR N N (zbR N N xs))))
def closeO (o : O) : O :=
 if o.e then ⟨o.n, true, []⟩
 else match zbn (2 * o.n).toNat o.m with
  | none => ⟨o.n, true, []⟩
  | some m => ⟨o.n, false, m⟩
def zef (N : Nat) (xs : List Int) : Nat → List Int
 | 0 => xs
 | 1 => zbR N N xs
 | 2 => zaR N N (zbR N N xs)
 | 3 => zaR N N (zbR N N xs)
 | 4 => zcr N N (zaR N N (zbR N N xs))
 | 5 => zcr N N (zaR N N (zbR N N xs))
 | _ => zaU N N (zcr N N (zaR N N (zbR N N xs)))
theorem zdM {n : Int} {m : List Int} (h : zbn (2 * n).toNat m = none) : closeO ⟨n, false, m⟩ = ⟨n, true, []⟩ := by
 unfold closeO; rw [if_neg (by simp)]; dsimp only; rw [h]
theorem zfE {n : Int} {m ys : List Int} (h : zbn (2 * n).toNat m = some ys) : closeO ⟨n, false, m⟩ = ⟨n, false, ys⟩ := by
 unfold closeO; rw [if_neg (by simp)]; dsimp only; rw [h]
def zbo (w : World) (o : O) (er : Int) (e : Ending) (w' : World) : Prop := ∃ A1 c1 s, e = .returned (.tuple #[.agg #[o.n, o.e, .slice A1 o.m.length c1], .bool s, er]) ∧ Own w' w.heap.size A1 c1 o.m ∧ Below w.heap.size w w'
theorem zdP (o : O) (A : Option Addr) (c : Nat) (w : World) (hx : Rd w w.heap.size A o.m) (hm : o.m.length ≤ 17592186044416) :
  Calls Tryz.prog 89 #[.agg #[o.n, o.e, .slice A o.m.length c]] w (zbo w (if check o = 0 then closeO o else ⟨0, false, []⟩) (check o)) := by
 obtain ⟨n, e, m⟩ := o
 dsimp only at *
 have a3 : Below w.heap.size w ((w.alloc (Obj.cells #[n, e, .slice A m.length c] 24)).alloc (Obj.cells #[.int .i64 0, false, .slice none 0 0] 24)) := ((Below.refl _ _).alloc (Nat.le_refl _) _).alloc (by simp) _
 obtain ⟨p0, p1⟩ := zdb (w := w) (Below.refl _ ((w.alloc (Obj.cells #[n, e, .slice A m.length c] 24)).alloc (Obj.cells #[.int .i64 0, false, .slice none 0 0] 24)))
 replace hx := hx.up a3
 by_cases hk : check ⟨n, e, m⟩ = 0
 ·rw [if_pos hk, hk]
  have d6 := zca hk
  obtain ⟨n0, n1, d8, d0⟩ := zas hk
  dsimp only at d6 n0 n1 d8 d0
  have c9 := hid d8
  have d4 := hid d0
  have HBD := hid d6
  have HK := hid hk
  clear d8 d0 d6
  have hm1 : m.length ≤ 281474976710656 := by omega
  go_enter Tryz.func89, Tryz.ntmps89
  go_wp2_with fail
  refine (zbF ⟨n, e, m⟩ A c _ hx hm1).mono ?_
  rw [hk]
  clear hk hm1
  generalize (w.alloc (Obj.cells #[n, e, .slice A m.length c] 24)).alloc (Obj.cells #[.int .i64 0, false, .slice none 0 0] 24) = w0 at *
  rintro e1 w1 ⟨rfl, b6⟩
  replace hx := hx.up b6
  replace p0 := p0.later b6
  replace p1 := p1.later b6
  replace a3 := bup a3 b6
  clear b6
  obtain ⟨x0, x1, x2, fx⟩ := zaa p0
  cases e with
  | true =>
   have hm0 := c9.out rfl
   subst hm0
   clear c9 d4
   go_wp2_with fail
   refine (zb1 n w1 n0 n1).mono ?_
   rintro e2 w2 ⟨rfl, d1⟩
   replace p1 := p1.later d1
   replace a3 := bup a3 d1
   clear d1 x0 x1 x2 fx
   have n3 := new1 w2 (.cells #[n, true, .slice none 0 0] 24)
   have p3 := Blk.new w2 24 #[n, true, .slice none 0 0]
   obtain ⟨y0, y1, y2, fy⟩ := zaa (p1.later n3)
   replace a3 := bup a3 n3
   go_wp2
   refine bodyPost_ret (v := .tuple #[.agg #[n, true, .slice none 0 0], false, .int .i64 0]) (by simp [results, Tryz.results89, go_sem, y0, y1, y2]) rfl ⟨none, 0, false, rfl, zbA _ _, ?_⟩
   exact a3.trans (zah (by omega) a3.size)
  | false =>
   have hml := d4.out rfl
   clear c9 d4
   obtain ⟨N, hN⟩ : ∃ N : Nat, (N : Int) = 2 * n := ⟨(2 * n).toNat, by omega⟩
   have hNN : m.length = N * N := by
    have e : (4 * n * n) = ((N * N : Nat) : Int) := by rw [Int.natCast_mul, hN]; rw [show (4 : Int) = 2 * 2 from rfl]; simp only [Int.mul_assoc, Int.mul_left_comm]
    omega
   have hNt : (2 * n).toNat = N := by omega
   have hN1 : N ≤ 128 := by omega
   have HN := hid hN
   have HNN := hid hNN
   have d5 := hid hNt
   clear hml hN hNN hNt
   go_wp2_with fail
   have m0 : Below w.heap.size w w1.drew := a3.drew
   have m1 : Rd w1.drew w1.drew.heap.size A m := hx
   have q1 : Blk w1.drew (w.heap.size + 1) 24 #[.int .i64 0, false, .slice none 0 0] := p1
   go_region_held3 (fun W => W.cell? ⟨w.heap.size, 0, none⟩ = some (.int .i64 n) ∧ W.cell? ⟨w.heap.size, 2, none⟩ = some (.slice A m.length c)) (first | go_keep | (refine ⟨?_, ?_⟩ <;> (refine cell_later ‹Below _ _ _› ?_; first | assumption | go_keep)))
    (first
     | (go_at_call 164; (with_reducible refine (zeP m A c _ m1 hm).mono ?_); rintro ee u1 ⟨B1, r1, rfl, c0, c4⟩))
   go_wp2_with fail
   have hB0 : w.heap.size + 2 ≤ w1.drew.heap.size := q1.lt
   have hMX : MX w1.drew.heap.size u1.heap.size n B1 r1 false m (u1.alloc (.cells #[n, .slice B1 m.length r1, false, false] 181)) := by
    refine ⟨c4.size, fun g hg => ?_, ⟨false, Blk.new _ _ _⟩, c0.below (new1 _ _)⟩
    rcases c0.form with ⟨h, _⟩ | ⟨g', h, _, h2⟩
    ·rw [h] at hg; cases hg
    ·rw [h] at hg; injection hg with hg; injection hg with hg; omega
   have n2 := new1 u1 (.cells #[n, .slice B1 m.length r1, false, false] 181)
   have hBu : w1.drew.heap.size ≤ (u1.alloc (.cells #[n, .slice B1 m.length r1, false, false] 181)).heap.size := Nat.le_trans c4.size n2.size
   have d2 := bup (bup m0 c4) n2
   have hBw : w.heap.size ≤ w1.drew.heap.size := m0.size
   have p0' : Blk w1.drew w.heap.size 24 #[n, false, .slice A m.length c] := p0
   replace p0 := (p0'.later c4).later n2
   replace q1 := (q1.later c4).later n2
   have d3 : w.heap.size < w1.drew.heap.size := by omega
   have c5 : w.heap.size + 1 < w1.drew.heap.size := by omega
   clear hx p1 a3 x0 x1 x2 m0 m1 c4 c0 n2 p0' hB0
   generalize u1.alloc (.cells #[n, .slice B1 m.length r1, false, false] 181) = u2 at *
   generalize u1.heap.size = gx at *
   generalize hBB : w1.drew.heap.size = B at *
   clear hBB
   go_loopw [48] (fun t wr => ∃ (k : Nat) (ys : List Int), k ≤ 6 ∧ t = .int .i64 k ∧ Hid (ys = zef N m k) ∧ Hid (ys.length = N * N) ∧ MX B gx n B1 r1 false ys wr ∧ AllB ys ∧ Below B u2 wr ∧ Hid (3 ≤ k → negs N (zef N m 2) N = false) ∧ Hid (5 ≤ k → zbf N (zef N m 4) N = false)) (fun t _ => 6 - (RowKit.intOf t).toNat)
   case atStart => exact ⟨0, m, by omega, rfl, hid rfl, HNN, hMX, HBD.out, Below.refl _ _, hid (fun h => absurd h (by omega)), hid (fun h => absurd h (by omega))⟩
   case round =>
    clear hMX
    obtain ⟨k, ys, hk, rfl, a8, hl, hM, hb, a7, hn, hs⟩ := hrel
    have hBr0 : B ≤ wr.heap.size := Nat.le_trans hBu a7.size
    have a6 : True := trivial
    obtain rfl | rfl | rfl | rfl | rfl | rfl | rfl : k = 0 ∨ k = 1 ∨ k = 2 ∨ k = 3 ∨ k = 4 ∨ k = 5 ∨ k = 6 := by omega
    ·
     clear a6
     have c2 := fun W => zlF (.func (.func 165) #[.pointer (some ⟨gx, 0, none⟩)] #[]) (.func (.func 166) #[.pointer (some ⟨gx, 0, none⟩)] #[]) (.func (.func 167) #[.pointer (some ⟨gx, 0, none⟩)] #[]) (.func (.func 168) #[.pointer (some ⟨gx, 0, none⟩)] #[]) (.func (.func 169) #[.pointer (some ⟨gx, 0, none⟩)] #[]) (.func (.func 170) #[.pointer (some ⟨gx, 0, none⟩)] #[]) W
     go_wp2_with fail
     refine (zhA N hM HN.out hN1 hl.out hb hBr0).mono ?_
     rintro e3 w3 ⟨⟨v3, rfl⟩, hM3, a4, c3, a5⟩
     have a0 := a7.trans a5
     have xe := hM3.e_
     go_wp2
     go_roundw
     case rel => exact ⟨1, _, by omega, rfl, hid (by rw [a8.out]; rfl), hid c3, hM3, a4, a0, hid (fun h => absurd h (by omega)), hid (fun h => absurd h (by omega))⟩
     case measure => simp [RowKit.intOf]
    ·
     clear a6
     have c2 := fun W => zlc (.func (.func 165) #[.pointer (some ⟨gx, 0, none⟩)] #[]) (.func (.func 166) #[.pointer (some ⟨gx, 0, none⟩)] #[]) (.func (.func 167) #[.pointer (some ⟨gx, 0, none⟩)] #[]) (.func (.func 168) #[.pointer (some ⟨gx, 0, none⟩)] #[]) (.func (.func 169) #[.pointer (some ⟨gx, 0, none⟩)] #[]) (.func (.func 170) #[.pointer (some ⟨gx, 0, none⟩)] #[]) W
     go_wp2_with fail
     refine (zfD N hM HN.out hN1 hl.out hb hBr0).mono ?_
     rintro e3 w3 ⟨⟨v3, rfl⟩, hM3, a4, c3, a5⟩
     have a0 := a7.trans a5
     have xe := hM3.e_
     go_wp2
     go_roundw
     case rel => exact ⟨2, _, by omega, rfl, hid (by rw [a8.out]; rfl), hid c3, hM3, a4, a0, hid (fun h => absurd h (by omega)), hid (fun h => absurd h (by omega))⟩
     case measure => simp [RowKit.intOf]
    ·
     clear a6
     have c2 := fun W => zlG (.func (.func 165) #[.pointer (some ⟨gx, 0, none⟩)] #[]) (.func (.func 166) #[.pointer (some ⟨gx, 0, none⟩)] #[]) (.func (.func 167) #[.pointer (some ⟨gx, 0, none⟩)] #[]) (.func (.func 168) #[.pointer (some ⟨gx, 0, none⟩)] #[]) (.func (.func 169) #[.pointer (some ⟨gx, 0, none⟩)] #[]) (.func (.func 170) #[.pointer (some ⟨gx, 0, none⟩)] #[]) W
     go_wp2_with fail
     refine (zhI N hM HN.out hN1 hl.out hBr0).mono ?_
     rintro e3 w3 ⟨⟨v3, rfl⟩, hM3, a5⟩
     have a0 := a7.trans a5
     rw [Bool.false_or] at hM3
     cases hneg : negs N ys N with
     | false =>
      rw [hneg] at hM3
      have xe := hM3.e_
      go_wp2
      go_roundw
      case rel => exact ⟨3, _, by omega, rfl, hid (by rw [a8.out]; rfl), hl, hM3, hb, a0, hid (fun _ => by rw [a8.out] at hneg; exact hneg), hid (fun h => absurd h (by omega))⟩
      case measure => simp [RowKit.intOf]
     | true =>
      rw [hneg] at hM3
      have a2 : zbn N m = none := by unfold zbn; rw [if_pos (by rw [a8.out] at hneg; exact hneg)]
      have d7 := hid a2
      clear a5 hM
      have hBr : B ≤ w3.heap.size := Nat.le_trans hBu a0.size
      have r0 : Blk w3 w.heap.size _ _ := p0.below a0 d3
      have r1' : Blk w3 (w.heap.size + 1) _ _ := q1.below a0 c5
      have a9 : Below w.heap.size w w3 := d2.trans (a0.mono hBw)
      obtain ⟨x0, x1, x2, fx⟩ := zaa r0
      have xe := hM3.e_
      clear a7 r0
      go_wp2_with fail
      refine (zb1 n w3 n0 n1).mono ?_
      rintro e4 w4 ⟨rfl, b4⟩
      clear x0 x1 x2 fx xe
      have hM4 := (hM3.up b4).up (new1 w4 (.cells #[n, true, .slice none 0 0] 24))
      have p4 := Blk.new w4 24 #[n, true, .slice none 0 0]
      have r4 := (r1'.later b4).later (new1 w4 (.cells #[n, true, .slice none 0 0] 24))
      have b9 := bup (bup a9 b4) (new1 w4 (.cells #[n, true, .slice none 0 0] 24))
      go_wp2
      generalize w4.alloc (.cells #[n, true, .slice none 0 0] 24) = w5 at *
      have hg4 := (r1'.later b4).lt
      generalize w4.heap.size = g4 at *
      obtain ⟨sv, b7⟩ := hM4.2.2.1
      have hgx := hM4.base
      have fs := SB.laters (g := w.heap.size + 1) (v0 := .int .i64 n) (v1 := .bool true) (v2 := .slice none 0 0) (b7.cell 2) (by omega)
      obtain ⟨y0, y1, y2, fy⟩ := zaa p4
      have gy0 := SB.laters (g := w.heap.size + 1) (v0 := .int .i64 n) (v1 := .bool true) (v2 := .slice none 0 0) y0 (by omega)
      have gy1 := SB.laters (g := w.heap.size + 1) (v0 := .int .i64 n) (v1 := .bool true) (v2 := .slice none 0 0) y1 (by omega)
      have gy2 := SB.laters (g := w.heap.size + 1) (v0 := .int .i64 n) (v1 := .bool true) (v2 := .slice none 0 0) y2 (by omega)
      obtain ⟨b0, b1, b2, b3⟩ := SB.boxes (v0 := .int .i64 n) (v1 := .bool true) (v2 := .slice none 0 0) r4
      clear y0 y1 y2 fy b7 a2
      refine zaS 6 5 (SB w5 (w.heap.size + 1) (.int .i64 n) (.bool true) (.slice none 0 0)) (by kernel_rfl) (by kernel_rfl) (by decide) (Below.refl _ _).drew ?_
      (repeat (first | (refine zaH.skip (by rfl) (by rfl) ?_; simp only [Act.put, List.setIfInBounds_toArray, List.set_cons_zero, List.set_cons_succ]) | (refine' zaH.take _ (by rfl) (by rfl) (fun W hW R hR => ?_) ?_; rotate_left; (go_simp; (try go_bits); with_reducible exact hR); simp only [Act.put, List.setIfInBounds_toArray, List.set_cons_zero, List.set_cons_succ])))
      (refine zaH.mark (by rfl) (by rfl) (by rfl) (fun W hW R hR => ?_) ?_; (go_simp; (exact hR _ ⟨W, hW, rfl⟩)))
      intro w6 h6
      obtain ⟨W0, b5, rfl⟩ := h6
      clear fs gy0 gy1 gy2 b0 b1 b2 b3
      obtain ⟨z0, z1, z2, fz⟩ := zaa ((r4.later b5).set3 (v0 := .int .i64 n) (v1 := .bool true) (v2 := .slice none 0 0))
      have a1 := bup b9 b5
      go_wp2
      refine bodyPost_ret (v := .tuple #[.agg #[n, true, .slice none 0 0], sv, .int .i64 0]) (by simp [results, Tryz.results89, go_sem, z0, z1, z2]) rfl ?_
      rw [zdM (by rw [d5.out]; exact d7.out)]
      exact ⟨none, 0, sv, rfl, zbA _ _, a1.trans (zah (by omega) a1.size)⟩
    ·
     clear a6
     have c2 := fun W => zlq (.func (.func 165) #[.pointer (some ⟨gx, 0, none⟩)] #[]) (.func (.func 166) #[.pointer (some ⟨gx, 0, none⟩)] #[]) (.func (.func 167) #[.pointer (some ⟨gx, 0, none⟩)] #[]) (.func (.func 168) #[.pointer (some ⟨gx, 0, none⟩)] #[]) (.func (.func 169) #[.pointer (some ⟨gx, 0, none⟩)] #[]) (.func (.func 170) #[.pointer (some ⟨gx, 0, none⟩)] #[]) W
     go_wp2_with fail
     refine (ziz N hM HN.out hN1 hl.out hb hBr0).mono ?_
     rintro e3 w3 ⟨⟨v3, rfl⟩, hM3, a4, c3, a5⟩
     have a0 := a7.trans a5
     have xe := hM3.e_
     go_wp2
     go_roundw
     case rel => exact ⟨4, _, by omega, rfl, hid (by rw [a8.out]; rfl), hid c3, hM3, a4, a0, hid (fun _ => hn.out (by omega)), hid (fun h => absurd h (by omega))⟩
     case measure => simp [RowKit.intOf]
    ·
     clear a6
     have c2 := fun W => zld (.func (.func 165) #[.pointer (some ⟨gx, 0, none⟩)] #[]) (.func (.func 166) #[.pointer (some ⟨gx, 0, none⟩)] #[]) (.func (.func 167) #[.pointer (some ⟨gx, 0, none⟩)] #[]) (.func (.func 168) #[.pointer (some ⟨gx, 0, none⟩)] #[]) (.func (.func 169) #[.pointer (some ⟨gx, 0, none⟩)] #[]) (.func (.func 170) #[.pointer (some ⟨gx, 0, none⟩)] #[]) W
     go_wp2_with fail
     refine (ziE N hM HN.out hN1 hl.out hBr0).mono ?_
     rintro e3 w3 ⟨⟨v3, rfl⟩, hM3, a5⟩
     have a0 := a7.trans a5
     rw [Bool.false_or] at hM3
     cases hneg : zbf N ys N with
     | false =>
      rw [hneg] at hM3
      have xe := hM3.e_
      go_wp2
      go_roundw
      case rel => exact ⟨5, _, by omega, rfl, hid (by rw [a8.out]; rfl), hl, hM3, hb, a0, hid (fun _ => hn.out (by omega)), hid (fun _ => by rw [a8.out] at hneg; exact hneg)⟩
      case measure => simp [RowKit.intOf]
     | true =>
      rw [hneg] at hM3
      have a2 : zbn N m = none := by unfold zbn; rw [if_neg (by have := hn.out (by omega); rw [show zef N m 2 = zaR N N (zbR N N m) from rfl] at this; simp [this]), if_pos (by rw [a8.out] at hneg; exact hneg)]
      have d7 := hid a2
      clear a5 hM
      have hBr : B ≤ w3.heap.size := Nat.le_trans hBu a0.size
      have r0 : Blk w3 w.heap.size _ _ := p0.below a0 d3
      have r1' : Blk w3 (w.heap.size + 1) _ _ := q1.below a0 c5
      have a9 : Below w.heap.size w w3 := d2.trans (a0.mono hBw)
      obtain ⟨x0, x1, x2, fx⟩ := zaa r0
      have xe := hM3.e_
      clear a7 r0
      go_wp2_with fail
      refine (zb1 n w3 n0 n1).mono ?_
      rintro e4 w4 ⟨rfl, b4⟩
      clear x0 x1 x2 fx xe
      have hM4 := (hM3.up b4).up (new1 w4 (.cells #[n, true, .slice none 0 0] 24))
      have p4 := Blk.new w4 24 #[n, true, .slice none 0 0]
      have r4 := (r1'.later b4).later (new1 w4 (.cells #[n, true, .slice none 0 0] 24))
      have b9 := bup (bup a9 b4) (new1 w4 (.cells #[n, true, .slice none 0 0] 24))
      go_wp2
      generalize w4.alloc (.cells #[n, true, .slice none 0 0] 24) = w5 at *
      have hg4 := (r1'.later b4).lt
      generalize w4.heap.size = g4 at *
      obtain ⟨sv, b7⟩ := hM4.2.2.1
      have hgx := hM4.base
      have fs := SB.laters (g := w.heap.size + 1) (v0 := .int .i64 n) (v1 := .bool true) (v2 := .slice none 0 0) (b7.cell 2) (by omega)
      obtain ⟨y0, y1, y2, fy⟩ := zaa p4
      have gy0 := SB.laters (g := w.heap.size + 1) (v0 := .int .i64 n) (v1 := .bool true) (v2 := .slice none 0 0) y0 (by omega)
      have gy1 := SB.laters (g := w.heap.size + 1) (v0 := .int .i64 n) (v1 := .bool true) (v2 := .slice none 0 0) y1 (by omega)
      have gy2 := SB.laters (g := w.heap.size + 1) (v0 := .int .i64 n) (v1 := .bool true) (v2 := .slice none 0 0) y2 (by omega)
      obtain ⟨b0, b1, b2, b3⟩ := SB.boxes (v0 := .int .i64 n) (v1 := .bool true) (v2 := .slice none 0 0) r4
      clear y0 y1 y2 fy b7 a2
      refine zaS 6 5 (SB w5 (w.heap.size + 1) (.int .i64 n) (.bool true) (.slice none 0 0)) (by kernel_rfl) (by kernel_rfl) (by decide) (Below.refl _ _).drew ?_
      (repeat (first | (refine zaH.skip (by rfl) (by rfl) ?_; simp only [Act.put, List.setIfInBounds_toArray, List.set_cons_zero, List.set_cons_succ]) | (refine' zaH.take _ (by rfl) (by rfl) (fun W hW R hR => ?_) ?_; rotate_left; (go_simp; (try go_bits); with_reducible exact hR); simp only [Act.put, List.setIfInBounds_toArray, List.set_cons_zero, List.set_cons_succ])))
      (refine zaH.mark (by rfl) (by rfl) (by rfl) (fun W hW R hR => ?_) ?_; (go_simp; (exact hR _ ⟨W, hW, rfl⟩)))
      intro w6 h6
      obtain ⟨W0, b5, rfl⟩ := h6
      clear fs gy0 gy1 gy2 b0 b1 b2 b3
      obtain ⟨z0, z1, z2, fz⟩ := zaa ((r4.later b5).set3 (v0 := .int .i64 n) (v1 := .bool true) (v2 := .slice none 0 0))
      have a1 := bup b9 b5
      go_wp2
      refine bodyPost_ret (v := .tuple #[.agg #[n, true, .slice none 0 0], sv, .int .i64 0]) (by simp [results, Tryz.results89, go_sem, z0, z1, z2]) rfl ?_
      rw [zdM (by rw [d5.out]; exact d7.out)]
      exact ⟨none, 0, sv, rfl, zbA _ _, a1.trans (zah (by omega) a1.size)⟩
    ·
     clear a6
     have c2 := fun W => zk8 (.func (.func 165) #[.pointer (some ⟨gx, 0, none⟩)] #[]) (.func (.func 166) #[.pointer (some ⟨gx, 0, none⟩)] #[]) (.func (.func 167) #[.pointer (some ⟨gx, 0, none⟩)] #[]) (.func (.func 168) #[.pointer (some ⟨gx, 0, none⟩)] #[]) (.func (.func 169) #[.pointer (some ⟨gx, 0, none⟩)] #[]) (.func (.func 170) #[.pointer (some ⟨gx, 0, none⟩)] #[]) W
     go_wp2_with fail
     refine (zdG N hM HN.out hN1 hl.out hb hBr0).mono ?_
     rintro e3 w3 ⟨⟨v3, rfl⟩, hM3, a4, c3, a5⟩
     have a0 := a7.trans a5
     have xe := hM3.e_
     go_wp2
     go_roundw
     case rel => exact ⟨6, _, by omega, rfl, hid (by rw [a8.out]; rfl), hid c3, hM3, a4, a0, hid (fun _ => hn.out (by omega)), hid (fun _ => hs.out (by omega))⟩
     case measure => simp [RowKit.intOf]
    ·
     have b8 : zbn N m = some ys := by
      have h1 := hn.out (by omega)
      have h2 := hs.out (by omega)
      unfold zbn
      rw [show zef N m 2 = zaR N N (zbR N N m) from rfl] at h1
      rw [show zef N m 4 = zcr N N (zaR N N (zbR N N m)) from rfl] at h2
      rw [if_neg (by simp [h1]), if_neg (by simp [h2]), a8.out]
      rfl
     have HSM := hid b8
     have r0 := p0.below a7 d3
     have r1' := q1.below a7 c5
     have a9 : Below w.heap.size w wr := d2.trans (a7.mono hBw)
     obtain ⟨x0, x1, x2, fx⟩ := zaa r0
     obtain ⟨sv, b7⟩ := hM.2.2.1
     have hgx := hM.base
     have fs := SB.laters (g := w.heap.size + 1) (v0 := .int .i64 n) (v1 := .bool false) (v2 := .slice B1 ys.length r1) (b7.cell 2) (by omega)
     have fm := SB.laters (g := w.heap.size + 1) (v0 := .int .i64 n) (v1 := .bool false) (v2 := .slice B1 ys.length r1) (b7.cell 1) (by omega)
     have f0 := SB.laters (g := w.heap.size + 1) (v0 := .int .i64 n) (v1 := .bool false) (v2 := .slice B1 ys.length r1) x0 (by omega)
     obtain ⟨b0, b1, b2, b3⟩ := SB.boxes (v0 := .int .i64 n) (v1 := .bool false) (v2 := .slice B1 ys.length r1) r1'
     clear x0 x1 x2 fx b7 b8 r0
     go_wp2
     refine zaS 12 11 (SB wr (w.heap.size + 1) (.int .i64 n) (.bool false) (.slice B1 ys.length r1)) (by kernel_rfl) (by kernel_rfl) (by decide) (Below.refl _ _).drew ?_
     (repeat (first | (refine zaH.skip (by rfl) (by rfl) ?_; simp only [Act.put, List.setIfInBounds_toArray, List.set_cons_zero, List.set_cons_succ]) | (refine' zaH.take _ (by rfl) (by rfl) (fun W hW R hR => ?_) ?_; rotate_left; (go_simp; (try go_bits); with_reducible exact hR); simp only [Act.put, List.setIfInBounds_toArray, List.set_cons_zero, List.set_cons_succ])))
     (refine zaH.mark (by rfl) (by rfl) (by rfl) (fun W hW R hR => ?_) ?_; (go_simp; (exact hR _ ⟨W, hW, rfl⟩)))
     intro w6 h6
     obtain ⟨W0, b5, rfl⟩ := h6
     clear fs fm f0 b0 b1 b2 b3
     obtain ⟨z0, z1, z2, fz⟩ := zaa ((r1'.later b5).set3 (v0 := .int .i64 n) (v1 := .bool false) (v2 := .slice B1 ys.length r1))
     have c8 := (hM.up b5).2.2.2
     have a1 := bup a9 b5
     go_wp2
     refine bodyPost_ret (v := .tuple #[.agg #[n, false, .slice B1 ys.length r1], sv, .int .i64 0]) (by simp [results, Tryz.results89, go_sem, z0, z1, z2]) rfl ?_
     rw [zfE (by rw [d5.out]; exact HSM.out)]
     exact ⟨B1, r1, sv, rfl, (((c8.setFar (by simpa using c5) _).setFar (by simpa using c5) _).setFar (by simpa using c5) _).less hBw, a1.trans (zah (by omega) a1.size)⟩
 ·rw [if_neg hk]
  have tk : (check ⟨n, e, m⟩ != 0) = true := by simp [hk]
  have hhk := hid hk
  clear hk
  go_enter Tryz.func89, Tryz.ntmps89
  go_wp2_with fail
  refine (zbF ⟨n, e, m⟩ A c _ hx (by dsimp only; omega)).mono ?_
  generalize (w.alloc (Obj.cells #[n, e, .slice A m.length c] 24)).alloc (Obj.cells #[.int .i64 0, false, .slice none 0 0] 24) = w0 at *
  rintro e1 w1 ⟨rfl, b6⟩
  replace p1 := p1.later b6
  replace a3 := bup a3 b6
  clear b6
  obtain ⟨y0, y1, y2, fy⟩ := zaa p1
  generalize check ⟨n, e, m⟩ = er at *
  go_wp2
  refine bodyPost_ret (v := .tuple #[.agg #[.int .i64 0, false, .slice none 0 0], false, er]) (by simp [results, Tryz.results89, go_sem, y0, y1, y2]) rfl ⟨none, 0, false, rfl, zbA _ _, ?_⟩
  exact a3.trans (zah (by omega) a3.size)
end Go.Proofs.YtnmpgijiimglcaaGreat
