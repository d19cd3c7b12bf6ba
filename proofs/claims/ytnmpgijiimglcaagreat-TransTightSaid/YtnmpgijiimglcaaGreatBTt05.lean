import Derived.Test.YtnmpgijiimglcaaGreatBTt04
namespace Go.Proofs.YtnmpgijiimglcaaGreat
open Go.RowKit
set_option maxRecDepth 100000
set_option maxHeartbeats 8000000
attribute [local go_sem ↓] Go.wp_at_zero Go.wp_at_succ
theorem zch (n : Int) (w : World) (h0 : 0 ≤ n) (h1 : n ≤ 64) :
  Calls Tryz.prog 115 #[n] w fun e w' => e = .returned (.tuple #[.agg #[n, true, .slice none 0 0], .int .i64 0]) ∧ Below w.heap.size w w' := by
 have hd : decide (0 ≤ n ∧ n ≤ 64) = true := by simp [h0, h1]
 go_enter Tryz.func115, Tryz.ntmps115
 go_wp2_with fail
 refine (zbQ n _).mono ?_
 rintro e1 w1 ⟨rfl, rfl⟩
 rw [hd]
 go_wp2
 refine bodyPost_ret (v := .tuple #[.agg #[n, true, .slice none 0 0], .int .i64 0]) (by simp [results, Tryz.results115, go_sem]) rfl ⟨rfl, ?_⟩
 exact new1 _ _
theorem zcK {o : O} (h : check o = 0) : AllB o.m := by
 obtain ⟨h0, h1, h2, h3⟩ := zbD h
 intro p
 by_cases hp : p < o.m.length
 ·have he : o.e = false := by
   cases he : o.e with
   | false => rfl
   | true => have := h2 he; rw [this] at hp; simp at hp
  have hl := h3 he
  have hr : zbM o (2 * o.n).toNat = true := by
   unfold check at h
   split at h
   ·omega
   ·rw [if_neg (by simp [he])] at h
    split at h
    ·assumption
    ·omega
  obtain ⟨N, hN⟩ : ∃ N : Nat, (N : Int) = 2 * o.n := ⟨(2 * o.n).toNat, by omega⟩
  have hNN : o.m.length = N * N := by
   have e : (4 * o.n * o.n) = ((N * N : Nat) : Int) := by rw [Int.natCast_mul, hN]; rw [show (4 : Int) = 2 * 2 from rfl]; simp only [Int.mul_assoc, Int.mul_left_comm]
   omega
  have hNt : (2 * o.n).toNat = N := by omega
  have d5 : 0 < N := by
   rcases Nat.eq_zero_or_pos N with h | h
   ·rw [h] at hNN; omega
   ·exact h
  have hi : p / N < N := Nat.div_lt_of_lt_mul (by omega)
  have hj : p % N < N := Nat.mod_lt _ d5
  unfold zbM at hr
  rw [hNt] at hr
  have c6 := List.all_eq_true.1 hr (p / N) (List.mem_range.2 hi)
  unfold zdG at c6
  have hc := List.all_eq_true.1 c6 (p % N) (List.mem_range.2 hj)
  unfold zbo at hc
  simp only [Bool.and_eq_true] at hc
  have c3 : (2 * o.n * ((p / N : Nat) : Int) + ((p % N : Nat) : Int)) = (p : Int) := by
   rw [← hN, ← Int.natCast_mul, ← Int.natCast_add, Nat.div_add_mod]
  rw [← c3]
  exact hc.1.1
 ·have : gI o.m p = 0 := by unfold gI; simp [List.getD, List.getElem?_eq_none (show o.m.length ≤ p by omega)]
  rw [this]; decide
theorem zoI (f0 f1 f2 f3 f4 f5 : Value) (W : World) : (Instr.index 182 (.agg #[f0, f1, f2, f3, f4, f5]) (.int .i64 0)).run Tryz.prog W = .ok f0 W := by
 simp [Instr.index, run_underlying Tryz.underlying182, asIntOf, go_sem]
theorem zo1 (f0 f1 f2 f3 f4 f5 : Value) (W : World) : (Instr.index 182 (.agg #[f0, f1, f2, f3, f4, f5]) (.int .i64 1)).run Tryz.prog W = .ok f1 W := by
 simp [Instr.index, run_underlying Tryz.underlying182, asIntOf, go_sem]
theorem zoU (f0 f1 f2 f3 f4 f5 : Value) (W : World) : (Instr.index 182 (.agg #[f0, f1, f2, f3, f4, f5]) (.int .i64 2)).run Tryz.prog W = .ok f2 W := by
 simp [Instr.index, run_underlying Tryz.underlying182, asIntOf, go_sem]
theorem zo6 (f0 f1 f2 f3 f4 f5 : Value) (W : World) : (Instr.index 182 (.agg #[f0, f1, f2, f3, f4, f5]) (.int .i64 3)).run Tryz.prog W = .ok f3 W := by
 simp [Instr.index, run_underlying Tryz.underlying182, asIntOf, go_sem]
theorem zoQ (f0 f1 f2 f3 f4 f5 : Value) (W : World) : (Instr.index 182 (.agg #[f0, f1, f2, f3, f4, f5]) (.int .i64 4)).run Tryz.prog W = .ok f4 W := by
 simp [Instr.index, run_underlying Tryz.underlying182, asIntOf, go_sem]
theorem zoB (f0 f1 f2 f3 f4 f5 : Value) (W : World) : (Instr.index 182 (.agg #[f0, f1, f2, f3, f4, f5]) (.int .i64 5)).run Tryz.prog W = .ok f5 W := by
 simp [Instr.index, run_underlying Tryz.underlying182, asIntOf, go_sem]
def za3 (N : Nat) (xs : List Int) : Option (List Int) :=
 if negs N (zaB N N (paths N N xs)) N then none
 else if zaT N (zaU N N (zaB N N (paths N N xs))) N then none
 else some (zaV N N (zaU N N (zaB N N (paths N N xs))))
def closeO (o : O) : O :=
 if o.e then ⟨o.n, true, []⟩
 else match za3 (2 * o.n).toNat o.m with
  | none => ⟨o.n, true, []⟩
  | some m => ⟨o.n, false, m⟩
def zfA (N : Nat) (xs : List Int) : Nat → List Int
 | 0 => xs
 | 1 => paths N N xs
 | 2 => zaB N N (paths N N xs)
 | 3 => zaB N N (paths N N xs)
 | 4 => zaU N N (zaB N N (paths N N xs))
 | 5 => zaU N N (zaB N N (paths N N xs))
 | _ => zaV N N (zaU N N (zaB N N (paths N N xs)))
theorem zeR {n : Int} {m : List Int} (h : za3 (2 * n).toNat m = none) : closeO ⟨n, false, m⟩ = ⟨n, true, []⟩ := by
 unfold closeO; rw [if_neg (by simp)]; dsimp only; rw [h]
theorem zdd {n : Int} {m ys : List Int} (h : za3 (2 * n).toNat m = some ys) : closeO ⟨n, false, m⟩ = ⟨n, false, ys⟩ := by
 unfold closeO; rw [if_neg (by simp)]; dsimp only; rw [h]
def zlU (w : World) (o : O) (er : Int) (e : Ending) (w' : World) : Prop := ∃ A1 c1 s, e = .returned (.tuple #[.agg #[o.n, o.e, .slice A1 o.m.length c1], .bool s, er]) ∧ Own w' w.heap.size A1 c1 o.m ∧ Below w.heap.size w w'
theorem zg1 (o : O) (A : Option Addr) (c : Nat) (w : World) (hx : Rd w w.heap.size A o.m) (hm : o.m.length ≤ 17592186044416) :
  Calls Tryz.prog 89 #[.agg #[o.n, o.e, .slice A o.m.length c]] w (zlU w (if check o = 0 then closeO o else ⟨0, false, []⟩) (check o)) := by
 obtain ⟨n, e, m⟩ := o
 dsimp only at *
 have a4 : Below w.heap.size w ((w.alloc (Obj.cells #[n, e, .slice A m.length c] 24)).alloc (Obj.cells #[.int .i64 0, false, .slice none 0 0] 24)) := ((Below.refl _ _).alloc (Nat.le_refl _) _).alloc (by simp) _
 obtain ⟨p0, p1⟩ := zdR (w := w) (Below.refl _ ((w.alloc (Obj.cells #[n, e, .slice A m.length c] 24)).alloc (Obj.cells #[.int .i64 0, false, .slice none 0 0] 24)))
 replace hx := hx.up a4
 by_cases hk : check ⟨n, e, m⟩ = 0
 ·rw [if_pos hk, hk]
  have d0 := zcK hk
  obtain ⟨n0, n1, d8, d7⟩ := zbD hk
  dsimp only at d0 n0 n1 d8 d7
  have c9 := hid d8
  have d2 := hid d7
  have HBD := hid d0
  have HK := hid hk
  clear d8 d7 d0
  have hm1 : m.length ≤ 281474976710656 := by omega
  go_enter Tryz.func89, Tryz.ntmps89
  go_wp2_with fail
  refine (zbH ⟨n, e, m⟩ A c _ hx hm1).mono ?_
  rw [hk]
  clear hk hm1
  generalize (w.alloc (Obj.cells #[n, e, .slice A m.length c] 24)).alloc (Obj.cells #[.int .i64 0, false, .slice none 0 0] 24) = w0 at *
  rintro e1 w1 ⟨rfl, b4⟩
  replace hx := hx.up b4
  replace p0 := p0.later b4
  replace p1 := p1.later b4
  replace a4 := bup a4 b4
  clear b4
  obtain ⟨x0, x1, x2, fx⟩ := zaa p0
  cases e with
  | true =>
   have hm0 := c9.out rfl
   subst hm0
   clear c9 d2
   go_wp2_with fail
   refine (zch n w1 n0 n1).mono ?_
   rintro e2 w2 ⟨rfl, d6⟩
   replace p1 := p1.later d6
   replace a4 := bup a4 d6
   clear d6 x0 x1 x2 fx
   have n3 := new1 w2 (.cells #[n, true, .slice none 0 0] 24)
   have p3 := Blk.new w2 24 #[n, true, .slice none 0 0]
   obtain ⟨y0, y1, y2, fy⟩ := zaa (p1.later n3)
   replace a4 := bup a4 n3
   go_wp2
   refine bodyPost_ret (v := .tuple #[.agg #[n, true, .slice none 0 0], false, .int .i64 0]) (by simp [results, Tryz.results89, go_sem, y0, y1, y2]) rfl ⟨none, 0, false, rfl, zca _ _, ?_⟩
   exact a4.trans (zae (by omega) a4.size)
  | false =>
   have hml := d2.out rfl
   clear c9 d2
   obtain ⟨N, hN⟩ : ∃ N : Nat, (N : Int) = 2 * n := ⟨(2 * n).toNat, by omega⟩
   have hNN : m.length = N * N := by
    have e : (4 * n * n) = ((N * N : Nat) : Int) := by rw [Int.natCast_mul, hN]; rw [show (4 : Int) = 2 * 2 from rfl]; simp only [Int.mul_assoc, Int.mul_left_comm]
    omega
   have hNt : (2 * n).toNat = N := by omega
   have hN1 : N ≤ 128 := by omega
   have HN := hid hN
   have HNN := hid hNN
   have c8 := hid hNt
   clear hml hN hNN hNt
   go_wp2_with fail
   have m0 : Below w.heap.size w w1.drew := a4.drew
   have m1 : Rd w1.drew w1.drew.heap.size A m := hx
   have q1 : Blk w1.drew (w.heap.size + 1) 24 #[.int .i64 0, false, .slice none 0 0] := p1
   go_region_held3 (fun W => W.cell? ⟨w.heap.size, 0, none⟩ = some (.int .i64 n) ∧ W.cell? ⟨w.heap.size, 2, none⟩ = some (.slice A m.length c)) (first | go_keep | (refine ⟨?_, ?_⟩ <;> (refine cell_later ‹Below _ _ _› ?_; first | assumption | go_keep)))
    (first
     | (go_at_call 164; (with_reducible refine (zgw m A c _ m1 hm).mono ?_); rintro ee u1 ⟨B1, r1, rfl, c0, c5⟩))
   go_wp2_with fail
   have hB0 : w.heap.size + 2 ≤ w1.drew.heap.size := q1.lt
   have hMX : MX w1.drew.heap.size u1.heap.size n B1 r1 false m (u1.alloc (.cells #[n, .slice B1 m.length r1, false, false] 181)) := by
    refine ⟨c5.size, fun g hg => ?_, ⟨false, Blk.new _ _ _⟩, c0.below (new1 _ _)⟩
    rcases c0.form with ⟨h, _⟩ | ⟨g', h, _, h2⟩
    ·rw [h] at hg; cases hg
    ·rw [h] at hg; injection hg with hg; injection hg with hg; omega
   have n2 := new1 u1 (.cells #[n, .slice B1 m.length r1, false, false] 181)
   have hBu : w1.drew.heap.size ≤ (u1.alloc (.cells #[n, .slice B1 m.length r1, false, false] 181)).heap.size := Nat.le_trans c5.size n2.size
   have d3 := bup (bup m0 c5) n2
   have hBw : w.heap.size ≤ w1.drew.heap.size := m0.size
   have p0' : Blk w1.drew w.heap.size 24 #[n, false, .slice A m.length c] := p0
   replace p0 := (p0'.later c5).later n2
   replace q1 := (q1.later c5).later n2
   have d1 : w.heap.size < w1.drew.heap.size := by omega
   have c4 : w.heap.size + 1 < w1.drew.heap.size := by omega
   clear hx p1 a4 x0 x1 x2 m0 m1 c5 c0 n2 p0' hB0
   generalize u1.alloc (.cells #[n, .slice B1 m.length r1, false, false] 181) = u2 at *
   generalize u1.heap.size = gx at *
   generalize hBB : w1.drew.heap.size = B at *
   clear hBB
   go_loopw [48] (fun t wr => ∃ (k : Nat) (ys : List Int), k ≤ 6 ∧ t = .int .i64 k ∧ Hid (ys = zfA N m k) ∧ Hid (ys.length = N * N) ∧ MX B gx n B1 r1 false ys wr ∧ AllB ys ∧ Below B u2 wr ∧ Hid (3 ≤ k → negs N (zfA N m 2) N = false) ∧ Hid (5 ≤ k → zaT N (zfA N m 4) N = false)) (fun t _ => 6 - (RowKit.intOf t).toNat)
   case atStart => exact ⟨0, m, by omega, rfl, hid rfl, HNN, hMX, HBD.out, Below.refl _ _, hid (fun h => absurd h (by omega)), hid (fun h => absurd h (by omega))⟩
   case round =>
    clear hMX
    obtain ⟨k, ys, hk, rfl, a8, hl, hM, hb, a7, hn, hs⟩ := hrel
    have hBr0 : B ≤ wr.heap.size := Nat.le_trans hBu a7.size
    have a5 : True := trivial
    obtain rfl | rfl | rfl | rfl | rfl | rfl | rfl : k = 0 ∨ k = 1 ∨ k = 2 ∨ k = 3 ∨ k = 4 ∨ k = 5 ∨ k = 6 := by omega
    ·
     clear a5
     have c3 := fun W => zoI (.func (.func 165) #[.pointer (some ⟨gx, 0, none⟩)] #[]) (.func (.func 166) #[.pointer (some ⟨gx, 0, none⟩)] #[]) (.func (.func 167) #[.pointer (some ⟨gx, 0, none⟩)] #[]) (.func (.func 168) #[.pointer (some ⟨gx, 0, none⟩)] #[]) (.func (.func 169) #[.pointer (some ⟨gx, 0, none⟩)] #[]) (.func (.func 170) #[.pointer (some ⟨gx, 0, none⟩)] #[]) W
     go_wp2_with fail
     refine (zjE N hM HN.out hN1 hl.out hb hBr0).mono ?_
     rintro e3 w3 ⟨⟨v3, rfl⟩, hM3, a3, c2, a6⟩
     have a0 := a7.trans a6
     have xe := hM3.e_
     go_wp2
     go_roundw
     case rel => exact ⟨1, _, by omega, rfl, hid (by rw [a8.out]; rfl), hid c2, hM3, a3, a0, hid (fun h => absurd h (by omega)), hid (fun h => absurd h (by omega))⟩
     case measure => simp [RowKit.intOf]
    ·
     clear a5
     have c3 := fun W => zo1 (.func (.func 165) #[.pointer (some ⟨gx, 0, none⟩)] #[]) (.func (.func 166) #[.pointer (some ⟨gx, 0, none⟩)] #[]) (.func (.func 167) #[.pointer (some ⟨gx, 0, none⟩)] #[]) (.func (.func 168) #[.pointer (some ⟨gx, 0, none⟩)] #[]) (.func (.func 169) #[.pointer (some ⟨gx, 0, none⟩)] #[]) (.func (.func 170) #[.pointer (some ⟨gx, 0, none⟩)] #[]) W
     go_wp2_with fail
     refine (zha N hM HN.out hN1 hl.out hb hBr0).mono ?_
     rintro e3 w3 ⟨⟨v3, rfl⟩, hM3, a3, c2, a6⟩
     have a0 := a7.trans a6
     have xe := hM3.e_
     go_wp2
     go_roundw
     case rel => exact ⟨2, _, by omega, rfl, hid (by rw [a8.out]; rfl), hid c2, hM3, a3, a0, hid (fun h => absurd h (by omega)), hid (fun h => absurd h (by omega))⟩
     case measure => simp [RowKit.intOf]
    ·
     clear a5
     have c3 := fun W => zoU (.func (.func 165) #[.pointer (some ⟨gx, 0, none⟩)] #[]) (.func (.func 166) #[.pointer (some ⟨gx, 0, none⟩)] #[]) (.func (.func 167) #[.pointer (some ⟨gx, 0, none⟩)] #[]) (.func (.func 168) #[.pointer (some ⟨gx, 0, none⟩)] #[]) (.func (.func 169) #[.pointer (some ⟨gx, 0, none⟩)] #[]) (.func (.func 170) #[.pointer (some ⟨gx, 0, none⟩)] #[]) W
     go_wp2_with fail
     refine (zjG N hM HN.out hN1 hl.out hBr0).mono ?_
     rintro e3 w3 ⟨⟨v3, rfl⟩, hM3, a6⟩
     have a0 := a7.trans a6
     rw [Bool.false_or] at hM3
     cases hneg : negs N ys N with
     | false =>
      rw [hneg] at hM3
      have xe := hM3.e_
      go_wp2
      go_roundw
      case rel => exact ⟨3, _, by omega, rfl, hid (by rw [a8.out]; rfl), hl, hM3, hb, a0, hid (fun _ => by rw [a8.out] at hneg; exact hneg), hid (fun h => absurd h (by omega))⟩
      case measure => simp [RowKit.intOf]
     | true =>
      rw [hneg] at hM3
      have a2 : za3 N m = none := by unfold za3; rw [if_pos (by rw [a8.out] at hneg; exact hneg)]
      have c7 := hid a2
      clear a6 hM
      have hBr : B ≤ w3.heap.size := Nat.le_trans hBu a0.size
      have r0 : Blk w3 w.heap.size _ _ := p0.below a0 d1
      have r1' : Blk w3 (w.heap.size + 1) _ _ := q1.below a0 c4
      have a9 : Below w.heap.size w w3 := d3.trans (a0.mono hBw)
      obtain ⟨x0, x1, x2, fx⟩ := zaa r0
      have xe := hM3.e_
      clear a7 r0
      go_wp2_with fail
      refine (zch n w3 n0 n1).mono ?_
      rintro e4 w4 ⟨rfl, b6⟩
      clear x0 x1 x2 fx xe
      have hM4 := (hM3.up b6).up (new1 w4 (.cells #[n, true, .slice none 0 0] 24))
      have p4 := Blk.new w4 24 #[n, true, .slice none 0 0]
      have r4 := (r1'.later b6).later (new1 w4 (.cells #[n, true, .slice none 0 0] 24))
      have b9 := bup (bup a9 b6) (new1 w4 (.cells #[n, true, .slice none 0 0] 24))
      go_wp2
      generalize w4.alloc (.cells #[n, true, .slice none 0 0] 24) = w5 at *
      have hg4 := (r1'.later b6).lt
      generalize w4.heap.size = g4 at *
      obtain ⟨sv, b5⟩ := hM4.2.2.1
      have hgx := hM4.base
      have fs := SB.laters (g := w.heap.size + 1) (v0 := .int .i64 n) (v1 := .bool true) (v2 := .slice none 0 0) (b5.cell 2) (by omega)
      obtain ⟨y0, y1, y2, fy⟩ := zaa p4
      have gy0 := SB.laters (g := w.heap.size + 1) (v0 := .int .i64 n) (v1 := .bool true) (v2 := .slice none 0 0) y0 (by omega)
      have gy1 := SB.laters (g := w.heap.size + 1) (v0 := .int .i64 n) (v1 := .bool true) (v2 := .slice none 0 0) y1 (by omega)
      have gy2 := SB.laters (g := w.heap.size + 1) (v0 := .int .i64 n) (v1 := .bool true) (v2 := .slice none 0 0) y2 (by omega)
      obtain ⟨b0, b1, b2, b3⟩ := SB.boxes (v0 := .int .i64 n) (v1 := .bool true) (v2 := .slice none 0 0) r4
      clear y0 y1 y2 fy b5 a2
      refine zbr 6 5 (SB w5 (w.heap.size + 1) (.int .i64 n) (.bool true) (.slice none 0 0)) (by kernel_rfl) (by kernel_rfl) (by decide) (Below.refl _ _).drew ?_
      (repeat (first | (refine za5.skip (by rfl) (by rfl) ?_; simp only [Act.put, List.setIfInBounds_toArray, List.set_cons_zero, List.set_cons_succ]) | (refine' za5.take _ (by rfl) (by rfl) (fun W hW R hR => ?_) ?_; rotate_left; (go_simp; (try go_bits); with_reducible exact hR); simp only [Act.put, List.setIfInBounds_toArray, List.set_cons_zero, List.set_cons_succ])))
      (refine za5.mark (by rfl) (by rfl) (by rfl) (fun W hW R hR => ?_) ?_; (go_simp; (exact hR _ ⟨W, hW, rfl⟩)))
      intro w6 h6
      obtain ⟨W0, b7, rfl⟩ := h6
      clear fs gy0 gy1 gy2 b0 b1 b2 b3
      obtain ⟨z0, z1, z2, fz⟩ := zaa ((r4.later b7).set3 (v0 := .int .i64 n) (v1 := .bool true) (v2 := .slice none 0 0))
      have a1 := bup b9 b7
      go_wp2
      refine bodyPost_ret (v := .tuple #[.agg #[n, true, .slice none 0 0], sv, .int .i64 0]) (by simp [results, Tryz.results89, go_sem, z0, z1, z2]) rfl ?_
      rw [zeR (by rw [c8.out]; exact c7.out)]
      exact ⟨none, 0, sv, rfl, zca _ _, a1.trans (zae (by omega) a1.size)⟩
    ·
     clear a5
     have c3 := fun W => zo6 (.func (.func 165) #[.pointer (some ⟨gx, 0, none⟩)] #[]) (.func (.func 166) #[.pointer (some ⟨gx, 0, none⟩)] #[]) (.func (.func 167) #[.pointer (some ⟨gx, 0, none⟩)] #[]) (.func (.func 168) #[.pointer (some ⟨gx, 0, none⟩)] #[]) (.func (.func 169) #[.pointer (some ⟨gx, 0, none⟩)] #[]) (.func (.func 170) #[.pointer (some ⟨gx, 0, none⟩)] #[]) W
     go_wp2_with fail
     refine (zk9 N hM HN.out hN1 hl.out hb hBr0).mono ?_
     rintro e3 w3 ⟨⟨v3, rfl⟩, hM3, a3, c2, a6⟩
     have a0 := a7.trans a6
     have xe := hM3.e_
     go_wp2
     go_roundw
     case rel => exact ⟨4, _, by omega, rfl, hid (by rw [a8.out]; rfl), hid c2, hM3, a3, a0, hid (fun _ => hn.out (by omega)), hid (fun h => absurd h (by omega))⟩
     case measure => simp [RowKit.intOf]
    ·
     clear a5
     have c3 := fun W => zoQ (.func (.func 165) #[.pointer (some ⟨gx, 0, none⟩)] #[]) (.func (.func 166) #[.pointer (some ⟨gx, 0, none⟩)] #[]) (.func (.func 167) #[.pointer (some ⟨gx, 0, none⟩)] #[]) (.func (.func 168) #[.pointer (some ⟨gx, 0, none⟩)] #[]) (.func (.func 169) #[.pointer (some ⟨gx, 0, none⟩)] #[]) (.func (.func 170) #[.pointer (some ⟨gx, 0, none⟩)] #[]) W
     go_wp2_with fail
     refine (zju N hM HN.out hN1 hl.out hBr0).mono ?_
     rintro e3 w3 ⟨⟨v3, rfl⟩, hM3, a6⟩
     have a0 := a7.trans a6
     rw [Bool.false_or] at hM3
     cases hneg : zaT N ys N with
     | false =>
      rw [hneg] at hM3
      have xe := hM3.e_
      go_wp2
      go_roundw
      case rel => exact ⟨5, _, by omega, rfl, hid (by rw [a8.out]; rfl), hl, hM3, hb, a0, hid (fun _ => hn.out (by omega)), hid (fun _ => by rw [a8.out] at hneg; exact hneg)⟩
      case measure => simp [RowKit.intOf]
     | true =>
      rw [hneg] at hM3
      have a2 : za3 N m = none := by unfold za3; rw [if_neg (by have := hn.out (by omega); rw [show zfA N m 2 = zaB N N (paths N N m) from rfl] at this; simp [this]), if_pos (by rw [a8.out] at hneg; exact hneg)]
      have c7 := hid a2
      clear a6 hM
      have hBr : B ≤ w3.heap.size := Nat.le_trans hBu a0.size
      have r0 : Blk w3 w.heap.size _ _ := p0.below a0 d1
      have r1' : Blk w3 (w.heap.size + 1) _ _ := q1.below a0 c4
      have a9 : Below w.heap.size w w3 := d3.trans (a0.mono hBw)
      obtain ⟨x0, x1, x2, fx⟩ := zaa r0
      have xe := hM3.e_
      clear a7 r0
      go_wp2_with fail
      refine (zch n w3 n0 n1).mono ?_
      rintro e4 w4 ⟨rfl, b6⟩
      clear x0 x1 x2 fx xe
      have hM4 := (hM3.up b6).up (new1 w4 (.cells #[n, true, .slice none 0 0] 24))
      have p4 := Blk.new w4 24 #[n, true, .slice none 0 0]
      have r4 := (r1'.later b6).later (new1 w4 (.cells #[n, true, .slice none 0 0] 24))
      have b9 := bup (bup a9 b6) (new1 w4 (.cells #[n, true, .slice none 0 0] 24))
      go_wp2
      generalize w4.alloc (.cells #[n, true, .slice none 0 0] 24) = w5 at *
      have hg4 := (r1'.later b6).lt
      generalize w4.heap.size = g4 at *
      obtain ⟨sv, b5⟩ := hM4.2.2.1
      have hgx := hM4.base
      have fs := SB.laters (g := w.heap.size + 1) (v0 := .int .i64 n) (v1 := .bool true) (v2 := .slice none 0 0) (b5.cell 2) (by omega)
      obtain ⟨y0, y1, y2, fy⟩ := zaa p4
      have gy0 := SB.laters (g := w.heap.size + 1) (v0 := .int .i64 n) (v1 := .bool true) (v2 := .slice none 0 0) y0 (by omega)
      have gy1 := SB.laters (g := w.heap.size + 1) (v0 := .int .i64 n) (v1 := .bool true) (v2 := .slice none 0 0) y1 (by omega)
      have gy2 := SB.laters (g := w.heap.size + 1) (v0 := .int .i64 n) (v1 := .bool true) (v2 := .slice none 0 0) y2 (by omega)
      obtain ⟨b0, b1, b2, b3⟩ := SB.boxes (v0 := .int .i64 n) (v1 := .bool true) (v2 := .slice none 0 0) r4
      clear y0 y1 y2 fy b5 a2
      refine zbr 6 5 (SB w5 (w.heap.size + 1) (.int .i64 n) (.bool true) (.slice none 0 0)) (by kernel_rfl) (by kernel_rfl) (by decide) (Below.refl _ _).drew ?_
      (repeat (first | (refine za5.skip (by rfl) (by rfl) ?_; simp only [Act.put, List.setIfInBounds_toArray, List.set_cons_zero, List.set_cons_succ]) | (refine' za5.take _ (by rfl) (by rfl) (fun W hW R hR => ?_) ?_; rotate_left; (go_simp; (try go_bits); with_reducible exact hR); simp only [Act.put, List.setIfInBounds_toArray, List.set_cons_zero, List.set_cons_succ])))
      (refine za5.mark (by rfl) (by rfl) (by rfl) (fun W hW R hR => ?_) ?_; (go_simp; (exact hR _ ⟨W, hW, rfl⟩)))
      intro w6 h6
      obtain ⟨W0, b7, rfl⟩ := h6
      clear fs gy0 gy1 gy2 b0 b1 b2 b3
      obtain ⟨z0, z1, z2, fz⟩ := zaa ((r4.later b7).set3 (v0 := .int .i64 n) (v1 := .bool true) (v2 := .slice none 0 0))
      have a1 := bup b9 b7
      go_wp2
      refine bodyPost_ret (v := .tuple #[.agg #[n, true, .slice none 0 0], sv, .int .i64 0]) (by simp [results, Tryz.results89, go_sem, z0, z1, z2]) rfl ?_
      rw [zeR (by rw [c8.out]; exact c7.out)]
      exact ⟨none, 0, sv, rfl, zca _ _, a1.trans (zae (by omega) a1.size)⟩
    ·
     clear a5
     have c3 := fun W => zoB (.func (.func 165) #[.pointer (some ⟨gx, 0, none⟩)] #[]) (.func (.func 166) #[.pointer (some ⟨gx, 0, none⟩)] #[]) (.func (.func 167) #[.pointer (some ⟨gx, 0, none⟩)] #[]) (.func (.func 168) #[.pointer (some ⟨gx, 0, none⟩)] #[]) (.func (.func 169) #[.pointer (some ⟨gx, 0, none⟩)] #[]) (.func (.func 170) #[.pointer (some ⟨gx, 0, none⟩)] #[]) W
     go_wp2_with fail
     refine (zeH N hM HN.out hN1 hl.out hb hBr0).mono ?_
     rintro e3 w3 ⟨⟨v3, rfl⟩, hM3, a3, c2, a6⟩
     have a0 := a7.trans a6
     have xe := hM3.e_
     go_wp2
     go_roundw
     case rel => exact ⟨6, _, by omega, rfl, hid (by rw [a8.out]; rfl), hid c2, hM3, a3, a0, hid (fun _ => hn.out (by omega)), hid (fun _ => hs.out (by omega))⟩
     case measure => simp [RowKit.intOf]
    ·
     have b8 : za3 N m = some ys := by
      have h1 := hn.out (by omega)
      have h2 := hs.out (by omega)
      unfold za3
      rw [show zfA N m 2 = zaB N N (paths N N m) from rfl] at h1
      rw [show zfA N m 4 = zaU N N (zaB N N (paths N N m)) from rfl] at h2
      rw [if_neg (by simp [h1]), if_neg (by simp [h2]), a8.out]
      rfl
     have HSM := hid b8
     have r0 := p0.below a7 d1
     have r1' := q1.below a7 c4
     have a9 : Below w.heap.size w wr := d3.trans (a7.mono hBw)
     obtain ⟨x0, x1, x2, fx⟩ := zaa r0
     obtain ⟨sv, b5⟩ := hM.2.2.1
     have hgx := hM.base
     have fs := SB.laters (g := w.heap.size + 1) (v0 := .int .i64 n) (v1 := .bool false) (v2 := .slice B1 ys.length r1) (b5.cell 2) (by omega)
     have fm := SB.laters (g := w.heap.size + 1) (v0 := .int .i64 n) (v1 := .bool false) (v2 := .slice B1 ys.length r1) (b5.cell 1) (by omega)
     have f0 := SB.laters (g := w.heap.size + 1) (v0 := .int .i64 n) (v1 := .bool false) (v2 := .slice B1 ys.length r1) x0 (by omega)
     obtain ⟨b0, b1, b2, b3⟩ := SB.boxes (v0 := .int .i64 n) (v1 := .bool false) (v2 := .slice B1 ys.length r1) r1'
     clear x0 x1 x2 fx b5 b8 r0
     go_wp2
     refine zbr 12 11 (SB wr (w.heap.size + 1) (.int .i64 n) (.bool false) (.slice B1 ys.length r1)) (by kernel_rfl) (by kernel_rfl) (by decide) (Below.refl _ _).drew ?_
     (repeat (first | (refine za5.skip (by rfl) (by rfl) ?_; simp only [Act.put, List.setIfInBounds_toArray, List.set_cons_zero, List.set_cons_succ]) | (refine' za5.take _ (by rfl) (by rfl) (fun W hW R hR => ?_) ?_; rotate_left; (go_simp; (try go_bits); with_reducible exact hR); simp only [Act.put, List.setIfInBounds_toArray, List.set_cons_zero, List.set_cons_succ])))
     (refine za5.mark (by rfl) (by rfl) (by rfl) (fun W hW R hR => ?_) ?_; (go_simp; (exact hR _ ⟨W, hW, rfl⟩)))
     intro w6 h6
     obtain ⟨W0, b7, rfl⟩ := h6
     clear fs fm f0 b0 b1 b2 b3
     obtain ⟨z0, z1, z2, fz⟩ := zaa ((r1'.later b7).set3 (v0 := .int .i64 n) (v1 := .bool false) (v2 := .slice B1 ys.length r1))
     have d4 := (hM.up b7).2.2.2
     have a1 := bup a9 b7
     go_wp2
     refine bodyPost_ret (v := .tuple #[.agg #[n, false, .slice B1 ys.length r1], sv, .int .i64 0]) (by simp [results, Tryz.results89, go_sem, z0, z1, z2]) rfl ?_
     rw [zdd (by rw [c8.out]; exact HSM.out)]
     exact ⟨B1, r1, sv, rfl, (((d4.setFar (by simpa using c4) _).setFar (by simpa using c4) _).setFar (by simpa using c4) _).less hBw, a1.trans (zae (by omega) a1.size)⟩
 ·rw [if_neg hk]
  have tk : (check ⟨n, e, m⟩ != 0) = true := by simp [hk]
  have hhk := hid hk
  clear hk
  go_enter Tryz.func89, Tryz.ntmps89
  go_wp2_with fail
  refine (zbH ⟨n, e, m⟩ A c _ hx (by dsimp only; omega)).mono ?_
  generalize (w.alloc (Obj.cells #[n, e, .slice A m.length c] 24)).alloc (Obj.cells #[.int .i64 0, false, .slice none 0 0] 24) = w0 at *
  rintro e1 w1 ⟨rfl, b4⟩
  replace p1 := p1.later b4
  replace a4 := bup a4 b4
  clear b4
  obtain ⟨y0, y1, y2, fy⟩ := zaa p1
  generalize check ⟨n, e, m⟩ = er at *
  go_wp2
  refine bodyPost_ret (v := .tuple #[.agg #[.int .i64 0, false, .slice none 0 0], false, er]) (by simp [results, Tryz.results89, go_sem, y0, y1, y2]) rfl ⟨none, 0, false, rfl, zca _ _, ?_⟩
  exact a4.trans (zae (by omega) a4.size)
end Go.Proofs.YtnmpgijiimglcaaGreat
