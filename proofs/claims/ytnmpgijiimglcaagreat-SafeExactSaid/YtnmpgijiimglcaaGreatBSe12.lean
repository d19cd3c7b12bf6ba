import Derived.Test.YtnmpgijiimglcaaGreatBSe11
import Derived.Test.YtnmpgijiimglcaaGreatBSe02
import Derived.Test.YtnmpgijiimglcaaGreatBSe03
import Derived.Test.YtnmpgijiimglcaaGreatBSe07
namespace Go.Proofs.YtnmpgijiimglcaaGreat
open Go.RowKit
set_option maxRecDepth 100000
set_option maxHeartbeats 8000000
section
attribute [local go_sem ↓] Go.wp_at_zero Go.wp_at_succ
theorem zal (w : World) (cs0 cs1 : Array Value) (t0 t1 : TypeId) : Blk ((w.alloc (.cells cs0 t0)).alloc (.cells cs1 t1)) w.heap.size t0 cs0 ∧ Blk ((w.alloc (.cells cs0 t0)).alloc (.cells cs1 t1)) (w.heap.size + 1) t1 cs1 ∧ Below w.heap.size w ((w.alloc (.cells cs0 t0)).alloc (.cells cs1 t1)) ∧ ((w.alloc (.cells cs0 t0)).alloc (.cells cs1 t1)).heap.size = w.heap.size + 2 := by
 obtain ⟨h1, h2⟩ := zdb (w := w) (Below.refl _ ((w.alloc (.cells cs0 t0)).alloc (.cells cs1 t1)))
 exact ⟨h1, h2, ((Below.refl _ _).alloc (Nat.le_refl _) _).alloc (by simp) _, by simp⟩
theorem zaj (w : World) (cs0 cs1 cs2 : Array Value) (t0 t1 t2 : TypeId) : Blk (((w.alloc (.cells cs0 t0)).alloc (.cells cs1 t1)).alloc (.cells cs2 t2)) w.heap.size t0 cs0 ∧ Blk (((w.alloc (.cells cs0 t0)).alloc (.cells cs1 t1)).alloc (.cells cs2 t2)) (w.heap.size + 1) t1 cs1 ∧ Blk (((w.alloc (.cells cs0 t0)).alloc (.cells cs1 t1)).alloc (.cells cs2 t2)) (w.heap.size + 2) t2 cs2 ∧ Below w.heap.size w (((w.alloc (.cells cs0 t0)).alloc (.cells cs1 t1)).alloc (.cells cs2 t2)) ∧ (((w.alloc (.cells cs0 t0)).alloc (.cells cs1 t1)).alloc (.cells cs2 t2)).heap.size = w.heap.size + 3 := by
 obtain ⟨h1, h2, h3, h4⟩ := zal w cs0 cs1 t0 t1
 have k := Blk.new ((w.alloc (.cells cs0 t0)).alloc (.cells cs1 t1)) t2 cs2
 rw [h4] at k
 exact ⟨h1.alloc _, h2.alloc _, k, h3.alloc (by simp; omega) _, by simp⟩
theorem zdd (n : Int) (e : Bool) (A : Option Addr) (L c : Nat) (i j : Int) (w : World) (hn : 0 ≤ n) (hn' : n ≤ 64) :
  Calls Tryz.prog 113 #[.agg #[n, e, .slice A L c], i, j] w (zik (decide (0 ≤ i ∧ i < 2 * n ∧ 0 ≤ j ∧ j < 2 * n)) w) := by
 have n0 := new1 w (.cells #[n, e, .slice A L c] 24)
 have p0 := Blk.new w 24 #[n, e, .slice A L c]
 have x0 := zaa p0
 cases t1 : decide (0 ≤ i) <;> cases t2 : decide (i < 2 * n) <;> cases t3 : decide (0 ≤ j) <;> cases t4 : decide (j < 2 * n)
 all_goals
  go_enter Tryz.func113, Tryz.ntmps113
  go_wp2
  go_ret
  simp only [decide_eq_true_eq, decide_eq_false_iff_not] at t1 t2 t3 t4
  exact ⟨retb (by first | (symm; rw [decide_eq_true_eq]; omega) | (symm; rw [decide_eq_false_iff_not]; omega)), n0⟩
theorem zcA (n : Int) (e : Bool) (m : List Int) (A : Option Addr) (cap : Nat) (w : World) (hr : Rd w w.heap.size A m) (hm : m.length ≤ 17592186044416) :
  Calls Tryz.prog 114 #[.agg #[n, e, .slice A m.length cap]] w fun e' w' => ∃ A' cap', e' = .returned (.agg #[n, e, .slice A' m.length cap']) ∧ Own w' w.heap.size A' cap' m ∧ Below w.heap.size w w' := by
 go_enter Tryz.func114, Tryz.ntmps114
 go_wp2
 have a0 : Below w.heap.size w ((w.alloc (Obj.cells #[n, e, .slice A m.length cap] 24)).alloc (Obj.cells #[.int .i64 0, false, .slice none 0 0] 24)) := ((Below.refl _ _).alloc (Nat.le_refl _) _).alloc (by simp) _
 have hr0 := (hr.below a0).more (B' := w.heap.size + 2) (by omega)
 obtain ⟨b0, b1⟩ := zdb (w := w) (Below.refl _ ((w.alloc (Obj.cells #[n, e, .slice A m.length cap] 24)).alloc (Obj.cells #[.int .i64 0, false, .slice none 0 0] 24)))
 have b5 : ((w.alloc (Obj.cells #[n, e, .slice A m.length cap] 24)).alloc (Obj.cells #[.int .i64 0, false, .slice none 0 0] 24)).heap.size = w.heap.size + 2 := by simp
 generalize (w.alloc (Obj.cells #[n, e, .slice A m.length cap] 24)).alloc (Obj.cells #[.int .i64 0, false, .slice none 0 0] 24) = w0 at *
 have x0 := zaa b0
 have y0 := zaa b1
 go_region_held3 (fun W => W.cell? ⟨w.heap.size, 0, none⟩ = some (.int .i64 n) ∧ W.cell? ⟨w.heap.size, 1, none⟩ = some (.bool e) ∧ W.cell? ⟨w.heap.size, 2, none⟩ = some (.slice A m.length cap)) (first | go_keep | (refine ⟨?_, ?_, ?_⟩ <;> (refine cell_later ‹Below _ _ _› ?_; first | assumption | go_keep)))
  (first | (go_at_call 164; refine (zeP m A cap _ (by rw [show w0.drew.heap.size = w.heap.size + 2 from b5]; exact hr0) hm).mono ?_; rintro e' w1 ⟨A1, c1, rfl, b2, a3⟩; obtain ⟨z0, z1, z2, fz⟩ := zaa (Blk.later (w := w0.drew) b1 a3)))
 go_wp2
 refine bodyPost_ret (v := .agg #[n, e, .slice A1 m.length c1]) (by simp [results, Tryz.results114, go_sem, z0, z1, z2]) rfl ⟨A1, c1, rfl, ?_, ?_⟩
 ·exact (((b2.setFar (by have : w0.drew.heap.size = w0.heap.size := rfl; simp; omega) _).setFar (by have : w0.drew.heap.size = w0.heap.size := rfl; simp; omega) _).setFar (by have : w0.drew.heap.size = w0.heap.size := rfl; simp; omega) _).less (by have : w0.drew.heap.size = w0.heap.size := rfl; omega)
 ·exact ((((a0.trans ((Below.refl w.heap.size w0).drew.trans (a3.mono (show w.heap.size ≤ w0.drew.heap.size by have : w0.drew.heap.size = w0.heap.size := rfl; omega)))).setCell (by simp) _).setCell (by simp) _).setCell (by simp) _)
def wSt (N i j : Nat) (c : Int) (m : List Int) : Nat → List Int
 | 0 => m
 | 1 => m.set (i * N + j) (less (gI m ((i * N + j : Nat) : Int)) c)
 | _ => (m.set (i * N + j) (less (gI m ((i * N + j : Nat) : Int)) c)).set (nx j * N + nx i) (less (gI (m.set (i * N + j) (less (gI m ((i * N + j : Nat) : Int)) c)) ((nx j * N + nx i : Nat) : Int)) c)
theorem zeo (N i j : Nat) (c : Int) (m : List Int) : ∀ k, (wSt N i j c m k).length = m.length
 | 0 => rfl
 | 1 => by simp [wSt]
 | k + 2 => by simp [wSt]
theorem zjl {N : Nat} (_hN : N % 2 = 0) {m : List Int} (hc : Cells N m) {i j : Nat} (hi : i < N) (hj : j < N) (c : Int) : wSt N i j c m 2 = boundM N i j c m := by
 have b1 := hc.bd i j hi hj
 have n1 := zc5 b1
 have hlt : i * N + j < m.length := by rw [hc.len]; exact zko hi hj
 have e1 : less (gI m ((i * N + j : Nat) : Int)) c = zcQ N i j c m := by
  rw [zc2]; unfold less; rw [n1]; rfl
 have e2 : less (gI (m.set (i * N + j) (less (gI m ((i * N + j : Nat) : Int)) c)) ((nx j * N + nx i : Nat) : Int)) c = zcQ N i j c m := by
  have hm := hc.mir i j hi hj
  rw [zdI]
  split
  ·rw [e1, zc2]
   unfold less
   have hb : zaq (min (G N m i j) (near c)) = true := zaF b1 (zcf c)
   rw [zc5 hb]
   omega
  ·rw [← hm]; exact e1
 show (m.set (i * N + j) _).set (nx j * N + nx i) _ = _
 rw [e2, e1]; rfl
theorem zkB (a b c d : Value) (W : World) : (Instr.index 147 (.agg #[a, b, c, d]) (.int .i64 0)).run Tryz.prog W = .ok (.agg #[a, b]) W := by
 simp [Instr.index, run_underlying Tryz.underlying147, asIntOf, go_sem]
theorem zkQ (a b c d : Value) (W : World) : (Instr.index 147 (.agg #[a, b, c, d]) (.int .i64 1)).run Tryz.prog W = .ok (.agg #[c, d]) W := by
 simp [Instr.index, run_underlying Tryz.underlying147, asIntOf, go_sem]
def zhB (w : World) (o : O) (er : Int) (e : Ending) (w' : World) : Prop := ∃ A1 c1, e = .returned (.tuple #[.agg #[o.n, o.e, .slice A1 o.m.length c1], er]) ∧ Own w' w.heap.size A1 c1 o.m ∧ Below w.heap.size w w'
theorem zhe (n : Int) (m : List Int) (N i j : Nat) (c : Int) (A : Option Addr) (cap : Nat) (w : World) (hN : (N : Int) = 2 * n) (hn : N ≤ 128) (hc : Cells N m) (hi : i < N) (hj : j < N) (hij : i ≠ j) (hx : Rd w w.heap.size A m) (hm : m.length ≤ 17592186044416) :
  Calls Tryz.prog 50 #[.agg #[n, false, .slice A m.length cap], (i : Int), (j : Int), c] w (zhB w ⟨n, false, boundM N i j c m⟩ 0) := by
 obtain ⟨p0, p1, a0, b5⟩ := zal w #[n, false, .slice A m.length cap] #[.int .i64 0, false, .slice none 0 0] 24 24
 have a6 := hx.up a0
 have hk : check ⟨n, false, m⟩ = 0 := zdv hN hn hc
 have HK := hid hk
 have HN := hid hN
 have HSZ := hid b5
 clear hk b5
 have c0 : 0 ≤ n := by omega
 have b7 : n ≤ 64 := by omega
 have tij : ((i : Int) == (j : Int)) = false := by rw [beq_eq_false_iff_ne]; omega
 go_enter Tryz.func50, Tryz.ntmps50
 go_wp2_with fail
 generalize (w.alloc (Obj.cells #[n, false, .slice A m.length cap] 24)).alloc (Obj.cells #[.int .i64 0, false, .slice none 0 0] 24) = w0 at *
 have HC := hid (zbF ⟨n, false, m⟩ A cap w0 a6 (by dsimp only; omega))
 rw [HK.out] at HC
 (with_reducible refine HC.out.mono ?_)
 rintro e1 w1 ⟨rfl, a3⟩
 replace p0 := p0.later a3
 replace p1 := p1.later a3
 replace a6 := a6.up a3
 replace a0 := bup a0 a3
 obtain ⟨x0, x1, x2, fx⟩ := zaa p0
 have HW := hid (zdd n false A m.length cap (i : Int) (j : Int) w1 c0 b7)
 rw [show decide (0 ≤ (i : Int) ∧ (i : Int) < 2 * n ∧ 0 ≤ (j : Int) ∧ (j : Int) < 2 * n) = true by rw [decide_eq_true_eq]; have := HN.out; omega] at HW
 go_wp2_with fail
 (with_reducible refine HW.out.mono ?_)
 clear HW x0 x1 x2 fx
 rintro e2 w2 ⟨rfl, b4⟩
 replace p0 := p0.later b4
 replace p1 := p1.later b4
 replace a6 := a6.up b4
 replace a0 := bup a0 b4
 have n3 := new1 w2 (.cells #[(i : Int), (j : Int)] 116)
 have p2 := Blk.new w2 116 #[(i : Int), (j : Int)]
 obtain ⟨x0, x1, x2, fx⟩ := zaa p0
 obtain ⟨y0, y1, y2, fy⟩ := zaa (p0.later n3)
 go_wp2_with fail
 have hx3 := a6.up n3
 replace p0 := p0.later n3
 replace p1 := p1.later n3
 replace a0 := bup a0 n3
 clear x0 x1 x2 fx y0 y1 y2 fy a6
 have hg2 : w.heap.size + 2 ≤ w2.heap.size := by have := b4.size; have := a3.size; have := HSZ.out; omega
 have b6 := p2.lt
 generalize w2.alloc (.cells #[(i : Int), (j : Int)] 116) = w3 at *
 generalize w2.heap.size = g2 at *
 have HCP := hid (zcA n false m A cap w3 hx3 hm)
 (with_reducible refine HCP.out.mono ?_)
 clear HCP
 rintro e4 w4 ⟨A1, c1, rfl, own, a7⟩
 replace p0 := p0.later a7
 replace p1 := p1.later a7
 replace p2 := p2.later a7
 replace a0 := bup a0 a7
 go_wp2_with fail
 have n5 := new1 w4 (.cells #[n, false, .slice A1 m.length c1] 24)
 have p3 := Blk.new w4 24 #[n, false, .slice A1 m.length c1]
 replace p0 := p0.later n5
 replace p1 := p1.later n5
 replace p2 := p2.later n5
 replace own := own.below n5
 replace a0 := bup a0 n5
 have hg3 : g2 < w4.heap.size ∧ w3.heap.size ≤ w4.heap.size := ⟨Nat.lt_of_lt_of_le b6 a7.size, a7.size⟩
 generalize w4.alloc (.cells #[n, false, .slice A1 m.length c1] 24) = w5 at *
 generalize w4.heap.size = g3 at *
 obtain ⟨x2, y2⟩ : w5.cell? ⟨g2, 0, none⟩ = some (.int .i64 (i : Int)) ∧ w5.cell? ⟨g2, 1, none⟩ = some (.int .i64 (j : Int)) := ⟨p2.cell 0, p2.cell 1⟩
 have f2 := later x2
 have f2' := later y2
 clear x2 y2
 refine zad 5 (fun X => Below w5.heap.size w5 X) (by kernel_rfl) (by kernel_rfl) (Below.refl _ _).drew ?_
 refine fl_a ?_
 (refine fl_c 116 #[.agg #[(i : Int), (j : Int)]] (.agg #[.int .i64 ((nx j : Nat) : Int), .int .i64 ((nx i : Nat) : Int)]) (fun X hX => (zbY (i : Int) (j : Int) _ (by omega) (by omega) (by omega) (by omega)).mono fun e' w' ⟨he, hb'⟩ => ⟨by rw [he, zd0, zd0], zaI hX hX.size hb'⟩) ?_)
 refine fl_a ?_
 intro w6 a8
 clear f2 f2'
 replace p0 := p0.later a8
 replace p1 := p1.later a8
 replace p2 := p2.later a8
 replace p3 := p3.later a8
 replace own := own.below a8
 replace a0 := bup a0 a8
 go_wp2
 obtain ⟨q1, q2, q3, q4, q5, q6⟩ := zbs (i := i) (j := j) HN.out hi hj hn
 obtain ⟨r1, r2, r3, r4, r5, r6⟩ := zbs (i := nx j) (j := nx i) HN.out (nxl (by omega) hj) (nxl (by omega) hi) hn
 have hnxj : nx j < N := nxl (by omega) hj
 have hnxi : nx i < N := nxl (by omega) hi
 have hl := hc.len
 rw [← hl] at q4 q6 r4 r6
 clear hl
 have HW2 := hid (zjl (by omega) hc hi hj c)
 go_loopw [53] (fun t wr => ∃ k : Nat, k ≤ 2 ∧ t = .int .i64 k ∧ Own wr w3.heap.size A1 c1 (wSt N i j c m k) ∧ Blk wr g3 24 #[n, false, .slice A1 m.length c1] ∧ Blk wr w.heap.size 24 #[n, false, .slice A m.length cap] ∧ Blk wr (w.heap.size + 1) 24 #[.int .i64 0, false, .slice none 0 0] ∧ Below w.heap.size w wr) (fun t _ => 2 - (RowKit.intOf t).toNat)
 case atStart => exact ⟨0, by omega, rfl, own, p3, p0, p1, a0⟩
 case round =>
  obtain ⟨k, hk, rfl, own, p3, p0, p1, a0⟩ := hrel
  have hk3 : k = 0 ∨ k = 1 ∨ k = 2 := by omega
  rcases hk3 with rfl | rfl | rfl
  ·have n7 := new1 wr (.cells #[.int .i64 ((i : Nat) : Int), .int .i64 ((j : Nat) : Int)] 116)
   have b9 := fun W => zkB (.int .i64 (i : Int)) (.int .i64 (j : Int)) (.int .i64 ((nx j : Nat) : Int)) (.int .i64 ((nx i : Nat) : Int)) W
   obtain ⟨y0, y1, y2, fy⟩ := zaa (p0.later n7)
   go_wp2_with fail
   clear b9 y0 y1 y2 fy
   replace own := own.below n7
   replace p0 := p0.later n7
   replace p1 := p1.later n7
   replace p3 := p3.later n7
   replace a0 := bup a0 n7
   generalize wr.alloc (.cells #[.int .i64 ((i : Nat) : Int), .int .i64 ((j : Nat) : Int)] 116) = w7 at *
   refine (zdi _ _ _ _ c0 b7 (by omega) (by omega) (by omega) (by omega)).mono ?_
   rintro e8 w8 ⟨rfl, a2⟩
   replace own := own.below a2
   replace p0 := p0.later a2
   replace p1 := p1.later a2
   replace p3 := p3.later a2
   replace a0 := bup a0 a2
   go_wp2
   obtain ⟨gm, o1, rfl, hgm, c4⟩ := own.rd (i * N + j) (by rw [zeo]; exact q4)
   have c2 : o1 = 0 := by
    rcases own.form with ⟨h, _⟩ | ⟨g, h, _⟩
    ·cases h
    ·injection h with h; injection h
   subst c2
   have hgb : w3.heap.size ≤ gm := by
    rcases own.form with ⟨h, _⟩ | ⟨g, h, h', _⟩
    ·cases h
    ·injection h with h; injection h with h; omega
   rw [Nat.zero_add] at c4
   have b8 := zfI own p3 (by decide)
   have f4 := later c4
   obtain ⟨z0, z1, z2, fz⟩ := zaa p3
   have f2 := later z2
   clear z0 z1 z2 fz c4
   obtain ⟨vv, a9⟩ : ∃ v, v = gI (wSt N i j c m 0) ((i * N + j : Nat) : Int) := ⟨_, rfl⟩
   have b3 := hid a9
   clear a9
   rw [← b3.out] at f4
   refine zad 10 (fun X => Below w8.heap.size w8 X) (by kernel_rfl) (by kernel_rfl) (Below.refl _ _).drew ?_
   refine fl_a ?_
   (refine fl_c 117 #[vv, c] (.int .i64 (less vv c)) (fun X hX => (zcM _ _ _).mono fun e' w' ⟨he, hw⟩ => ⟨he, hw ▸ hX⟩) ?_)
   refine fl_a ?_
   intro w9 a1
   clear f4 f2
   replace own := own.below a1
   replace p0 := p0.later a1
   replace p1 := p1.later a1
   replace p3 := p3.later a1
   replace a0 := bup a0 a1
   obtain ⟨g5, o5, e5, _, c5⟩ := own.rd (i * N + j) (by rw [zeo]; exact q4)
   obtain ⟨rfl, rfl⟩ : gm = g5 ∧ 0 = o5 := by simpa using e5
   clear e5
   rw [Nat.zero_add] at c5
   have fz := own.frozen (i * N + j)
   go_wp2
   clear c5 fz
   have a4 : Own (w9.setCell ⟨gm, i * N + j, none⟩ (.int .i64 (less vv c))) w3.heap.size (some ⟨gm, 0, none⟩) c1 (wSt N i j c m (0 + 1)) := by
    rw [show wSt N i j c m (0 + 1) = (wSt N i j c m 0).set (i * N + j) (less vv c) by rw [b3.out]; rfl]
    exact own.store (i * N + j) (less vv c)
   have p02 := p0.far (p := ⟨gm, i * N + j, none⟩) (by have := p0.lt; show gm ≠ w.heap.size; omega) (.int .i64 (less vv c))
   have p12 := p1.far (p := ⟨gm, i * N + j, none⟩) (by show gm ≠ w.heap.size + 1; omega) (.int .i64 (less vv c))
   have p32 := p3.far (p := ⟨gm, i * N + j, none⟩) b8 (.int .i64 (less vv c))
   have a5 := a0.trans (zaL (W := w9) (B := w.heap.size) (g := gm) (i := i * N + j) (v := .int .i64 (less vv c)) (by omega) a0.size)
   clear own p0 p1 p3 a0 a1
   go_roundw
   case rel => exact ⟨0 + 1, by omega, rfl, a4, p32, p02, p12, a5⟩
   case measure => simp [RowKit.intOf]
  ·have n7 := new1 wr (.cells #[.int .i64 ((nx j : Nat) : Int), .int .i64 ((nx i : Nat) : Int)] 116)
   have b9 := fun W => zkQ (.int .i64 (i : Int)) (.int .i64 (j : Int)) (.int .i64 ((nx j : Nat) : Int)) (.int .i64 ((nx i : Nat) : Int)) W
   obtain ⟨y0, y1, y2, fy⟩ := zaa (p0.later n7)
   go_wp2_with fail
   clear b9 y0 y1 y2 fy
   replace own := own.below n7
   replace p0 := p0.later n7
   replace p1 := p1.later n7
   replace p3 := p3.later n7
   replace a0 := bup a0 n7
   generalize wr.alloc (.cells #[.int .i64 ((nx j : Nat) : Int), .int .i64 ((nx i : Nat) : Int)] 116) = w7 at *
   refine (zdi _ _ _ _ c0 b7 (by omega) (by omega) (by omega) (by omega)).mono ?_
   rintro e8 w8 ⟨rfl, a2⟩
   replace own := own.below a2
   replace p0 := p0.later a2
   replace p1 := p1.later a2
   replace p3 := p3.later a2
   replace a0 := bup a0 a2
   go_wp2
   obtain ⟨gm, o1, rfl, hgm, c4⟩ := own.rd (nx j * N + nx i) (by rw [zeo]; exact r4)
   have c2 : o1 = 0 := by
    rcases own.form with ⟨h, _⟩ | ⟨g, h, _⟩
    ·cases h
    ·injection h with h; injection h
   subst c2
   have hgb : w3.heap.size ≤ gm := by
    rcases own.form with ⟨h, _⟩ | ⟨g, h, h', _⟩
    ·cases h
    ·injection h with h; injection h with h; omega
   rw [Nat.zero_add] at c4
   have b8 := zfI own p3 (by decide)
   have f4 := later c4
   obtain ⟨z0, z1, z2, fz⟩ := zaa p3
   have f2 := later z2
   clear z0 z1 z2 fz c4
   obtain ⟨vv, a9⟩ : ∃ v, v = gI (wSt N i j c m 1) ((nx j * N + nx i : Nat) : Int) := ⟨_, rfl⟩
   have b3 := hid a9
   clear a9
   rw [← b3.out] at f4
   refine zad 10 (fun X => Below w8.heap.size w8 X) (by kernel_rfl) (by kernel_rfl) (Below.refl _ _).drew ?_
   refine fl_a ?_
   (refine fl_c 117 #[vv, c] (.int .i64 (less vv c)) (fun X hX => (zcM _ _ _).mono fun e' w' ⟨he, hw⟩ => ⟨he, hw ▸ hX⟩) ?_)
   refine fl_a ?_
   intro w9 a1
   clear f4 f2
   replace own := own.below a1
   replace p0 := p0.later a1
   replace p1 := p1.later a1
   replace p3 := p3.later a1
   replace a0 := bup a0 a1
   obtain ⟨g5, o5, e5, _, c5⟩ := own.rd (nx j * N + nx i) (by rw [zeo]; exact r4)
   obtain ⟨rfl, rfl⟩ : gm = g5 ∧ 0 = o5 := by simpa using e5
   clear e5
   rw [Nat.zero_add] at c5
   have fz := own.frozen (nx j * N + nx i)
   go_wp2
   clear c5 fz
   have a4 : Own (w9.setCell ⟨gm, nx j * N + nx i, none⟩ (.int .i64 (less vv c))) w3.heap.size (some ⟨gm, 0, none⟩) c1 (wSt N i j c m (1 + 1)) := by
    rw [show wSt N i j c m (1 + 1) = (wSt N i j c m 1).set (nx j * N + nx i) (less vv c) by rw [b3.out]; rfl]
    exact own.store (nx j * N + nx i) (less vv c)
   have p02 := p0.far (p := ⟨gm, nx j * N + nx i, none⟩) (by have := p0.lt; show gm ≠ w.heap.size; omega) (.int .i64 (less vv c))
   have p12 := p1.far (p := ⟨gm, nx j * N + nx i, none⟩) (by show gm ≠ w.heap.size + 1; omega) (.int .i64 (less vv c))
   have p32 := p3.far (p := ⟨gm, nx j * N + nx i, none⟩) b8 (.int .i64 (less vv c))
   have a5 := a0.trans (zaL (W := w9) (B := w.heap.size) (g := gm) (i := nx j * N + nx i) (v := .int .i64 (less vv c)) (by omega) a0.size)
   clear own p0 p1 p3 a0 a1
   go_roundw
   case rel => exact ⟨1 + 1, by omega, rfl, a4, p32, p02, p12, a5⟩
   case measure => simp [RowKit.intOf]
  ·rw [HW2.out] at own
   obtain ⟨y0, y1, y2, fy⟩ := zaa p3
   obtain ⟨x0, x1, x2, fx⟩ := zaa p1
   go_wp2
   clear y0 y1 y2 fy x0 x1 x2 fx
   have q3 := p1.set3 (v0 := .int .i64 n) (v1 := .bool false) (v2 := .slice A1 m.length c1)
   have o3 := own.far3 (g := w.heap.size + 1) (v0 := .int .i64 n) (v1 := .bool false) (v2 := .slice A1 m.length c1) (zan own p1 (by decide))
   obtain ⟨z0, z1, z2, fz⟩ := zaa q3
   refine bodyPost_ret (v := .tuple #[.agg #[n, false, .slice A1 m.length c1], .int .i64 0]) (by simp [results, Tryz.results50, go_sem, z0, z1, z2]) rfl ⟨A1, c1, by rw [zci], o3.less (by omega), a0.trans (zah (by omega) a0.size)⟩
end
section
attribute [local go_sem ↓] Go.wp_at_zero Go.wp_at_succ
theorem zkL (n : Int) (o : O) (ok : OkO n o) (i j : Nat) (hi : (i : Int) < 2 * n) (hj : (j : Int) < 2 * n) (c : Int) (A : Option Addr) (cap : Nat) (w : World) (hx : Rd w w.heap.size A o.m) (hm : o.m.length ≤ 17592186044416) :
  Calls Tryz.prog 50 #[.agg #[o.n, o.e, .slice A o.m.length cap], (i : Int), (j : Int), c] w (zhB w (withO o i j c) 0) := by
 have a2 := ok.rng
 have hk := ok.ok
 by_cases hcase : o.e = false ∧ i ≠ j
 ·rcases ok.form with rfl | ⟨N, m, hN, hn, rfl, hc⟩
  ·exact absurd hcase.1 (by simp [emptyO])
  ·have := zhe n m N i j c A cap w hN hn hc (by omega) (by omega) hcase.2 hx hm
   unfold withO
   rw [if_neg (by simp), if_neg hcase.2]
   dsimp only
   rw [show (2 * n).toNat = N by omega]
   exact this
 obtain ⟨n', e, m⟩ := o
 obtain rfl : n' = n := ok.n_
 dsimp only at *
 obtain ⟨p0, p1, a0, a6⟩ := zal w #[n', e, .slice A m.length cap] #[.int .i64 0, false, .slice none 0 0] 24 24
 have a1 := hx.up a0
 have HK := hid hk
 have a9 := hid a6
 have HC := hid (zbF ⟨n', e, m⟩ A cap _ a1 (by dsimp only; omega))
 rw [HK.out] at HC
 have HOK := hid ok
 have HCS := hid hcase
 clear hk a6 ok hcase
 go_enter Tryz.func50, Tryz.ntmps50
 go_wp2_with fail
 generalize (w.alloc (Obj.cells #[n', e, .slice A m.length cap] 24)).alloc (Obj.cells #[.int .i64 0, false, .slice none 0 0] 24) = w0 at *
 (with_reducible refine HC.out.mono ?_)
 clear HC
 rintro e1 w1 ⟨rfl, a3⟩
 replace p0 := p0.later a3
 replace p1 := p1.later a3
 replace a1 := a1.up a3
 replace a0 := bup a0 a3
 have x0 := zaa p0
 have HW := hid (zdd n' e A m.length cap (i : Int) (j : Int) w1 a2.1 a2.2)
 rw [show decide (0 ≤ (i : Int) ∧ (i : Int) < 2 * n' ∧ 0 ≤ (j : Int) ∧ (j : Int) < 2 * n') = true by rw [decide_eq_true_eq]; omega] at HW
 go_wp2_with fail
 (with_reducible refine HW.out.mono ?_)
 clear HW x0
 rintro e2 w2 ⟨rfl, a5⟩
 replace p0 := p0.later a5
 replace p1 := p1.later a5
 replace a1 := a1.up a5
 replace a0 := bup a0 a5
 have x0 := zaa p0
 cases e with
 | true =>
  have a8 : Hid (withO ⟨n', true, m⟩ i j c = ⟨n', true, m⟩) := hid (by
   have := (zas HOK.out.ok).2.2.1 rfl
   dsimp only at this
   subst this; rfl)
  have a7 := hid (zcA n' true m A cap w2 a1 hm)
  go_wp2_with fail
  (with_reducible refine a7.out.mono ?_)
  clear a7 x0
  rintro e4 w4 ⟨A1, c1, rfl, own, a4⟩
  replace p1 := p1.later a4
  replace a0 := bup a0 a4
  have x0 := zaa p1
  go_wp2
  clear x0
  have q3 := p1.set3 (v0 := .int .i64 n') (v1 := .bool true) (v2 := .slice A1 m.length c1)
  have o3 := own.far3 (g := w.heap.size + 1) (v0 := .int .i64 n') (v1 := .bool true) (v2 := .slice A1 m.length c1) (zan own p1 (by decide))
  obtain ⟨z0, z1, z2, fz⟩ := zaa q3
  refine bodyPost_ret (v := .tuple #[.agg #[n', true, .slice A1 m.length c1], .int .i64 0]) (by simp [results, Tryz.results50, go_sem, z0, z1, z2]) rfl ?_
  rw [a8.out]
  exact ⟨A1, c1, rfl, o3.less (show w.heap.size ≤ w2.heap.size by have := a5.size; have := a3.size; have := a9.out; omega), a0.trans (zah (by omega) a0.size)⟩
 | false =>
  have hij : i = j := by have := HCS.out; simp at this; exact this
  subst hij
  have tij : ((i : Int) == (i : Int)) = true := by simp
  have n3 := new1 w2 (.cells #[(i : Int), (i : Int)] 116)
  have y0 := zaa (p0.later n3)
  cases tc : decide (c < 0)
  ·have a8 : Hid (withO ⟨n', false, m⟩ i i c = ⟨n', false, m⟩) := hid (by
    unfold withO; rw [if_neg (by simp), if_pos rfl, if_neg (by simpa using tc)])
   go_wp2_with fail
   have hx3 := a1.up n3
   replace p1 := p1.later n3
   replace a0 := bup a0 n3
   clear x0 y0 a1
   have hg2 : w.heap.size + 2 ≤ w2.heap.size := by have := a5.size; have := a3.size; have := a9.out; omega
   have hg3 := n3.size
   generalize w2.alloc (.cells #[(i : Int), (i : Int)] 116) = w3 at *
   have a7 := hid (zcA n' false m A cap w3 hx3 hm)
   (with_reducible refine a7.out.mono ?_)
   clear a7
   rintro e4 w4 ⟨A1, c1, rfl, own, a4⟩
   replace p1 := p1.later a4
   replace a0 := bup a0 a4
   have x0 := zaa p1
   go_wp2
   clear x0
   have q3 := p1.set3 (v0 := .int .i64 n') (v1 := .bool false) (v2 := .slice A1 m.length c1)
   have o3 := own.far3 (g := w.heap.size + 1) (v0 := .int .i64 n') (v1 := .bool false) (v2 := .slice A1 m.length c1) (zan own p1 (by decide))
   obtain ⟨z0, z1, z2, fz⟩ := zaa q3
   refine bodyPost_ret (v := .tuple #[.agg #[n', false, .slice A1 m.length c1], .int .i64 0]) (by simp [results, Tryz.results50, go_sem, z0, z1, z2]) rfl ?_
   rw [a8.out]
   exact ⟨A1, c1, rfl, o3.less (show w.heap.size ≤ w3.heap.size by omega), a0.trans (zah (by omega) a0.size)⟩
  ·have a8 : Hid (withO ⟨n', false, m⟩ i i c = ⟨n', true, []⟩) := hid (by
    unfold withO emptyO; rw [if_neg (by simp), if_pos rfl, if_pos (by simpa using tc)])
   go_wp2_with fail
   replace p1 := p1.later n3
   replace a0 := bup a0 n3
   clear x0 y0 a1
   generalize w2.alloc (.cells #[(i : Int), (i : Int)] 116) = w3 at *
   refine (zb1 n' w3 a2.1 a2.2).mono ?_
   rintro e4 w4 ⟨rfl, a4⟩
   replace p1 := p1.later a4
   replace a0 := bup a0 a4
   have x0 := zaa p1
   go_wp2
   clear x0
   have q3 := p1.set3 (v0 := .int .i64 n') (v1 := .bool true) (v2 := .slice none 0 0)
   obtain ⟨z0, z1, z2, fz⟩ := zaa q3
   refine bodyPost_ret (v := .tuple #[.agg #[n', true, .slice none 0 0], .int .i64 0]) (by simp [results, Tryz.results50, go_sem, z0, z1, z2]) rfl ?_
   rw [a8.out]
   exact ⟨none, 0, rfl, zbA _ _, a0.trans (zah (by omega) a0.size)⟩
theorem zaN (n : Int) (o : O) (ok : OkO n o) (i j : Nat) (hi : (i : Int) < 2 * n) (hj : (j : Int) < 2 * n) (c : Int) (A : Option Addr) (cap : Nat) (w : World) (hx : Rd w w.heap.size A o.m) (hm : o.m.length ≤ 17592186044416) :
  Calls Tryz.prog 186 #[.agg #[o.n, o.e, .slice A o.m.length cap], (i : Int), (j : Int), c] w (zbh w (withO o i j c)) := by
 obtain ⟨p0, p1, a0, a6⟩ := zal w #[o.n, o.e, .slice A o.m.length cap] #[.int .i64 0, false, .slice none 0 0] 24 24
 have a1 := hx.up a0
 have HC := hid (zkL n o ok i j hi hj c A cap _ a1 hm)
 have a9 := hid a6
 clear a6
 generalize withO o i j c = r at *
 go_enter Tryz.func186, Tryz.ntmps186
 go_wp2_with fail
 generalize (w.alloc (Obj.cells #[o.n, o.e, .slice A o.m.length cap] 24)).alloc (Obj.cells #[.int .i64 0, false, .slice none 0 0] 24) = w0 at *
 (with_reducible refine HC.out.mono ?_)
 clear HC
 rintro e1 w1 ⟨A1, c1, rfl, own, a3⟩
 replace p1 := p1.later a3
 replace a0 := bup a0 a3
 have n3 := new1 w1 (.cells #[r.n, r.e, .slice A1 r.m.length c1] 24)
 replace p1 := p1.later n3
 replace own := own.below n3
 replace a0 := bup a0 n3
 have x0 := zaa p1
 go_wp2
 clear x0
 have q3 := p1.set3 (v0 := .int .i64 r.n) (v1 := .bool r.e) (v2 := .slice A1 r.m.length c1)
 have o3 := own.far3 (g := w.heap.size + 1) (v0 := .int .i64 r.n) (v1 := .bool r.e) (v2 := .slice A1 r.m.length c1) (zan own p1 (by decide))
 obtain ⟨z0, z1, z2, fz⟩ := zaa q3
 refine bodyPost_ret (v := .agg #[r.n, r.e, .slice A1 r.m.length c1]) (by simp [results, Tryz.results186, go_sem, z0, z1, z2]) rfl ⟨A1, c1, rfl, o3.less (show w.heap.size ≤ w0.heap.size by have := a9.out; omega), a0.trans (zah (by omega) a0.size)⟩
end
section
attribute [local go_sem ↓] Go.wp_at_zero Go.wp_at_succ
theorem zaT (o : O) (ok : check o = 0) (A : Option Addr) (cap : Nat) (w : World) (hx : Rd w w.heap.size A o.m) (hm : o.m.length ≤ 17592186044416) :
  Calls Tryz.prog 58 #[.agg #[o.n, o.e, .slice A o.m.length cap]] w (zbh w (closeO o)) := by
 obtain ⟨p0, p1, a0, a2⟩ := zal w #[o.n, o.e, .slice A o.m.length cap] #[.int .i64 0, false, .slice none 0 0] 24 24
 have a3 := hx.up a0
 have HC := hid (zdP o A cap _ a3 hm)
 rw [if_pos ok, ok] at HC
 have a4 := hid a2
 clear a2 ok
 generalize closeO o = r at *
 go_enter Tryz.func58, Tryz.ntmps58
 go_wp2_with fail
 generalize (w.alloc (Obj.cells #[o.n, o.e, .slice A o.m.length cap] 24)).alloc (Obj.cells #[.int .i64 0, false, .slice none 0 0] 24) = w0 at *
 (with_reducible refine HC.out.mono ?_)
 clear HC
 rintro e1 w1 ⟨A1, c1, s1, rfl, own, a1⟩
 replace p1 := p1.later a1
 replace a0 := bup a0 a1
 have n3 := new1 w1 (.cells #[r.n, r.e, .slice A1 r.m.length c1] 24)
 replace p1 := p1.later n3
 replace own := own.below n3
 replace a0 := bup a0 n3
 have x0 := zaa p1
 go_wp2
 clear x0
 have q3 := p1.set3 (v0 := .int .i64 r.n) (v1 := .bool r.e) (v2 := .slice A1 r.m.length c1)
 have o3 := own.far3 (g := w.heap.size + 1) (v0 := .int .i64 r.n) (v1 := .bool r.e) (v2 := .slice A1 r.m.length c1) (zan own p1 (by decide))
 obtain ⟨z0, z1, z2, fz⟩ := zaa q3
 refine bodyPost_ret (v := .agg #[r.n, r.e, .slice A1 r.m.length c1]) (by simp [results, Tryz.results58, go_sem, z0, z1, z2]) rfl ⟨A1, c1, rfl, o3.less (show w.heap.size ≤ w0.heap.size by have := a4.out; omega), a0.trans (zah (by omega) a0.size)⟩
theorem zgx (o : O) (ok : check o = 0) (A : Option Addr) (cap : Nat) (w : World) (hx : Rd w w.heap.size A o.m) (hm : o.m.length ≤ 17592186044416) :
  Calls Tryz.prog 228 #[.agg #[o.n, o.e, .slice A o.m.length cap]] w (zbh w (closeO o)) := by
 obtain ⟨p0, p1, a0, a2⟩ := zal w #[o.n, o.e, .slice A o.m.length cap] #[.int .i64 0, false, .slice none 0 0] 24 24
 have a3 := hx.up a0
 have HC := hid (zdP o A cap _ a3 hm)
 rw [if_pos ok, ok] at HC
 have a4 := hid a2
 clear a2 ok
 generalize closeO o = r at *
 go_enter Tryz.func228, Tryz.ntmps228
 go_wp2_with fail
 generalize (w.alloc (Obj.cells #[o.n, o.e, .slice A o.m.length cap] 24)).alloc (Obj.cells #[.int .i64 0, false, .slice none 0 0] 24) = w0 at *
 (with_reducible refine HC.out.mono ?_)
 clear HC
 rintro e1 w1 ⟨A1, c1, s1, rfl, own, a1⟩
 replace p1 := p1.later a1
 replace a0 := bup a0 a1
 have n3 := new1 w1 (.cells #[r.n, r.e, .slice A1 r.m.length c1] 24)
 replace p1 := p1.later n3
 replace own := own.below n3
 replace a0 := bup a0 n3
 have x0 := zaa p1
 go_wp2
 clear x0
 have q3 := p1.set3 (v0 := .int .i64 r.n) (v1 := .bool r.e) (v2 := .slice A1 r.m.length c1)
 have o3 := own.far3 (g := w.heap.size + 1) (v0 := .int .i64 r.n) (v1 := .bool r.e) (v2 := .slice A1 r.m.length c1) (zan own p1 (by decide))
 obtain ⟨z0, z1, z2, fz⟩ := zaa q3
 refine bodyPost_ret (v := .agg #[r.n, r.e, .slice A1 r.m.length c1]) (by simp [results, Tryz.results228, go_sem, z0, z1, z2]) rfl ⟨A1, c1, rfl, o3.less (show w.heap.size ≤ w0.heap.size by have := a4.out; omega), a0.trans (zah (by omega) a0.size)⟩
theorem zbK (n : Int) (w : World) (h0 : 0 ≤ n) (h1 : n ≤ 64) :
  Calls Tryz.prog 122 #[n] w (zbh w (emptyO n)) := by
 have n0 := new1 w (.cells #[.int .i64 0, false, .slice none 0 0] 24)
 have p1 := Blk.new w 24 #[.int .i64 0, false, .slice none 0 0]
 go_enter Tryz.func122, Tryz.ntmps122
 go_wp2_with fail
 generalize w.alloc (Obj.cells #[.int .i64 0, false, .slice none 0 0] 24) = w0 at *
 (with_reducible refine (zb1 n _ h0 h1).mono ?_)
 rintro e1 w1 ⟨rfl, a1⟩
 replace p1 := p1.later a1
 replace n0 := bup n0 a1
 have n3 := new1 w1 (.cells #[n, true, .slice none 0 0] 24)
 replace p1 := p1.later n3
 replace n0 := bup n0 n3
 have x0 := zaa p1
 go_wp2
 clear x0
 have q3 := p1.set3 (v0 := .int .i64 n) (v1 := .bool true) (v2 := .slice none 0 0)
 obtain ⟨z0, z1, z2, fz⟩ := zaa q3
 refine bodyPost_ret (v := .agg #[n, true, .slice none 0 0]) (by simp [results, Tryz.results122, go_sem, z0, z1, z2]) rfl ⟨none, 0, rfl, zbA _ _, n0.trans (zah (by omega) n0.size)⟩
theorem zaJ (v : Nat) (hv : v ≤ 1000) (w : World) : Calls Tryz.prog 135 #[(v : Int)] w (zc0 ((2 * v : Nat) : Int) w) := by
 go_enter Tryz.func135, Tryz.ntmps135
 go_wp2
 go_ret
 exact ⟨zaQ (by omega), rfl⟩
theorem zco (v : Nat) (hv : v ≤ 1000) (w : World) : Calls Tryz.prog 138 #[(v : Int)] w (zc0 ((2 * v + 1 : Nat) : Int) w) := by
 go_enter Tryz.func138, Tryz.ntmps138
 go_wp2
 go_ret
 exact ⟨zaQ (by omega), rfl⟩
theorem zdt (n : Int) (w : World) : Calls Tryz.prog 205 #[n] w (zc0 (zaP n) w) := by
 cases t1 : decide (2305843009213693952 < n) <;> cases t2 : decide (n < -2305843009213693952)
 all_goals
  have T1 := hid t1
  have T2 := hid t2
  simp only [decide_eq_true_eq, decide_eq_false_iff_not] at t1 t2
  go_enter Tryz.func205, Tryz.ntmps205
  go_wp2
  go_ret
  refine ⟨zaQ ?_, rfl⟩
  have t1 := T1.out
  have t2 := T2.out
  simp only [decide_eq_true_eq, decide_eq_false_iff_not] at t1 t2
  unfold zaP
  first | rw [if_pos t1] | rw [if_neg t1, if_pos t2] | rw [if_neg t1, if_neg t2]
theorem zbl (n : Int) (h : I64 n) (w : World) : Calls Tryz.prog 206 #[n] w (zc0 (negB n) w) := by
 unfold I64 at h
 cases t1 : (n == -9223372036854775808)
 all_goals
  have t2 := t1
  simp only [beq_iff_eq, beq_eq_false_iff_ne] at t2
  have T2 := hid t2
  have hb : n = -9223372036854775808 ∨ -9223372036854775807 ≤ n := by omega
  have HB := hid hb
  clear t2 hb
  go_enter Tryz.func206, Tryz.ntmps206
  go_wp2
  go_ret
  refine ⟨zaQ ?_, rfl⟩
  unfold negB
  have t2 := T2.out
  have := HB.out
  first | rw [if_pos t2] | (rw [if_neg t2]; first | rfl | (unfold wrap64; omega))
theorem zhw (n : Int) (w : World) : Calls Tryz.prog 187 #[n] w fun e w' => e = .returned (Rg.val ⟨0, n, false, true⟩) ∧ Below w.heap.size w w' := by
 unfold Rg.val
 go_enter Tryz.func187, Tryz.ntmps187
 go_wp2
 refine bodyPost_ret (v := .agg #[.int .i64 0, n, false, true]) (by simp [results, Tryz.results187, go_sem]) rfl (And.intro rfl ?_)
 exact zcw
theorem zif (n : Int) (w : World) : Calls Tryz.prog 188 #[n] w fun e w' => e = .returned (Rg.val ⟨n, 0, true, false⟩) ∧ Below w.heap.size w w' := by
 unfold Rg.val
 go_enter Tryz.func188, Tryz.ntmps188
 go_wp2
 refine bodyPost_ret (v := .agg #[n, .int .i64 0, true, false]) (by simp [results, Tryz.results188, go_sem]) rfl (And.intro rfl ?_)
 exact zcw
theorem ziN (n : Int) (w : World) : Calls Tryz.prog 133 #[n] w fun e w' => e = .returned (Rg.val ⟨n, n, true, true⟩) ∧ Below w.heap.size w w' := by
 unfold Rg.val
 go_enter Tryz.func133, Tryz.ntmps133
 go_wp2
 refine bodyPost_ret (v := .agg #[n, n, true, true]) (by simp [results, Tryz.results133, go_sem]) rfl (And.intro rfl ?_)
 exact zcw
theorem zk1 (n : Int) (w : World) : Calls Tryz.prog 70 #[n] w fun e w' => e = .returned (Rg.val ⟨n, n, true, true⟩) ∧ Below w.heap.size w w' := by
 unfold Rg.val
 go_enter Tryz.func70, Tryz.ntmps70
 go_wp2
 refine bodyPost_ret (v := .agg #[n, n, true, true]) (by simp [results, Tryz.results70, go_sem]) rfl (And.intro rfl ?_)
 exact zcw
end
end Go.Proofs.YtnmpgijiimglcaaGreat
