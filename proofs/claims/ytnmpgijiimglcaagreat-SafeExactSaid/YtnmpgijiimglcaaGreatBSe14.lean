import Derived.Test.YtnmpgijiimglcaaGreatBSe13
namespace Go.Proofs.YtnmpgijiimglcaaGreat
open Go.RowKit
set_option maxRecDepth 100000
set_option maxHeartbeats 8000000
attribute [local go_sem ↓] Go.wp_at_zero Go.wp_at_succ
theorem zax (w : World) (cs0 cs1 cs2 cs3 : Array Value) (t0 t1 t2 t3 : TypeId) : Blk ((((w.alloc (.cells cs0 t0)).alloc (.cells cs1 t1)).alloc (.cells cs2 t2)).alloc (.cells cs3 t3)) w.heap.size t0 cs0 ∧ Blk ((((w.alloc (.cells cs0 t0)).alloc (.cells cs1 t1)).alloc (.cells cs2 t2)).alloc (.cells cs3 t3)) (w.heap.size + 1) t1 cs1 ∧ Blk ((((w.alloc (.cells cs0 t0)).alloc (.cells cs1 t1)).alloc (.cells cs2 t2)).alloc (.cells cs3 t3)) (w.heap.size + 1 + 1) t2 cs2 ∧ Blk ((((w.alloc (.cells cs0 t0)).alloc (.cells cs1 t1)).alloc (.cells cs2 t2)).alloc (.cells cs3 t3)) (w.heap.size + 1 + 1 + 1) t3 cs3 ∧ Below w.heap.size w ((((w.alloc (.cells cs0 t0)).alloc (.cells cs1 t1)).alloc (.cells cs2 t2)).alloc (.cells cs3 t3)) ∧ ((((w.alloc (.cells cs0 t0)).alloc (.cells cs1 t1)).alloc (.cells cs2 t2)).alloc (.cells cs3 t3)).heap.size = w.heap.size + 4 := by
 obtain ⟨h1, h2, h3, h4, h5⟩ := zaj w cs0 cs1 cs2 t0 t1 t2
 have k := Blk.new (((w.alloc (.cells cs0 t0)).alloc (.cells cs1 t1)).alloc (.cells cs2 t2)) t3 cs3
 rw [h5] at k
 exact ⟨h1.alloc _, h2.alloc _, h3.alloc _, k, h4.alloc (by simp; omega) _, by simp⟩
theorem ziA (n : Int) (o : O) (ok : OkO n o) (av an bv bn : Int) (h0 : 0 ≤ av) (h1 : 0 ≤ bv) (hab : av = bv) (A : Option Addr) (cap : Nat) (w : World) (hx : Rd w w.heap.size A o.m) (_hm : o.m.length ≤ 17592186044416) :
  Calls Tryz.prog 123 #[.agg #[o.n, o.e, .slice A o.m.length cap], .agg #[av, an], .agg #[bv, bn], true] w (zaC w A o.m (emptyO o.n)) := by
 have a5 := ok.rng
 have a2 := ok.n_
 have t1 : decide (0 ≤ av) = true := by rw [decide_eq_true_eq]; omega
 have t2 : decide (0 ≤ bv) = true := by rw [decide_eq_true_eq]; omega
 have t3 : (av == bv) = true := by rw [beq_iff_eq]; exact hab
 clear hab
 obtain ⟨p0, p1, p2, p3, a0, a1⟩ := zax w #[o.n, o.e, .slice A o.m.length cap] #[av, an] #[bv, bn] #[.int .i64 0, false, .slice none 0 0] 24 26 26 24
 have a8 := hx.up a0
 have HX := hid hx
 have b0 := hid a1
 have a9 := hid a2
 clear a1 hx a2
 have x0 := zaa p0
 obtain ⟨y0, y1, fy⟩ := zai p1
 obtain ⟨z0, z1, fz⟩ := zai p2
 go_enter Tryz.func123, Tryz.ntmps123
 go_wp2_with fail
 generalize (((w.alloc (Obj.cells #[o.n, o.e, .slice A o.m.length cap] 24)).alloc (Obj.cells #[av, an] 26)).alloc (Obj.cells #[bv, bn] 26)).alloc (Obj.cells #[.int .i64 0, false, .slice none 0 0] 24) = w0 at *
 clear x0 y0 y1 fy z0 z1 fz
 have a6 : w.heap.size ≤ w0.heap.size := by have := b0.out; omega
 have HE := hid (zbK o.n w0 (by have := a9.out; omega) (by have := a9.out; omega))
 generalize emptyO o.n = r at *
 (with_reducible refine HE.out.mono ?_)
 rintro e1 w1 ⟨A1, c1, rfl, own, a3⟩
 replace p3 := p3.later a3
 replace a0 := bup a0 a3
 have x0 := zaa p3
 go_wp2
 clear x0
 have q3 := p3.set3 (v0 := .int .i64 r.n) (v1 := .bool r.e) (v2 := .slice A1 r.m.length c1)
 have a7 := a0.trans (zah (W := w1) (g := w.heap.size + 1 + 1 + 1) (v0 := .int .i64 r.n) (v1 := .bool r.e) (v2 := .slice A1 r.m.length c1) (by omega) a0.size)
 obtain ⟨z0, z1, z2, fz⟩ := zaa q3
 refine bodyPost_ret (v := .agg #[r.n, r.e, .slice A1 r.m.length c1]) (by simp [results, Tryz.results123, go_sem, z0, z1, z2]) rfl ⟨A1, c1, rfl, ?_, a7⟩
 exact .inr ((own.far3 (g := w.heap.size + 1 + 1 + 1) (v0 := .int .i64 r.n) (v1 := .bool r.e) (v2 := .slice A1 r.m.length c1) (zan own p3 (by decide))).less a6)
theorem zij (n : Int) (o : O) (ok : OkO n o) (av an bv bn : Int) (h0 : 0 ≤ av) (h1 : 0 ≤ bv) (hab : av = bv) (A : Option Addr) (cap : Nat) (w : World) (hx : Rd w w.heap.size A o.m) (_hm : o.m.length ≤ 17592186044416) :
  Calls Tryz.prog 123 #[.agg #[o.n, o.e, .slice A o.m.length cap], .agg #[av, an], .agg #[bv, bn], false] w (zaC w A o.m o) := by
 have a5 := ok.rng
 have a2 := ok.n_
 have t1 : decide (0 ≤ av) = true := by rw [decide_eq_true_eq]; omega
 have t2 : decide (0 ≤ bv) = true := by rw [decide_eq_true_eq]; omega
 have t3 : (av == bv) = true := by rw [beq_iff_eq]; exact hab
 clear hab
 obtain ⟨p0, p1, p2, p3, a0, a1⟩ := zax w #[o.n, o.e, .slice A o.m.length cap] #[av, an] #[bv, bn] #[.int .i64 0, false, .slice none 0 0] 24 26 26 24
 have a8 := hx.up a0
 have HX := hid hx
 have b0 := hid a1
 have a9 := hid a2
 clear a1 hx a2
 have x0 := zaa p0
 obtain ⟨y0, y1, fy⟩ := zai p1
 obtain ⟨z0, z1, fz⟩ := zai p2
 go_enter Tryz.func123, Tryz.ntmps123
 go_wp2
 refine bodyPost_ret (v := .agg #[o.n, o.e, .slice A o.m.length cap]) (by simp [results, Tryz.results123, go_sem]) rfl ?_
 have hbX : ∀ W, Below w.heap.size w W → zaC w A o.m o (.returned (.agg #[o.n, o.e, .slice A o.m.length cap])) W := fun W hW => ⟨A, cap, rfl, .inl ⟨rfl, rfl⟩, hW⟩
 exact hbX _ (((((Below.refl _ _).alloc (Nat.le_refl _) _).alloc (by simp) _).alloc (by simp; omega) _).alloc (by simp; omega) _)
theorem zit (n : Int) (o : O) (ok : OkO n o) (av an bv bn : Int) (h0 : 0 ≤ av) (h1 : 0 ≤ bv) (ha : av < n) (hb : bv < n) (hab : av ≠ bv) (A : Option Addr) (cap : Nat) (w : World) (hx : Rd w w.heap.size A o.m) (hm : o.m.length ≤ 17592186044416) :
  Calls Tryz.prog 123 #[.agg #[o.n, o.e, .slice A o.m.length cap], .agg #[av, an], .agg #[bv, bn], true] w (zaC w A o.m (withO o (2 * av.toNat) (2 * bv.toNat) (-1))) := by
 have a5 := ok.rng
 have a2 := ok.n_
 have t1 : decide (0 ≤ av) = true := by rw [decide_eq_true_eq]; omega
 have t2 : decide (0 ≤ bv) = true := by rw [decide_eq_true_eq]; omega
 have t3 : (av == bv) = false := by rw [beq_eq_false_iff_ne]; exact hab
 clear hab
 obtain ⟨a, rfl⟩ := Int.eq_ofNat_of_zero_le h0
 obtain ⟨b, rfl⟩ := Int.eq_ofNat_of_zero_le h1
 have HW := hid (fun A cap W hx => zaN n o ok (2 * a) (2 * b) (by omega) (by omega) (-1) A cap W hx hm)
 rw [show ((2 * a : Nat) : Int) = 2 * (a : Int) by omega, show ((2 * b : Nat) : Int) = 2 * (b : Int) by omega] at HW
 rw [Int.toNat_natCast, Int.toNat_natCast]
 generalize withO o (2 * a) (2 * b) (-1) = r at *
 obtain ⟨p0, p1, p2, p3, a0, a1⟩ := zax w #[o.n, o.e, .slice A o.m.length cap] #[(a : Int), an] #[(b : Int), bn] #[.int .i64 0, false, .slice none 0 0] 24 26 26 24
 have a8 := hx.up a0
 have HX := hid hx
 have b0 := hid a1
 have a9 := hid a2
 clear a1 hx a2
 obtain ⟨x0, x1, x2, fx⟩ := zaa p0
 obtain ⟨y0, y1, fy⟩ := zai p1
 obtain ⟨z0, z1, fz⟩ := zai p2
 go_enter Tryz.func123, Tryz.ntmps123
 go_wp2
 generalize (((w.alloc (Obj.cells #[o.n, o.e, .slice A o.m.length cap] 24)).alloc (Obj.cells #[(a : Int), an] 26)).alloc (Obj.cells #[(b : Int), bn] 26)).alloc (Obj.cells #[.int .i64 0, false, .slice none 0 0] 24) = w0 at *
 have g0 := later x0
 have g1 := later x1
 have g2 := later x2
 have k0 := later y0
 have k1 := later y1
 have l0 := later z0
 have l1 := later z1
 clear x0 x1 x2 fx y0 y1 fy z0 z1 fz
 refine zad 8 (fun X => Below w0.heap.size w0 X) (by kernel_rfl) (by kernel_rfl) (Below.refl _ _).drew ?_
 refine fl_a ?_
 (refine fl_c 135 #[(a : Int)] (.int .i64 ((2 * a : Nat) : Int)) (fun X hX => (zaJ a (by omega) _).mono fun e' w' ⟨he, hw⟩ => ⟨he, hw ▸ hX⟩) ?_)
 refine fl_a ?_
 (refine fl_c 135 #[(b : Int)] (.int .i64 ((2 * b : Nat) : Int)) (fun X hX => (zaJ b (by omega) _).mono fun e' w' ⟨he, hw⟩ => ⟨he, hw ▸ hX⟩) ?_)
 refine fl_a ?_
 intro u1 a4
 clear g0 g1 g2 k0 k1 l0 l1
 replace p3 := p3.later a4
 replace a0 := bup a0 a4
 have a6 : w.heap.size ≤ u1.heap.size := a0.size
 have HL := hid (HW.out A cap u1 (a8.up a4))
 clear HW
 go_wp2_with fail
 (with_reducible refine HL.out.mono ?_)
 clear HL
 rintro e1 w1 ⟨A1, c1, rfl, own, a3⟩
 replace p3 := p3.later a3
 replace a0 := bup a0 a3
 obtain ⟨x0, x1, x2, fx⟩ := zaa p3
 go_wp2
 clear x0 x1 x2 fx
 have q3 := p3.set3 (v0 := .int .i64 r.n) (v1 := .bool r.e) (v2 := .slice A1 r.m.length c1)
 have a7 := a0.trans (zah (W := w1) (g := w.heap.size + 1 + 1 + 1) (v0 := .int .i64 r.n) (v1 := .bool r.e) (v2 := .slice A1 r.m.length c1) (by omega) a0.size)
 obtain ⟨z0, z1, z2, fz⟩ := zaa q3
 refine bodyPost_ret (v := .agg #[r.n, r.e, .slice A1 r.m.length c1]) (by simp [results, Tryz.results123, go_sem, z0, z1, z2]) rfl ⟨A1, c1, rfl, ?_, a7⟩
 exact .inr ((own.far3 (g := w.heap.size + 1 + 1 + 1) (v0 := .int .i64 r.n) (v1 := .bool r.e) (v2 := .slice A1 r.m.length c1) (zan own p3 (by decide))).less a6)
theorem zhV (n : Int) (o : O) (ok : OkO n o) (av an bv bn : Int) (h0 : 0 ≤ av) (h1 : 0 ≤ bv) (ha : av < n) (hb : bv < n) (hab : av ≠ bv) (A : Option Addr) (cap : Nat) (w : World) (hx : Rd w w.heap.size A o.m) (hm : o.m.length ≤ 17592186044416) :
  Calls Tryz.prog 123 #[.agg #[o.n, o.e, .slice A o.m.length cap], .agg #[av, an], .agg #[bv, bn], false] w (zaC w A o.m (withO o (2 * av.toNat) (2 * bv.toNat) (0))) := by
 have a5 := ok.rng
 have a2 := ok.n_
 have t1 : decide (0 ≤ av) = true := by rw [decide_eq_true_eq]; omega
 have t2 : decide (0 ≤ bv) = true := by rw [decide_eq_true_eq]; omega
 have t3 : (av == bv) = false := by rw [beq_eq_false_iff_ne]; exact hab
 clear hab
 obtain ⟨a, rfl⟩ := Int.eq_ofNat_of_zero_le h0
 obtain ⟨b, rfl⟩ := Int.eq_ofNat_of_zero_le h1
 have HW := hid (fun A cap W hx => zaN n o ok (2 * a) (2 * b) (by omega) (by omega) (0) A cap W hx hm)
 rw [show ((2 * a : Nat) : Int) = 2 * (a : Int) by omega, show ((2 * b : Nat) : Int) = 2 * (b : Int) by omega] at HW
 rw [Int.toNat_natCast, Int.toNat_natCast]
 generalize withO o (2 * a) (2 * b) (0) = r at *
 obtain ⟨p0, p1, p2, p3, a0, a1⟩ := zax w #[o.n, o.e, .slice A o.m.length cap] #[(a : Int), an] #[(b : Int), bn] #[.int .i64 0, false, .slice none 0 0] 24 26 26 24
 have a8 := hx.up a0
 have HX := hid hx
 have b0 := hid a1
 have a9 := hid a2
 clear a1 hx a2
 obtain ⟨x0, x1, x2, fx⟩ := zaa p0
 obtain ⟨y0, y1, fy⟩ := zai p1
 obtain ⟨z0, z1, fz⟩ := zai p2
 go_enter Tryz.func123, Tryz.ntmps123
 go_wp2
 generalize (((w.alloc (Obj.cells #[o.n, o.e, .slice A o.m.length cap] 24)).alloc (Obj.cells #[(a : Int), an] 26)).alloc (Obj.cells #[(b : Int), bn] 26)).alloc (Obj.cells #[.int .i64 0, false, .slice none 0 0] 24) = w0 at *
 have g0 := later x0
 have g1 := later x1
 have g2 := later x2
 have k0 := later y0
 have k1 := later y1
 have l0 := later z0
 have l1 := later z1
 clear x0 x1 x2 fx y0 y1 fy z0 z1 fz
 refine zad 8 (fun X => Below w0.heap.size w0 X) (by kernel_rfl) (by kernel_rfl) (Below.refl _ _).drew ?_
 refine fl_a ?_
 (refine fl_c 135 #[(a : Int)] (.int .i64 ((2 * a : Nat) : Int)) (fun X hX => (zaJ a (by omega) _).mono fun e' w' ⟨he, hw⟩ => ⟨he, hw ▸ hX⟩) ?_)
 refine fl_a ?_
 (refine fl_c 135 #[(b : Int)] (.int .i64 ((2 * b : Nat) : Int)) (fun X hX => (zaJ b (by omega) _).mono fun e' w' ⟨he, hw⟩ => ⟨he, hw ▸ hX⟩) ?_)
 refine fl_a ?_
 intro u1 a4
 clear g0 g1 g2 k0 k1 l0 l1
 replace p3 := p3.later a4
 replace a0 := bup a0 a4
 have a6 : w.heap.size ≤ u1.heap.size := a0.size
 have HL := hid (HW.out A cap u1 (a8.up a4))
 clear HW
 go_wp2_with fail
 (with_reducible refine HL.out.mono ?_)
 clear HL
 rintro e1 w1 ⟨A1, c1, rfl, own, a3⟩
 replace p3 := p3.later a3
 replace a0 := bup a0 a3
 obtain ⟨x0, x1, x2, fx⟩ := zaa p3
 go_wp2
 clear x0 x1 x2 fx
 have q3 := p3.set3 (v0 := .int .i64 r.n) (v1 := .bool r.e) (v2 := .slice A1 r.m.length c1)
 have a7 := a0.trans (zah (W := w1) (g := w.heap.size + 1 + 1 + 1) (v0 := .int .i64 r.n) (v1 := .bool r.e) (v2 := .slice A1 r.m.length c1) (by omega) a0.size)
 obtain ⟨z0, z1, z2, fz⟩ := zaa q3
 refine bodyPost_ret (v := .agg #[r.n, r.e, .slice A1 r.m.length c1]) (by simp [results, Tryz.results123, go_sem, z0, z1, z2]) rfl ⟨A1, c1, rfl, ?_, a7⟩
 exact .inr ((own.far3 (g := w.heap.size + 1 + 1 + 1) (v0 := .int .i64 r.n) (v1 := .bool r.e) (v2 := .slice A1 r.m.length c1) (zan own p3 (by decide))).less a6)
theorem zhg (n : Int) (o : O) (ok : OkO n o) (av an bv bn : Int) (h0 : 0 ≤ av) (h1 : bv < 0) (hab : bn = -9223372036854775808) (A : Option Addr) (cap : Nat) (w : World) (hx : Rd w w.heap.size A o.m) (_hm : o.m.length ≤ 17592186044416) :
  Calls Tryz.prog 123 #[.agg #[o.n, o.e, .slice A o.m.length cap], .agg #[av, an], .agg #[bv, bn], true] w (zaC w A o.m (emptyO o.n)) := by
 have a5 := ok.rng
 have a2 := ok.n_
 have t1 : decide (0 ≤ av) = true := by rw [decide_eq_true_eq]; omega
 have t2 : decide (0 ≤ bv) = false := by rw [decide_eq_false_iff_not]; omega
 have t3 : (bn == -9223372036854775808) = true := by rw [beq_iff_eq]; exact hab
 clear hab
 obtain ⟨p0, p1, p2, p3, a0, a1⟩ := zax w #[o.n, o.e, .slice A o.m.length cap] #[av, an] #[bv, bn] #[.int .i64 0, false, .slice none 0 0] 24 26 26 24
 have a8 := hx.up a0
 have HX := hid hx
 have b0 := hid a1
 have a9 := hid a2
 clear a1 hx a2
 have x0 := zaa p0
 obtain ⟨y0, y1, fy⟩ := zai p1
 obtain ⟨z0, z1, fz⟩ := zai p2
 go_enter Tryz.func123, Tryz.ntmps123
 go_wp2_with fail
 generalize (((w.alloc (Obj.cells #[o.n, o.e, .slice A o.m.length cap] 24)).alloc (Obj.cells #[av, an] 26)).alloc (Obj.cells #[bv, bn] 26)).alloc (Obj.cells #[.int .i64 0, false, .slice none 0 0] 24) = w0 at *
 clear x0 y0 y1 fy z0 z1 fz
 have a6 : w.heap.size ≤ w0.heap.size := by have := b0.out; omega
 have HE := hid (zbK o.n w0 (by have := a9.out; omega) (by have := a9.out; omega))
 generalize emptyO o.n = r at *
 (with_reducible refine HE.out.mono ?_)
 rintro e1 w1 ⟨A1, c1, rfl, own, a3⟩
 replace p3 := p3.later a3
 replace a0 := bup a0 a3
 have x0 := zaa p3
 go_wp2
 clear x0
 have q3 := p3.set3 (v0 := .int .i64 r.n) (v1 := .bool r.e) (v2 := .slice A1 r.m.length c1)
 have a7 := a0.trans (zah (W := w1) (g := w.heap.size + 1 + 1 + 1) (v0 := .int .i64 r.n) (v1 := .bool r.e) (v2 := .slice A1 r.m.length c1) (by omega) a0.size)
 obtain ⟨z0, z1, z2, fz⟩ := zaa q3
 refine bodyPost_ret (v := .agg #[r.n, r.e, .slice A1 r.m.length c1]) (by simp [results, Tryz.results123, go_sem, z0, z1, z2]) rfl ⟨A1, c1, rfl, ?_, a7⟩
 exact .inr ((own.far3 (g := w.heap.size + 1 + 1 + 1) (v0 := .int .i64 r.n) (v1 := .bool r.e) (v2 := .slice A1 r.m.length c1) (zan own p3 (by decide))).less a6)
theorem ziv (n : Int) (o : O) (ok : OkO n o) (av an bv bn : Int) (h0 : 0 ≤ av) (h1 : bv < 0) (ha : av < n) (hab : -9223372036854775808 < bn ∧ bn ≤ 9223372036854775807) (A : Option Addr) (cap : Nat) (w : World) (hx : Rd w w.heap.size A o.m) (hm : o.m.length ≤ 17592186044416) :
  Calls Tryz.prog 123 #[.agg #[o.n, o.e, .slice A o.m.length cap], .agg #[av, an], .agg #[bv, bn], true] w (zaC w A o.m (rangedO o av.toNat ⟨0, bn + -1, false, true⟩)) := by
 have a5 := ok.rng
 have a2 := ok.n_
 have t1 : decide (0 ≤ av) = true := by rw [decide_eq_true_eq]; omega
 have t2 : decide (0 ≤ bv) = false := by rw [decide_eq_false_iff_not]; omega
 have t3 : (bn == -9223372036854775808) = false := by rw [beq_eq_false_iff_ne]; omega
 obtain ⟨a, rfl⟩ := Int.eq_ofNat_of_zero_le h0
 obtain ⟨b3, b2⟩ := hab
 have HW := hid (fun A cap W hx => zbW n o ok a (by omega) ⟨0, bn + -1, false, true⟩ (by unfold I64; dsimp only; omega) A cap W hx hm)
 rw [Int.toNat_natCast]
 unfold Rg.val at HW
 generalize rangedO o a ⟨0, bn + -1, false, true⟩ = r at *
 obtain ⟨p0, p1, p2, p3, a0, a1⟩ := zax w #[o.n, o.e, .slice A o.m.length cap] #[(a : Int), an] #[bv, bn] #[.int .i64 0, false, .slice none 0 0] 24 26 26 24
 have a8 := hx.up a0
 have HX := hid hx
 have b0 := hid a1
 have a9 := hid a2
 clear a1 hx a2
 obtain ⟨x0, x1, x2, fx⟩ := zaa p0
 obtain ⟨y0, y1, fy⟩ := zai p1
 obtain ⟨z0, z1, fz⟩ := zai p2
 go_enter Tryz.func123, Tryz.ntmps123
 go_wp2
 generalize (((w.alloc (Obj.cells #[o.n, o.e, .slice A o.m.length cap] 24)).alloc (Obj.cells #[(a : Int), an] 26)).alloc (Obj.cells #[bv, bn] 26)).alloc (Obj.cells #[.int .i64 0, false, .slice none 0 0] 24) = w0 at *
 have g0 := later x0
 have g1 := later x1
 have g2 := later x2
 have k0 := later y0
 have k1 := later y1
 have l0 := later z0
 have l1 := later z1
 clear x0 x1 x2 fx y0 y1 fy z0 z1 fz
 refine zad 8 (fun X => Below w0.heap.size w0 X) (by kernel_rfl) (by kernel_rfl) (Below.refl _ _).drew ?_
 refine fl_a ?_
 (refine fl_c 187 #[.int .i64 (bn + -1)] (.agg #[.int .i64 0, .int .i64 (bn + -1), false, true]) (fun X hX => (zhw (bn + -1) _).mono fun e' w' ⟨he, hb'⟩ => ⟨he, zaI hX hX.size hb'⟩) ?_)
 refine fl_a ?_
 intro u1 a4
 clear g0 g1 g2 k0 k1 l0 l1
 replace p3 := p3.later a4
 replace a0 := bup a0 a4
 have a6 : w.heap.size ≤ u1.heap.size := a0.size
 have HL := hid (HW.out A cap u1 (a8.up a4))
 clear HW
 go_wp2_with fail
 (with_reducible refine HL.out.mono ?_)
 clear HL
 rintro e1 w1 ⟨A1, c1, rfl, own, a3⟩
 replace p3 := p3.later a3
 replace a0 := bup a0 a3
 obtain ⟨x0, x1, x2, fx⟩ := zaa p3
 go_wp2
 clear x0 x1 x2 fx
 have q3 := p3.set3 (v0 := .int .i64 r.n) (v1 := .bool r.e) (v2 := .slice A1 r.m.length c1)
 have a7 := a0.trans (zah (W := w1) (g := w.heap.size + 1 + 1 + 1) (v0 := .int .i64 r.n) (v1 := .bool r.e) (v2 := .slice A1 r.m.length c1) (by omega) a0.size)
 obtain ⟨z0, z1, z2, fz⟩ := zaa q3
 refine bodyPost_ret (v := .agg #[r.n, r.e, .slice A1 r.m.length c1]) (by simp [results, Tryz.results123, go_sem, z0, z1, z2]) rfl ⟨A1, c1, rfl, ?_, a7⟩
 rcases own with ⟨rfl, b1⟩ | own
 ·exact .inl ⟨rfl, b1⟩
 ·exact .inr ((own.far3 (g := w.heap.size + 1 + 1 + 1) (v0 := .int .i64 r.n) (v1 := .bool r.e) (v2 := .slice A1 r.m.length c1) (zan own p3 (by decide))).less a6)
theorem zib (n : Int) (o : O) (ok : OkO n o) (av an bv bn : Int) (h0 : 0 ≤ av) (h1 : bv < 0) (ha : av < n) (hab : -9223372036854775808 ≤ bn ∧ bn ≤ 9223372036854775807) (A : Option Addr) (cap : Nat) (w : World) (hx : Rd w w.heap.size A o.m) (hm : o.m.length ≤ 17592186044416) :
  Calls Tryz.prog 123 #[.agg #[o.n, o.e, .slice A o.m.length cap], .agg #[av, an], .agg #[bv, bn], false] w (zaC w A o.m (rangedO o av.toNat ⟨0, bn, false, true⟩)) := by
 have a5 := ok.rng
 have a2 := ok.n_
 have t1 : decide (0 ≤ av) = true := by rw [decide_eq_true_eq]; omega
 have t2 : decide (0 ≤ bv) = false := by rw [decide_eq_false_iff_not]; omega
 obtain ⟨a, rfl⟩ := Int.eq_ofNat_of_zero_le h0
 obtain ⟨b3, b2⟩ := hab
 have HW := hid (fun A cap W hx => zbW n o ok a (by omega) ⟨0, bn, false, true⟩ (by unfold I64; dsimp only; omega) A cap W hx hm)
 rw [Int.toNat_natCast]
 unfold Rg.val at HW
 generalize rangedO o a ⟨0, bn, false, true⟩ = r at *
 obtain ⟨p0, p1, p2, p3, a0, a1⟩ := zax w #[o.n, o.e, .slice A o.m.length cap] #[(a : Int), an] #[bv, bn] #[.int .i64 0, false, .slice none 0 0] 24 26 26 24
 have a8 := hx.up a0
 have HX := hid hx
 have b0 := hid a1
 have a9 := hid a2
 clear a1 hx a2
 obtain ⟨x0, x1, x2, fx⟩ := zaa p0
 obtain ⟨y0, y1, fy⟩ := zai p1
 obtain ⟨z0, z1, fz⟩ := zai p2
 go_enter Tryz.func123, Tryz.ntmps123
 go_wp2
 generalize (((w.alloc (Obj.cells #[o.n, o.e, .slice A o.m.length cap] 24)).alloc (Obj.cells #[(a : Int), an] 26)).alloc (Obj.cells #[bv, bn] 26)).alloc (Obj.cells #[.int .i64 0, false, .slice none 0 0] 24) = w0 at *
 have g0 := later x0
 have g1 := later x1
 have g2 := later x2
 have k0 := later y0
 have k1 := later y1
 have l0 := later z0
 have l1 := later z1
 clear x0 x1 x2 fx y0 y1 fy z0 z1 fz
 refine zad 8 (fun X => Below w0.heap.size w0 X) (by kernel_rfl) (by kernel_rfl) (Below.refl _ _).drew ?_
 refine fl_a ?_
 (refine fl_c 187 #[.int .i64 (bn)] (.agg #[.int .i64 0, .int .i64 (bn), false, true]) (fun X hX => (zhw (bn) _).mono fun e' w' ⟨he, hb'⟩ => ⟨he, zaI hX hX.size hb'⟩) ?_)
 refine fl_a ?_
 intro u1 a4
 clear g0 g1 g2 k0 k1 l0 l1
 replace p3 := p3.later a4
 replace a0 := bup a0 a4
 have a6 : w.heap.size ≤ u1.heap.size := a0.size
 have HL := hid (HW.out A cap u1 (a8.up a4))
 clear HW
 go_wp2_with fail
 (with_reducible refine HL.out.mono ?_)
 clear HL
 rintro e1 w1 ⟨A1, c1, rfl, own, a3⟩
 replace p3 := p3.later a3
 replace a0 := bup a0 a3
 obtain ⟨x0, x1, x2, fx⟩ := zaa p3
 go_wp2
 clear x0 x1 x2 fx
 have q3 := p3.set3 (v0 := .int .i64 r.n) (v1 := .bool r.e) (v2 := .slice A1 r.m.length c1)
 have a7 := a0.trans (zah (W := w1) (g := w.heap.size + 1 + 1 + 1) (v0 := .int .i64 r.n) (v1 := .bool r.e) (v2 := .slice A1 r.m.length c1) (by omega) a0.size)
 obtain ⟨z0, z1, z2, fz⟩ := zaa q3
 refine bodyPost_ret (v := .agg #[r.n, r.e, .slice A1 r.m.length c1]) (by simp [results, Tryz.results123, go_sem, z0, z1, z2]) rfl ⟨A1, c1, rfl, ?_, a7⟩
 rcases own with ⟨rfl, b1⟩ | own
 ·exact .inl ⟨rfl, b1⟩
 ·exact .inr ((own.far3 (g := w.heap.size + 1 + 1 + 1) (v0 := .int .i64 r.n) (v1 := .bool r.e) (v2 := .slice A1 r.m.length c1) (zan own p3 (by decide))).less a6)
theorem zii (n : Int) (o : O) (ok : OkO n o) (av an bv bn : Int) (h0 : av < 0) (h1 : 0 ≤ bv) (hab : an = 9223372036854775807) (A : Option Addr) (cap : Nat) (w : World) (hx : Rd w w.heap.size A o.m) (_hm : o.m.length ≤ 17592186044416) :
  Calls Tryz.prog 123 #[.agg #[o.n, o.e, .slice A o.m.length cap], .agg #[av, an], .agg #[bv, bn], true] w (zaC w A o.m (emptyO o.n)) := by
 have a5 := ok.rng
 have a2 := ok.n_
 have t1 : decide (0 ≤ av) = false := by rw [decide_eq_false_iff_not]; omega
 have t2 : decide (0 ≤ bv) = true := by rw [decide_eq_true_eq]; omega
 have t3 : (an == 9223372036854775807) = true := by rw [beq_iff_eq]; exact hab
 clear hab
 obtain ⟨p0, p1, p2, p3, a0, a1⟩ := zax w #[o.n, o.e, .slice A o.m.length cap] #[av, an] #[bv, bn] #[.int .i64 0, false, .slice none 0 0] 24 26 26 24
 have a8 := hx.up a0
 have HX := hid hx
 have b0 := hid a1
 have a9 := hid a2
 clear a1 hx a2
 have x0 := zaa p0
 obtain ⟨y0, y1, fy⟩ := zai p1
 obtain ⟨z0, z1, fz⟩ := zai p2
 go_enter Tryz.func123, Tryz.ntmps123
 go_wp2_with fail
 generalize (((w.alloc (Obj.cells #[o.n, o.e, .slice A o.m.length cap] 24)).alloc (Obj.cells #[av, an] 26)).alloc (Obj.cells #[bv, bn] 26)).alloc (Obj.cells #[.int .i64 0, false, .slice none 0 0] 24) = w0 at *
 clear x0 y0 y1 fy z0 z1 fz
 have a6 : w.heap.size ≤ w0.heap.size := by have := b0.out; omega
 have HE := hid (zbK o.n w0 (by have := a9.out; omega) (by have := a9.out; omega))
 generalize emptyO o.n = r at *
 (with_reducible refine HE.out.mono ?_)
 rintro e1 w1 ⟨A1, c1, rfl, own, a3⟩
 replace p3 := p3.later a3
 replace a0 := bup a0 a3
 have x0 := zaa p3
 go_wp2
 clear x0
 have q3 := p3.set3 (v0 := .int .i64 r.n) (v1 := .bool r.e) (v2 := .slice A1 r.m.length c1)
 have a7 := a0.trans (zah (W := w1) (g := w.heap.size + 1 + 1 + 1) (v0 := .int .i64 r.n) (v1 := .bool r.e) (v2 := .slice A1 r.m.length c1) (by omega) a0.size)
 obtain ⟨z0, z1, z2, fz⟩ := zaa q3
 refine bodyPost_ret (v := .agg #[r.n, r.e, .slice A1 r.m.length c1]) (by simp [results, Tryz.results123, go_sem, z0, z1, z2]) rfl ⟨A1, c1, rfl, ?_, a7⟩
 exact .inr ((own.far3 (g := w.heap.size + 1 + 1 + 1) (v0 := .int .i64 r.n) (v1 := .bool r.e) (v2 := .slice A1 r.m.length c1) (zan own p3 (by decide))).less a6)
theorem zhY (n : Int) (o : O) (ok : OkO n o) (av an bv bn : Int) (h0 : av < 0) (h1 : 0 ≤ bv) (hb : bv < n) (hab : -9223372036854775808 ≤ an ∧ an < 9223372036854775807) (A : Option Addr) (cap : Nat) (w : World) (hx : Rd w w.heap.size A o.m) (hm : o.m.length ≤ 17592186044416) :
  Calls Tryz.prog 123 #[.agg #[o.n, o.e, .slice A o.m.length cap], .agg #[av, an], .agg #[bv, bn], true] w (zaC w A o.m (rangedO o bv.toNat ⟨an + 1, 0, true, false⟩)) := by
 have a5 := ok.rng
 have a2 := ok.n_
 have t1 : decide (0 ≤ av) = false := by rw [decide_eq_false_iff_not]; omega
 have t2 : decide (0 ≤ bv) = true := by rw [decide_eq_true_eq]; omega
 have t3 : (an == 9223372036854775807) = false := by rw [beq_eq_false_iff_ne]; omega
 obtain ⟨a, rfl⟩ := Int.eq_ofNat_of_zero_le h1
 obtain ⟨b3, b2⟩ := hab
 have HW := hid (fun A cap W hx => zbW n o ok a (by omega) ⟨an + 1, 0, true, false⟩ (by unfold I64; dsimp only; omega) A cap W hx hm)
 rw [Int.toNat_natCast]
 unfold Rg.val at HW
 generalize rangedO o a ⟨an + 1, 0, true, false⟩ = r at *
 obtain ⟨p0, p1, p2, p3, a0, a1⟩ := zax w #[o.n, o.e, .slice A o.m.length cap] #[av, an] #[(a : Int), bn] #[.int .i64 0, false, .slice none 0 0] 24 26 26 24
 have a8 := hx.up a0
 have HX := hid hx
 have b0 := hid a1
 have a9 := hid a2
 clear a1 hx a2
 obtain ⟨x0, x1, x2, fx⟩ := zaa p0
 obtain ⟨y0, y1, fy⟩ := zai p1
 obtain ⟨z0, z1, fz⟩ := zai p2
 go_enter Tryz.func123, Tryz.ntmps123
 go_wp2
 generalize (((w.alloc (Obj.cells #[o.n, o.e, .slice A o.m.length cap] 24)).alloc (Obj.cells #[av, an] 26)).alloc (Obj.cells #[(a : Int), bn] 26)).alloc (Obj.cells #[.int .i64 0, false, .slice none 0 0] 24) = w0 at *
 have g0 := later x0
 have g1 := later x1
 have g2 := later x2
 have k0 := later y0
 have k1 := later y1
 have l0 := later z0
 have l1 := later z1
 clear x0 x1 x2 fx y0 y1 fy z0 z1 fz
 refine zad 8 (fun X => Below w0.heap.size w0 X) (by kernel_rfl) (by kernel_rfl) (Below.refl _ _).drew ?_
 refine fl_a ?_
 (refine fl_c 188 #[.int .i64 (an + 1)] (.agg #[.int .i64 (an + 1), .int .i64 0, true, false]) (fun X hX => (zif (an + 1) _).mono fun e' w' ⟨he, hb'⟩ => ⟨he, zaI hX hX.size hb'⟩) ?_)
 refine fl_a ?_
 intro u1 a4
 clear g0 g1 g2 k0 k1 l0 l1
 replace p3 := p3.later a4
 replace a0 := bup a0 a4
 have a6 : w.heap.size ≤ u1.heap.size := a0.size
 have HL := hid (HW.out A cap u1 (a8.up a4))
 clear HW
 go_wp2_with fail
 (with_reducible refine HL.out.mono ?_)
 clear HL
 rintro e1 w1 ⟨A1, c1, rfl, own, a3⟩
 replace p3 := p3.later a3
 replace a0 := bup a0 a3
 obtain ⟨x0, x1, x2, fx⟩ := zaa p3
 go_wp2
 clear x0 x1 x2 fx
 have q3 := p3.set3 (v0 := .int .i64 r.n) (v1 := .bool r.e) (v2 := .slice A1 r.m.length c1)
 have a7 := a0.trans (zah (W := w1) (g := w.heap.size + 1 + 1 + 1) (v0 := .int .i64 r.n) (v1 := .bool r.e) (v2 := .slice A1 r.m.length c1) (by omega) a0.size)
 obtain ⟨z0, z1, z2, fz⟩ := zaa q3
 refine bodyPost_ret (v := .agg #[r.n, r.e, .slice A1 r.m.length c1]) (by simp [results, Tryz.results123, go_sem, z0, z1, z2]) rfl ⟨A1, c1, rfl, ?_, a7⟩
 rcases own with ⟨rfl, b1⟩ | own
 ·exact .inl ⟨rfl, b1⟩
 ·exact .inr ((own.far3 (g := w.heap.size + 1 + 1 + 1) (v0 := .int .i64 r.n) (v1 := .bool r.e) (v2 := .slice A1 r.m.length c1) (zan own p3 (by decide))).less a6)
theorem zhs (n : Int) (o : O) (ok : OkO n o) (av an bv bn : Int) (h0 : av < 0) (h1 : 0 ≤ bv) (hb : bv < n) (hab : -9223372036854775808 ≤ an ∧ an ≤ 9223372036854775807) (A : Option Addr) (cap : Nat) (w : World) (hx : Rd w w.heap.size A o.m) (hm : o.m.length ≤ 17592186044416) :
  Calls Tryz.prog 123 #[.agg #[o.n, o.e, .slice A o.m.length cap], .agg #[av, an], .agg #[bv, bn], false] w (zaC w A o.m (rangedO o bv.toNat ⟨an, 0, true, false⟩)) := by
 have a5 := ok.rng
 have a2 := ok.n_
 have t1 : decide (0 ≤ av) = false := by rw [decide_eq_false_iff_not]; omega
 have t2 : decide (0 ≤ bv) = true := by rw [decide_eq_true_eq]; omega
 obtain ⟨a, rfl⟩ := Int.eq_ofNat_of_zero_le h1
 obtain ⟨b3, b2⟩ := hab
 have HW := hid (fun A cap W hx => zbW n o ok a (by omega) ⟨an, 0, true, false⟩ (by unfold I64; dsimp only; omega) A cap W hx hm)
 rw [Int.toNat_natCast]
 unfold Rg.val at HW
 generalize rangedO o a ⟨an, 0, true, false⟩ = r at *
 obtain ⟨p0, p1, p2, p3, a0, a1⟩ := zax w #[o.n, o.e, .slice A o.m.length cap] #[av, an] #[(a : Int), bn] #[.int .i64 0, false, .slice none 0 0] 24 26 26 24
 have a8 := hx.up a0
 have HX := hid hx
 have b0 := hid a1
 have a9 := hid a2
 clear a1 hx a2
 obtain ⟨x0, x1, x2, fx⟩ := zaa p0
 obtain ⟨y0, y1, fy⟩ := zai p1
 obtain ⟨z0, z1, fz⟩ := zai p2
 go_enter Tryz.func123, Tryz.ntmps123
 go_wp2
 generalize (((w.alloc (Obj.cells #[o.n, o.e, .slice A o.m.length cap] 24)).alloc (Obj.cells #[av, an] 26)).alloc (Obj.cells #[(a : Int), bn] 26)).alloc (Obj.cells #[.int .i64 0, false, .slice none 0 0] 24) = w0 at *
 have g0 := later x0
 have g1 := later x1
 have g2 := later x2
 have k0 := later y0
 have k1 := later y1
 have l0 := later z0
 have l1 := later z1
 clear x0 x1 x2 fx y0 y1 fy z0 z1 fz
 refine zad 8 (fun X => Below w0.heap.size w0 X) (by kernel_rfl) (by kernel_rfl) (Below.refl _ _).drew ?_
 refine fl_a ?_
 (refine fl_c 188 #[.int .i64 (an)] (.agg #[.int .i64 (an), .int .i64 0, true, false]) (fun X hX => (zif (an) _).mono fun e' w' ⟨he, hb'⟩ => ⟨he, zaI hX hX.size hb'⟩) ?_)
 refine fl_a ?_
 intro u1 a4
 clear g0 g1 g2 k0 k1 l0 l1
 replace p3 := p3.later a4
 replace a0 := bup a0 a4
 have a6 : w.heap.size ≤ u1.heap.size := a0.size
 have HL := hid (HW.out A cap u1 (a8.up a4))
 clear HW
 go_wp2_with fail
 (with_reducible refine HL.out.mono ?_)
 clear HL
 rintro e1 w1 ⟨A1, c1, rfl, own, a3⟩
 replace p3 := p3.later a3
 replace a0 := bup a0 a3
 obtain ⟨x0, x1, x2, fx⟩ := zaa p3
 go_wp2
 clear x0 x1 x2 fx
 have q3 := p3.set3 (v0 := .int .i64 r.n) (v1 := .bool r.e) (v2 := .slice A1 r.m.length c1)
 have a7 := a0.trans (zah (W := w1) (g := w.heap.size + 1 + 1 + 1) (v0 := .int .i64 r.n) (v1 := .bool r.e) (v2 := .slice A1 r.m.length c1) (by omega) a0.size)
 obtain ⟨z0, z1, z2, fz⟩ := zaa q3
 refine bodyPost_ret (v := .agg #[r.n, r.e, .slice A1 r.m.length c1]) (by simp [results, Tryz.results123, go_sem, z0, z1, z2]) rfl ⟨A1, c1, rfl, ?_, a7⟩
 rcases own with ⟨rfl, b1⟩ | own
 ·exact .inl ⟨rfl, b1⟩
 ·exact .inr ((own.far3 (g := w.heap.size + 1 + 1 + 1) (v0 := .int .i64 r.n) (v1 := .bool r.e) (v2 := .slice A1 r.m.length c1) (zan own p3 (by decide))).less a6)
theorem zaZ (n : Int) (o : O) (ok : OkO n o) (av an bv bn : Int) (s : Bool) (ha : av < n) (hb : bv < n) (hab : 0 ≤ av ∨ 0 ≤ bv) (ia : I64 an) (ib : I64 bn) (A : Option Addr) (cap : Nat) (w : World) (hx : Rd w w.heap.size A o.m) (hm : o.m.length ≤ 17592186044416) :
  Calls Tryz.prog 123 #[.agg #[o.n, o.e, .slice A o.m.length cap], .agg #[av, an], .agg #[bv, bn], s] w (zaC w A o.m (atMostO o av an bv bn s)) := by
 unfold I64 at ia ib
 unfold atMostO
 by_cases h0 : 0 ≤ av
 ·rw [if_pos h0]
  by_cases h1 : 0 ≤ bv
  ·rw [if_pos h1]
   by_cases e : av = bv
   ·rw [if_pos e]
    cases s
    ·exact zij n o ok av an bv bn h0 h1 e A cap w hx hm
    ·exact ziA n o ok av an bv bn h0 h1 e A cap w hx hm
   ·rw [if_neg e]
    cases s
    ·exact zhV n o ok av an bv bn h0 h1 ha hb e A cap w hx hm
    ·exact zit n o ok av an bv bn h0 h1 ha hb e A cap w hx hm
  ·rw [if_neg h1]
   cases s
   ·have := zib n o ok av an bv bn h0 (by omega) ha (by omega) A cap w hx hm
    simpa [zeQ] using this
   ·by_cases e : bn = -9223372036854775808
    ·rw [if_pos (by simp [e])]
     exact zhg n o ok av an bv bn h0 (by omega) e A cap w hx hm
    ·rw [if_neg (by simp [e])]
     have := ziv n o ok av an bv bn h0 (by omega) ha (by omega) A cap w hx hm
     simpa [zeQ] using this
 ·rw [if_neg h0]
  cases s
  ·have := zhs n o ok av an bv bn (by omega) (by omega) hb (by omega) A cap w hx hm
   simpa [zeQ] using this
  ·by_cases e : an = 9223372036854775807
   ·rw [if_pos (by simp [e])]
    exact zii n o ok av an bv bn (by omega) (by omega) e A cap w hx hm
   ·rw [if_neg (by simp [e])]
    have := zhY n o ok av an bv bn (by omega) (by omega) hb (by omega) A cap w hx hm
    rw [show an - zeQ true = an + 1 from by unfold zeQ; simp]
    exact this
end Go.Proofs.YtnmpgijiimglcaaGreat
