import Derived.Test.YtnmpgijiimglcaaGreatBSe12
namespace Go.Proofs.YtnmpgijiimglcaaGreat
open Go.RowKit
set_option maxRecDepth 100000
set_option maxHeartbeats 8000000
section
attribute [local go_sem ↓] Go.wp_at_zero Go.wp_at_succ
theorem zag {w : World} {g : Nat} {t : TypeId} {a b c d : Value} (h : Blk w g t #[a, b, c, d]) : w.cell? ⟨g, 0, none⟩ = some a ∧ w.cell? ⟨g, 1, none⟩ = some b ∧ w.cell? ⟨g, 2, none⟩ = some c ∧ w.cell? ⟨g, 3, none⟩ = some d ∧ ∀ j, w.frozen? ⟨g, j, none⟩ = false :=
 ⟨h.cell 0, h.cell 1, h.cell 2, h.cell 3, h.fr⟩
theorem zbX (o : O) (i j : Nat) (c : Int) : (withO o i j c).m.length ≤ o.m.length := by
 unfold withO
 split
 ·simp [emptyO]
 ·split
  ·split
   ·simp [emptyO]
   ·exact Nat.le_refl _
  ·exact Nat.le_of_eq (zci _ _ _ _ _)
def zaC (w : World) (A : Option Addr) (m : List Int) (o : O) (e : Ending) (w' : World) : Prop := ∃ A1 c1, e = .returned (.agg #[o.n, o.e, .slice A1 o.m.length c1]) ∧ ((A1 = A ∧ o.m = m) ∨ Own w' w.heap.size A1 c1 o.m) ∧ Below w.heap.size w w'
theorem Rd.far3 {W : World} {B g : Nat} {A : Option Addr} {m : List Int} {v0 v1 v2 : Value} (h : Rd W B A m) (hg : B ≤ g) : Rd (((W.setCell ⟨g, 0, none⟩ v0).setCell ⟨g, 1, none⟩ v1).setCell ⟨g, 2, none⟩ v2) B A m := fun k hk => by
 obtain ⟨b, off, hA, hB, hc⟩ := h k hk
 refine ⟨b, off, hA, hB, ?_⟩
 rw [World.cell?_setCell_other _ _ _ _ (by intro h; simp only [Addr.mk.injEq] at h; omega), World.cell?_setCell_other _ _ _ _ (by intro h; simp only [Addr.mk.injEq] at h; omega), World.cell?_setCell_other _ _ _ _ (by intro h; simp only [Addr.mk.injEq] at h; omega)]
 exact hc
theorem zhr (n : Int) (o : O) (ok : OkO n o) (v : Nat) (_hv : (v : Int) < n) (lo hi : Int) (_hlo : I64 lo) (A : Option Addr) (cap : Nat) (w : World) (hx : Rd w w.heap.size A o.m) (_hm : o.m.length ≤ 17592186044416) :
  Calls Tryz.prog 152 #[.agg #[o.n, o.e, .slice A o.m.length cap], (v : Int), .agg #[lo, hi, false, false]] w (zaC w A o.m (rangedO o v ⟨lo, hi, false, false⟩)) := by
 have a7 := ok.rng
 obtain ⟨p0, p1, p2, a0, a4⟩ := zaj w #[o.n, o.e, .slice A o.m.length cap] #[lo, hi, false, false] #[.int .i64 0, false, .slice none 0 0] 24 49 24
 have a8 := hx.up a0
 have a9 := hid a4
 have hxw := hx
 clear a4 hx
 have HR : Hid (rangedO o v ⟨lo, hi, false, false⟩ = o) := hid rfl
 generalize rangedO o v ⟨lo, hi, false, false⟩ = R at *
 go_enter Tryz.func152, Tryz.ntmps152
 have x0 := zaa p0
 have y0 := zag p1
 go_wp2
 generalize ((w.alloc (Obj.cells #[o.n, o.e, .slice A o.m.length cap] 24)).alloc (Obj.cells #[lo, hi, false, false] 49)).alloc (Obj.cells #[.int .i64 0, false, .slice none 0 0] 24) = w0 at *
 have q3 := p2.set3 (v0 := .int .i64 o.n) (v1 := .bool o.e) (v2 := .slice A o.m.length cap)
 have b0 := a0.trans (zah (W := w0) (g := w.heap.size + 1 + 1) (v0 := .int .i64 o.n) (v1 := .bool o.e) (v2 := .slice A o.m.length cap) (by omega) a0.size)
 have b6 := zah (W := w0) (B := w.heap.size + 1 + 1) (g := w.heap.size + 1 + 1) (v0 := .int .i64 o.n) (v1 := .bool o.e) (v2 := .slice A o.m.length cap) (Nat.le_refl _) (Nat.le_of_lt p2.lt)
 obtain ⟨z0, z1, z2, fz⟩ := zaa q3
 refine bodyPost_ret (v := .agg #[o.n, o.e, .slice A o.m.length cap]) (by simp [results, Tryz.results152, go_sem]) rfl ?_
 rw [HR.out]
 have hbX : ∀ W, Below w.heap.size w W → zaC w A o.m o (.returned (.agg #[o.n, o.e, .slice A o.m.length cap])) W := fun W hW => ⟨A, cap, rfl, .inl ⟨rfl, rfl⟩, hW⟩
 exact hbX _ ((((Below.refl _ _).alloc (Nat.le_refl _) _).alloc (by simp) _).alloc (by simp; omega) _)
theorem zg6 (n : Int) (o : O) (ok : OkO n o) (v : Nat) (hv : (v : Int) < n) (lo hi : Int) (_hlo : I64 lo) (A : Option Addr) (cap : Nat) (w : World) (hx : Rd w w.heap.size A o.m) (hm : o.m.length ≤ 17592186044416) :
  Calls Tryz.prog 152 #[.agg #[o.n, o.e, .slice A o.m.length cap], (v : Int), .agg #[lo, hi, false, true]] w (zaC w A o.m (rangedO o v ⟨lo, hi, false, true⟩)) := by
 have a7 := ok.rng
 obtain ⟨p0, p1, p2, a0, a4⟩ := zaj w #[o.n, o.e, .slice A o.m.length cap] #[lo, hi, false, true] #[.int .i64 0, false, .slice none 0 0] 24 49 24
 have a8 := hx.up a0
 have a9 := hid a4
 clear a4 hx
 have HR : Hid (rangedO o v ⟨lo, hi, false, true⟩ = withO o (2 * v) (2 * v + 1) (zaP hi)) := hid rfl
 generalize rangedO o v ⟨lo, hi, false, true⟩ = R at *
 go_enter Tryz.func152, Tryz.ntmps152
 obtain ⟨x0, x1, x2, fx⟩ := zaa p0
 obtain ⟨y0, y1, y2, y3, fy⟩ := zag p1
 go_wp2
 generalize ((w.alloc (Obj.cells #[o.n, o.e, .slice A o.m.length cap] 24)).alloc (Obj.cells #[lo, hi, false, true] 49)).alloc (Obj.cells #[.int .i64 0, false, .slice none 0 0] 24) = w0 at *
 have g0 := later x0
 have g1 := later x1
 have g2 := later x2
 have k0 := later y0
 have k1 := later y1
 clear x0 x1 x2 fx y0 y1 y2 y3 fy
 refine zad 8 (fun X => Below w0.heap.size w0 X) (by kernel_rfl) (by kernel_rfl) (Below.refl _ _).drew ?_
 refine fl_a ?_
 (refine fl_c 135 #[(v : Int)] (.int .i64 ((2 * v : Nat) : Int)) (fun X hX => (zaJ v (by omega) _).mono fun e' w' ⟨he, hw⟩ => ⟨he, hw ▸ hX⟩) ?_)
 refine fl_a ?_
 (refine fl_c 138 #[(v : Int)] (.int .i64 ((2 * v + 1 : Nat) : Int)) (fun X hX => (zco v (by omega) _).mono fun e' w' ⟨he, hw⟩ => ⟨he, hw ▸ hX⟩) ?_)
 refine fl_a ?_
 (refine fl_c 205 #[hi] (.int .i64 (zaP hi)) (fun X hX => (zdt hi _).mono fun e' w' ⟨he, hw⟩ => ⟨he, hw ▸ hX⟩) ?_)
 refine fl_a ?_
 intro u1 a1
 clear g0 g1 g2 k0 k1
 replace p0 := p0.later a1
 replace p1 := p1.later a1
 replace p2 := p2.later a1
 replace a0 := bup a0 a1
 have HL := hid (zaN n o ok (2 * v) (2 * v + 1) (by omega) (by omega) (zaP hi) A cap u1 (a8.up a1) hm)
 have lenb1 : (withO o (2 * v) (2 * v + 1) (zaP hi)).m.length ≤ 17592186044416 := Nat.le_trans (zbX _ _ _ _) hm
 have ok1 : OkO n (withO o (2 * v) (2 * v + 1) (zaP hi)) := ok.with_ (by omega) (by omega) _
 generalize withO o (2 * v) (2 * v + 1) (zaP hi) = r1 at *
 rw [show ((2 * v : Nat) : Int) = 2 * (v : Int) by omega, show ((2 * v + 1 : Nat) : Int) = 2 * (v : Int) + 1 by omega] at HL
 go_wp2_with fail
 (with_reducible refine HL.out.mono ?_)
 clear HL
 rintro e1 v1 ⟨A1, c1, rfl, a3, a2⟩
 replace p0 := p0.later a2
 replace p1 := p1.later a2
 replace p2 := p2.later a2
 replace a0 := bup a0 a2
 have a5 : w0.heap.size ≤ u1.heap.size := a1.size
 obtain ⟨x0, x1, x2, fx⟩ := zaa p0
 obtain ⟨y0, y1, y2, y3, fy⟩ := zag p1
 obtain ⟨z0, z1, z2, fz⟩ := zaa p2
 go_wp2
 clear x0 x1 x2 fx y0 y1 y2 y3 fy z0 z1 z2 fz
 have o1 := a3.far3 (g := w.heap.size) (v0 := .int .i64 r1.n) (v1 := .bool r1.e) (v2 := .slice A1 r1.m.length c1) (zan a3 p0 (by decide))
 replace p2 := p2.far3 (g := w.heap.size) (v0 := .int .i64 r1.n) (v1 := .bool r1.e) (v2 := .slice A1 r1.m.length c1) (by omega)
 replace p1 := p1.far3 (g := w.heap.size) (v0 := .int .i64 r1.n) (v1 := .bool r1.e) (v2 := .slice A1 r1.m.length c1) (by omega)
 replace p0 := p0.set3 (v0 := .int .i64 r1.n) (v1 := .bool r1.e) (v2 := .slice A1 r1.m.length c1)
 have a6 : u1.heap.size ≤ v1.heap.size := a2.size
 replace a0 := a0.trans (zah (W := v1) (g := w.heap.size) (v0 := .int .i64 r1.n) (v1 := .bool r1.e) (v2 := .slice A1 r1.m.length c1) (Nat.le_refl _) a0.size)
 replace a6 : u1.heap.size ≤ (((v1.setCell ⟨w.heap.size, 0, none⟩ (.int .i64 r1.n)).setCell ⟨w.heap.size, 1, none⟩ (.bool r1.e)).setCell ⟨w.heap.size, 2, none⟩ (.slice A1 r1.m.length c1)).heap.size := by simpa using a6
 generalize ((v1.setCell ⟨w.heap.size, 0, none⟩ (.int .i64 r1.n)).setCell ⟨w.heap.size, 1, none⟩ (.bool r1.e)).setCell ⟨w.heap.size, 2, none⟩ (.slice A1 r1.m.length c1) = w1 at *
 have b4 := o1.rd
 have q3 := p2.set3 (v0 := .int .i64 r1.n) (v1 := .bool r1.e) (v2 := .slice A1 r1.m.length c1)
 have b0 := a0.trans (zah (W := w1) (g := w.heap.size + 1 + 1) (v0 := .int .i64 r1.n) (v1 := .bool r1.e) (v2 := .slice A1 r1.m.length c1) (by omega) a0.size)
 have b6 := zah (W := w1) (B := w.heap.size + 1 + 1) (g := w.heap.size + 1 + 1) (v0 := .int .i64 r1.n) (v1 := .bool r1.e) (v2 := .slice A1 r1.m.length c1) (Nat.le_refl _) (Nat.le_of_lt p2.lt)
 obtain ⟨z0, z1, z2, fz⟩ := zaa q3
 have o9 := o1.far3 (g := w.heap.size + 1 + 1) (v0 := .int .i64 r1.n) (v1 := .bool r1.e) (v2 := .slice A1 r1.m.length c1) (zan o1 p2 (by decide))
 refine bodyPost_ret (v := .agg #[r1.n, r1.e, .slice A1 r1.m.length c1]) (by simp [results, Tryz.results152, go_sem, z0, z1, z2]) rfl ?_
 rw [HR.out]
 exact ⟨A1, c1, rfl, .inr (o9.less (by have := a9.out; have := a5; omega)), b0⟩
theorem zhK (n : Int) (o : O) (ok : OkO n o) (v : Nat) (hv : (v : Int) < n) (lo hi : Int) (hlo : I64 lo) (A : Option Addr) (cap : Nat) (w : World) (hx : Rd w w.heap.size A o.m) (hm : o.m.length ≤ 17592186044416) :
  Calls Tryz.prog 152 #[.agg #[o.n, o.e, .slice A o.m.length cap], (v : Int), .agg #[lo, hi, true, false]] w (zaC w A o.m (rangedO o v ⟨lo, hi, true, false⟩)) := by
 have a7 := ok.rng
 obtain ⟨p0, p1, p2, a0, a4⟩ := zaj w #[o.n, o.e, .slice A o.m.length cap] #[lo, hi, true, false] #[.int .i64 0, false, .slice none 0 0] 24 49 24
 have a8 := hx.up a0
 have a9 := hid a4
 clear a4 hx
 have HR : Hid (rangedO o v ⟨lo, hi, true, false⟩ = withO o (2 * v + 1) (2 * v) (zaP (negB lo))) := hid rfl
 generalize rangedO o v ⟨lo, hi, true, false⟩ = R at *
 go_enter Tryz.func152, Tryz.ntmps152
 obtain ⟨x0, x1, x2, fx⟩ := zaa p0
 obtain ⟨y0, y1, y2, y3, fy⟩ := zag p1
 go_wp2
 generalize ((w.alloc (Obj.cells #[o.n, o.e, .slice A o.m.length cap] 24)).alloc (Obj.cells #[lo, hi, true, false] 49)).alloc (Obj.cells #[.int .i64 0, false, .slice none 0 0] 24) = w0 at *
 have g0 := later x0
 have g1 := later x1
 have g2 := later x2
 have k0 := later y0
 have k1 := later y1
 clear x0 x1 x2 fx y0 y1 y2 y3 fy
 refine zad 9 (fun X => Below w0.heap.size w0 X) (by kernel_rfl) (by kernel_rfl) (Below.refl _ _).drew ?_
 refine fl_a ?_
 (refine fl_c 138 #[(v : Int)] (.int .i64 ((2 * v + 1 : Nat) : Int)) (fun X hX => (zco v (by omega) _).mono fun e' w' ⟨he, hw⟩ => ⟨he, hw ▸ hX⟩) ?_)
 refine fl_a ?_
 (refine fl_c 135 #[(v : Int)] (.int .i64 ((2 * v : Nat) : Int)) (fun X hX => (zaJ v (by omega) _).mono fun e' w' ⟨he, hw⟩ => ⟨he, hw ▸ hX⟩) ?_)
 refine fl_a ?_
 (refine fl_c 206 #[lo] (.int .i64 (negB lo)) (fun X hX => (zbl lo hlo _).mono fun e' w' ⟨he, hw⟩ => ⟨he, hw ▸ hX⟩) ?_)
 refine fl_a ?_
 (refine fl_c 205 #[.int .i64 (negB lo)] (.int .i64 (zaP (negB lo))) (fun X hX => (zdt (negB lo) _).mono fun e' w' ⟨he, hw⟩ => ⟨he, hw ▸ hX⟩) ?_)
 refine fl_a ?_
 intro u1 a1
 clear g0 g1 g2 k0 k1
 replace p0 := p0.later a1
 replace p1 := p1.later a1
 replace p2 := p2.later a1
 replace a0 := bup a0 a1
 have HL := hid (zaN n o ok (2 * v + 1) (2 * v) (by omega) (by omega) (zaP (negB lo)) A cap u1 (a8.up a1) hm)
 have lenb1 : (withO o (2 * v + 1) (2 * v) (zaP (negB lo))).m.length ≤ 17592186044416 := Nat.le_trans (zbX _ _ _ _) hm
 have ok1 : OkO n (withO o (2 * v + 1) (2 * v) (zaP (negB lo))) := ok.with_ (by omega) (by omega) _
 generalize withO o (2 * v + 1) (2 * v) (zaP (negB lo)) = r1 at *
 rw [show ((2 * v : Nat) : Int) = 2 * (v : Int) by omega, show ((2 * v + 1 : Nat) : Int) = 2 * (v : Int) + 1 by omega] at HL
 go_wp2_with fail
 (with_reducible refine HL.out.mono ?_)
 clear HL
 rintro e1 v1 ⟨A1, c1, rfl, a3, a2⟩
 replace p0 := p0.later a2
 replace p1 := p1.later a2
 replace p2 := p2.later a2
 replace a0 := bup a0 a2
 have a5 : w0.heap.size ≤ u1.heap.size := a1.size
 obtain ⟨x0, x1, x2, fx⟩ := zaa p0
 obtain ⟨y0, y1, y2, y3, fy⟩ := zag p1
 obtain ⟨z0, z1, z2, fz⟩ := zaa p2
 go_wp2
 clear x0 x1 x2 fx y0 y1 y2 y3 fy z0 z1 z2 fz
 have o1 := a3.far3 (g := w.heap.size) (v0 := .int .i64 r1.n) (v1 := .bool r1.e) (v2 := .slice A1 r1.m.length c1) (zan a3 p0 (by decide))
 replace p2 := p2.far3 (g := w.heap.size) (v0 := .int .i64 r1.n) (v1 := .bool r1.e) (v2 := .slice A1 r1.m.length c1) (by omega)
 replace p1 := p1.far3 (g := w.heap.size) (v0 := .int .i64 r1.n) (v1 := .bool r1.e) (v2 := .slice A1 r1.m.length c1) (by omega)
 replace p0 := p0.set3 (v0 := .int .i64 r1.n) (v1 := .bool r1.e) (v2 := .slice A1 r1.m.length c1)
 have a6 : u1.heap.size ≤ v1.heap.size := a2.size
 replace a0 := a0.trans (zah (W := v1) (g := w.heap.size) (v0 := .int .i64 r1.n) (v1 := .bool r1.e) (v2 := .slice A1 r1.m.length c1) (Nat.le_refl _) a0.size)
 replace a6 : u1.heap.size ≤ (((v1.setCell ⟨w.heap.size, 0, none⟩ (.int .i64 r1.n)).setCell ⟨w.heap.size, 1, none⟩ (.bool r1.e)).setCell ⟨w.heap.size, 2, none⟩ (.slice A1 r1.m.length c1)).heap.size := by simpa using a6
 generalize ((v1.setCell ⟨w.heap.size, 0, none⟩ (.int .i64 r1.n)).setCell ⟨w.heap.size, 1, none⟩ (.bool r1.e)).setCell ⟨w.heap.size, 2, none⟩ (.slice A1 r1.m.length c1) = w1 at *
 have b4 := o1.rd
 have q3 := p2.set3 (v0 := .int .i64 r1.n) (v1 := .bool r1.e) (v2 := .slice A1 r1.m.length c1)
 have b0 := a0.trans (zah (W := w1) (g := w.heap.size + 1 + 1) (v0 := .int .i64 r1.n) (v1 := .bool r1.e) (v2 := .slice A1 r1.m.length c1) (by omega) a0.size)
 have b6 := zah (W := w1) (B := w.heap.size + 1 + 1) (g := w.heap.size + 1 + 1) (v0 := .int .i64 r1.n) (v1 := .bool r1.e) (v2 := .slice A1 r1.m.length c1) (Nat.le_refl _) (Nat.le_of_lt p2.lt)
 obtain ⟨z0, z1, z2, fz⟩ := zaa q3
 have o9 := o1.far3 (g := w.heap.size + 1 + 1) (v0 := .int .i64 r1.n) (v1 := .bool r1.e) (v2 := .slice A1 r1.m.length c1) (zan o1 p2 (by decide))
 refine bodyPost_ret (v := .agg #[r1.n, r1.e, .slice A1 r1.m.length c1]) (by simp [results, Tryz.results152, go_sem, z0, z1, z2]) rfl ?_
 rw [HR.out]
 exact ⟨A1, c1, rfl, .inr (o9.less (by have := a9.out; have := a5; omega)), b0⟩
theorem zhx (n : Int) (o : O) (ok : OkO n o) (v : Nat) (hv : (v : Int) < n) (lo hi : Int) (hlo : I64 lo) (A : Option Addr) (cap : Nat) (w : World) (hx : Rd w w.heap.size A o.m) (hm : o.m.length ≤ 17592186044416) :
  Calls Tryz.prog 152 #[.agg #[o.n, o.e, .slice A o.m.length cap], (v : Int), .agg #[lo, hi, true, true]] w (zaC w A o.m (rangedO o v ⟨lo, hi, true, true⟩)) := by
 have a7 := ok.rng
 obtain ⟨p0, p1, p2, a0, a4⟩ := zaj w #[o.n, o.e, .slice A o.m.length cap] #[lo, hi, true, true] #[.int .i64 0, false, .slice none 0 0] 24 49 24
 have a8 := hx.up a0
 have a9 := hid a4
 clear a4 hx
 have HR : Hid (rangedO o v ⟨lo, hi, true, true⟩ = withO (withO o (2 * v) (2 * v + 1) (zaP hi)) (2 * v + 1) (2 * v) (zaP (negB lo))) := hid rfl
 generalize rangedO o v ⟨lo, hi, true, true⟩ = R at *
 go_enter Tryz.func152, Tryz.ntmps152
 obtain ⟨x0, x1, x2, fx⟩ := zaa p0
 obtain ⟨y0, y1, y2, y3, fy⟩ := zag p1
 go_wp2
 generalize ((w.alloc (Obj.cells #[o.n, o.e, .slice A o.m.length cap] 24)).alloc (Obj.cells #[lo, hi, true, true] 49)).alloc (Obj.cells #[.int .i64 0, false, .slice none 0 0] 24) = w0 at *
 have g0 := later x0
 have g1 := later x1
 have g2 := later x2
 have k0 := later y0
 have k1 := later y1
 clear x0 x1 x2 fx y0 y1 y2 y3 fy
 refine zad 8 (fun X => Below w0.heap.size w0 X) (by kernel_rfl) (by kernel_rfl) (Below.refl _ _).drew ?_
 refine fl_a ?_
 (refine fl_c 135 #[(v : Int)] (.int .i64 ((2 * v : Nat) : Int)) (fun X hX => (zaJ v (by omega) _).mono fun e' w' ⟨he, hw⟩ => ⟨he, hw ▸ hX⟩) ?_)
 refine fl_a ?_
 (refine fl_c 138 #[(v : Int)] (.int .i64 ((2 * v + 1 : Nat) : Int)) (fun X hX => (zco v (by omega) _).mono fun e' w' ⟨he, hw⟩ => ⟨he, hw ▸ hX⟩) ?_)
 refine fl_a ?_
 (refine fl_c 205 #[hi] (.int .i64 (zaP hi)) (fun X hX => (zdt hi _).mono fun e' w' ⟨he, hw⟩ => ⟨he, hw ▸ hX⟩) ?_)
 refine fl_a ?_
 intro u1 a1
 clear g0 g1 g2 k0 k1
 replace p0 := p0.later a1
 replace p1 := p1.later a1
 replace p2 := p2.later a1
 replace a0 := bup a0 a1
 have HL := hid (zaN n o ok (2 * v) (2 * v + 1) (by omega) (by omega) (zaP hi) A cap u1 (a8.up a1) hm)
 have lenb1 : (withO o (2 * v) (2 * v + 1) (zaP hi)).m.length ≤ 17592186044416 := Nat.le_trans (zbX _ _ _ _) hm
 have ok1 : OkO n (withO o (2 * v) (2 * v + 1) (zaP hi)) := ok.with_ (by omega) (by omega) _
 generalize withO o (2 * v) (2 * v + 1) (zaP hi) = r1 at *
 rw [show ((2 * v : Nat) : Int) = 2 * (v : Int) by omega, show ((2 * v + 1 : Nat) : Int) = 2 * (v : Int) + 1 by omega] at HL
 go_wp2_with fail
 (with_reducible refine HL.out.mono ?_)
 clear HL
 rintro e1 v1 ⟨A1, c1, rfl, a3, a2⟩
 replace p0 := p0.later a2
 replace p1 := p1.later a2
 replace p2 := p2.later a2
 replace a0 := bup a0 a2
 have a5 : w0.heap.size ≤ u1.heap.size := a1.size
 obtain ⟨x0, x1, x2, fx⟩ := zaa p0
 obtain ⟨y0, y1, y2, y3, fy⟩ := zag p1
 obtain ⟨z0, z1, z2, fz⟩ := zaa p2
 go_wp2
 clear x0 x1 x2 fx y0 y1 y2 y3 fy z0 z1 z2 fz
 have o1 := a3.far3 (g := w.heap.size) (v0 := .int .i64 r1.n) (v1 := .bool r1.e) (v2 := .slice A1 r1.m.length c1) (zan a3 p0 (by decide))
 replace p2 := p2.far3 (g := w.heap.size) (v0 := .int .i64 r1.n) (v1 := .bool r1.e) (v2 := .slice A1 r1.m.length c1) (by omega)
 replace p1 := p1.far3 (g := w.heap.size) (v0 := .int .i64 r1.n) (v1 := .bool r1.e) (v2 := .slice A1 r1.m.length c1) (by omega)
 replace p0 := p0.set3 (v0 := .int .i64 r1.n) (v1 := .bool r1.e) (v2 := .slice A1 r1.m.length c1)
 have a6 : u1.heap.size ≤ v1.heap.size := a2.size
 replace a0 := a0.trans (zah (W := v1) (g := w.heap.size) (v0 := .int .i64 r1.n) (v1 := .bool r1.e) (v2 := .slice A1 r1.m.length c1) (Nat.le_refl _) a0.size)
 replace a6 : u1.heap.size ≤ (((v1.setCell ⟨w.heap.size, 0, none⟩ (.int .i64 r1.n)).setCell ⟨w.heap.size, 1, none⟩ (.bool r1.e)).setCell ⟨w.heap.size, 2, none⟩ (.slice A1 r1.m.length c1)).heap.size := by simpa using a6
 generalize ((v1.setCell ⟨w.heap.size, 0, none⟩ (.int .i64 r1.n)).setCell ⟨w.heap.size, 1, none⟩ (.bool r1.e)).setCell ⟨w.heap.size, 2, none⟩ (.slice A1 r1.m.length c1) = w1 at *
 have b4 := o1.rd
 obtain ⟨x0, x1, x2, fx⟩ := zaa p0
 obtain ⟨y0, y1, y2, y3, fy⟩ := zag p1
 have g0 := later x0
 have g1 := later x1
 have g2 := later x2
 have k0 := later y0
 have k1 := later y1
 clear x0 x1 x2 fx y0 y1 y2 y3 fy
 refine zad 9 (fun X => Below w1.heap.size w1 X) (by kernel_rfl) (by kernel_rfl) (Below.refl _ _).drew ?_
 refine fl_a ?_
 (refine fl_c 138 #[(v : Int)] (.int .i64 ((2 * v + 1 : Nat) : Int)) (fun X hX => (zco v (by omega) _).mono fun e' w' ⟨he, hw⟩ => ⟨he, hw ▸ hX⟩) ?_)
 refine fl_a ?_
 (refine fl_c 135 #[(v : Int)] (.int .i64 ((2 * v : Nat) : Int)) (fun X hX => (zaJ v (by omega) _).mono fun e' w' ⟨he, hw⟩ => ⟨he, hw ▸ hX⟩) ?_)
 refine fl_a ?_
 (refine fl_c 206 #[lo] (.int .i64 (negB lo)) (fun X hX => (zbl lo hlo _).mono fun e' w' ⟨he, hw⟩ => ⟨he, hw ▸ hX⟩) ?_)
 refine fl_a ?_
 (refine fl_c 205 #[.int .i64 (negB lo)] (.int .i64 (zaP (negB lo))) (fun X hX => (zdt (negB lo) _).mono fun e' w' ⟨he, hw⟩ => ⟨he, hw ▸ hX⟩) ?_)
 refine fl_a ?_
 intro u2 b1
 clear g0 g1 g2 k0 k1
 replace p0 := p0.later b1
 replace p1 := p1.later b1
 replace p2 := p2.later b1
 replace a0 := bup a0 b1
 have HL := hid (zaN n r1 ok1 (2 * v + 1) (2 * v) (by omega) (by omega) (zaP (negB lo)) A1 c1 u2 (b4.up b1) lenb1)
 have lenb2 : (withO r1 (2 * v + 1) (2 * v) (zaP (negB lo))).m.length ≤ 17592186044416 := Nat.le_trans (zbX _ _ _ _) lenb1
 have ok2 : OkO n (withO r1 (2 * v + 1) (2 * v) (zaP (negB lo))) := ok1.with_ (by omega) (by omega) _
 generalize withO r1 (2 * v + 1) (2 * v) (zaP (negB lo)) = r2 at *
 rw [show ((2 * v : Nat) : Int) = 2 * (v : Int) by omega, show ((2 * v + 1 : Nat) : Int) = 2 * (v : Int) + 1 by omega] at HL
 go_wp2_with fail
 (with_reducible refine HL.out.mono ?_)
 clear HL
 rintro e2 v2 ⟨A2, c2, rfl, b3, b2⟩
 replace p0 := p0.later b2
 replace p1 := p1.later b2
 replace p2 := p2.later b2
 replace a0 := bup a0 b2
 have b5 : w0.heap.size ≤ u2.heap.size := by have := a5; have := b1.size; have := a6; omega
 obtain ⟨x0, x1, x2, fx⟩ := zaa p0
 obtain ⟨y0, y1, y2, y3, fy⟩ := zag p1
 obtain ⟨z0, z1, z2, fz⟩ := zaa p2
 go_wp2
 clear x0 x1 x2 fx y0 y1 y2 y3 fy z0 z1 z2 fz
 have o2 := b3.far3 (g := w.heap.size) (v0 := .int .i64 r2.n) (v1 := .bool r2.e) (v2 := .slice A2 r2.m.length c2) (zan b3 p0 (by decide))
 replace p2 := p2.far3 (g := w.heap.size) (v0 := .int .i64 r2.n) (v1 := .bool r2.e) (v2 := .slice A2 r2.m.length c2) (by omega)
 replace p1 := p1.far3 (g := w.heap.size) (v0 := .int .i64 r2.n) (v1 := .bool r2.e) (v2 := .slice A2 r2.m.length c2) (by omega)
 replace p0 := p0.set3 (v0 := .int .i64 r2.n) (v1 := .bool r2.e) (v2 := .slice A2 r2.m.length c2)
 have hs2 : u2.heap.size ≤ v2.heap.size := b2.size
 replace a0 := a0.trans (zah (W := v2) (g := w.heap.size) (v0 := .int .i64 r2.n) (v1 := .bool r2.e) (v2 := .slice A2 r2.m.length c2) (Nat.le_refl _) a0.size)
 replace hs2 : u2.heap.size ≤ (((v2.setCell ⟨w.heap.size, 0, none⟩ (.int .i64 r2.n)).setCell ⟨w.heap.size, 1, none⟩ (.bool r2.e)).setCell ⟨w.heap.size, 2, none⟩ (.slice A2 r2.m.length c2)).heap.size := by simpa using hs2
 generalize ((v2.setCell ⟨w.heap.size, 0, none⟩ (.int .i64 r2.n)).setCell ⟨w.heap.size, 1, none⟩ (.bool r2.e)).setCell ⟨w.heap.size, 2, none⟩ (.slice A2 r2.m.length c2) = w2 at *
 have hx2 := o2.rd
 have q3 := p2.set3 (v0 := .int .i64 r2.n) (v1 := .bool r2.e) (v2 := .slice A2 r2.m.length c2)
 have b0 := a0.trans (zah (W := w2) (g := w.heap.size + 1 + 1) (v0 := .int .i64 r2.n) (v1 := .bool r2.e) (v2 := .slice A2 r2.m.length c2) (by omega) a0.size)
 have b6 := zah (W := w2) (B := w.heap.size + 1 + 1) (g := w.heap.size + 1 + 1) (v0 := .int .i64 r2.n) (v1 := .bool r2.e) (v2 := .slice A2 r2.m.length c2) (Nat.le_refl _) (Nat.le_of_lt p2.lt)
 obtain ⟨z0, z1, z2, fz⟩ := zaa q3
 have o9 := o2.far3 (g := w.heap.size + 1 + 1) (v0 := .int .i64 r2.n) (v1 := .bool r2.e) (v2 := .slice A2 r2.m.length c2) (zan o2 p2 (by decide))
 refine bodyPost_ret (v := .agg #[r2.n, r2.e, .slice A2 r2.m.length c2]) (by simp [results, Tryz.results152, go_sem, z0, z1, z2]) rfl ?_
 rw [HR.out]
 exact ⟨A2, c2, rfl, .inr (o9.less (by have := a9.out; have := b5; omega)), b0⟩
theorem zbW (n : Int) (o : O) (ok : OkO n o) (v : Nat) (hv : (v : Int) < n) (r : Rg) (hlo : I64 r.lo) (A : Option Addr) (cap : Nat) (w : World) (hx : Rd w w.heap.size A o.m) (hm : o.m.length ≤ 17592186044416) :
  Calls Tryz.prog 152 #[.agg #[o.n, o.e, .slice A o.m.length cap], (v : Int), r.val] w (zaC w A o.m (rangedO o v r)) := by
 obtain ⟨lo, hi, hl, hh⟩ := r
 cases hl <;> cases hh
 ·exact zhr n o ok v hv lo hi hlo A cap w hx hm
 ·exact zg6 n o ok v hv lo hi hlo A cap w hx hm
 ·exact zhK n o ok v hv lo hi hlo A cap w hx hm
 ·exact zhx n o ok v hv lo hi hlo A cap w hx hm
end
section
attribute [local go_sem ↓] Go.wp_at_zero Go.wp_at_succ
theorem zak (w : World) (cs : Array Value) (t : TypeId) : Blk (w.alloc (.cells cs t)) w.heap.size t cs ∧ Below w.heap.size w (w.alloc (.cells cs t)) ∧ (w.alloc (.cells cs t)).heap.size = w.heap.size + 1 :=
 ⟨Blk.new w t cs, new1 w _, by simp⟩
theorem zai {w : World} {g : Nat} {t : TypeId} {a b : Value} (h : Blk w g t #[a, b]) : w.cell? ⟨g, 0, none⟩ = some a ∧ w.cell? ⟨g, 1, none⟩ = some b ∧ ∀ j, w.frozen? ⟨g, j, none⟩ = false :=
 ⟨h.cell 0, h.cell 1, h.fr⟩
theorem zeg (n : Int) (m : List Int) (N i j : Nat) (A : Option Addr) (cap : Nat) (w : World) (hN : (N : Int) = 2 * n) (hn : N ≤ 128) (hc : Cells N m) (hi : i < N) (hj : j < N) (hx : Rd w w.heap.size A m) (hm : m.length ≤ 17592186044416) :
  Calls Tryz.prog 216 #[.agg #[n, false, .slice A m.length cap], (i : Int), (j : Int)] w fun e w' => e = .returned (.tuple #[.int .i64 (G N m i j), .int .i64 0]) ∧ Below w.heap.size w w' := by
 obtain ⟨p0, a0, a3⟩ := zak w #[n, false, .slice A m.length cap] 24
 have a1 := hx.up a0
 have hk : check ⟨n, false, m⟩ = 0 := zdv hN hn hc
 have HK := hid hk
 have HN := hid hN
 clear hk a3
 have hn0 : 0 ≤ n := by omega
 have hn1 : n ≤ 64 := by omega
 go_enter Tryz.func216, Tryz.ntmps216
 go_wp2_with fail
 generalize w.alloc (Obj.cells #[n, false, .slice A m.length cap] 24) = w0 at *
 have HC := hid (zbF ⟨n, false, m⟩ A cap w0 a1 (by dsimp only; omega))
 rw [HK.out] at HC
 (with_reducible refine HC.out.mono ?_)
 clear HC
 rintro e1 w1 ⟨rfl, a2⟩
 replace p0 := p0.later a2
 replace a1 := a1.up a2
 replace a0 := bup a0 a2
 obtain ⟨x0, x1, x2, fx⟩ := zaa p0
 have HW := hid (zdd n false A m.length cap (i : Int) (j : Int) w1 hn0 hn1)
 rw [show decide (0 ≤ (i : Int) ∧ (i : Int) < 2 * n ∧ 0 ≤ (j : Int) ∧ (j : Int) < 2 * n) = true by rw [decide_eq_true_eq]; have := HN.out; omega] at HW
 go_wp2_with fail
 (with_reducible refine HW.out.mono ?_)
 clear HW x0 x1 x2 fx
 rintro e2 w2 ⟨rfl, a4⟩
 replace p0 := p0.later a4
 replace a1 := a1.up a4
 replace a0 := bup a0 a4
 obtain ⟨x0, x1, x2, fx⟩ := zaa p0
 obtain ⟨q1, q2, q3, q4, q5, q6⟩ := zbs (i := i) (j := j) HN.out hi hj hn
 have hl := hc.len
 rw [← hl] at q4 q6
 clear hl
 obtain ⟨g1, o1, rfl, hg1, c4⟩ := a1 (i * N + j) q4
 obtain ⟨v, hv⟩ : ∃ v, v = G N m i j := ⟨_, rfl⟩
 have HV := hid hv
 rw [show gI m ((i * N + j : Nat) : Int) = v from hv.symm] at c4
 clear hv
 go_wp2_with fail
 have f0 := later x0
 have f1 := later x1
 have f2 := later x2
 have f4 := later c4
 clear x0 x1 x2 fx c4
 refine zad 8 (fun X => Below w2.heap.size w2 X) (by kernel_rfl) (by kernel_rfl) (Below.refl _ _).drew ?_
 refine fl_a ?_
 (refine fl_c 85 #[.agg #[(i : Int), (j : Int)], n] (.int .i64 (2 * n * (i : Int) + (j : Int))) (fun X hX => (zdi _ _ _ _ hn0 hn1 (by omega) (by omega) (by omega) (by omega)).mono fun e' w' ⟨he, hb'⟩ => ⟨he, zaI hX hX.size hb'⟩) ?_)
 refine fl_a ?_
 intro w3 hb3
 have c4 := f4 w3 hb3
 clear f0 f1 f2 f4
 go_wp2
 exact bodyPost_ret (v := .tuple #[.int .i64 v, .int .i64 0]) (by simp [results, Tryz.results216, go_sem]) rfl ⟨by rw [HV.out], bup a0 hb3⟩
theorem zcZ (n : Int) (w : World) : Calls Tryz.prog 172 #[n] w fun e w' => e = .returned (.agg #[n, true]) ∧ Below w.heap.size w w' := by
 go_enter Tryz.func172, Tryz.ntmps172
 go_wp2
 refine bodyPost_ret (v := .agg #[n, true]) (by simp [results, Tryz.results172, go_sem]) rfl (And.intro rfl ?_)
 exact zcw
theorem zgc (c : Int) (w : World) : Calls Tryz.prog 218 #[c] w fun e w' => e = .returned (.agg #[c, .bool (!decide (c = 9223372036854775807))]) ∧ Below w.heap.size w w' := by
 obtain ⟨t, ht⟩ : ∃ t, t = !decide (c = 9223372036854775807) := ⟨_, rfl⟩
 have hq : (c != 9223372036854775807) = t := by rw [ht]; cases h : decide (c = 9223372036854775807) <;> simp_all
 rw [← ht]
 clear ht
 go_enter Tryz.func218, Tryz.ntmps218
 go_wp2
 refine bodyPost_ret (v := .agg #[c, .bool t]) (by simp [results, Tryz.results218, go_sem]) rfl (And.intro rfl ?_)
 exact zcw
def lowV (c : Int) : Int := if c = 9223372036854775807 then 0 else -c
theorem zf3 (c : Int) (hc : -9223372036854775808 < c ∧ c ≤ 9223372036854775807) (w : World) : Calls Tryz.prog 217 #[c] w fun e w' => e = .returned (.agg #[.int .i64 (lowV c), .bool (!decide (c = 9223372036854775807))]) ∧ Below w.heap.size w w' := by
 unfold lowV
 by_cases h : c = 9223372036854775807
 ·subst h
  rw [if_pos rfl]
  go_enter Tryz.func217, Tryz.ntmps217
  go_wp2
  refine bodyPost_ret (v := .agg #[.int .i64 0, false]) (by simp [results, Tryz.results217, go_sem]) rfl (And.intro rfl ?_)
  exact zcw
 ·rw [if_neg h, show (!decide (c = 9223372036854775807)) = true by simp [h]]
  have t1 : (c == 9223372036854775807) = false := by rw [beq_eq_false_iff_ne]; exact h
  have hw : wrap64 (-c) = -c := IntWalk.wrap64_in _ (by omega)
  obtain ⟨h1, h2⟩ := hc
  obtain ⟨p0, a0, a3⟩ := zak w #[.int .i64 0, false] 185
  clear h a3
  go_enter Tryz.func217, Tryz.ntmps217
  go_wp2_with fail
  generalize w.alloc (Obj.cells #[.int .i64 0, false] 185) = w0 at *
  (with_reducible refine (zcZ (-c) w0).mono ?_)
  rintro e1 w1 ⟨rfl, a2⟩
  replace p0 := p0.later a2
  replace a0 := bup a0 a2
  obtain ⟨x0, x1, fx⟩ := zai p0
  go_wp2
  clear x0 x1 fx
  have q0 := (p0.set_ 0 (.int .i64 (-c))).set_ 1 (.bool true)
  obtain ⟨x0, x1, fx⟩ := zai (show Blk _ _ _ #[.int .i64 (-c), true] from q0)
  refine bodyPost_ret (v := .agg #[.int .i64 (-c), true]) (by simp [results, Tryz.results217, go_sem, x0, x1]) rfl (And.intro rfl ?_)
  refine a0.trans ?_
  exact zcw
 done
end
end Go.Proofs.YtnmpgijiimglcaaGreat
