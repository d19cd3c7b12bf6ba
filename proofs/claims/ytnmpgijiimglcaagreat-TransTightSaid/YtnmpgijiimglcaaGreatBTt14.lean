import Derived.Test.YtnmpgijiimglcaaGreatBTt13
namespace Go.Proofs.YtnmpgijiimglcaaGreat
open Go.RowKit
set_option maxRecDepth 100000
set_option maxHeartbeats 8000000
section
attribute [local go_sem ↓] Go.wp_at_zero Go.wp_at_succ
theorem zaj {w : World} {g : Nat} {t : TypeId} {a b c d : Value} (h : Blk w g t #[a, b, c, d]) : w.cell? ⟨g, 0, none⟩ = some a ∧ w.cell? ⟨g, 1, none⟩ = some b ∧ w.cell? ⟨g, 2, none⟩ = some c ∧ w.cell? ⟨g, 3, none⟩ = some d ∧ ∀ j, w.frozen? ⟨g, j, none⟩ = false :=
 ⟨h.cell 0, h.cell 1, h.cell 2, h.cell 3, h.fr⟩
theorem zck (o : O) (i j : Nat) (c : Int) : (withO o i j c).m.length ≤ o.m.length := by
 unfold withO
 split
 ·simp [emptyO]
 ·split
  ·split
   ·simp [emptyO]
   ·exact Nat.le_refl _
  ·exact Nat.le_of_eq (za7 _ _ _ _ _)
def zaD (w : World) (A : Option Addr) (m : List Int) (o : O) (e : Ending) (w' : World) : Prop := ∃ A1 c1, e = .returned (.agg #[o.n, o.e, .slice A1 o.m.length c1]) ∧ ((A1 = A ∧ o.m = m) ∨ Own w' w.heap.size A1 c1 o.m) ∧ Below w.heap.size w w'
theorem Rd.far3 {W : World} {B g : Nat} {A : Option Addr} {m : List Int} {v0 v1 v2 : Value} (h : Rd W B A m) (hg : B ≤ g) : Rd (((W.setCell ⟨g, 0, none⟩ v0).setCell ⟨g, 1, none⟩ v1).setCell ⟨g, 2, none⟩ v2) B A m := fun k hk => by
 obtain ⟨b, off, hA, hB, hc⟩ := h k hk
 refine ⟨b, off, hA, hB, ?_⟩
 rw [World.cell?_setCell_other _ _ _ _ (by intro h; simp only [Addr.mk.injEq] at h; omega), World.cell?_setCell_other _ _ _ _ (by intro h; simp only [Addr.mk.injEq] at h; omega), World.cell?_setCell_other _ _ _ _ (by intro h; simp only [Addr.mk.injEq] at h; omega)]
 exact hc
theorem zjC (n : Int) (o : O) (ok : OkO n o) (v : Nat) (_hv : (v : Int) < n) (lo hi : Int) (_hlo : I64 lo) (A : Option Addr) (cap : Nat) (w : World) (hx : Rd w w.heap.size A o.m) (_hm : o.m.length ≤ 17592186044416) :
  Calls Tryz.prog 152 #[.agg #[o.n, o.e, .slice A o.m.length cap], (v : Int), .agg #[lo, hi, false, false]] w (zaD w A o.m (rangedO o v ⟨lo, hi, false, false⟩)) := by
 have a7 := ok.rng
 obtain ⟨p0, p1, p2, a0, a4⟩ := zah w #[o.n, o.e, .slice A o.m.length cap] #[lo, hi, false, false] #[.int .i64 0, false, .slice none 0 0] 24 49 24
 have b0 := hx.up a0
 have b1 := hid a4
 have hxw := hx
 clear a4 hx
 have HR : Hid (rangedO o v ⟨lo, hi, false, false⟩ = o) := hid rfl
 generalize rangedO o v ⟨lo, hi, false, false⟩ = R at *
 go_enter Tryz.func152, Tryz.ntmps152
 have x0 := zaa p0
 have y0 := zaj p1
 go_wp2
 generalize ((w.alloc (Obj.cells #[o.n, o.e, .slice A o.m.length cap] 24)).alloc (Obj.cells #[lo, hi, false, false] 49)).alloc (Obj.cells #[.int .i64 0, false, .slice none 0 0] 24) = w0 at *
 have q3 := p2.set3 (v0 := .int .i64 o.n) (v1 := .bool o.e) (v2 := .slice A o.m.length cap)
 have a8 := a0.trans (zae (W := w0) (g := w.heap.size + 1 + 1) (v0 := .int .i64 o.n) (v1 := .bool o.e) (v2 := .slice A o.m.length cap) (by omega) a0.size)
 have b5 := zae (W := w0) (B := w.heap.size + 1 + 1) (g := w.heap.size + 1 + 1) (v0 := .int .i64 o.n) (v1 := .bool o.e) (v2 := .slice A o.m.length cap) (Nat.le_refl _) (Nat.le_of_lt p2.lt)
 obtain ⟨z0, z1, z2, fz⟩ := zaa q3
 refine bodyPost_ret (v := .agg #[o.n, o.e, .slice A o.m.length cap]) (by simp [results, Tryz.results152, go_sem]) rfl ?_
 rw [HR.out]
 have hbX : ∀ W, Below w.heap.size w W → zaD w A o.m o (.returned (.agg #[o.n, o.e, .slice A o.m.length cap])) W := fun W hW => ⟨A, cap, rfl, .inl ⟨rfl, rfl⟩, hW⟩
 exact hbX _ ((((Below.refl _ _).alloc (Nat.le_refl _) _).alloc (by simp) _).alloc (by simp; omega) _)
theorem zj8 (n : Int) (o : O) (ok : OkO n o) (v : Nat) (hv : (v : Int) < n) (lo hi : Int) (_hlo : I64 lo) (A : Option Addr) (cap : Nat) (w : World) (hx : Rd w w.heap.size A o.m) (hm : o.m.length ≤ 17592186044416) :
  Calls Tryz.prog 152 #[.agg #[o.n, o.e, .slice A o.m.length cap], (v : Int), .agg #[lo, hi, false, true]] w (zaD w A o.m (rangedO o v ⟨lo, hi, false, true⟩)) := by
 have a7 := ok.rng
 obtain ⟨p0, p1, p2, a0, a4⟩ := zah w #[o.n, o.e, .slice A o.m.length cap] #[lo, hi, false, true] #[.int .i64 0, false, .slice none 0 0] 24 49 24
 have b0 := hx.up a0
 have b1 := hid a4
 clear a4 hx
 have HR : Hid (rangedO o v ⟨lo, hi, false, true⟩ = withO o (2 * v) (2 * v + 1) (zaH hi)) := hid rfl
 generalize rangedO o v ⟨lo, hi, false, true⟩ = R at *
 go_enter Tryz.func152, Tryz.ntmps152
 obtain ⟨x0, x1, x2, fx⟩ := zaa p0
 obtain ⟨y0, y1, y2, y3, fy⟩ := zaj p1
 go_wp2
 generalize ((w.alloc (Obj.cells #[o.n, o.e, .slice A o.m.length cap] 24)).alloc (Obj.cells #[lo, hi, false, true] 49)).alloc (Obj.cells #[.int .i64 0, false, .slice none 0 0] 24) = w0 at *
 have g0 := later x0
 have g1 := later x1
 have g2 := later x2
 have k0 := later y0
 have k1 := later y1
 clear x0 x1 x2 fx y0 y1 y2 y3 fy
 refine zab 8 (fun X => Below w0.heap.size w0 X) (by kernel_rfl) (by kernel_rfl) (Below.refl _ _).drew ?_
 refine fl_a ?_
 (refine fl_c 135 #[(v : Int)] (.int .i64 ((2 * v : Nat) : Int)) (fun X hX => (zaM v (by omega) _).mono fun e' w' ⟨he, hw⟩ => ⟨he, hw ▸ hX⟩) ?_)
 refine fl_a ?_
 (refine fl_c 138 #[(v : Int)] (.int .i64 ((2 * v + 1 : Nat) : Int)) (fun X hX => (zcY v (by omega) _).mono fun e' w' ⟨he, hw⟩ => ⟨he, hw ▸ hX⟩) ?_)
 refine fl_a ?_
 (refine fl_c 205 #[hi] (.int .i64 (zaH hi)) (fun X hX => (zep hi _).mono fun e' w' ⟨he, hw⟩ => ⟨he, hw ▸ hX⟩) ?_)
 refine fl_a ?_
 intro u1 a1
 clear g0 g1 g2 k0 k1
 replace p0 := p0.later a1
 replace p1 := p1.later a1
 replace p2 := p2.later a1
 replace a0 := bup a0 a1
 have HL := hid (zaR n o ok (2 * v) (2 * v + 1) (by omega) (by omega) (zaH hi) A cap u1 (b0.up a1) hm)
 have lenb1 : (withO o (2 * v) (2 * v + 1) (zaH hi)).m.length ≤ 17592186044416 := Nat.le_trans (zck _ _ _ _) hm
 have ok1 : OkO n (withO o (2 * v) (2 * v + 1) (zaH hi)) := ok.with_ (by omega) (by omega) _
 generalize withO o (2 * v) (2 * v + 1) (zaH hi) = r1 at *
 rw [show ((2 * v : Nat) : Int) = 2 * (v : Int) by omega, show ((2 * v + 1 : Nat) : Int) = 2 * (v : Int) + 1 by omega] at HL
 go_wp2_with fail
 (with_reducible refine HL.out.mono ?_)
 clear HL
 rintro e1 v1 ⟨A1, c1, rfl, a3, a2⟩
 replace p0 := p0.later a2
 replace p1 := p1.later a2
 replace p2 := p2.later a2
 replace a0 := bup a0 a2
 have a5 : w0.heap.size ≤ u1.heap.size := a1.size
 obtain ⟨x0, x1, x2, fx⟩ := zaa p0
 obtain ⟨y0, y1, y2, y3, fy⟩ := zaj p1
 obtain ⟨z0, z1, z2, fz⟩ := zaa p2
 go_wp2
 clear x0 x1 x2 fx y0 y1 y2 y3 fy z0 z1 z2 fz
 have o1 := a3.far3 (g := w.heap.size) (v0 := .int .i64 r1.n) (v1 := .bool r1.e) (v2 := .slice A1 r1.m.length c1) (zak a3 p0 (by decide))
 replace p2 := p2.far3 (g := w.heap.size) (v0 := .int .i64 r1.n) (v1 := .bool r1.e) (v2 := .slice A1 r1.m.length c1) (by omega)
 replace p1 := p1.far3 (g := w.heap.size) (v0 := .int .i64 r1.n) (v1 := .bool r1.e) (v2 := .slice A1 r1.m.length c1) (by omega)
 replace p0 := p0.set3 (v0 := .int .i64 r1.n) (v1 := .bool r1.e) (v2 := .slice A1 r1.m.length c1)
 have a6 : u1.heap.size ≤ v1.heap.size := a2.size
 replace a0 := a0.trans (zae (W := v1) (g := w.heap.size) (v0 := .int .i64 r1.n) (v1 := .bool r1.e) (v2 := .slice A1 r1.m.length c1) (Nat.le_refl _) a0.size)
 replace a6 : u1.heap.size ≤ (((v1.setCell ⟨w.heap.size, 0, none⟩ (.int .i64 r1.n)).setCell ⟨w.heap.size, 1, none⟩ (.bool r1.e)).setCell ⟨w.heap.size, 2, none⟩ (.slice A1 r1.m.length c1)).heap.size := by simpa using a6
 generalize ((v1.setCell ⟨w.heap.size, 0, none⟩ (.int .i64 r1.n)).setCell ⟨w.heap.size, 1, none⟩ (.bool r1.e)).setCell ⟨w.heap.size, 2, none⟩ (.slice A1 r1.m.length c1) = w1 at *
 have b6 := o1.rd
 have q3 := p2.set3 (v0 := .int .i64 r1.n) (v1 := .bool r1.e) (v2 := .slice A1 r1.m.length c1)
 have a8 := a0.trans (zae (W := w1) (g := w.heap.size + 1 + 1) (v0 := .int .i64 r1.n) (v1 := .bool r1.e) (v2 := .slice A1 r1.m.length c1) (by omega) a0.size)
 have b5 := zae (W := w1) (B := w.heap.size + 1 + 1) (g := w.heap.size + 1 + 1) (v0 := .int .i64 r1.n) (v1 := .bool r1.e) (v2 := .slice A1 r1.m.length c1) (Nat.le_refl _) (Nat.le_of_lt p2.lt)
 obtain ⟨z0, z1, z2, fz⟩ := zaa q3
 have o9 := o1.far3 (g := w.heap.size + 1 + 1) (v0 := .int .i64 r1.n) (v1 := .bool r1.e) (v2 := .slice A1 r1.m.length c1) (zak o1 p2 (by decide))
 refine bodyPost_ret (v := .agg #[r1.n, r1.e, .slice A1 r1.m.length c1]) (by simp [results, Tryz.results152, go_sem, z0, z1, z2]) rfl ?_
 rw [HR.out]
 exact ⟨A1, c1, rfl, .inr (o9.less (by have := b1.out; have := a5; omega)), a8⟩
theorem zkX (n : Int) (o : O) (ok : OkO n o) (v : Nat) (hv : (v : Int) < n) (lo hi : Int) (hlo : I64 lo) (A : Option Addr) (cap : Nat) (w : World) (hx : Rd w w.heap.size A o.m) (hm : o.m.length ≤ 17592186044416) :
  Calls Tryz.prog 152 #[.agg #[o.n, o.e, .slice A o.m.length cap], (v : Int), .agg #[lo, hi, true, false]] w (zaD w A o.m (rangedO o v ⟨lo, hi, true, false⟩)) := by
 have a7 := ok.rng
 obtain ⟨p0, p1, p2, a0, a4⟩ := zah w #[o.n, o.e, .slice A o.m.length cap] #[lo, hi, true, false] #[.int .i64 0, false, .slice none 0 0] 24 49 24
 have b0 := hx.up a0
 have b1 := hid a4
 clear a4 hx
 have HR : Hid (rangedO o v ⟨lo, hi, true, false⟩ = withO o (2 * v + 1) (2 * v) (zaH (negB lo))) := hid rfl
 generalize rangedO o v ⟨lo, hi, true, false⟩ = R at *
 go_enter Tryz.func152, Tryz.ntmps152
 obtain ⟨x0, x1, x2, fx⟩ := zaa p0
 obtain ⟨y0, y1, y2, y3, fy⟩ := zaj p1
 go_wp2
 generalize ((w.alloc (Obj.cells #[o.n, o.e, .slice A o.m.length cap] 24)).alloc (Obj.cells #[lo, hi, true, false] 49)).alloc (Obj.cells #[.int .i64 0, false, .slice none 0 0] 24) = w0 at *
 have g0 := later x0
 have g1 := later x1
 have g2 := later x2
 have k0 := later y0
 have k1 := later y1
 clear x0 x1 x2 fx y0 y1 y2 y3 fy
 refine zab 9 (fun X => Below w0.heap.size w0 X) (by kernel_rfl) (by kernel_rfl) (Below.refl _ _).drew ?_
 refine fl_a ?_
 (refine fl_c 138 #[(v : Int)] (.int .i64 ((2 * v + 1 : Nat) : Int)) (fun X hX => (zcY v (by omega) _).mono fun e' w' ⟨he, hw⟩ => ⟨he, hw ▸ hX⟩) ?_)
 refine fl_a ?_
 (refine fl_c 135 #[(v : Int)] (.int .i64 ((2 * v : Nat) : Int)) (fun X hX => (zaM v (by omega) _).mono fun e' w' ⟨he, hw⟩ => ⟨he, hw ▸ hX⟩) ?_)
 refine fl_a ?_
 (refine fl_c 206 #[lo] (.int .i64 (negB lo)) (fun X hX => (zbg lo hlo _).mono fun e' w' ⟨he, hw⟩ => ⟨he, hw ▸ hX⟩) ?_)
 refine fl_a ?_
 (refine fl_c 205 #[.int .i64 (negB lo)] (.int .i64 (zaH (negB lo))) (fun X hX => (zep (negB lo) _).mono fun e' w' ⟨he, hw⟩ => ⟨he, hw ▸ hX⟩) ?_)
 refine fl_a ?_
 intro u1 a1
 clear g0 g1 g2 k0 k1
 replace p0 := p0.later a1
 replace p1 := p1.later a1
 replace p2 := p2.later a1
 replace a0 := bup a0 a1
 have HL := hid (zaR n o ok (2 * v + 1) (2 * v) (by omega) (by omega) (zaH (negB lo)) A cap u1 (b0.up a1) hm)
 have lenb1 : (withO o (2 * v + 1) (2 * v) (zaH (negB lo))).m.length ≤ 17592186044416 := Nat.le_trans (zck _ _ _ _) hm
 have ok1 : OkO n (withO o (2 * v + 1) (2 * v) (zaH (negB lo))) := ok.with_ (by omega) (by omega) _
 generalize withO o (2 * v + 1) (2 * v) (zaH (negB lo)) = r1 at *
 rw [show ((2 * v : Nat) : Int) = 2 * (v : Int) by omega, show ((2 * v + 1 : Nat) : Int) = 2 * (v : Int) + 1 by omega] at HL
 go_wp2_with fail
 (with_reducible refine HL.out.mono ?_)
 clear HL
 rintro e1 v1 ⟨A1, c1, rfl, a3, a2⟩
 replace p0 := p0.later a2
 replace p1 := p1.later a2
 replace p2 := p2.later a2
 replace a0 := bup a0 a2
 have a5 : w0.heap.size ≤ u1.heap.size := a1.size
 obtain ⟨x0, x1, x2, fx⟩ := zaa p0
 obtain ⟨y0, y1, y2, y3, fy⟩ := zaj p1
 obtain ⟨z0, z1, z2, fz⟩ := zaa p2
 go_wp2
 clear x0 x1 x2 fx y0 y1 y2 y3 fy z0 z1 z2 fz
 have o1 := a3.far3 (g := w.heap.size) (v0 := .int .i64 r1.n) (v1 := .bool r1.e) (v2 := .slice A1 r1.m.length c1) (zak a3 p0 (by decide))
 replace p2 := p2.far3 (g := w.heap.size) (v0 := .int .i64 r1.n) (v1 := .bool r1.e) (v2 := .slice A1 r1.m.length c1) (by omega)
 replace p1 := p1.far3 (g := w.heap.size) (v0 := .int .i64 r1.n) (v1 := .bool r1.e) (v2 := .slice A1 r1.m.length c1) (by omega)
 replace p0 := p0.set3 (v0 := .int .i64 r1.n) (v1 := .bool r1.e) (v2 := .slice A1 r1.m.length c1)
 have a6 : u1.heap.size ≤ v1.heap.size := a2.size
 replace a0 := a0.trans (zae (W := v1) (g := w.heap.size) (v0 := .int .i64 r1.n) (v1 := .bool r1.e) (v2 := .slice A1 r1.m.length c1) (Nat.le_refl _) a0.size)
 replace a6 : u1.heap.size ≤ (((v1.setCell ⟨w.heap.size, 0, none⟩ (.int .i64 r1.n)).setCell ⟨w.heap.size, 1, none⟩ (.bool r1.e)).setCell ⟨w.heap.size, 2, none⟩ (.slice A1 r1.m.length c1)).heap.size := by simpa using a6
 generalize ((v1.setCell ⟨w.heap.size, 0, none⟩ (.int .i64 r1.n)).setCell ⟨w.heap.size, 1, none⟩ (.bool r1.e)).setCell ⟨w.heap.size, 2, none⟩ (.slice A1 r1.m.length c1) = w1 at *
 have b6 := o1.rd
 have q3 := p2.set3 (v0 := .int .i64 r1.n) (v1 := .bool r1.e) (v2 := .slice A1 r1.m.length c1)
 have a8 := a0.trans (zae (W := w1) (g := w.heap.size + 1 + 1) (v0 := .int .i64 r1.n) (v1 := .bool r1.e) (v2 := .slice A1 r1.m.length c1) (by omega) a0.size)
 have b5 := zae (W := w1) (B := w.heap.size + 1 + 1) (g := w.heap.size + 1 + 1) (v0 := .int .i64 r1.n) (v1 := .bool r1.e) (v2 := .slice A1 r1.m.length c1) (Nat.le_refl _) (Nat.le_of_lt p2.lt)
 obtain ⟨z0, z1, z2, fz⟩ := zaa q3
 have o9 := o1.far3 (g := w.heap.size + 1 + 1) (v0 := .int .i64 r1.n) (v1 := .bool r1.e) (v2 := .slice A1 r1.m.length c1) (zak o1 p2 (by decide))
 refine bodyPost_ret (v := .agg #[r1.n, r1.e, .slice A1 r1.m.length c1]) (by simp [results, Tryz.results152, go_sem, z0, z1, z2]) rfl ?_
 rw [HR.out]
 exact ⟨A1, c1, rfl, .inr (o9.less (by have := b1.out; have := a5; omega)), a8⟩
theorem zj0 (n : Int) (o : O) (ok : OkO n o) (v : Nat) (hv : (v : Int) < n) (lo hi : Int) (hlo : I64 lo) (A : Option Addr) (cap : Nat) (w : World) (hx : Rd w w.heap.size A o.m) (hm : o.m.length ≤ 17592186044416) :
  Calls Tryz.prog 152 #[.agg #[o.n, o.e, .slice A o.m.length cap], (v : Int), .agg #[lo, hi, true, true]] w (zaD w A o.m (rangedO o v ⟨lo, hi, true, true⟩)) := by
 have a7 := ok.rng
 obtain ⟨p0, p1, p2, a0, a4⟩ := zah w #[o.n, o.e, .slice A o.m.length cap] #[lo, hi, true, true] #[.int .i64 0, false, .slice none 0 0] 24 49 24
 have b0 := hx.up a0
 have b1 := hid a4
 clear a4 hx
 have HR : Hid (rangedO o v ⟨lo, hi, true, true⟩ = withO (withO o (2 * v) (2 * v + 1) (zaH hi)) (2 * v + 1) (2 * v) (zaH (negB lo))) := hid rfl
 generalize rangedO o v ⟨lo, hi, true, true⟩ = R at *
 go_enter Tryz.func152, Tryz.ntmps152
 obtain ⟨x0, x1, x2, fx⟩ := zaa p0
 obtain ⟨y0, y1, y2, y3, fy⟩ := zaj p1
 go_wp2
 generalize ((w.alloc (Obj.cells #[o.n, o.e, .slice A o.m.length cap] 24)).alloc (Obj.cells #[lo, hi, true, true] 49)).alloc (Obj.cells #[.int .i64 0, false, .slice none 0 0] 24) = w0 at *
 have g0 := later x0
 have g1 := later x1
 have g2 := later x2
 have k0 := later y0
 have k1 := later y1
 clear x0 x1 x2 fx y0 y1 y2 y3 fy
 refine zab 8 (fun X => Below w0.heap.size w0 X) (by kernel_rfl) (by kernel_rfl) (Below.refl _ _).drew ?_
 refine fl_a ?_
 (refine fl_c 135 #[(v : Int)] (.int .i64 ((2 * v : Nat) : Int)) (fun X hX => (zaM v (by omega) _).mono fun e' w' ⟨he, hw⟩ => ⟨he, hw ▸ hX⟩) ?_)
 refine fl_a ?_
 (refine fl_c 138 #[(v : Int)] (.int .i64 ((2 * v + 1 : Nat) : Int)) (fun X hX => (zcY v (by omega) _).mono fun e' w' ⟨he, hw⟩ => ⟨he, hw ▸ hX⟩) ?_)
 refine fl_a ?_
 (refine fl_c 205 #[hi] (.int .i64 (zaH hi)) (fun X hX => (zep hi _).mono fun e' w' ⟨he, hw⟩ => ⟨he, hw ▸ hX⟩) ?_)
 refine fl_a ?_
 intro u1 a1
 clear g0 g1 g2 k0 k1
 replace p0 := p0.later a1
 replace p1 := p1.later a1
 replace p2 := p2.later a1
 replace a0 := bup a0 a1
 have HL := hid (zaR n o ok (2 * v) (2 * v + 1) (by omega) (by omega) (zaH hi) A cap u1 (b0.up a1) hm)
 have lenb1 : (withO o (2 * v) (2 * v + 1) (zaH hi)).m.length ≤ 17592186044416 := Nat.le_trans (zck _ _ _ _) hm
 have ok1 : OkO n (withO o (2 * v) (2 * v + 1) (zaH hi)) := ok.with_ (by omega) (by omega) _
 generalize withO o (2 * v) (2 * v + 1) (zaH hi) = r1 at *
 rw [show ((2 * v : Nat) : Int) = 2 * (v : Int) by omega, show ((2 * v + 1 : Nat) : Int) = 2 * (v : Int) + 1 by omega] at HL
 go_wp2_with fail
 (with_reducible refine HL.out.mono ?_)
 clear HL
 rintro e1 v1 ⟨A1, c1, rfl, a3, a2⟩
 replace p0 := p0.later a2
 replace p1 := p1.later a2
 replace p2 := p2.later a2
 replace a0 := bup a0 a2
 have a5 : w0.heap.size ≤ u1.heap.size := a1.size
 obtain ⟨x0, x1, x2, fx⟩ := zaa p0
 obtain ⟨y0, y1, y2, y3, fy⟩ := zaj p1
 obtain ⟨z0, z1, z2, fz⟩ := zaa p2
 go_wp2
 clear x0 x1 x2 fx y0 y1 y2 y3 fy z0 z1 z2 fz
 have o1 := a3.far3 (g := w.heap.size) (v0 := .int .i64 r1.n) (v1 := .bool r1.e) (v2 := .slice A1 r1.m.length c1) (zak a3 p0 (by decide))
 replace p2 := p2.far3 (g := w.heap.size) (v0 := .int .i64 r1.n) (v1 := .bool r1.e) (v2 := .slice A1 r1.m.length c1) (by omega)
 replace p1 := p1.far3 (g := w.heap.size) (v0 := .int .i64 r1.n) (v1 := .bool r1.e) (v2 := .slice A1 r1.m.length c1) (by omega)
 replace p0 := p0.set3 (v0 := .int .i64 r1.n) (v1 := .bool r1.e) (v2 := .slice A1 r1.m.length c1)
 have a6 : u1.heap.size ≤ v1.heap.size := a2.size
 replace a0 := a0.trans (zae (W := v1) (g := w.heap.size) (v0 := .int .i64 r1.n) (v1 := .bool r1.e) (v2 := .slice A1 r1.m.length c1) (Nat.le_refl _) a0.size)
 replace a6 : u1.heap.size ≤ (((v1.setCell ⟨w.heap.size, 0, none⟩ (.int .i64 r1.n)).setCell ⟨w.heap.size, 1, none⟩ (.bool r1.e)).setCell ⟨w.heap.size, 2, none⟩ (.slice A1 r1.m.length c1)).heap.size := by simpa using a6
 generalize ((v1.setCell ⟨w.heap.size, 0, none⟩ (.int .i64 r1.n)).setCell ⟨w.heap.size, 1, none⟩ (.bool r1.e)).setCell ⟨w.heap.size, 2, none⟩ (.slice A1 r1.m.length c1) = w1 at *
 have b6 := o1.rd
 obtain ⟨x0, x1, x2, fx⟩ := zaa p0
 obtain ⟨y0, y1, y2, y3, fy⟩ := zaj p1
 have g0 := later x0
 have g1 := later x1
 have g2 := later x2
 have k0 := later y0
 have k1 := later y1
 clear x0 x1 x2 fx y0 y1 y2 y3 fy
 refine zab 9 (fun X => Below w1.heap.size w1 X) (by kernel_rfl) (by kernel_rfl) (Below.refl _ _).drew ?_
 refine fl_a ?_
 (refine fl_c 138 #[(v : Int)] (.int .i64 ((2 * v + 1 : Nat) : Int)) (fun X hX => (zcY v (by omega) _).mono fun e' w' ⟨he, hw⟩ => ⟨he, hw ▸ hX⟩) ?_)
 refine fl_a ?_
 (refine fl_c 135 #[(v : Int)] (.int .i64 ((2 * v : Nat) : Int)) (fun X hX => (zaM v (by omega) _).mono fun e' w' ⟨he, hw⟩ => ⟨he, hw ▸ hX⟩) ?_)
 refine fl_a ?_
 (refine fl_c 206 #[lo] (.int .i64 (negB lo)) (fun X hX => (zbg lo hlo _).mono fun e' w' ⟨he, hw⟩ => ⟨he, hw ▸ hX⟩) ?_)
 refine fl_a ?_
 (refine fl_c 205 #[.int .i64 (negB lo)] (.int .i64 (zaH (negB lo))) (fun X hX => (zep (negB lo) _).mono fun e' w' ⟨he, hw⟩ => ⟨he, hw ▸ hX⟩) ?_)
 refine fl_a ?_
 intro u2 a9
 clear g0 g1 g2 k0 k1
 replace p0 := p0.later a9
 replace p1 := p1.later a9
 replace p2 := p2.later a9
 replace a0 := bup a0 a9
 have HL := hid (zaR n r1 ok1 (2 * v + 1) (2 * v) (by omega) (by omega) (zaH (negB lo)) A1 c1 u2 (b6.up a9) lenb1)
 have lenb2 : (withO r1 (2 * v + 1) (2 * v) (zaH (negB lo))).m.length ≤ 17592186044416 := Nat.le_trans (zck _ _ _ _) lenb1
 have ok2 : OkO n (withO r1 (2 * v + 1) (2 * v) (zaH (negB lo))) := ok1.with_ (by omega) (by omega) _
 generalize withO r1 (2 * v + 1) (2 * v) (zaH (negB lo)) = r2 at *
 rw [show ((2 * v : Nat) : Int) = 2 * (v : Int) by omega, show ((2 * v + 1 : Nat) : Int) = 2 * (v : Int) + 1 by omega] at HL
 go_wp2_with fail
 (with_reducible refine HL.out.mono ?_)
 clear HL
 rintro e2 v2 ⟨A2, c2, rfl, b2, b3⟩
 replace p0 := p0.later b3
 replace p1 := p1.later b3
 replace p2 := p2.later b3
 replace a0 := bup a0 b3
 have b4 : w0.heap.size ≤ u2.heap.size := by have := a5; have := a9.size; have := a6; omega
 obtain ⟨x0, x1, x2, fx⟩ := zaa p0
 obtain ⟨y0, y1, y2, y3, fy⟩ := zaj p1
 obtain ⟨z0, z1, z2, fz⟩ := zaa p2
 go_wp2
 clear x0 x1 x2 fx y0 y1 y2 y3 fy z0 z1 z2 fz
 have o2 := b2.far3 (g := w.heap.size) (v0 := .int .i64 r2.n) (v1 := .bool r2.e) (v2 := .slice A2 r2.m.length c2) (zak b2 p0 (by decide))
 replace p2 := p2.far3 (g := w.heap.size) (v0 := .int .i64 r2.n) (v1 := .bool r2.e) (v2 := .slice A2 r2.m.length c2) (by omega)
 replace p1 := p1.far3 (g := w.heap.size) (v0 := .int .i64 r2.n) (v1 := .bool r2.e) (v2 := .slice A2 r2.m.length c2) (by omega)
 replace p0 := p0.set3 (v0 := .int .i64 r2.n) (v1 := .bool r2.e) (v2 := .slice A2 r2.m.length c2)
 have hs2 : u2.heap.size ≤ v2.heap.size := b3.size
 replace a0 := a0.trans (zae (W := v2) (g := w.heap.size) (v0 := .int .i64 r2.n) (v1 := .bool r2.e) (v2 := .slice A2 r2.m.length c2) (Nat.le_refl _) a0.size)
 replace hs2 : u2.heap.size ≤ (((v2.setCell ⟨w.heap.size, 0, none⟩ (.int .i64 r2.n)).setCell ⟨w.heap.size, 1, none⟩ (.bool r2.e)).setCell ⟨w.heap.size, 2, none⟩ (.slice A2 r2.m.length c2)).heap.size := by simpa using hs2
 generalize ((v2.setCell ⟨w.heap.size, 0, none⟩ (.int .i64 r2.n)).setCell ⟨w.heap.size, 1, none⟩ (.bool r2.e)).setCell ⟨w.heap.size, 2, none⟩ (.slice A2 r2.m.length c2) = w2 at *
 have hx2 := o2.rd
 have q3 := p2.set3 (v0 := .int .i64 r2.n) (v1 := .bool r2.e) (v2 := .slice A2 r2.m.length c2)
 have a8 := a0.trans (zae (W := w2) (g := w.heap.size + 1 + 1) (v0 := .int .i64 r2.n) (v1 := .bool r2.e) (v2 := .slice A2 r2.m.length c2) (by omega) a0.size)
 have b5 := zae (W := w2) (B := w.heap.size + 1 + 1) (g := w.heap.size + 1 + 1) (v0 := .int .i64 r2.n) (v1 := .bool r2.e) (v2 := .slice A2 r2.m.length c2) (Nat.le_refl _) (Nat.le_of_lt p2.lt)
 obtain ⟨z0, z1, z2, fz⟩ := zaa q3
 have o9 := o2.far3 (g := w.heap.size + 1 + 1) (v0 := .int .i64 r2.n) (v1 := .bool r2.e) (v2 := .slice A2 r2.m.length c2) (zak o2 p2 (by decide))
 refine bodyPost_ret (v := .agg #[r2.n, r2.e, .slice A2 r2.m.length c2]) (by simp [results, Tryz.results152, go_sem, z0, z1, z2]) rfl ?_
 rw [HR.out]
 exact ⟨A2, c2, rfl, .inr (o9.less (by have := b1.out; have := b4; omega)), a8⟩
theorem zcm (n : Int) (o : O) (ok : OkO n o) (v : Nat) (hv : (v : Int) < n) (r : Rg) (hlo : I64 r.lo) (A : Option Addr) (cap : Nat) (w : World) (hx : Rd w w.heap.size A o.m) (hm : o.m.length ≤ 17592186044416) :
  Calls Tryz.prog 152 #[.agg #[o.n, o.e, .slice A o.m.length cap], (v : Int), r.val] w (zaD w A o.m (rangedO o v r)) := by
 obtain ⟨lo, hi, hl, hh⟩ := r
 cases hl <;> cases hh
 ·exact zjC n o ok v hv lo hi hlo A cap w hx hm
 ·exact zj8 n o ok v hv lo hi hlo A cap w hx hm
 ·exact zkX n o ok v hv lo hi hlo A cap w hx hm
 ·exact zj0 n o ok v hv lo hi hlo A cap w hx hm
end
section
attribute [local go_sem ↓] Go.wp_at_zero Go.wp_at_succ
theorem zaw (w : World) (cs : Array Value) (t : TypeId) : Blk (w.alloc (.cells cs t)) w.heap.size t cs ∧ Below w.heap.size w (w.alloc (.cells cs t)) ∧ (w.alloc (.cells cs t)).heap.size = w.heap.size + 1 :=
 ⟨Blk.new w t cs, new1 w _, by simp⟩
theorem zai {w : World} {g : Nat} {t : TypeId} {a b : Value} (h : Blk w g t #[a, b]) : w.cell? ⟨g, 0, none⟩ = some a ∧ w.cell? ⟨g, 1, none⟩ = some b ∧ ∀ j, w.frozen? ⟨g, j, none⟩ = false :=
 ⟨h.cell 0, h.cell 1, h.fr⟩
theorem zfk (n : Int) (m : List Int) (N i j : Nat) (A : Option Addr) (cap : Nat) (w : World) (hN : (N : Int) = 2 * n) (hn : N ≤ 128) (hc : Cells N m) (hi : i < N) (hj : j < N) (hx : Rd w w.heap.size A m) (hm : m.length ≤ 17592186044416) :
  Calls Tryz.prog 216 #[.agg #[n, false, .slice A m.length cap], (i : Int), (j : Int)] w fun e w' => e = .returned (.tuple #[.int .i64 (G N m i j), .int .i64 0]) ∧ Below w.heap.size w w' := by
 obtain ⟨p0, a0, a4⟩ := zaw w #[n, false, .slice A m.length cap] 24
 have a2 := hx.up a0
 have hk : check ⟨n, false, m⟩ = 0 := zdB hN hn hc
 have HK := hid hk
 have HN := hid hN
 clear hk a4
 have hn0 : 0 ≤ n := by omega
 have hn1 : n ≤ 64 := by omega
 go_enter Tryz.func216, Tryz.ntmps216
 go_wp2_with fail
 generalize w.alloc (Obj.cells #[n, false, .slice A m.length cap] 24) = w0 at *
 have HC := hid (zbH ⟨n, false, m⟩ A cap w0 a2 (by dsimp only; omega))
 rw [HK.out] at HC
 (with_reducible refine HC.out.mono ?_)
 clear HC
 rintro e1 w1 ⟨rfl, a1⟩
 replace p0 := p0.later a1
 replace a2 := a2.up a1
 replace a0 := bup a0 a1
 obtain ⟨x0, x1, x2, fx⟩ := zaa p0
 have HW := hid (zd5 n false A m.length cap (i : Int) (j : Int) w1 hn0 hn1)
 rw [show decide (0 ≤ (i : Int) ∧ (i : Int) < 2 * n ∧ 0 ≤ (j : Int) ∧ (j : Int) < 2 * n) = true by rw [decide_eq_true_eq]; have := HN.out; omega] at HW
 go_wp2_with fail
 (with_reducible refine HW.out.mono ?_)
 clear HW x0 x1 x2 fx
 rintro e2 w2 ⟨rfl, a3⟩
 replace p0 := p0.later a3
 replace a2 := a2.up a3
 replace a0 := bup a0 a3
 obtain ⟨x0, x1, x2, fx⟩ := zaa p0
 obtain ⟨q1, q2, q3, q4, q5, q6⟩ := zbK (i := i) (j := j) HN.out hi hj hn
 have hl := hc.len
 rw [← hl] at q4 q6
 clear hl
 obtain ⟨g1, o1, rfl, hg1, c4⟩ := a2 (i * N + j) q4
 obtain ⟨v, hv⟩ : ∃ v, v = G N m i j := ⟨_, rfl⟩
 have HV := hid hv
 rw [show gI m ((i * N + j : Nat) : Int) = v from hv.symm] at c4
 clear hv
 go_wp2_with fail
 have f0 := later x0
 have f1 := later x1
 have f2 := later x2
 have f4 := later c4
 clear x0 x1 x2 fx c4
 refine zab 8 (fun X => Below w2.heap.size w2 X) (by kernel_rfl) (by kernel_rfl) (Below.refl _ _).drew ?_
 refine fl_a ?_
 (refine fl_c 85 #[.agg #[(i : Int), (j : Int)], n] (.int .i64 (2 * n * (i : Int) + (j : Int))) (fun X hX => (zef _ _ _ _ hn0 hn1 (by omega) (by omega) (by omega) (by omega)).mono fun e' w' ⟨he, hb'⟩ => ⟨he, za0 hX hX.size hb'⟩) ?_)
 refine fl_a ?_
 intro w3 hb3
 have c4 := f4 w3 hb3
 clear f0 f1 f2 f4
 go_wp2
 exact bodyPost_ret (v := .tuple #[.int .i64 v, .int .i64 0]) (by simp [results, Tryz.results216, go_sem]) rfl ⟨by rw [HV.out], bup a0 hb3⟩
theorem zdF (n : Int) (w : World) : Calls Tryz.prog 172 #[n] w fun e w' => e = .returned (.agg #[n, true]) ∧ Below w.heap.size w w' := by
 go_enter Tryz.func172, Tryz.ntmps172
 go_wp2
 refine bodyPost_ret (v := .agg #[n, true]) (by simp [results, Tryz.results172, go_sem]) rfl (And.intro rfl ?_)
 exact zdy
theorem zia (c : Int) (w : World) : Calls Tryz.prog 218 #[c] w fun e w' => e = .returned (.agg #[c, .bool (!decide (c = 9223372036854775807))]) ∧ Below w.heap.size w w' := by
 obtain ⟨t, ht⟩ : ∃ t, t = !decide (c = 9223372036854775807) := ⟨_, rfl⟩
 have hq : (c != 9223372036854775807) = t := by rw [ht]; cases h : decide (c = 9223372036854775807) <;> simp_all
 rw [← ht]
 clear ht
 go_enter Tryz.func218, Tryz.ntmps218
 go_wp2
 refine bodyPost_ret (v := .agg #[c, .bool t]) (by simp [results, Tryz.results218, go_sem]) rfl (And.intro rfl ?_)
 exact zdy
def lowV (c : Int) : Int := if c = 9223372036854775807 then 0 else -c
theorem zij (c : Int) (hc : -9223372036854775808 < c ∧ c ≤ 9223372036854775807) (w : World) : Calls Tryz.prog 217 #[c] w fun e w' => e = .returned (.agg #[.int .i64 (lowV c), .bool (!decide (c = 9223372036854775807))]) ∧ Below w.heap.size w w' := by
 unfold lowV
 by_cases h : c = 9223372036854775807
 ·subst h
  rw [if_pos rfl]
  go_enter Tryz.func217, Tryz.ntmps217
  go_wp2
  refine bodyPost_ret (v := .agg #[.int .i64 0, false]) (by simp [results, Tryz.results217, go_sem]) rfl (And.intro rfl ?_)
  exact zdy
 ·rw [if_neg h, show (!decide (c = 9223372036854775807)) = true by simp [h]]
  have t1 : (c == 9223372036854775807) = false := by rw [beq_eq_false_iff_ne]; exact h
  have hw : wrap64 (-c) = -c := IntWalk.wrap64_in _ (by omega)
  obtain ⟨h1, h2⟩ := hc
  obtain ⟨p0, a0, a4⟩ := zaw w #[.int .i64 0, false] 185
  clear h a4
  go_enter Tryz.func217, Tryz.ntmps217
  go_wp2_with fail
  generalize w.alloc (Obj.cells #[.int .i64 0, false] 185) = w0 at *
  (with_reducible refine (zdF (-c) w0).mono ?_)
  rintro e1 w1 ⟨rfl, a1⟩
  replace p0 := p0.later a1
  replace a0 := bup a0 a1
  obtain ⟨x0, x1, fx⟩ := zai p0
  go_wp2
  clear x0 x1 fx
  have q0 := (p0.set_ 0 (.int .i64 (-c))).set_ 1 (.bool true)
  obtain ⟨x0, x1, fx⟩ := zai (show Blk _ _ _ #[.int .i64 (-c), true] from q0)
  refine bodyPost_ret (v := .agg #[.int .i64 (-c), true]) (by simp [results, Tryz.results217, go_sem, x0, x1]) rfl (And.intro rfl ?_)
  refine a0.trans ?_
  exact zdy
 done
end
end Go.Proofs.YtnmpgijiimglcaaGreat
