import Derived.Test.YtnmpgijiimglcaaGreatBSe15
import Derived.Test.YtnmpgijiimglcaaGreatBSe11
namespace Go.Proofs.YtnmpgijiimglcaaGreat
open Go.RowKit
set_option maxRecDepth 100000
set_option maxHeartbeats 8000000
attribute [local go_sem ↓] Go.wp_at_zero Go.wp_at_succ
theorem OkO.small {n : Int} {o : O} (h : OkO n o) : o.m.length ≤ 17592186044416 := by
 rcases h.form with rfl | ⟨N, m, hN, hn, rfl, hc⟩
 ·simp [emptyO]
 ·have := hc.len
  have := Nat.mul_le_mul hn hn
  dsimp only
  omega
theorem hidb {a b : Int} {t : Bool} (h : (a == b) = t) : decide (a = b) = t := by rw [← h]; cases h2 : (a == b) <;> simp_all
theorem zdC (sw : Bool) (n : Int) (m : List Int) (N : Nat) (hN : (N : Int) = 2 * n) (hn : N ≤ 128) (hc : Cells N m) (a : Nat) (an bv bn : Int) (h1 : bv < 0) (ha : (a : Int) < n) (ia : I64 an) (ib : I64 bn) (A : Option Addr) (cap : Nat) (w : World) (B : Nat) (hB : B ≤ w.heap.size) (hx : Sx w B A m) (hm : m.length ≤ 17592186044416) :
  Calls Tryz.prog 124 #[.agg #[n, false, .slice A m.length cap], cond sw (.agg #[bv, bn]) (.agg #[(a : Int), an]), cond sw (.agg #[(a : Int), an]) (.agg #[bv, bn])] w (zar w B (unlikeNumO ⟨n, false, m⟩ (a : Int) an bv bn)) := by
 have d1 := hid (OkO.of_cells hN hn hc)
 have HA := hid (And.intro ha h1)
 have c9 := hid (fun W (h : Rd W W.heap.size A m) => zdL n m N a A cap W hN hn hc (by omega) h hm)
 have HU : Hid (unlikeNumO ⟨n, false, m⟩ (a : Int) an bv bn = (let r := varR N m a; let o1 := if r.hh && decide (r.hi = bn) then atMostO ⟨n, false, m⟩ (a : Int) an bv bn true else ⟨n, false, m⟩; if r.hl && decide (r.lo = bn) then atMostO o1 bv bn (a : Int) an true else o1)) := hid (by unfold unlikeNumO; dsimp only; rw [show (2 * n).toNat = N by omega, Int.toNat_natCast])
 generalize unlikeNumO ⟨n, false, m⟩ (a : Int) an bv bn = U at *
 generalize varR N m a = r at *
 obtain ⟨r0, r1, r2, r3⟩ := r
 unfold Rg.val at c9
 dsimp only at HU c9
 have t1 : decide ((a : Int) < 0) = false := by rw [decide_eq_false_iff_not]; omega
 have t2 : decide (0 ≤ bv) = false := by rw [decide_eq_false_iff_not]; omega
 clear hN hn hc ha
 obtain ⟨p0, p1, p2, p3, a1, hsz⟩ := zax w #[n, false, .slice A m.length cap] #[(a : Int), an] #[bv, bn] #[.int .i64 0, false, .slice none 0 0] 24 26 26 24
 have e7 := zaa p0
 obtain ⟨b5, b7, b6⟩ := zai p1
 obtain ⟨a8, a9, a7⟩ := zai p2
 replace hx := hx.later a1 hB
 clear hsz
 cases sw
 case' false =>
  go_enter Tryz.func124, Tryz.ntmps124
  go_wp2_with fail
 case' true =>
  have t0 : decide (bv < 0) = true := by rw [decide_eq_true_eq]; omega
  obtain ⟨k0, k1, k2, k3, hbk, e2⟩ := zax w #[n, false, .slice A m.length cap] #[bv, bn] #[(a : Int), an] #[.int .i64 0, false, .slice none 0 0] 24 26 26 24
  have e5 := zaa k0
  obtain ⟨e4, e0, d8⟩ := zai k1
  obtain ⟨e9, e6, f4⟩ := zai k2
  have e1 := zaa k3
  go_enter Tryz.func124, Tryz.ntmps124
  go_wp2_with fail
  clear k0 k1 k2 k3 hbk e2 e5 e4 e0 d8 e9 e6 f4 e1
 all_goals
  clear e7 b5 b7 b6 a8 a9 a7
  generalize (((w.alloc (Obj.cells #[n, false, .slice A m.length cap] 24)).alloc (Obj.cells #[(a : Int), an] 26)).alloc (Obj.cells #[bv, bn] 26)).alloc (Obj.cells #[.int .i64 0, false, .slice none 0 0] 24) = w1 at *
  have hB0 := Nat.le_trans hB a1.size
  (with_reducible refine (c9.out _ (hx.rd hB0)).mono ?_)
  rintro e_w1 w1 ⟨rfl, c5⟩
  replace p0 := p0.later c5
  replace p1 := p1.later c5
  replace p2 := p2.later c5
  replace p3 := p3.later c5
  replace hx := hx.later c5 (Nat.le_trans hB a1.size)
  replace a1 := bup a1 c5
  clear c9 c5 hB0
  have hp3 := p3.lt
  cases h3 : r3
  ·have t3x := h3
   cases h2 : r2
   ·replace HU : Hid (U = ⟨n, false, m⟩) := hid (by rw [HU.out, h2]; simp [h3])
    subst h2
    subst h3
    have u_0 := zaa (p0.later (new1 w1 (Obj.cells #[r0, r1, false, false] 49)))
    obtain ⟨p4, p5, a2, -⟩ := zal w1 #[r0, r1, false, false] #[n, false, .slice A m.length cap] 49 24
    replace p0 := p0.later a2
    replace p1 := p1.later a2
    replace p2 := p2.later a2
    replace p3 := p3.later a2
    replace hx := hx.later a2 (Nat.le_trans hB a1.size)
    replace a1 := bup a1 a2
    obtain ⟨b5, b7, b6⟩ := zai p1
    obtain ⟨a8, a9, a7⟩ := zai p2
    have b4 := zag p4
    have a3 := zaa p5
    have c3 := zaa p3
    go_wp2
    clear u_0 b5 b7 b6 a8 a9 a7 b4 a3 c3
    generalize (w1.alloc (Obj.cells #[r0, r1, false, false] 49)).alloc (Obj.cells #[n, false, .slice A m.length cap] 24) = w2 at *
    generalize w1.heap.size = g4 at *
    have hBz := a1.size
    have s9 := hx.far3 (g := w.heap.size + 1 + 1 + 1) (v0 := .int .i64 n) (v1 := .bool false) (v2 := .slice A m.length cap) (by omega) p3 (by decide)
    rw [HU.out]
    have q9 := p3.set3 (v0 := .int .i64 n) (v1 := .bool false) (v2 := .slice A m.length cap)
    have c6 := a1.trans (zah (W := w2) (g := w.heap.size + 1 + 1 + 1) (v0 := .int .i64 n) (v1 := .bool false) (v2 := .slice A m.length cap) (by omega) a1.size)
    obtain ⟨z0, z1, z2, fz⟩ := zaa q9
    refine bodyPost_ret (v := .agg #[n, false, .slice A m.length cap]) (by simp [results, Tryz.results124, go_sem, z0, z1, z2]) rfl ?_
    exact ⟨_, _, rfl, s9, c6⟩
   ·cases t4 : (r0 == bn)
    ·have t4x := hidb t4
     replace HU : Hid (U = ⟨n, false, m⟩) := hid (by rw [HU.out, h2, h3]; simp [t4x])
     clear t4x t3x
     subst h2
     subst h3
     have u_0 := zaa (p0.later (new1 w1 (Obj.cells #[r0, r1, true, false] 49)))
     obtain ⟨p4, p5, a2, -⟩ := zal w1 #[r0, r1, true, false] #[n, false, .slice A m.length cap] 49 24
     replace p0 := p0.later a2
     replace p1 := p1.later a2
     replace p2 := p2.later a2
     replace p3 := p3.later a2
     replace hx := hx.later a2 (Nat.le_trans hB a1.size)
     replace a1 := bup a1 a2
     obtain ⟨b5, b7, b6⟩ := zai p1
     obtain ⟨a8, a9, a7⟩ := zai p2
     have b4 := zag p4
     have a3 := zaa p5
     have c3 := zaa p3
     go_wp2
     clear u_0 b5 b7 b6 a8 a9 a7 b4 a3 c3
     generalize (w1.alloc (Obj.cells #[r0, r1, true, false] 49)).alloc (Obj.cells #[n, false, .slice A m.length cap] 24) = w2 at *
     generalize w1.heap.size = g4 at *
     have hBz := a1.size
     have s9 := hx.far3 (g := w.heap.size + 1 + 1 + 1) (v0 := .int .i64 n) (v1 := .bool false) (v2 := .slice A m.length cap) (by omega) p3 (by decide)
     rw [HU.out]
     have q9 := p3.set3 (v0 := .int .i64 n) (v1 := .bool false) (v2 := .slice A m.length cap)
     have c6 := a1.trans (zah (W := w2) (g := w.heap.size + 1 + 1 + 1) (v0 := .int .i64 n) (v1 := .bool false) (v2 := .slice A m.length cap) (by omega) a1.size)
     obtain ⟨z0, z1, z2, fz⟩ := zaa q9
     refine bodyPost_ret (v := .agg #[n, false, .slice A m.length cap]) (by simp [results, Tryz.results124, go_sem, z0, z1, z2]) rfl ?_
     exact ⟨_, _, rfl, s9, c6⟩
    ·have t4x := hidb t4
     replace HU : Hid (U = atMostO ⟨n, false, m⟩ bv bn (a : Int) an true) := hid (by rw [HU.out, h2, h3]; simp [t4x])
     clear t4x t3x
     subst h2
     subst h3
     have u_0 := zaa (p0.later (new1 w1 (Obj.cells #[r0, r1, true, false] 49)))
     obtain ⟨p4, p5, a2, -⟩ := zal w1 #[r0, r1, true, false] #[n, false, .slice A m.length cap] 49 24
     replace p0 := p0.later a2
     replace p1 := p1.later a2
     replace p2 := p2.later a2
     replace p3 := p3.later a2
     replace hx := hx.later a2 (Nat.le_trans hB a1.size)
     replace a1 := bup a1 a2
     obtain ⟨b5, b7, b6⟩ := zai p1
     obtain ⟨a8, a9, a7⟩ := zai p2
     have b4 := zag p4
     have a3 := zaa p5
     go_wp2_with fail
     clear u_0 b5 b7 b6 a8 a9 a7 b4 a3
     generalize (w1.alloc (Obj.cells #[r0, r1, true, false] 49)).alloc (Obj.cells #[n, false, .slice A m.length cap] 24) = w2 at *
     generalize w1.heap.size = g4 at *
     have hB2 := Nat.le_trans hB a1.size
     have HX := hid (zaZ n ⟨n, false, m⟩ d1.out bv bn (a : Int) an true (by have := HA.out; omega) (by have := HA.out; omega) (by omega) ib ia A cap w2 (hx.rd hB2) hm)
     (try dsimp only at HX)
     (with_reducible refine HX.out.mono ?_)
     clear HX
     rintro d0 w3 ⟨A2, c2, rfl, al2, a0⟩
     have c8 := Sx.alias al2 hx a0 hB2
     replace p0 := p0.later a0
     replace p1 := p1.later a0
     replace p2 := p2.later a0
     replace p3 := p3.later a0
     replace p4 := p4.later a0
     replace p5 := p5.later a0
     replace hx := hx.later a0 (Nat.le_trans hB a1.size)
     replace a1 := bup a1 a0
     generalize atMostO ⟨n, false, m⟩ bv bn (a : Int) an true = q2 at *
     have a3 := zaa p5
     have c3 := zaa p3
     go_wp2
     clear a3 c3
     have d5 := p3.lt
     have d3 := p5.lt
     have d4 := p4.lt
     replace hx := hx.far3 (g := g4 + 1) (v0 := .int .i64 q2.n) (v1 := .bool q2.e) (v2 := .slice A2 q2.m.length c2) (by omega) p5 (by decide)
     replace c8 := c8.far3 (g := g4 + 1) (v0 := .int .i64 q2.n) (v1 := .bool q2.e) (v2 := .slice A2 q2.m.length c2) (by omega) p5 (by decide)
     replace p0 := p0.far3 (g := g4 + 1) (v0 := .int .i64 q2.n) (v1 := .bool q2.e) (v2 := .slice A2 q2.m.length c2) (by omega)
     replace p1 := p1.far3 (g := g4 + 1) (v0 := .int .i64 q2.n) (v1 := .bool q2.e) (v2 := .slice A2 q2.m.length c2) (by omega)
     replace p2 := p2.far3 (g := g4 + 1) (v0 := .int .i64 q2.n) (v1 := .bool q2.e) (v2 := .slice A2 q2.m.length c2) (by omega)
     replace p3 := p3.far3 (g := g4 + 1) (v0 := .int .i64 q2.n) (v1 := .bool q2.e) (v2 := .slice A2 q2.m.length c2) (by omega)
     replace p4 := p4.far3 (g := g4 + 1) (v0 := .int .i64 q2.n) (v1 := .bool q2.e) (v2 := .slice A2 q2.m.length c2) (by omega)
     replace p5 := p5.set3 (v0 := .int .i64 q2.n) (v1 := .bool q2.e) (v2 := .slice A2 q2.m.length c2)
     replace a1 := a1.trans (zah (W := w3) (g := g4 + 1) (v0 := .int .i64 q2.n) (v1 := .bool q2.e) (v2 := .slice A2 q2.m.length c2) (by omega) a1.size)
     generalize ((w3.setCell ⟨g4 + 1, 0, none⟩ (.int .i64 q2.n)).setCell ⟨g4 + 1, 1, none⟩ (.bool q2.e)).setCell ⟨g4 + 1, 2, none⟩ (.slice A2 q2.m.length c2) = w4 at *
     have hBz := a1.size
     have s9 := c8.far3 (g := w.heap.size + 1 + 1 + 1) (v0 := .int .i64 q2.n) (v1 := .bool q2.e) (v2 := .slice A2 q2.m.length c2) (by omega) p3 (by decide)
     rw [HU.out]
     have q9 := p3.set3 (v0 := .int .i64 q2.n) (v1 := .bool q2.e) (v2 := .slice A2 q2.m.length c2)
     have c6 := a1.trans (zah (W := w4) (g := w.heap.size + 1 + 1 + 1) (v0 := .int .i64 q2.n) (v1 := .bool q2.e) (v2 := .slice A2 q2.m.length c2) (by omega) a1.size)
     obtain ⟨z0, z1, z2, fz⟩ := zaa q9
     refine bodyPost_ret (v := .agg #[q2.n, q2.e, .slice A2 q2.m.length c2]) (by simp [results, Tryz.results124, go_sem, z0, z1, z2]) rfl ?_
     exact ⟨_, _, rfl, s9, c6⟩
  ·cases t3 : (r1 == bn)
   ·have t3x := hidb t3
    cases h2 : r2
    ·replace HU : Hid (U = ⟨n, false, m⟩) := hid (by rw [HU.out, h2]; simp [h3, t3x])
     subst h2
     subst h3
     have u_0 := zaa (p0.later (new1 w1 (Obj.cells #[r0, r1, false, true] 49)))
     obtain ⟨p4, p5, a2, -⟩ := zal w1 #[r0, r1, false, true] #[n, false, .slice A m.length cap] 49 24
     replace p0 := p0.later a2
     replace p1 := p1.later a2
     replace p2 := p2.later a2
     replace p3 := p3.later a2
     replace hx := hx.later a2 (Nat.le_trans hB a1.size)
     replace a1 := bup a1 a2
     obtain ⟨b5, b7, b6⟩ := zai p1
     obtain ⟨a8, a9, a7⟩ := zai p2
     have b4 := zag p4
     have a3 := zaa p5
     have c3 := zaa p3
     go_wp2
     clear u_0 b5 b7 b6 a8 a9 a7 b4 a3 c3
     generalize (w1.alloc (Obj.cells #[r0, r1, false, true] 49)).alloc (Obj.cells #[n, false, .slice A m.length cap] 24) = w2 at *
     generalize w1.heap.size = g4 at *
     have hBz := a1.size
     have s9 := hx.far3 (g := w.heap.size + 1 + 1 + 1) (v0 := .int .i64 n) (v1 := .bool false) (v2 := .slice A m.length cap) (by omega) p3 (by decide)
     rw [HU.out]
     have q9 := p3.set3 (v0 := .int .i64 n) (v1 := .bool false) (v2 := .slice A m.length cap)
     have c6 := a1.trans (zah (W := w2) (g := w.heap.size + 1 + 1 + 1) (v0 := .int .i64 n) (v1 := .bool false) (v2 := .slice A m.length cap) (by omega) a1.size)
     obtain ⟨z0, z1, z2, fz⟩ := zaa q9
     refine bodyPost_ret (v := .agg #[n, false, .slice A m.length cap]) (by simp [results, Tryz.results124, go_sem, z0, z1, z2]) rfl ?_
     exact ⟨_, _, rfl, s9, c6⟩
    ·cases t4 : (r0 == bn)
     ·have t4x := hidb t4
      replace HU : Hid (U = ⟨n, false, m⟩) := hid (by rw [HU.out, h2, h3]; simp [t3x, t4x])
      clear t4x t3x
      subst h2
      subst h3
      have u_0 := zaa (p0.later (new1 w1 (Obj.cells #[r0, r1, true, true] 49)))
      obtain ⟨p4, p5, a2, -⟩ := zal w1 #[r0, r1, true, true] #[n, false, .slice A m.length cap] 49 24
      replace p0 := p0.later a2
      replace p1 := p1.later a2
      replace p2 := p2.later a2
      replace p3 := p3.later a2
      replace hx := hx.later a2 (Nat.le_trans hB a1.size)
      replace a1 := bup a1 a2
      obtain ⟨b5, b7, b6⟩ := zai p1
      obtain ⟨a8, a9, a7⟩ := zai p2
      have b4 := zag p4
      have a3 := zaa p5
      have c3 := zaa p3
      go_wp2
      clear u_0 b5 b7 b6 a8 a9 a7 b4 a3 c3
      generalize (w1.alloc (Obj.cells #[r0, r1, true, true] 49)).alloc (Obj.cells #[n, false, .slice A m.length cap] 24) = w2 at *
      generalize w1.heap.size = g4 at *
      have hBz := a1.size
      have s9 := hx.far3 (g := w.heap.size + 1 + 1 + 1) (v0 := .int .i64 n) (v1 := .bool false) (v2 := .slice A m.length cap) (by omega) p3 (by decide)
      rw [HU.out]
      have q9 := p3.set3 (v0 := .int .i64 n) (v1 := .bool false) (v2 := .slice A m.length cap)
      have c6 := a1.trans (zah (W := w2) (g := w.heap.size + 1 + 1 + 1) (v0 := .int .i64 n) (v1 := .bool false) (v2 := .slice A m.length cap) (by omega) a1.size)
      obtain ⟨z0, z1, z2, fz⟩ := zaa q9
      refine bodyPost_ret (v := .agg #[n, false, .slice A m.length cap]) (by simp [results, Tryz.results124, go_sem, z0, z1, z2]) rfl ?_
      exact ⟨_, _, rfl, s9, c6⟩
     ·have t4x := hidb t4
      replace HU : Hid (U = atMostO ⟨n, false, m⟩ bv bn (a : Int) an true) := hid (by rw [HU.out, h2, h3]; simp [t3x, t4x])
      clear t4x t3x
      subst h2
      subst h3
      have u_0 := zaa (p0.later (new1 w1 (Obj.cells #[r0, r1, true, true] 49)))
      obtain ⟨p4, p5, a2, -⟩ := zal w1 #[r0, r1, true, true] #[n, false, .slice A m.length cap] 49 24
      replace p0 := p0.later a2
      replace p1 := p1.later a2
      replace p2 := p2.later a2
      replace p3 := p3.later a2
      replace hx := hx.later a2 (Nat.le_trans hB a1.size)
      replace a1 := bup a1 a2
      obtain ⟨b5, b7, b6⟩ := zai p1
      obtain ⟨a8, a9, a7⟩ := zai p2
      have b4 := zag p4
      have a3 := zaa p5
      go_wp2_with fail
      clear u_0 b5 b7 b6 a8 a9 a7 b4 a3
      generalize (w1.alloc (Obj.cells #[r0, r1, true, true] 49)).alloc (Obj.cells #[n, false, .slice A m.length cap] 24) = w2 at *
      generalize w1.heap.size = g4 at *
      have hB2 := Nat.le_trans hB a1.size
      have HX := hid (zaZ n ⟨n, false, m⟩ d1.out bv bn (a : Int) an true (by have := HA.out; omega) (by have := HA.out; omega) (by omega) ib ia A cap w2 (hx.rd hB2) hm)
      (try dsimp only at HX)
      (with_reducible refine HX.out.mono ?_)
      clear HX
      rintro d0 w3 ⟨A2, c2, rfl, al2, a0⟩
      have c8 := Sx.alias al2 hx a0 hB2
      replace p0 := p0.later a0
      replace p1 := p1.later a0
      replace p2 := p2.later a0
      replace p3 := p3.later a0
      replace p4 := p4.later a0
      replace p5 := p5.later a0
      replace hx := hx.later a0 (Nat.le_trans hB a1.size)
      replace a1 := bup a1 a0
      generalize atMostO ⟨n, false, m⟩ bv bn (a : Int) an true = q2 at *
      have a3 := zaa p5
      have c3 := zaa p3
      go_wp2
      clear a3 c3
      have d5 := p3.lt
      have d3 := p5.lt
      have d4 := p4.lt
      replace hx := hx.far3 (g := g4 + 1) (v0 := .int .i64 q2.n) (v1 := .bool q2.e) (v2 := .slice A2 q2.m.length c2) (by omega) p5 (by decide)
      replace c8 := c8.far3 (g := g4 + 1) (v0 := .int .i64 q2.n) (v1 := .bool q2.e) (v2 := .slice A2 q2.m.length c2) (by omega) p5 (by decide)
      replace p0 := p0.far3 (g := g4 + 1) (v0 := .int .i64 q2.n) (v1 := .bool q2.e) (v2 := .slice A2 q2.m.length c2) (by omega)
      replace p1 := p1.far3 (g := g4 + 1) (v0 := .int .i64 q2.n) (v1 := .bool q2.e) (v2 := .slice A2 q2.m.length c2) (by omega)
      replace p2 := p2.far3 (g := g4 + 1) (v0 := .int .i64 q2.n) (v1 := .bool q2.e) (v2 := .slice A2 q2.m.length c2) (by omega)
      replace p3 := p3.far3 (g := g4 + 1) (v0 := .int .i64 q2.n) (v1 := .bool q2.e) (v2 := .slice A2 q2.m.length c2) (by omega)
      replace p4 := p4.far3 (g := g4 + 1) (v0 := .int .i64 q2.n) (v1 := .bool q2.e) (v2 := .slice A2 q2.m.length c2) (by omega)
      replace p5 := p5.set3 (v0 := .int .i64 q2.n) (v1 := .bool q2.e) (v2 := .slice A2 q2.m.length c2)
      replace a1 := a1.trans (zah (W := w3) (g := g4 + 1) (v0 := .int .i64 q2.n) (v1 := .bool q2.e) (v2 := .slice A2 q2.m.length c2) (by omega) a1.size)
      generalize ((w3.setCell ⟨g4 + 1, 0, none⟩ (.int .i64 q2.n)).setCell ⟨g4 + 1, 1, none⟩ (.bool q2.e)).setCell ⟨g4 + 1, 2, none⟩ (.slice A2 q2.m.length c2) = w4 at *
      have hBz := a1.size
      have s9 := c8.far3 (g := w.heap.size + 1 + 1 + 1) (v0 := .int .i64 q2.n) (v1 := .bool q2.e) (v2 := .slice A2 q2.m.length c2) (by omega) p3 (by decide)
      rw [HU.out]
      have q9 := p3.set3 (v0 := .int .i64 q2.n) (v1 := .bool q2.e) (v2 := .slice A2 q2.m.length c2)
      have c6 := a1.trans (zah (W := w4) (g := w.heap.size + 1 + 1 + 1) (v0 := .int .i64 q2.n) (v1 := .bool q2.e) (v2 := .slice A2 q2.m.length c2) (by omega) a1.size)
      obtain ⟨z0, z1, z2, fz⟩ := zaa q9
      refine bodyPost_ret (v := .agg #[q2.n, q2.e, .slice A2 q2.m.length c2]) (by simp [results, Tryz.results124, go_sem, z0, z1, z2]) rfl ?_
      exact ⟨_, _, rfl, s9, c6⟩
   ·have t3x := hidb t3
    cases h2 : r2
    ·replace HU : Hid (U = atMostO ⟨n, false, m⟩ (a : Int) an bv bn true) := hid (by rw [HU.out, h2]; simp [h3, t3x])
     subst h2
     subst h3
     have u_0 := zaa (p0.later (new1 w1 (Obj.cells #[r0, r1, false, true] 49)))
     obtain ⟨p4, p5, a2, -⟩ := zal w1 #[r0, r1, false, true] #[n, false, .slice A m.length cap] 49 24
     replace p0 := p0.later a2
     replace p1 := p1.later a2
     replace p2 := p2.later a2
     replace p3 := p3.later a2
     replace hx := hx.later a2 (Nat.le_trans hB a1.size)
     replace a1 := bup a1 a2
     obtain ⟨b5, b7, b6⟩ := zai p1
     obtain ⟨a8, a9, a7⟩ := zai p2
     have b4 := zag p4
     have a3 := zaa p5
     go_wp2_with fail
     clear u_0 b5 b7 b6 a8 a9 a7 b4 a3
     generalize (w1.alloc (Obj.cells #[r0, r1, false, true] 49)).alloc (Obj.cells #[n, false, .slice A m.length cap] 24) = w2 at *
     generalize w1.heap.size = g4 at *
     have hB1 := Nat.le_trans hB a1.size
     have HX := hid (zaZ n ⟨n, false, m⟩ d1.out (a : Int) an bv bn true (by have := HA.out; omega) (by have := HA.out; omega) (by omega) ia ib A cap w2 (hx.rd hB1) hm)
     (try dsimp only at HX)
     (with_reducible refine HX.out.mono ?_)
     clear HX
     rintro d0 w3 ⟨A1, c1, rfl, al1, a0⟩
     have c7 := Sx.alias al1 hx a0 hB1
     replace p0 := p0.later a0
     replace p1 := p1.later a0
     replace p2 := p2.later a0
     replace p3 := p3.later a0
     replace p4 := p4.later a0
     replace p5 := p5.later a0
     replace hx := hx.later a0 (Nat.le_trans hB a1.size)
     replace a1 := bup a1 a0
     have ok1 := OkO.atMost d1.out (av := (a : Int)) (an := an) (bv := bv) (bn := bn) (s := true) (by have := HA.out; omega) (by have := HA.out; omega) (by omega)
     have d7 : (atMostO ⟨n, false, m⟩ (a : Int) an bv bn true).m.length ≤ 17592186044416 := OkO.small ok1
     generalize atMostO ⟨n, false, m⟩ (a : Int) an bv bn true = q1 at *
     have a3 := zaa p5
     have b4 := zag p4
     have c3 := zaa p3
     obtain ⟨a8, a9, a7⟩ := zai p2
     go_wp2
     clear a3 b4 c3 a8 a9 a7
     have hlt := p3.lt
     have d2 := p4.lt
     replace hx := hx.far3 (g := g4 + 1) (v0 := .int .i64 q1.n) (v1 := .bool q1.e) (v2 := .slice A1 q1.m.length c1) (by omega) p5 (by decide)
     replace c7 := c7.far3 (g := g4 + 1) (v0 := .int .i64 q1.n) (v1 := .bool q1.e) (v2 := .slice A1 q1.m.length c1) (by omega) p5 (by decide)
     replace p0 := p0.far3 (g := g4 + 1) (v0 := .int .i64 q1.n) (v1 := .bool q1.e) (v2 := .slice A1 q1.m.length c1) (by omega)
     replace p1 := p1.far3 (g := g4 + 1) (v0 := .int .i64 q1.n) (v1 := .bool q1.e) (v2 := .slice A1 q1.m.length c1) (by omega)
     replace p2 := p2.far3 (g := g4 + 1) (v0 := .int .i64 q1.n) (v1 := .bool q1.e) (v2 := .slice A1 q1.m.length c1) (by omega)
     replace p3 := p3.far3 (g := g4 + 1) (v0 := .int .i64 q1.n) (v1 := .bool q1.e) (v2 := .slice A1 q1.m.length c1) (by omega)
     replace p4 := p4.far3 (g := g4 + 1) (v0 := .int .i64 q1.n) (v1 := .bool q1.e) (v2 := .slice A1 q1.m.length c1) (by omega)
     replace p5 := p5.set3 (v0 := .int .i64 q1.n) (v1 := .bool q1.e) (v2 := .slice A1 q1.m.length c1)
     replace a1 := a1.trans (zah (W := w3) (g := g4 + 1) (v0 := .int .i64 q1.n) (v1 := .bool q1.e) (v2 := .slice A1 q1.m.length c1) (by omega) a1.size)
     generalize ((w3.setCell ⟨g4 + 1, 0, none⟩ (.int .i64 q1.n)).setCell ⟨g4 + 1, 1, none⟩ (.bool q1.e)).setCell ⟨g4 + 1, 2, none⟩ (.slice A1 q1.m.length c1) = w4 at *
     have hBz := a1.size
     have s9 := c7.far3 (g := w.heap.size + 1 + 1 + 1) (v0 := .int .i64 q1.n) (v1 := .bool q1.e) (v2 := .slice A1 q1.m.length c1) (by omega) p3 (by decide)
     rw [HU.out]
     have q9 := p3.set3 (v0 := .int .i64 q1.n) (v1 := .bool q1.e) (v2 := .slice A1 q1.m.length c1)
     have c6 := a1.trans (zah (W := w4) (g := w.heap.size + 1 + 1 + 1) (v0 := .int .i64 q1.n) (v1 := .bool q1.e) (v2 := .slice A1 q1.m.length c1) (by omega) a1.size)
     obtain ⟨z0, z1, z2, fz⟩ := zaa q9
     refine bodyPost_ret (v := .agg #[q1.n, q1.e, .slice A1 q1.m.length c1]) (by simp [results, Tryz.results124, go_sem, z0, z1, z2]) rfl ?_
     exact ⟨_, _, rfl, s9, c6⟩
    ·cases t4 : (r0 == bn)
     ·have t4x := hidb t4
      replace HU : Hid (U = atMostO ⟨n, false, m⟩ (a : Int) an bv bn true) := hid (by rw [HU.out, h2, h3]; simp [t3x, t4x])
      clear t4x t3x
      subst h2
      subst h3
      have u_0 := zaa (p0.later (new1 w1 (Obj.cells #[r0, r1, true, true] 49)))
      obtain ⟨p4, p5, a2, -⟩ := zal w1 #[r0, r1, true, true] #[n, false, .slice A m.length cap] 49 24
      replace p0 := p0.later a2
      replace p1 := p1.later a2
      replace p2 := p2.later a2
      replace p3 := p3.later a2
      replace hx := hx.later a2 (Nat.le_trans hB a1.size)
      replace a1 := bup a1 a2
      obtain ⟨b5, b7, b6⟩ := zai p1
      obtain ⟨a8, a9, a7⟩ := zai p2
      have b4 := zag p4
      have a3 := zaa p5
      go_wp2_with fail
      clear u_0 b5 b7 b6 a8 a9 a7 b4 a3
      generalize (w1.alloc (Obj.cells #[r0, r1, true, true] 49)).alloc (Obj.cells #[n, false, .slice A m.length cap] 24) = w2 at *
      generalize w1.heap.size = g4 at *
      have hB1 := Nat.le_trans hB a1.size
      have HX := hid (zaZ n ⟨n, false, m⟩ d1.out (a : Int) an bv bn true (by have := HA.out; omega) (by have := HA.out; omega) (by omega) ia ib A cap w2 (hx.rd hB1) hm)
      (try dsimp only at HX)
      (with_reducible refine HX.out.mono ?_)
      clear HX
      rintro d0 w3 ⟨A1, c1, rfl, al1, a0⟩
      have c7 := Sx.alias al1 hx a0 hB1
      replace p0 := p0.later a0
      replace p1 := p1.later a0
      replace p2 := p2.later a0
      replace p3 := p3.later a0
      replace p4 := p4.later a0
      replace p5 := p5.later a0
      replace hx := hx.later a0 (Nat.le_trans hB a1.size)
      replace a1 := bup a1 a0
      have ok1 := OkO.atMost d1.out (av := (a : Int)) (an := an) (bv := bv) (bn := bn) (s := true) (by have := HA.out; omega) (by have := HA.out; omega) (by omega)
      have d7 : (atMostO ⟨n, false, m⟩ (a : Int) an bv bn true).m.length ≤ 17592186044416 := OkO.small ok1
      generalize atMostO ⟨n, false, m⟩ (a : Int) an bv bn true = q1 at *
      have a3 := zaa p5
      have b4 := zag p4
      have c3 := zaa p3
      obtain ⟨a8, a9, a7⟩ := zai p2
      go_wp2
      clear a3 b4 c3 a8 a9 a7
      have hlt := p3.lt
      have d2 := p4.lt
      replace hx := hx.far3 (g := g4 + 1) (v0 := .int .i64 q1.n) (v1 := .bool q1.e) (v2 := .slice A1 q1.m.length c1) (by omega) p5 (by decide)
      replace c7 := c7.far3 (g := g4 + 1) (v0 := .int .i64 q1.n) (v1 := .bool q1.e) (v2 := .slice A1 q1.m.length c1) (by omega) p5 (by decide)
      replace p0 := p0.far3 (g := g4 + 1) (v0 := .int .i64 q1.n) (v1 := .bool q1.e) (v2 := .slice A1 q1.m.length c1) (by omega)
      replace p1 := p1.far3 (g := g4 + 1) (v0 := .int .i64 q1.n) (v1 := .bool q1.e) (v2 := .slice A1 q1.m.length c1) (by omega)
      replace p2 := p2.far3 (g := g4 + 1) (v0 := .int .i64 q1.n) (v1 := .bool q1.e) (v2 := .slice A1 q1.m.length c1) (by omega)
      replace p3 := p3.far3 (g := g4 + 1) (v0 := .int .i64 q1.n) (v1 := .bool q1.e) (v2 := .slice A1 q1.m.length c1) (by omega)
      replace p4 := p4.far3 (g := g4 + 1) (v0 := .int .i64 q1.n) (v1 := .bool q1.e) (v2 := .slice A1 q1.m.length c1) (by omega)
      replace p5 := p5.set3 (v0 := .int .i64 q1.n) (v1 := .bool q1.e) (v2 := .slice A1 q1.m.length c1)
      replace a1 := a1.trans (zah (W := w3) (g := g4 + 1) (v0 := .int .i64 q1.n) (v1 := .bool q1.e) (v2 := .slice A1 q1.m.length c1) (by omega) a1.size)
      generalize ((w3.setCell ⟨g4 + 1, 0, none⟩ (.int .i64 q1.n)).setCell ⟨g4 + 1, 1, none⟩ (.bool q1.e)).setCell ⟨g4 + 1, 2, none⟩ (.slice A1 q1.m.length c1) = w4 at *
      have hBz := a1.size
      have s9 := c7.far3 (g := w.heap.size + 1 + 1 + 1) (v0 := .int .i64 q1.n) (v1 := .bool q1.e) (v2 := .slice A1 q1.m.length c1) (by omega) p3 (by decide)
      rw [HU.out]
      have q9 := p3.set3 (v0 := .int .i64 q1.n) (v1 := .bool q1.e) (v2 := .slice A1 q1.m.length c1)
      have c6 := a1.trans (zah (W := w4) (g := w.heap.size + 1 + 1 + 1) (v0 := .int .i64 q1.n) (v1 := .bool q1.e) (v2 := .slice A1 q1.m.length c1) (by omega) a1.size)
      obtain ⟨z0, z1, z2, fz⟩ := zaa q9
      refine bodyPost_ret (v := .agg #[q1.n, q1.e, .slice A1 q1.m.length c1]) (by simp [results, Tryz.results124, go_sem, z0, z1, z2]) rfl ?_
      exact ⟨_, _, rfl, s9, c6⟩
     ·have t4x := hidb t4
      replace HU : Hid (U = atMostO (atMostO ⟨n, false, m⟩ (a : Int) an bv bn true) bv bn (a : Int) an true) := hid (by rw [HU.out, h2, h3]; simp [t3x, t4x])
      clear t4x t3x
      subst h2
      subst h3
      have u_0 := zaa (p0.later (new1 w1 (Obj.cells #[r0, r1, true, true] 49)))
      obtain ⟨p4, p5, a2, -⟩ := zal w1 #[r0, r1, true, true] #[n, false, .slice A m.length cap] 49 24
      replace p0 := p0.later a2
      replace p1 := p1.later a2
      replace p2 := p2.later a2
      replace p3 := p3.later a2
      replace hx := hx.later a2 (Nat.le_trans hB a1.size)
      replace a1 := bup a1 a2
      obtain ⟨b5, b7, b6⟩ := zai p1
      obtain ⟨a8, a9, a7⟩ := zai p2
      have b4 := zag p4
      have a3 := zaa p5
      go_wp2_with fail
      clear u_0 b5 b7 b6 a8 a9 a7 b4 a3
      generalize (w1.alloc (Obj.cells #[r0, r1, true, true] 49)).alloc (Obj.cells #[n, false, .slice A m.length cap] 24) = w2 at *
      generalize w1.heap.size = g4 at *
      have hB1 := Nat.le_trans hB a1.size
      have HX := hid (zaZ n ⟨n, false, m⟩ d1.out (a : Int) an bv bn true (by have := HA.out; omega) (by have := HA.out; omega) (by omega) ia ib A cap w2 (hx.rd hB1) hm)
      (try dsimp only at HX)
      (with_reducible refine HX.out.mono ?_)
      clear HX
      rintro d0 w3 ⟨A1, c1, rfl, al1, a0⟩
      have c7 := Sx.alias al1 hx a0 hB1
      replace p0 := p0.later a0
      replace p1 := p1.later a0
      replace p2 := p2.later a0
      replace p3 := p3.later a0
      replace p4 := p4.later a0
      replace p5 := p5.later a0
      replace hx := hx.later a0 (Nat.le_trans hB a1.size)
      replace a1 := bup a1 a0
      have ok1 := OkO.atMost d1.out (av := (a : Int)) (an := an) (bv := bv) (bn := bn) (s := true) (by have := HA.out; omega) (by have := HA.out; omega) (by omega)
      have d7 : (atMostO ⟨n, false, m⟩ (a : Int) an bv bn true).m.length ≤ 17592186044416 := OkO.small ok1
      generalize atMostO ⟨n, false, m⟩ (a : Int) an bv bn true = q1 at *
      have a3 := zaa p5
      obtain ⟨b5, b7, b6⟩ := zai p1
      obtain ⟨a8, a9, a7⟩ := zai p2
      have b4 := zag p4
      go_wp2_with fail
      clear a3 b5 b7 b6 a8 a9 a7 b4
      have hlt := p3.lt
      have d2 := p4.lt
      replace hx := hx.far3 (g := g4 + 1) (v0 := .int .i64 q1.n) (v1 := .bool q1.e) (v2 := .slice A1 q1.m.length c1) (by omega) p5 (by decide)
      replace c7 := c7.far3 (g := g4 + 1) (v0 := .int .i64 q1.n) (v1 := .bool q1.e) (v2 := .slice A1 q1.m.length c1) (by omega) p5 (by decide)
      replace p0 := p0.far3 (g := g4 + 1) (v0 := .int .i64 q1.n) (v1 := .bool q1.e) (v2 := .slice A1 q1.m.length c1) (by omega)
      replace p1 := p1.far3 (g := g4 + 1) (v0 := .int .i64 q1.n) (v1 := .bool q1.e) (v2 := .slice A1 q1.m.length c1) (by omega)
      replace p2 := p2.far3 (g := g4 + 1) (v0 := .int .i64 q1.n) (v1 := .bool q1.e) (v2 := .slice A1 q1.m.length c1) (by omega)
      replace p3 := p3.far3 (g := g4 + 1) (v0 := .int .i64 q1.n) (v1 := .bool q1.e) (v2 := .slice A1 q1.m.length c1) (by omega)
      replace p4 := p4.far3 (g := g4 + 1) (v0 := .int .i64 q1.n) (v1 := .bool q1.e) (v2 := .slice A1 q1.m.length c1) (by omega)
      replace p5 := p5.set3 (v0 := .int .i64 q1.n) (v1 := .bool q1.e) (v2 := .slice A1 q1.m.length c1)
      replace a1 := a1.trans (zah (W := w3) (g := g4 + 1) (v0 := .int .i64 q1.n) (v1 := .bool q1.e) (v2 := .slice A1 q1.m.length c1) (by omega) a1.size)
      generalize ((w3.setCell ⟨g4 + 1, 0, none⟩ (.int .i64 q1.n)).setCell ⟨g4 + 1, 1, none⟩ (.bool q1.e)).setCell ⟨g4 + 1, 2, none⟩ (.slice A1 q1.m.length c1) = w4 at *
      have hB2 := Nat.le_trans hB a1.size
      have HX := hid (zaZ n q1 ok1 bv bn (a : Int) an true (by have := HA.out; omega) (by have := HA.out; omega) (by omega) ib ia A1 c1 w4 (c7.rd hB2) d7)
      (try dsimp only at HX)
      (with_reducible refine HX.out.mono ?_)
      clear HX
      rintro e_w5 w5 ⟨A2, c2, rfl, al2, c4⟩
      have c8 := Sx.alias al2 c7 c4 hB2
      replace p0 := p0.later c4
      replace p1 := p1.later c4
      replace p2 := p2.later c4
      replace p3 := p3.later c4
      replace p4 := p4.later c4
      replace p5 := p5.later c4
      replace hx := hx.later c4 (Nat.le_trans hB a1.size)
      replace c7 := c7.later c4 (Nat.le_trans hB a1.size)
      replace a1 := bup a1 c4
      generalize atMostO q1 bv bn (a : Int) an true = q2 at *
      have a3 := zaa p5
      have c3 := zaa p3
      go_wp2
      clear a3 c3
      have d5 := p3.lt
      have d3 := p5.lt
      have d4 := p4.lt
      replace hx := hx.far3 (g := g4 + 1) (v0 := .int .i64 q2.n) (v1 := .bool q2.e) (v2 := .slice A2 q2.m.length c2) (by omega) p5 (by decide)
      replace c7 := c7.far3 (g := g4 + 1) (v0 := .int .i64 q2.n) (v1 := .bool q2.e) (v2 := .slice A2 q2.m.length c2) (by omega) p5 (by decide)
      replace c8 := c8.far3 (g := g4 + 1) (v0 := .int .i64 q2.n) (v1 := .bool q2.e) (v2 := .slice A2 q2.m.length c2) (by omega) p5 (by decide)
      replace p0 := p0.far3 (g := g4 + 1) (v0 := .int .i64 q2.n) (v1 := .bool q2.e) (v2 := .slice A2 q2.m.length c2) (by omega)
      replace p1 := p1.far3 (g := g4 + 1) (v0 := .int .i64 q2.n) (v1 := .bool q2.e) (v2 := .slice A2 q2.m.length c2) (by omega)
      replace p2 := p2.far3 (g := g4 + 1) (v0 := .int .i64 q2.n) (v1 := .bool q2.e) (v2 := .slice A2 q2.m.length c2) (by omega)
      replace p3 := p3.far3 (g := g4 + 1) (v0 := .int .i64 q2.n) (v1 := .bool q2.e) (v2 := .slice A2 q2.m.length c2) (by omega)
      replace p4 := p4.far3 (g := g4 + 1) (v0 := .int .i64 q2.n) (v1 := .bool q2.e) (v2 := .slice A2 q2.m.length c2) (by omega)
      replace p5 := p5.set3 (v0 := .int .i64 q2.n) (v1 := .bool q2.e) (v2 := .slice A2 q2.m.length c2)
      replace a1 := a1.trans (zah (W := w5) (g := g4 + 1) (v0 := .int .i64 q2.n) (v1 := .bool q2.e) (v2 := .slice A2 q2.m.length c2) (by omega) a1.size)
      generalize ((w5.setCell ⟨g4 + 1, 0, none⟩ (.int .i64 q2.n)).setCell ⟨g4 + 1, 1, none⟩ (.bool q2.e)).setCell ⟨g4 + 1, 2, none⟩ (.slice A2 q2.m.length c2) = w6 at *
      have hBz := a1.size
      have s9 := c8.far3 (g := w.heap.size + 1 + 1 + 1) (v0 := .int .i64 q2.n) (v1 := .bool q2.e) (v2 := .slice A2 q2.m.length c2) (by omega) p3 (by decide)
      rw [HU.out]
      have q9 := p3.set3 (v0 := .int .i64 q2.n) (v1 := .bool q2.e) (v2 := .slice A2 q2.m.length c2)
      have c6 := a1.trans (zah (W := w6) (g := w.heap.size + 1 + 1 + 1) (v0 := .int .i64 q2.n) (v1 := .bool q2.e) (v2 := .slice A2 q2.m.length c2) (by omega) a1.size)
      obtain ⟨z0, z1, z2, fz⟩ := zaa q9
      refine bodyPost_ret (v := .agg #[q2.n, q2.e, .slice A2 q2.m.length c2]) (by simp [results, Tryz.results124, go_sem, z0, z1, z2]) rfl ?_
      exact ⟨_, _, rfl, s9, c6⟩
theorem zgu (n : Int) (m : List Int) (N : Nat) (hN : (N : Int) = 2 * n) (hn : N ≤ 128) (hc : Cells N m) (a : Nat) (an bv bn : Int) (h1 : bv < 0) (ha : (a : Int) < n) (ia : I64 an) (ib : I64 bn) (A : Option Addr) (cap : Nat) (w : World) (B : Nat) (hB : B ≤ w.heap.size) (hx : Sx w B A m) (hm : m.length ≤ 17592186044416) :
  Calls Tryz.prog 124 #[.agg #[n, false, .slice A m.length cap], .agg #[(a : Int), an], .agg #[bv, bn]] w (zar w B (unlikeNumO ⟨n, false, m⟩ (a : Int) an bv bn)) :=
 zdC false n m N hN hn hc a an bv bn h1 ha ia ib A cap w B hB hx hm
theorem zfo (n : Int) (m : List Int) (N : Nat) (hN : (N : Int) = 2 * n) (hn : N ≤ 128) (hc : Cells N m) (a : Nat) (an bv bn : Int) (h1 : bv < 0) (ha : (a : Int) < n) (ia : I64 an) (ib : I64 bn) (A : Option Addr) (cap : Nat) (w : World) (B : Nat) (hB : B ≤ w.heap.size) (hx : Sx w B A m) (hm : m.length ≤ 17592186044416) :
  Calls Tryz.prog 124 #[.agg #[n, false, .slice A m.length cap], .agg #[bv, bn], .agg #[(a : Int), an]] w (zar w B (unlikeNumO ⟨n, false, m⟩ (a : Int) an bv bn)) :=
 zdC true n m N hN hn hc a an bv bn h1 ha ia ib A cap w B hB hx hm
end Go.Proofs.YtnmpgijiimglcaaGreat
