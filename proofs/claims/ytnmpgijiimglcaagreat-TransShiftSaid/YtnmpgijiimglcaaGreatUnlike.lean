/-
  trans.unlike of a variable and a number: what it answers.
-/
import Derived.Test.YtnmpgijiimglcaaGreatBUA16
import Derived.Test.YtnmpgijiimglcaaGreatBUA12
namespace Go.Proofs.YtnmpgijiimglcaaGreat
open Go.RowKit
attribute [local go_sem ↓] Go.wp_at_zero Go.wp_at_succ
theorem OkO.small {n : Int} {o : O} (h : OkO n o) : o.m.length ≤ 17592186044416 := by
  rcases h.form with rfl | ⟨N, m, hN, hn, rfl, hc⟩
  · simp [emptyO]
  · have := hc.len
    have := Nat.mul_le_mul hn hn
    dsimp only
    omega
theorem hidb {a b : Int} {t : Bool} (h : (a == b) = t) : decide (a = b) = t := by rw [← h]; cases h2 : (a == b) <;> simp_all

set_option maxRecDepth 8000 in
set_option maxHeartbeats 4000000 in
theorem unlike_num (n : Int) (m : List Int) (N : Nat) (hN : (N : Int) = 2 * n) (hn : N ≤ 128) (hc : Cells N m) (a : Nat) (an bv bn : Int) (h1 : bv < 0) (ha : (a : Int) < n) (ia : I64 an) (ib : I64 bn) (A : Option Addr) (cap : Nat) (w : World) (B : Nat) (hB : B ≤ w.heap.size) (hx : Sx w B A m) (hm : m.length ≤ 17592186044416) :
    Calls Tryz.prog 124 #[.agg #[.int .i64 n, .bool false, .slice A m.length cap], .agg #[.int .i64 (a : Int), .int .i64 an], .agg #[.int .i64 bv, .int .i64 bn]] w (SxRes w B (unlikeNumO ⟨n, false, m⟩ (a : Int) an bv bn)) := by
  have HOK := hid (OkO.of_cells hN hn hc)
  have HA := hid (And.intro ha h1)
  have HVAR := hid (fun W (h : Rd W W.heap.size A m) => var_ok n m N a A cap W hN hn hc (by omega) h hm)
  have HU : Hid (unlikeNumO ⟨n, false, m⟩ (a : Int) an bv bn = (let r := varR N m a; let o1 := if r.hh && decide (r.hi = bn) then atMostO ⟨n, false, m⟩ (a : Int) an bv bn true else ⟨n, false, m⟩; if r.hl && decide (r.lo = bn) then atMostO o1 bv bn (a : Int) an true else o1)) := hid (by unfold unlikeNumO; dsimp only; rw [show (2 * n).toNat = N by omega, Int.toNat_natCast])
  generalize unlikeNumO ⟨n, false, m⟩ (a : Int) an bv bn = U at *
  generalize varR N m a = r at *
  obtain ⟨r0, r1, r2, r3⟩ := r
  unfold Rg.val at HVAR
  dsimp only at HU HVAR
  have t1 : decide ((a : Int) < 0) = false := by rw [decide_eq_false_iff_not]; omega
  have t2 : decide (0 ≤ bv) = false := by rw [decide_eq_false_iff_not]; omega
  clear hN hn hc ha
  obtain ⟨p0, p1, p2, p3, hb0, hsz⟩ := new_four w #[.int .i64 n, .bool false, .slice A m.length cap] #[.int .i64 (a : Int), .int .i64 an] #[.int .i64 bv, .int .i64 bn] #[.int .i64 0, .bool false, .slice none 0 0] 24 26 26 24
  replace hx := hx.later hb0 hB
  clear hsz
  go_enter Tryz.func124, Tryz.ntmps124
  obtain ⟨p0_0, p0_1, p0_2, p0_f⟩ := octbox p0
  obtain ⟨p1_0, p1_1, p1_f⟩ := opbox p1
  obtain ⟨p2_0, p2_1, p2_f⟩ := opbox p2
  go_wp2_with fail
  clear p0_0 p0_1 p0_2 p0_f p1_0 p1_1 p1_f p2_0 p2_1 p2_f
  generalize (((w.alloc (Obj.cells #[.int .i64 n, .bool false, .slice A m.length cap] 24)).alloc (Obj.cells #[.int .i64 (a : Int), .int .i64 an] 26)).alloc (Obj.cells #[.int .i64 bv, .int .i64 bn] 26)).alloc (Obj.cells #[.int .i64 0, .bool false, .slice none 0 0] 24) = w1 at *
  have hB0 := Nat.le_trans hB hb0.size
  (with_reducible refine (HVAR.out _ (hx.rd hB0)).mono ?_)
  rintro e_w1 w1 ⟨rfl, hb_w1⟩
  replace p0 := p0.later hb_w1
  replace p1 := p1.later hb_w1
  replace p2 := p2.later hb_w1
  replace p3 := p3.later hb_w1
  replace hx := hx.later hb_w1 (Nat.le_trans hB hb0.size)
  replace hb0 := bup hb0 hb_w1
  clear HVAR hb_w1 hB0
  have hp3 := p3.lt
  cases h3 : r3
  · have t3x := h3
    cases h2 : r2
    · replace HU : Hid (U = ⟨n, false, m⟩) := hid (by rw [HU.out, h2]; simp [h3])
      subst h2
      subst h3
      obtain ⟨u_0, u_1, u_2, u_f⟩ := octbox (p0.later (new1 w1 (Obj.cells #[.int .i64 r0, .int .i64 r1, .bool false, .bool false] 49)))
      obtain ⟨p4, p5, hbn, -⟩ := new_two w1 #[.int .i64 r0, .int .i64 r1, .bool false, .bool false] #[.int .i64 n, .bool false, .slice A m.length cap] 49 24
      replace p0 := p0.later hbn
      replace p1 := p1.later hbn
      replace p2 := p2.later hbn
      replace p3 := p3.later hbn
      replace hx := hx.later hbn (Nat.le_trans hB hb0.size)
      replace hb0 := bup hb0 hbn
      obtain ⟨p1_0, p1_1, p1_f⟩ := opbox p1
      obtain ⟨p2_0, p2_1, p2_f⟩ := opbox p2
      obtain ⟨p4_0, p4_1, p4_2, p4_3, p4_f⟩ := rgbox p4
      obtain ⟨p5_0, p5_1, p5_2, p5_f⟩ := octbox p5
      obtain ⟨p3_0, p3_1, p3_2, p3_f⟩ := octbox p3
      go_wp2
      clear u_0 u_1 u_2 u_f p1_0 p1_1 p1_f p2_0 p2_1 p2_f p4_0 p4_1 p4_2 p4_3 p4_f p5_0 p5_1 p5_2 p5_f p3_0 p3_1 p3_2 p3_f
      generalize (w1.alloc (Obj.cells #[.int .i64 r0, .int .i64 r1, .bool false, .bool false] 49)).alloc (Obj.cells #[.int .i64 n, .bool false, .slice A m.length cap] 24) = w2 at *
      generalize w1.heap.size = g4 at *
      have hBz := hb0.size
      have s9 := hx.far3 (g := w.heap.size + 1 + 1 + 1) (v0 := .int .i64 n) (v1 := .bool false) (v2 := .slice A m.length cap) (by omega) p3 (by decide)
      rw [HU.out]
      have q9 := p3.set3 (v0 := .int .i64 n) (v1 := .bool false) (v2 := .slice A m.length cap)
      have hb9 := hb0.trans (below3 (W := w2) (g := w.heap.size + 1 + 1 + 1) (v0 := .int .i64 n) (v1 := .bool false) (v2 := .slice A m.length cap) (by omega) hb0.size)
      obtain ⟨z0, z1, z2, fz⟩ := octbox q9
      refine bodyPost_ret (v := .agg #[.int .i64 n, .bool false, .slice A m.length cap]) (by simp [results, Tryz.results124, go_sem, z0, z1, z2]) rfl ?_
      exact ⟨_, _, rfl, s9, hb9⟩
    · cases t4 : (r0 == bn)
      · have t4x := hidb t4
        replace HU : Hid (U = ⟨n, false, m⟩) := hid (by rw [HU.out, h2, h3]; simp [t4x])
        clear t4x t3x
        subst h2
        subst h3
        obtain ⟨u_0, u_1, u_2, u_f⟩ := octbox (p0.later (new1 w1 (Obj.cells #[.int .i64 r0, .int .i64 r1, .bool true, .bool false] 49)))
        obtain ⟨p4, p5, hbn, -⟩ := new_two w1 #[.int .i64 r0, .int .i64 r1, .bool true, .bool false] #[.int .i64 n, .bool false, .slice A m.length cap] 49 24
        replace p0 := p0.later hbn
        replace p1 := p1.later hbn
        replace p2 := p2.later hbn
        replace p3 := p3.later hbn
        replace hx := hx.later hbn (Nat.le_trans hB hb0.size)
        replace hb0 := bup hb0 hbn
        obtain ⟨p1_0, p1_1, p1_f⟩ := opbox p1
        obtain ⟨p2_0, p2_1, p2_f⟩ := opbox p2
        obtain ⟨p4_0, p4_1, p4_2, p4_3, p4_f⟩ := rgbox p4
        obtain ⟨p5_0, p5_1, p5_2, p5_f⟩ := octbox p5
        obtain ⟨p3_0, p3_1, p3_2, p3_f⟩ := octbox p3
        go_wp2
        clear u_0 u_1 u_2 u_f p1_0 p1_1 p1_f p2_0 p2_1 p2_f p4_0 p4_1 p4_2 p4_3 p4_f p5_0 p5_1 p5_2 p5_f p3_0 p3_1 p3_2 p3_f
        generalize (w1.alloc (Obj.cells #[.int .i64 r0, .int .i64 r1, .bool true, .bool false] 49)).alloc (Obj.cells #[.int .i64 n, .bool false, .slice A m.length cap] 24) = w2 at *
        generalize w1.heap.size = g4 at *
        have hBz := hb0.size
        have s9 := hx.far3 (g := w.heap.size + 1 + 1 + 1) (v0 := .int .i64 n) (v1 := .bool false) (v2 := .slice A m.length cap) (by omega) p3 (by decide)
        rw [HU.out]
        have q9 := p3.set3 (v0 := .int .i64 n) (v1 := .bool false) (v2 := .slice A m.length cap)
        have hb9 := hb0.trans (below3 (W := w2) (g := w.heap.size + 1 + 1 + 1) (v0 := .int .i64 n) (v1 := .bool false) (v2 := .slice A m.length cap) (by omega) hb0.size)
        obtain ⟨z0, z1, z2, fz⟩ := octbox q9
        refine bodyPost_ret (v := .agg #[.int .i64 n, .bool false, .slice A m.length cap]) (by simp [results, Tryz.results124, go_sem, z0, z1, z2]) rfl ?_
        exact ⟨_, _, rfl, s9, hb9⟩
      · have t4x := hidb t4
        replace HU : Hid (U = atMostO ⟨n, false, m⟩ bv bn (a : Int) an true) := hid (by rw [HU.out, h2, h3]; simp [t4x])
        clear t4x t3x
        subst h2
        subst h3
        obtain ⟨u_0, u_1, u_2, u_f⟩ := octbox (p0.later (new1 w1 (Obj.cells #[.int .i64 r0, .int .i64 r1, .bool true, .bool false] 49)))
        obtain ⟨p4, p5, hbn, -⟩ := new_two w1 #[.int .i64 r0, .int .i64 r1, .bool true, .bool false] #[.int .i64 n, .bool false, .slice A m.length cap] 49 24
        replace p0 := p0.later hbn
        replace p1 := p1.later hbn
        replace p2 := p2.later hbn
        replace p3 := p3.later hbn
        replace hx := hx.later hbn (Nat.le_trans hB hb0.size)
        replace hb0 := bup hb0 hbn
        obtain ⟨p1_0, p1_1, p1_f⟩ := opbox p1
        obtain ⟨p2_0, p2_1, p2_f⟩ := opbox p2
        obtain ⟨p4_0, p4_1, p4_2, p4_3, p4_f⟩ := rgbox p4
        obtain ⟨p5_0, p5_1, p5_2, p5_f⟩ := octbox p5
        go_wp2_with fail
        clear u_0 u_1 u_2 u_f p1_0 p1_1 p1_f p2_0 p2_1 p2_f p4_0 p4_1 p4_2 p4_3 p4_f p5_0 p5_1 p5_2 p5_f
        generalize (w1.alloc (Obj.cells #[.int .i64 r0, .int .i64 r1, .bool true, .bool false] 49)).alloc (Obj.cells #[.int .i64 n, .bool false, .slice A m.length cap] 24) = w2 at *
        generalize w1.heap.size = g4 at *
        have hB2 := Nat.le_trans hB hb0.size
        have HX := hid (atMost_ok n ⟨n, false, m⟩ HOK.out bv bn (a : Int) an true (by have := HA.out; omega) (by have := HA.out; omega) (by omega) ib ia A cap w2 (hx.rd hB2) hm)
        (try dsimp only at HX)
        (with_reducible refine HX.out.mono ?_)
        clear HX
        rintro e_w3 w3 ⟨A2, c2, rfl, al2, hb_w3⟩
        have sx2 := Sx.alias al2 hx hb_w3 hB2
        replace p0 := p0.later hb_w3
        replace p1 := p1.later hb_w3
        replace p2 := p2.later hb_w3
        replace p3 := p3.later hb_w3
        replace p4 := p4.later hb_w3
        replace p5 := p5.later hb_w3
        replace hx := hx.later hb_w3 (Nat.le_trans hB hb0.size)
        replace hb0 := bup hb0 hb_w3
        generalize atMostO ⟨n, false, m⟩ bv bn (a : Int) an true = q2 at *
        obtain ⟨p5_0, p5_1, p5_2, p5_f⟩ := octbox p5
        obtain ⟨p3_0, p3_1, p3_2, p3_f⟩ := octbox p3
        go_wp2
        clear p5_0 p5_1 p5_2 p5_f p3_0 p3_1 p3_2 p3_f
        have hlt5 := p3.lt
        have hlt6 := p5.lt
        have hlt7 := p4.lt
        replace hx := hx.far3 (g := g4 + 1) (v0 := .int .i64 q2.n) (v1 := .bool q2.e) (v2 := .slice A2 q2.m.length c2) (by omega) p5 (by decide)
        replace sx2 := sx2.far3 (g := g4 + 1) (v0 := .int .i64 q2.n) (v1 := .bool q2.e) (v2 := .slice A2 q2.m.length c2) (by omega) p5 (by decide)
        replace p0 := p0.far3 (g := g4 + 1) (v0 := .int .i64 q2.n) (v1 := .bool q2.e) (v2 := .slice A2 q2.m.length c2) (by omega)
        replace p1 := p1.far3 (g := g4 + 1) (v0 := .int .i64 q2.n) (v1 := .bool q2.e) (v2 := .slice A2 q2.m.length c2) (by omega)
        replace p2 := p2.far3 (g := g4 + 1) (v0 := .int .i64 q2.n) (v1 := .bool q2.e) (v2 := .slice A2 q2.m.length c2) (by omega)
        replace p3 := p3.far3 (g := g4 + 1) (v0 := .int .i64 q2.n) (v1 := .bool q2.e) (v2 := .slice A2 q2.m.length c2) (by omega)
        replace p4 := p4.far3 (g := g4 + 1) (v0 := .int .i64 q2.n) (v1 := .bool q2.e) (v2 := .slice A2 q2.m.length c2) (by omega)
        replace p5 := p5.set3 (v0 := .int .i64 q2.n) (v1 := .bool q2.e) (v2 := .slice A2 q2.m.length c2)
        replace hb0 := hb0.trans (below3 (W := w3) (g := g4 + 1) (v0 := .int .i64 q2.n) (v1 := .bool q2.e) (v2 := .slice A2 q2.m.length c2) (by omega) hb0.size)
        generalize ((w3.setCell ⟨g4 + 1, 0, none⟩ (.int .i64 q2.n)).setCell ⟨g4 + 1, 1, none⟩ (.bool q2.e)).setCell ⟨g4 + 1, 2, none⟩ (.slice A2 q2.m.length c2) = w4 at *
        have hBz := hb0.size
        have s9 := sx2.far3 (g := w.heap.size + 1 + 1 + 1) (v0 := .int .i64 q2.n) (v1 := .bool q2.e) (v2 := .slice A2 q2.m.length c2) (by omega) p3 (by decide)
        rw [HU.out]
        have q9 := p3.set3 (v0 := .int .i64 q2.n) (v1 := .bool q2.e) (v2 := .slice A2 q2.m.length c2)
        have hb9 := hb0.trans (below3 (W := w4) (g := w.heap.size + 1 + 1 + 1) (v0 := .int .i64 q2.n) (v1 := .bool q2.e) (v2 := .slice A2 q2.m.length c2) (by omega) hb0.size)
        obtain ⟨z0, z1, z2, fz⟩ := octbox q9
        refine bodyPost_ret (v := .agg #[.int .i64 q2.n, .bool q2.e, .slice A2 q2.m.length c2]) (by simp [results, Tryz.results124, go_sem, z0, z1, z2]) rfl ?_
        exact ⟨_, _, rfl, s9, hb9⟩
  · cases t3 : (r1 == bn)
    · have t3x := hidb t3
      cases h2 : r2
      · replace HU : Hid (U = ⟨n, false, m⟩) := hid (by rw [HU.out, h2]; simp [h3, t3x])
        subst h2
        subst h3
        obtain ⟨u_0, u_1, u_2, u_f⟩ := octbox (p0.later (new1 w1 (Obj.cells #[.int .i64 r0, .int .i64 r1, .bool false, .bool true] 49)))
        obtain ⟨p4, p5, hbn, -⟩ := new_two w1 #[.int .i64 r0, .int .i64 r1, .bool false, .bool true] #[.int .i64 n, .bool false, .slice A m.length cap] 49 24
        replace p0 := p0.later hbn
        replace p1 := p1.later hbn
        replace p2 := p2.later hbn
        replace p3 := p3.later hbn
        replace hx := hx.later hbn (Nat.le_trans hB hb0.size)
        replace hb0 := bup hb0 hbn
        obtain ⟨p1_0, p1_1, p1_f⟩ := opbox p1
        obtain ⟨p2_0, p2_1, p2_f⟩ := opbox p2
        obtain ⟨p4_0, p4_1, p4_2, p4_3, p4_f⟩ := rgbox p4
        obtain ⟨p5_0, p5_1, p5_2, p5_f⟩ := octbox p5
        obtain ⟨p3_0, p3_1, p3_2, p3_f⟩ := octbox p3
        go_wp2
        clear u_0 u_1 u_2 u_f p1_0 p1_1 p1_f p2_0 p2_1 p2_f p4_0 p4_1 p4_2 p4_3 p4_f p5_0 p5_1 p5_2 p5_f p3_0 p3_1 p3_2 p3_f
        generalize (w1.alloc (Obj.cells #[.int .i64 r0, .int .i64 r1, .bool false, .bool true] 49)).alloc (Obj.cells #[.int .i64 n, .bool false, .slice A m.length cap] 24) = w2 at *
        generalize w1.heap.size = g4 at *
        have hBz := hb0.size
        have s9 := hx.far3 (g := w.heap.size + 1 + 1 + 1) (v0 := .int .i64 n) (v1 := .bool false) (v2 := .slice A m.length cap) (by omega) p3 (by decide)
        rw [HU.out]
        have q9 := p3.set3 (v0 := .int .i64 n) (v1 := .bool false) (v2 := .slice A m.length cap)
        have hb9 := hb0.trans (below3 (W := w2) (g := w.heap.size + 1 + 1 + 1) (v0 := .int .i64 n) (v1 := .bool false) (v2 := .slice A m.length cap) (by omega) hb0.size)
        obtain ⟨z0, z1, z2, fz⟩ := octbox q9
        refine bodyPost_ret (v := .agg #[.int .i64 n, .bool false, .slice A m.length cap]) (by simp [results, Tryz.results124, go_sem, z0, z1, z2]) rfl ?_
        exact ⟨_, _, rfl, s9, hb9⟩
      · cases t4 : (r0 == bn)
        · have t4x := hidb t4
          replace HU : Hid (U = ⟨n, false, m⟩) := hid (by rw [HU.out, h2, h3]; simp [t3x, t4x])
          clear t4x t3x
          subst h2
          subst h3
          obtain ⟨u_0, u_1, u_2, u_f⟩ := octbox (p0.later (new1 w1 (Obj.cells #[.int .i64 r0, .int .i64 r1, .bool true, .bool true] 49)))
          obtain ⟨p4, p5, hbn, -⟩ := new_two w1 #[.int .i64 r0, .int .i64 r1, .bool true, .bool true] #[.int .i64 n, .bool false, .slice A m.length cap] 49 24
          replace p0 := p0.later hbn
          replace p1 := p1.later hbn
          replace p2 := p2.later hbn
          replace p3 := p3.later hbn
          replace hx := hx.later hbn (Nat.le_trans hB hb0.size)
          replace hb0 := bup hb0 hbn
          obtain ⟨p1_0, p1_1, p1_f⟩ := opbox p1
          obtain ⟨p2_0, p2_1, p2_f⟩ := opbox p2
          obtain ⟨p4_0, p4_1, p4_2, p4_3, p4_f⟩ := rgbox p4
          obtain ⟨p5_0, p5_1, p5_2, p5_f⟩ := octbox p5
          obtain ⟨p3_0, p3_1, p3_2, p3_f⟩ := octbox p3
          go_wp2
          clear u_0 u_1 u_2 u_f p1_0 p1_1 p1_f p2_0 p2_1 p2_f p4_0 p4_1 p4_2 p4_3 p4_f p5_0 p5_1 p5_2 p5_f p3_0 p3_1 p3_2 p3_f
          generalize (w1.alloc (Obj.cells #[.int .i64 r0, .int .i64 r1, .bool true, .bool true] 49)).alloc (Obj.cells #[.int .i64 n, .bool false, .slice A m.length cap] 24) = w2 at *
          generalize w1.heap.size = g4 at *
          have hBz := hb0.size
          have s9 := hx.far3 (g := w.heap.size + 1 + 1 + 1) (v0 := .int .i64 n) (v1 := .bool false) (v2 := .slice A m.length cap) (by omega) p3 (by decide)
          rw [HU.out]
          have q9 := p3.set3 (v0 := .int .i64 n) (v1 := .bool false) (v2 := .slice A m.length cap)
          have hb9 := hb0.trans (below3 (W := w2) (g := w.heap.size + 1 + 1 + 1) (v0 := .int .i64 n) (v1 := .bool false) (v2 := .slice A m.length cap) (by omega) hb0.size)
          obtain ⟨z0, z1, z2, fz⟩ := octbox q9
          refine bodyPost_ret (v := .agg #[.int .i64 n, .bool false, .slice A m.length cap]) (by simp [results, Tryz.results124, go_sem, z0, z1, z2]) rfl ?_
          exact ⟨_, _, rfl, s9, hb9⟩
        · have t4x := hidb t4
          replace HU : Hid (U = atMostO ⟨n, false, m⟩ bv bn (a : Int) an true) := hid (by rw [HU.out, h2, h3]; simp [t3x, t4x])
          clear t4x t3x
          subst h2
          subst h3
          obtain ⟨u_0, u_1, u_2, u_f⟩ := octbox (p0.later (new1 w1 (Obj.cells #[.int .i64 r0, .int .i64 r1, .bool true, .bool true] 49)))
          obtain ⟨p4, p5, hbn, -⟩ := new_two w1 #[.int .i64 r0, .int .i64 r1, .bool true, .bool true] #[.int .i64 n, .bool false, .slice A m.length cap] 49 24
          replace p0 := p0.later hbn
          replace p1 := p1.later hbn
          replace p2 := p2.later hbn
          replace p3 := p3.later hbn
          replace hx := hx.later hbn (Nat.le_trans hB hb0.size)
          replace hb0 := bup hb0 hbn
          obtain ⟨p1_0, p1_1, p1_f⟩ := opbox p1
          obtain ⟨p2_0, p2_1, p2_f⟩ := opbox p2
          obtain ⟨p4_0, p4_1, p4_2, p4_3, p4_f⟩ := rgbox p4
          obtain ⟨p5_0, p5_1, p5_2, p5_f⟩ := octbox p5
          go_wp2_with fail
          clear u_0 u_1 u_2 u_f p1_0 p1_1 p1_f p2_0 p2_1 p2_f p4_0 p4_1 p4_2 p4_3 p4_f p5_0 p5_1 p5_2 p5_f
          generalize (w1.alloc (Obj.cells #[.int .i64 r0, .int .i64 r1, .bool true, .bool true] 49)).alloc (Obj.cells #[.int .i64 n, .bool false, .slice A m.length cap] 24) = w2 at *
          generalize w1.heap.size = g4 at *
          have hB2 := Nat.le_trans hB hb0.size
          have HX := hid (atMost_ok n ⟨n, false, m⟩ HOK.out bv bn (a : Int) an true (by have := HA.out; omega) (by have := HA.out; omega) (by omega) ib ia A cap w2 (hx.rd hB2) hm)
          (try dsimp only at HX)
          (with_reducible refine HX.out.mono ?_)
          clear HX
          rintro e_w3 w3 ⟨A2, c2, rfl, al2, hb_w3⟩
          have sx2 := Sx.alias al2 hx hb_w3 hB2
          replace p0 := p0.later hb_w3
          replace p1 := p1.later hb_w3
          replace p2 := p2.later hb_w3
          replace p3 := p3.later hb_w3
          replace p4 := p4.later hb_w3
          replace p5 := p5.later hb_w3
          replace hx := hx.later hb_w3 (Nat.le_trans hB hb0.size)
          replace hb0 := bup hb0 hb_w3
          generalize atMostO ⟨n, false, m⟩ bv bn (a : Int) an true = q2 at *
          obtain ⟨p5_0, p5_1, p5_2, p5_f⟩ := octbox p5
          obtain ⟨p3_0, p3_1, p3_2, p3_f⟩ := octbox p3
          go_wp2
          clear p5_0 p5_1 p5_2 p5_f p3_0 p3_1 p3_2 p3_f
          have hlt5 := p3.lt
          have hlt6 := p5.lt
          have hlt7 := p4.lt
          replace hx := hx.far3 (g := g4 + 1) (v0 := .int .i64 q2.n) (v1 := .bool q2.e) (v2 := .slice A2 q2.m.length c2) (by omega) p5 (by decide)
          replace sx2 := sx2.far3 (g := g4 + 1) (v0 := .int .i64 q2.n) (v1 := .bool q2.e) (v2 := .slice A2 q2.m.length c2) (by omega) p5 (by decide)
          replace p0 := p0.far3 (g := g4 + 1) (v0 := .int .i64 q2.n) (v1 := .bool q2.e) (v2 := .slice A2 q2.m.length c2) (by omega)
          replace p1 := p1.far3 (g := g4 + 1) (v0 := .int .i64 q2.n) (v1 := .bool q2.e) (v2 := .slice A2 q2.m.length c2) (by omega)
          replace p2 := p2.far3 (g := g4 + 1) (v0 := .int .i64 q2.n) (v1 := .bool q2.e) (v2 := .slice A2 q2.m.length c2) (by omega)
          replace p3 := p3.far3 (g := g4 + 1) (v0 := .int .i64 q2.n) (v1 := .bool q2.e) (v2 := .slice A2 q2.m.length c2) (by omega)
          replace p4 := p4.far3 (g := g4 + 1) (v0 := .int .i64 q2.n) (v1 := .bool q2.e) (v2 := .slice A2 q2.m.length c2) (by omega)
          replace p5 := p5.set3 (v0 := .int .i64 q2.n) (v1 := .bool q2.e) (v2 := .slice A2 q2.m.length c2)
          replace hb0 := hb0.trans (below3 (W := w3) (g := g4 + 1) (v0 := .int .i64 q2.n) (v1 := .bool q2.e) (v2 := .slice A2 q2.m.length c2) (by omega) hb0.size)
          generalize ((w3.setCell ⟨g4 + 1, 0, none⟩ (.int .i64 q2.n)).setCell ⟨g4 + 1, 1, none⟩ (.bool q2.e)).setCell ⟨g4 + 1, 2, none⟩ (.slice A2 q2.m.length c2) = w4 at *
          have hBz := hb0.size
          have s9 := sx2.far3 (g := w.heap.size + 1 + 1 + 1) (v0 := .int .i64 q2.n) (v1 := .bool q2.e) (v2 := .slice A2 q2.m.length c2) (by omega) p3 (by decide)
          rw [HU.out]
          have q9 := p3.set3 (v0 := .int .i64 q2.n) (v1 := .bool q2.e) (v2 := .slice A2 q2.m.length c2)
          have hb9 := hb0.trans (below3 (W := w4) (g := w.heap.size + 1 + 1 + 1) (v0 := .int .i64 q2.n) (v1 := .bool q2.e) (v2 := .slice A2 q2.m.length c2) (by omega) hb0.size)
          obtain ⟨z0, z1, z2, fz⟩ := octbox q9
          refine bodyPost_ret (v := .agg #[.int .i64 q2.n, .bool q2.e, .slice A2 q2.m.length c2]) (by simp [results, Tryz.results124, go_sem, z0, z1, z2]) rfl ?_
          exact ⟨_, _, rfl, s9, hb9⟩
    · have t3x := hidb t3
      cases h2 : r2
      · replace HU : Hid (U = atMostO ⟨n, false, m⟩ (a : Int) an bv bn true) := hid (by rw [HU.out, h2]; simp [h3, t3x])
        subst h2
        subst h3
        obtain ⟨u_0, u_1, u_2, u_f⟩ := octbox (p0.later (new1 w1 (Obj.cells #[.int .i64 r0, .int .i64 r1, .bool false, .bool true] 49)))
        obtain ⟨p4, p5, hbn, -⟩ := new_two w1 #[.int .i64 r0, .int .i64 r1, .bool false, .bool true] #[.int .i64 n, .bool false, .slice A m.length cap] 49 24
        replace p0 := p0.later hbn
        replace p1 := p1.later hbn
        replace p2 := p2.later hbn
        replace p3 := p3.later hbn
        replace hx := hx.later hbn (Nat.le_trans hB hb0.size)
        replace hb0 := bup hb0 hbn
        obtain ⟨p1_0, p1_1, p1_f⟩ := opbox p1
        obtain ⟨p2_0, p2_1, p2_f⟩ := opbox p2
        obtain ⟨p4_0, p4_1, p4_2, p4_3, p4_f⟩ := rgbox p4
        obtain ⟨p5_0, p5_1, p5_2, p5_f⟩ := octbox p5
        go_wp2_with fail
        clear u_0 u_1 u_2 u_f p1_0 p1_1 p1_f p2_0 p2_1 p2_f p4_0 p4_1 p4_2 p4_3 p4_f p5_0 p5_1 p5_2 p5_f
        generalize (w1.alloc (Obj.cells #[.int .i64 r0, .int .i64 r1, .bool false, .bool true] 49)).alloc (Obj.cells #[.int .i64 n, .bool false, .slice A m.length cap] 24) = w2 at *
        generalize w1.heap.size = g4 at *
        have hB1 := Nat.le_trans hB hb0.size
        have HX := hid (atMost_ok n ⟨n, false, m⟩ HOK.out (a : Int) an bv bn true (by have := HA.out; omega) (by have := HA.out; omega) (by omega) ia ib A cap w2 (hx.rd hB1) hm)
        (try dsimp only at HX)
        (with_reducible refine HX.out.mono ?_)
        clear HX
        rintro e_w3 w3 ⟨A1, c1, rfl, al1, hb_w3⟩
        have sx1 := Sx.alias al1 hx hb_w3 hB1
        replace p0 := p0.later hb_w3
        replace p1 := p1.later hb_w3
        replace p2 := p2.later hb_w3
        replace p3 := p3.later hb_w3
        replace p4 := p4.later hb_w3
        replace p5 := p5.later hb_w3
        replace hx := hx.later hb_w3 (Nat.le_trans hB hb0.size)
        replace hb0 := bup hb0 hb_w3
        have ok1 := OkO.atMost HOK.out (av := (a : Int)) (an := an) (bv := bv) (bn := bn) (s := true) (by have := HA.out; omega) (by have := HA.out; omega) (by omega)
        have hm1 : (atMostO ⟨n, false, m⟩ (a : Int) an bv bn true).m.length ≤ 17592186044416 := OkO.small ok1
        generalize atMostO ⟨n, false, m⟩ (a : Int) an bv bn true = q1 at *
        obtain ⟨p5_0, p5_1, p5_2, p5_f⟩ := octbox p5
        obtain ⟨p4_0, p4_1, p4_2, p4_3, p4_f⟩ := rgbox p4
        obtain ⟨p3_0, p3_1, p3_2, p3_f⟩ := octbox p3
        obtain ⟨p2_0, p2_1, p2_f⟩ := opbox p2
        go_wp2
        clear p5_0 p5_1 p5_2 p5_f p4_0 p4_1 p4_2 p4_3 p4_f p3_0 p3_1 p3_2 p3_f p2_0 p2_1 p2_f
        have hlt := p3.lt
        have hlt4 := p4.lt
        replace hx := hx.far3 (g := g4 + 1) (v0 := .int .i64 q1.n) (v1 := .bool q1.e) (v2 := .slice A1 q1.m.length c1) (by omega) p5 (by decide)
        replace sx1 := sx1.far3 (g := g4 + 1) (v0 := .int .i64 q1.n) (v1 := .bool q1.e) (v2 := .slice A1 q1.m.length c1) (by omega) p5 (by decide)
        replace p0 := p0.far3 (g := g4 + 1) (v0 := .int .i64 q1.n) (v1 := .bool q1.e) (v2 := .slice A1 q1.m.length c1) (by omega)
        replace p1 := p1.far3 (g := g4 + 1) (v0 := .int .i64 q1.n) (v1 := .bool q1.e) (v2 := .slice A1 q1.m.length c1) (by omega)
        replace p2 := p2.far3 (g := g4 + 1) (v0 := .int .i64 q1.n) (v1 := .bool q1.e) (v2 := .slice A1 q1.m.length c1) (by omega)
        replace p3 := p3.far3 (g := g4 + 1) (v0 := .int .i64 q1.n) (v1 := .bool q1.e) (v2 := .slice A1 q1.m.length c1) (by omega)
        replace p4 := p4.far3 (g := g4 + 1) (v0 := .int .i64 q1.n) (v1 := .bool q1.e) (v2 := .slice A1 q1.m.length c1) (by omega)
        replace p5 := p5.set3 (v0 := .int .i64 q1.n) (v1 := .bool q1.e) (v2 := .slice A1 q1.m.length c1)
        replace hb0 := hb0.trans (below3 (W := w3) (g := g4 + 1) (v0 := .int .i64 q1.n) (v1 := .bool q1.e) (v2 := .slice A1 q1.m.length c1) (by omega) hb0.size)
        generalize ((w3.setCell ⟨g4 + 1, 0, none⟩ (.int .i64 q1.n)).setCell ⟨g4 + 1, 1, none⟩ (.bool q1.e)).setCell ⟨g4 + 1, 2, none⟩ (.slice A1 q1.m.length c1) = w4 at *
        have hBz := hb0.size
        have s9 := sx1.far3 (g := w.heap.size + 1 + 1 + 1) (v0 := .int .i64 q1.n) (v1 := .bool q1.e) (v2 := .slice A1 q1.m.length c1) (by omega) p3 (by decide)
        rw [HU.out]
        have q9 := p3.set3 (v0 := .int .i64 q1.n) (v1 := .bool q1.e) (v2 := .slice A1 q1.m.length c1)
        have hb9 := hb0.trans (below3 (W := w4) (g := w.heap.size + 1 + 1 + 1) (v0 := .int .i64 q1.n) (v1 := .bool q1.e) (v2 := .slice A1 q1.m.length c1) (by omega) hb0.size)
        obtain ⟨z0, z1, z2, fz⟩ := octbox q9
        refine bodyPost_ret (v := .agg #[.int .i64 q1.n, .bool q1.e, .slice A1 q1.m.length c1]) (by simp [results, Tryz.results124, go_sem, z0, z1, z2]) rfl ?_
        exact ⟨_, _, rfl, s9, hb9⟩
      · cases t4 : (r0 == bn)
        · have t4x := hidb t4
          replace HU : Hid (U = atMostO ⟨n, false, m⟩ (a : Int) an bv bn true) := hid (by rw [HU.out, h2, h3]; simp [t3x, t4x])
          clear t4x t3x
          subst h2
          subst h3
          obtain ⟨u_0, u_1, u_2, u_f⟩ := octbox (p0.later (new1 w1 (Obj.cells #[.int .i64 r0, .int .i64 r1, .bool true, .bool true] 49)))
          obtain ⟨p4, p5, hbn, -⟩ := new_two w1 #[.int .i64 r0, .int .i64 r1, .bool true, .bool true] #[.int .i64 n, .bool false, .slice A m.length cap] 49 24
          replace p0 := p0.later hbn
          replace p1 := p1.later hbn
          replace p2 := p2.later hbn
          replace p3 := p3.later hbn
          replace hx := hx.later hbn (Nat.le_trans hB hb0.size)
          replace hb0 := bup hb0 hbn
          obtain ⟨p1_0, p1_1, p1_f⟩ := opbox p1
          obtain ⟨p2_0, p2_1, p2_f⟩ := opbox p2
          obtain ⟨p4_0, p4_1, p4_2, p4_3, p4_f⟩ := rgbox p4
          obtain ⟨p5_0, p5_1, p5_2, p5_f⟩ := octbox p5
          go_wp2_with fail
          clear u_0 u_1 u_2 u_f p1_0 p1_1 p1_f p2_0 p2_1 p2_f p4_0 p4_1 p4_2 p4_3 p4_f p5_0 p5_1 p5_2 p5_f
          generalize (w1.alloc (Obj.cells #[.int .i64 r0, .int .i64 r1, .bool true, .bool true] 49)).alloc (Obj.cells #[.int .i64 n, .bool false, .slice A m.length cap] 24) = w2 at *
          generalize w1.heap.size = g4 at *
          have hB1 := Nat.le_trans hB hb0.size
          have HX := hid (atMost_ok n ⟨n, false, m⟩ HOK.out (a : Int) an bv bn true (by have := HA.out; omega) (by have := HA.out; omega) (by omega) ia ib A cap w2 (hx.rd hB1) hm)
          (try dsimp only at HX)
          (with_reducible refine HX.out.mono ?_)
          clear HX
          rintro e_w3 w3 ⟨A1, c1, rfl, al1, hb_w3⟩
          have sx1 := Sx.alias al1 hx hb_w3 hB1
          replace p0 := p0.later hb_w3
          replace p1 := p1.later hb_w3
          replace p2 := p2.later hb_w3
          replace p3 := p3.later hb_w3
          replace p4 := p4.later hb_w3
          replace p5 := p5.later hb_w3
          replace hx := hx.later hb_w3 (Nat.le_trans hB hb0.size)
          replace hb0 := bup hb0 hb_w3
          have ok1 := OkO.atMost HOK.out (av := (a : Int)) (an := an) (bv := bv) (bn := bn) (s := true) (by have := HA.out; omega) (by have := HA.out; omega) (by omega)
          have hm1 : (atMostO ⟨n, false, m⟩ (a : Int) an bv bn true).m.length ≤ 17592186044416 := OkO.small ok1
          generalize atMostO ⟨n, false, m⟩ (a : Int) an bv bn true = q1 at *
          obtain ⟨p5_0, p5_1, p5_2, p5_f⟩ := octbox p5
          obtain ⟨p4_0, p4_1, p4_2, p4_3, p4_f⟩ := rgbox p4
          obtain ⟨p3_0, p3_1, p3_2, p3_f⟩ := octbox p3
          obtain ⟨p2_0, p2_1, p2_f⟩ := opbox p2
          go_wp2
          clear p5_0 p5_1 p5_2 p5_f p4_0 p4_1 p4_2 p4_3 p4_f p3_0 p3_1 p3_2 p3_f p2_0 p2_1 p2_f
          have hlt := p3.lt
          have hlt4 := p4.lt
          replace hx := hx.far3 (g := g4 + 1) (v0 := .int .i64 q1.n) (v1 := .bool q1.e) (v2 := .slice A1 q1.m.length c1) (by omega) p5 (by decide)
          replace sx1 := sx1.far3 (g := g4 + 1) (v0 := .int .i64 q1.n) (v1 := .bool q1.e) (v2 := .slice A1 q1.m.length c1) (by omega) p5 (by decide)
          replace p0 := p0.far3 (g := g4 + 1) (v0 := .int .i64 q1.n) (v1 := .bool q1.e) (v2 := .slice A1 q1.m.length c1) (by omega)
          replace p1 := p1.far3 (g := g4 + 1) (v0 := .int .i64 q1.n) (v1 := .bool q1.e) (v2 := .slice A1 q1.m.length c1) (by omega)
          replace p2 := p2.far3 (g := g4 + 1) (v0 := .int .i64 q1.n) (v1 := .bool q1.e) (v2 := .slice A1 q1.m.length c1) (by omega)
          replace p3 := p3.far3 (g := g4 + 1) (v0 := .int .i64 q1.n) (v1 := .bool q1.e) (v2 := .slice A1 q1.m.length c1) (by omega)
          replace p4 := p4.far3 (g := g4 + 1) (v0 := .int .i64 q1.n) (v1 := .bool q1.e) (v2 := .slice A1 q1.m.length c1) (by omega)
          replace p5 := p5.set3 (v0 := .int .i64 q1.n) (v1 := .bool q1.e) (v2 := .slice A1 q1.m.length c1)
          replace hb0 := hb0.trans (below3 (W := w3) (g := g4 + 1) (v0 := .int .i64 q1.n) (v1 := .bool q1.e) (v2 := .slice A1 q1.m.length c1) (by omega) hb0.size)
          generalize ((w3.setCell ⟨g4 + 1, 0, none⟩ (.int .i64 q1.n)).setCell ⟨g4 + 1, 1, none⟩ (.bool q1.e)).setCell ⟨g4 + 1, 2, none⟩ (.slice A1 q1.m.length c1) = w4 at *
          have hBz := hb0.size
          have s9 := sx1.far3 (g := w.heap.size + 1 + 1 + 1) (v0 := .int .i64 q1.n) (v1 := .bool q1.e) (v2 := .slice A1 q1.m.length c1) (by omega) p3 (by decide)
          rw [HU.out]
          have q9 := p3.set3 (v0 := .int .i64 q1.n) (v1 := .bool q1.e) (v2 := .slice A1 q1.m.length c1)
          have hb9 := hb0.trans (below3 (W := w4) (g := w.heap.size + 1 + 1 + 1) (v0 := .int .i64 q1.n) (v1 := .bool q1.e) (v2 := .slice A1 q1.m.length c1) (by omega) hb0.size)
          obtain ⟨z0, z1, z2, fz⟩ := octbox q9
          refine bodyPost_ret (v := .agg #[.int .i64 q1.n, .bool q1.e, .slice A1 q1.m.length c1]) (by simp [results, Tryz.results124, go_sem, z0, z1, z2]) rfl ?_
          exact ⟨_, _, rfl, s9, hb9⟩
        · have t4x := hidb t4
          replace HU : Hid (U = atMostO (atMostO ⟨n, false, m⟩ (a : Int) an bv bn true) bv bn (a : Int) an true) := hid (by rw [HU.out, h2, h3]; simp [t3x, t4x])
          clear t4x t3x
          subst h2
          subst h3
          obtain ⟨u_0, u_1, u_2, u_f⟩ := octbox (p0.later (new1 w1 (Obj.cells #[.int .i64 r0, .int .i64 r1, .bool true, .bool true] 49)))
          obtain ⟨p4, p5, hbn, -⟩ := new_two w1 #[.int .i64 r0, .int .i64 r1, .bool true, .bool true] #[.int .i64 n, .bool false, .slice A m.length cap] 49 24
          replace p0 := p0.later hbn
          replace p1 := p1.later hbn
          replace p2 := p2.later hbn
          replace p3 := p3.later hbn
          replace hx := hx.later hbn (Nat.le_trans hB hb0.size)
          replace hb0 := bup hb0 hbn
          obtain ⟨p1_0, p1_1, p1_f⟩ := opbox p1
          obtain ⟨p2_0, p2_1, p2_f⟩ := opbox p2
          obtain ⟨p4_0, p4_1, p4_2, p4_3, p4_f⟩ := rgbox p4
          obtain ⟨p5_0, p5_1, p5_2, p5_f⟩ := octbox p5
          go_wp2_with fail
          clear u_0 u_1 u_2 u_f p1_0 p1_1 p1_f p2_0 p2_1 p2_f p4_0 p4_1 p4_2 p4_3 p4_f p5_0 p5_1 p5_2 p5_f
          generalize (w1.alloc (Obj.cells #[.int .i64 r0, .int .i64 r1, .bool true, .bool true] 49)).alloc (Obj.cells #[.int .i64 n, .bool false, .slice A m.length cap] 24) = w2 at *
          generalize w1.heap.size = g4 at *
          have hB1 := Nat.le_trans hB hb0.size
          have HX := hid (atMost_ok n ⟨n, false, m⟩ HOK.out (a : Int) an bv bn true (by have := HA.out; omega) (by have := HA.out; omega) (by omega) ia ib A cap w2 (hx.rd hB1) hm)
          (try dsimp only at HX)
          (with_reducible refine HX.out.mono ?_)
          clear HX
          rintro e_w3 w3 ⟨A1, c1, rfl, al1, hb_w3⟩
          have sx1 := Sx.alias al1 hx hb_w3 hB1
          replace p0 := p0.later hb_w3
          replace p1 := p1.later hb_w3
          replace p2 := p2.later hb_w3
          replace p3 := p3.later hb_w3
          replace p4 := p4.later hb_w3
          replace p5 := p5.later hb_w3
          replace hx := hx.later hb_w3 (Nat.le_trans hB hb0.size)
          replace hb0 := bup hb0 hb_w3
          have ok1 := OkO.atMost HOK.out (av := (a : Int)) (an := an) (bv := bv) (bn := bn) (s := true) (by have := HA.out; omega) (by have := HA.out; omega) (by omega)
          have hm1 : (atMostO ⟨n, false, m⟩ (a : Int) an bv bn true).m.length ≤ 17592186044416 := OkO.small ok1
          generalize atMostO ⟨n, false, m⟩ (a : Int) an bv bn true = q1 at *
          obtain ⟨p5_0, p5_1, p5_2, p5_f⟩ := octbox p5
          obtain ⟨p1_0, p1_1, p1_f⟩ := opbox p1
          obtain ⟨p2_0, p2_1, p2_f⟩ := opbox p2
          obtain ⟨p4_0, p4_1, p4_2, p4_3, p4_f⟩ := rgbox p4
          go_wp2_with fail
          clear p5_0 p5_1 p5_2 p5_f p1_0 p1_1 p1_f p2_0 p2_1 p2_f p4_0 p4_1 p4_2 p4_3 p4_f
          have hlt := p3.lt
          have hlt4 := p4.lt
          replace hx := hx.far3 (g := g4 + 1) (v0 := .int .i64 q1.n) (v1 := .bool q1.e) (v2 := .slice A1 q1.m.length c1) (by omega) p5 (by decide)
          replace sx1 := sx1.far3 (g := g4 + 1) (v0 := .int .i64 q1.n) (v1 := .bool q1.e) (v2 := .slice A1 q1.m.length c1) (by omega) p5 (by decide)
          replace p0 := p0.far3 (g := g4 + 1) (v0 := .int .i64 q1.n) (v1 := .bool q1.e) (v2 := .slice A1 q1.m.length c1) (by omega)
          replace p1 := p1.far3 (g := g4 + 1) (v0 := .int .i64 q1.n) (v1 := .bool q1.e) (v2 := .slice A1 q1.m.length c1) (by omega)
          replace p2 := p2.far3 (g := g4 + 1) (v0 := .int .i64 q1.n) (v1 := .bool q1.e) (v2 := .slice A1 q1.m.length c1) (by omega)
          replace p3 := p3.far3 (g := g4 + 1) (v0 := .int .i64 q1.n) (v1 := .bool q1.e) (v2 := .slice A1 q1.m.length c1) (by omega)
          replace p4 := p4.far3 (g := g4 + 1) (v0 := .int .i64 q1.n) (v1 := .bool q1.e) (v2 := .slice A1 q1.m.length c1) (by omega)
          replace p5 := p5.set3 (v0 := .int .i64 q1.n) (v1 := .bool q1.e) (v2 := .slice A1 q1.m.length c1)
          replace hb0 := hb0.trans (below3 (W := w3) (g := g4 + 1) (v0 := .int .i64 q1.n) (v1 := .bool q1.e) (v2 := .slice A1 q1.m.length c1) (by omega) hb0.size)
          generalize ((w3.setCell ⟨g4 + 1, 0, none⟩ (.int .i64 q1.n)).setCell ⟨g4 + 1, 1, none⟩ (.bool q1.e)).setCell ⟨g4 + 1, 2, none⟩ (.slice A1 q1.m.length c1) = w4 at *
          have hB2 := Nat.le_trans hB hb0.size
          have HX := hid (atMost_ok n q1 ok1 bv bn (a : Int) an true (by have := HA.out; omega) (by have := HA.out; omega) (by omega) ib ia A1 c1 w4 (sx1.rd hB2) hm1)
          (try dsimp only at HX)
          (with_reducible refine HX.out.mono ?_)
          clear HX
          rintro e_w5 w5 ⟨A2, c2, rfl, al2, hb_w5⟩
          have sx2 := Sx.alias al2 sx1 hb_w5 hB2
          replace p0 := p0.later hb_w5
          replace p1 := p1.later hb_w5
          replace p2 := p2.later hb_w5
          replace p3 := p3.later hb_w5
          replace p4 := p4.later hb_w5
          replace p5 := p5.later hb_w5
          replace hx := hx.later hb_w5 (Nat.le_trans hB hb0.size)
          replace sx1 := sx1.later hb_w5 (Nat.le_trans hB hb0.size)
          replace hb0 := bup hb0 hb_w5
          generalize atMostO q1 bv bn (a : Int) an true = q2 at *
          obtain ⟨p5_0, p5_1, p5_2, p5_f⟩ := octbox p5
          obtain ⟨p3_0, p3_1, p3_2, p3_f⟩ := octbox p3
          go_wp2
          clear p5_0 p5_1 p5_2 p5_f p3_0 p3_1 p3_2 p3_f
          have hlt5 := p3.lt
          have hlt6 := p5.lt
          have hlt7 := p4.lt
          replace hx := hx.far3 (g := g4 + 1) (v0 := .int .i64 q2.n) (v1 := .bool q2.e) (v2 := .slice A2 q2.m.length c2) (by omega) p5 (by decide)
          replace sx1 := sx1.far3 (g := g4 + 1) (v0 := .int .i64 q2.n) (v1 := .bool q2.e) (v2 := .slice A2 q2.m.length c2) (by omega) p5 (by decide)
          replace sx2 := sx2.far3 (g := g4 + 1) (v0 := .int .i64 q2.n) (v1 := .bool q2.e) (v2 := .slice A2 q2.m.length c2) (by omega) p5 (by decide)
          replace p0 := p0.far3 (g := g4 + 1) (v0 := .int .i64 q2.n) (v1 := .bool q2.e) (v2 := .slice A2 q2.m.length c2) (by omega)
          replace p1 := p1.far3 (g := g4 + 1) (v0 := .int .i64 q2.n) (v1 := .bool q2.e) (v2 := .slice A2 q2.m.length c2) (by omega)
          replace p2 := p2.far3 (g := g4 + 1) (v0 := .int .i64 q2.n) (v1 := .bool q2.e) (v2 := .slice A2 q2.m.length c2) (by omega)
          replace p3 := p3.far3 (g := g4 + 1) (v0 := .int .i64 q2.n) (v1 := .bool q2.e) (v2 := .slice A2 q2.m.length c2) (by omega)
          replace p4 := p4.far3 (g := g4 + 1) (v0 := .int .i64 q2.n) (v1 := .bool q2.e) (v2 := .slice A2 q2.m.length c2) (by omega)
          replace p5 := p5.set3 (v0 := .int .i64 q2.n) (v1 := .bool q2.e) (v2 := .slice A2 q2.m.length c2)
          replace hb0 := hb0.trans (below3 (W := w5) (g := g4 + 1) (v0 := .int .i64 q2.n) (v1 := .bool q2.e) (v2 := .slice A2 q2.m.length c2) (by omega) hb0.size)
          generalize ((w5.setCell ⟨g4 + 1, 0, none⟩ (.int .i64 q2.n)).setCell ⟨g4 + 1, 1, none⟩ (.bool q2.e)).setCell ⟨g4 + 1, 2, none⟩ (.slice A2 q2.m.length c2) = w6 at *
          have hBz := hb0.size
          have s9 := sx2.far3 (g := w.heap.size + 1 + 1 + 1) (v0 := .int .i64 q2.n) (v1 := .bool q2.e) (v2 := .slice A2 q2.m.length c2) (by omega) p3 (by decide)
          rw [HU.out]
          have q9 := p3.set3 (v0 := .int .i64 q2.n) (v1 := .bool q2.e) (v2 := .slice A2 q2.m.length c2)
          have hb9 := hb0.trans (below3 (W := w6) (g := w.heap.size + 1 + 1 + 1) (v0 := .int .i64 q2.n) (v1 := .bool q2.e) (v2 := .slice A2 q2.m.length c2) (by omega) hb0.size)
          obtain ⟨z0, z1, z2, fz⟩ := octbox q9
          refine bodyPost_ret (v := .agg #[.int .i64 q2.n, .bool q2.e, .slice A2 q2.m.length c2]) (by simp [results, Tryz.results124, go_sem, z0, z1, z2]) rfl ?_
          exact ⟨_, _, rfl, s9, hb9⟩

set_option maxRecDepth 8000 in
set_option maxHeartbeats 4000000 in
theorem unlike_swap (n : Int) (m : List Int) (N : Nat) (hN : (N : Int) = 2 * n) (hn : N ≤ 128) (hc : Cells N m) (a : Nat) (an bv bn : Int) (h1 : bv < 0) (ha : (a : Int) < n) (ia : I64 an) (ib : I64 bn) (A : Option Addr) (cap : Nat) (w : World) (B : Nat) (hB : B ≤ w.heap.size) (hx : Sx w B A m) (hm : m.length ≤ 17592186044416) :
    Calls Tryz.prog 124 #[.agg #[.int .i64 n, .bool false, .slice A m.length cap], .agg #[.int .i64 bv, .int .i64 bn], .agg #[.int .i64 (a : Int), .int .i64 an]] w (SxRes w B (unlikeNumO ⟨n, false, m⟩ (a : Int) an bv bn)) := by
  have HOK := hid (OkO.of_cells hN hn hc)
  have HA := hid (And.intro ha h1)
  have HVAR := hid (fun W (h : Rd W W.heap.size A m) => var_ok n m N a A cap W hN hn hc (by omega) h hm)
  have HU : Hid (unlikeNumO ⟨n, false, m⟩ (a : Int) an bv bn = (let r := varR N m a; let o1 := if r.hh && decide (r.hi = bn) then atMostO ⟨n, false, m⟩ (a : Int) an bv bn true else ⟨n, false, m⟩; if r.hl && decide (r.lo = bn) then atMostO o1 bv bn (a : Int) an true else o1)) := hid (by unfold unlikeNumO; dsimp only; rw [show (2 * n).toNat = N by omega, Int.toNat_natCast])
  generalize unlikeNumO ⟨n, false, m⟩ (a : Int) an bv bn = U at *
  generalize varR N m a = r at *
  obtain ⟨r0, r1, r2, r3⟩ := r
  unfold Rg.val at HVAR
  dsimp only at HU HVAR
  have t1 : decide ((a : Int) < 0) = false := by rw [decide_eq_false_iff_not]; omega
  have t2 : decide (0 ≤ bv) = false := by rw [decide_eq_false_iff_not]; omega
  have t0 : decide (bv < 0) = true := by rw [decide_eq_true_eq]; omega
  clear hN hn hc ha
  obtain ⟨k0, k1, k2, k3, hbk, hszk⟩ := new_four w #[.int .i64 n, .bool false, .slice A m.length cap] #[.int .i64 bv, .int .i64 bn] #[.int .i64 (a : Int), .int .i64 an] #[.int .i64 0, .bool false, .slice none 0 0] 24 26 26 24
  obtain ⟨k0_0, k0_1, k0_2, k0_f⟩ := octbox k0
  obtain ⟨k1_0, k1_1, k1_f⟩ := opbox k1
  obtain ⟨k2_0, k2_1, k2_f⟩ := opbox k2
  obtain ⟨k3_0, k3_1, k3_2, k3_f⟩ := octbox k3
  obtain ⟨m0, m1, m2, m3, hbm, hszm⟩ := new_four w #[.int .i64 n, .bool false, .slice A m.length cap] #[.int .i64 (a : Int), .int .i64 an] #[.int .i64 bv, .int .i64 bn] #[.int .i64 0, .bool false, .slice none 0 0] 24 26 26 24
  obtain ⟨m0_0, m0_1, m0_2, m0_f⟩ := octbox m0
  obtain ⟨m1_0, m1_1, m1_f⟩ := opbox m1
  obtain ⟨m2_0, m2_1, m2_f⟩ := opbox m2
  go_enter Tryz.func124, Tryz.ntmps124
  go_wp2_with fail
  clear k0 k1 k2 k3 hbk hszk k0_0 k0_1 k0_2 k0_f k1_0 k1_1 k1_f k2_0 k2_1 k2_f k3_0 k3_1 k3_2 k3_f m0 m1 m2 m3 hbm hszm m0_0 m0_1 m0_2 m0_f m1_0 m1_1 m1_f m2_0 m2_1 m2_f
  obtain ⟨p0, p1, p2, p3, hb0, hsz⟩ := new_four w #[.int .i64 n, .bool false, .slice A m.length cap] #[.int .i64 (a : Int), .int .i64 an] #[.int .i64 bv, .int .i64 bn] #[.int .i64 0, .bool false, .slice none 0 0] 24 26 26 24
  replace hx := hx.later hb0 hB
  clear hsz
  generalize (((w.alloc (Obj.cells #[.int .i64 n, .bool false, .slice A m.length cap] 24)).alloc (Obj.cells #[.int .i64 (a : Int), .int .i64 an] 26)).alloc (Obj.cells #[.int .i64 bv, .int .i64 bn] 26)).alloc (Obj.cells #[.int .i64 0, .bool false, .slice none 0 0] 24) = w1 at *
  have hB0 := Nat.le_trans hB hb0.size
  (with_reducible refine (HVAR.out _ (hx.rd hB0)).mono ?_)
  rintro e_w1 w1 ⟨rfl, hb_w1⟩
  replace p0 := p0.later hb_w1
  replace p1 := p1.later hb_w1
  replace p2 := p2.later hb_w1
  replace p3 := p3.later hb_w1
  replace hx := hx.later hb_w1 (Nat.le_trans hB hb0.size)
  replace hb0 := bup hb0 hb_w1
  clear HVAR hb_w1 hB0
  have hp3 := p3.lt
  cases h3 : r3
  · have t3x := h3
    cases h2 : r2
    · replace HU : Hid (U = ⟨n, false, m⟩) := hid (by rw [HU.out, h2]; simp [h3])
      subst h2
      subst h3
      obtain ⟨u_0, u_1, u_2, u_f⟩ := octbox (p0.later (new1 w1 (Obj.cells #[.int .i64 r0, .int .i64 r1, .bool false, .bool false] 49)))
      obtain ⟨p4, p5, hbn, -⟩ := new_two w1 #[.int .i64 r0, .int .i64 r1, .bool false, .bool false] #[.int .i64 n, .bool false, .slice A m.length cap] 49 24
      replace p0 := p0.later hbn
      replace p1 := p1.later hbn
      replace p2 := p2.later hbn
      replace p3 := p3.later hbn
      replace hx := hx.later hbn (Nat.le_trans hB hb0.size)
      replace hb0 := bup hb0 hbn
      obtain ⟨p1_0, p1_1, p1_f⟩ := opbox p1
      obtain ⟨p2_0, p2_1, p2_f⟩ := opbox p2
      obtain ⟨p4_0, p4_1, p4_2, p4_3, p4_f⟩ := rgbox p4
      obtain ⟨p5_0, p5_1, p5_2, p5_f⟩ := octbox p5
      obtain ⟨p3_0, p3_1, p3_2, p3_f⟩ := octbox p3
      go_wp2
      clear u_0 u_1 u_2 u_f p1_0 p1_1 p1_f p2_0 p2_1 p2_f p4_0 p4_1 p4_2 p4_3 p4_f p5_0 p5_1 p5_2 p5_f p3_0 p3_1 p3_2 p3_f
      generalize (w1.alloc (Obj.cells #[.int .i64 r0, .int .i64 r1, .bool false, .bool false] 49)).alloc (Obj.cells #[.int .i64 n, .bool false, .slice A m.length cap] 24) = w2 at *
      generalize w1.heap.size = g4 at *
      have hBz := hb0.size
      have s9 := hx.far3 (g := w.heap.size + 1 + 1 + 1) (v0 := .int .i64 n) (v1 := .bool false) (v2 := .slice A m.length cap) (by omega) p3 (by decide)
      rw [HU.out]
      have q9 := p3.set3 (v0 := .int .i64 n) (v1 := .bool false) (v2 := .slice A m.length cap)
      have hb9 := hb0.trans (below3 (W := w2) (g := w.heap.size + 1 + 1 + 1) (v0 := .int .i64 n) (v1 := .bool false) (v2 := .slice A m.length cap) (by omega) hb0.size)
      obtain ⟨z0, z1, z2, fz⟩ := octbox q9
      refine bodyPost_ret (v := .agg #[.int .i64 n, .bool false, .slice A m.length cap]) (by simp [results, Tryz.results124, go_sem, z0, z1, z2]) rfl ?_
      exact ⟨_, _, rfl, s9, hb9⟩
    · cases t4 : (r0 == bn)
      · have t4x := hidb t4
        replace HU : Hid (U = ⟨n, false, m⟩) := hid (by rw [HU.out, h2, h3]; simp [t4x])
        clear t4x t3x
        subst h2
        subst h3
        obtain ⟨u_0, u_1, u_2, u_f⟩ := octbox (p0.later (new1 w1 (Obj.cells #[.int .i64 r0, .int .i64 r1, .bool true, .bool false] 49)))
        obtain ⟨p4, p5, hbn, -⟩ := new_two w1 #[.int .i64 r0, .int .i64 r1, .bool true, .bool false] #[.int .i64 n, .bool false, .slice A m.length cap] 49 24
        replace p0 := p0.later hbn
        replace p1 := p1.later hbn
        replace p2 := p2.later hbn
        replace p3 := p3.later hbn
        replace hx := hx.later hbn (Nat.le_trans hB hb0.size)
        replace hb0 := bup hb0 hbn
        obtain ⟨p1_0, p1_1, p1_f⟩ := opbox p1
        obtain ⟨p2_0, p2_1, p2_f⟩ := opbox p2
        obtain ⟨p4_0, p4_1, p4_2, p4_3, p4_f⟩ := rgbox p4
        obtain ⟨p5_0, p5_1, p5_2, p5_f⟩ := octbox p5
        obtain ⟨p3_0, p3_1, p3_2, p3_f⟩ := octbox p3
        go_wp2
        clear u_0 u_1 u_2 u_f p1_0 p1_1 p1_f p2_0 p2_1 p2_f p4_0 p4_1 p4_2 p4_3 p4_f p5_0 p5_1 p5_2 p5_f p3_0 p3_1 p3_2 p3_f
        generalize (w1.alloc (Obj.cells #[.int .i64 r0, .int .i64 r1, .bool true, .bool false] 49)).alloc (Obj.cells #[.int .i64 n, .bool false, .slice A m.length cap] 24) = w2 at *
        generalize w1.heap.size = g4 at *
        have hBz := hb0.size
        have s9 := hx.far3 (g := w.heap.size + 1 + 1 + 1) (v0 := .int .i64 n) (v1 := .bool false) (v2 := .slice A m.length cap) (by omega) p3 (by decide)
        rw [HU.out]
        have q9 := p3.set3 (v0 := .int .i64 n) (v1 := .bool false) (v2 := .slice A m.length cap)
        have hb9 := hb0.trans (below3 (W := w2) (g := w.heap.size + 1 + 1 + 1) (v0 := .int .i64 n) (v1 := .bool false) (v2 := .slice A m.length cap) (by omega) hb0.size)
        obtain ⟨z0, z1, z2, fz⟩ := octbox q9
        refine bodyPost_ret (v := .agg #[.int .i64 n, .bool false, .slice A m.length cap]) (by simp [results, Tryz.results124, go_sem, z0, z1, z2]) rfl ?_
        exact ⟨_, _, rfl, s9, hb9⟩
      · have t4x := hidb t4
        replace HU : Hid (U = atMostO ⟨n, false, m⟩ bv bn (a : Int) an true) := hid (by rw [HU.out, h2, h3]; simp [t4x])
        clear t4x t3x
        subst h2
        subst h3
        obtain ⟨u_0, u_1, u_2, u_f⟩ := octbox (p0.later (new1 w1 (Obj.cells #[.int .i64 r0, .int .i64 r1, .bool true, .bool false] 49)))
        obtain ⟨p4, p5, hbn, -⟩ := new_two w1 #[.int .i64 r0, .int .i64 r1, .bool true, .bool false] #[.int .i64 n, .bool false, .slice A m.length cap] 49 24
        replace p0 := p0.later hbn
        replace p1 := p1.later hbn
        replace p2 := p2.later hbn
        replace p3 := p3.later hbn
        replace hx := hx.later hbn (Nat.le_trans hB hb0.size)
        replace hb0 := bup hb0 hbn
        obtain ⟨p1_0, p1_1, p1_f⟩ := opbox p1
        obtain ⟨p2_0, p2_1, p2_f⟩ := opbox p2
        obtain ⟨p4_0, p4_1, p4_2, p4_3, p4_f⟩ := rgbox p4
        obtain ⟨p5_0, p5_1, p5_2, p5_f⟩ := octbox p5
        go_wp2_with fail
        clear u_0 u_1 u_2 u_f p1_0 p1_1 p1_f p2_0 p2_1 p2_f p4_0 p4_1 p4_2 p4_3 p4_f p5_0 p5_1 p5_2 p5_f
        generalize (w1.alloc (Obj.cells #[.int .i64 r0, .int .i64 r1, .bool true, .bool false] 49)).alloc (Obj.cells #[.int .i64 n, .bool false, .slice A m.length cap] 24) = w2 at *
        generalize w1.heap.size = g4 at *
        have hB2 := Nat.le_trans hB hb0.size
        have HX := hid (atMost_ok n ⟨n, false, m⟩ HOK.out bv bn (a : Int) an true (by have := HA.out; omega) (by have := HA.out; omega) (by omega) ib ia A cap w2 (hx.rd hB2) hm)
        (try dsimp only at HX)
        (with_reducible refine HX.out.mono ?_)
        clear HX
        rintro e_w3 w3 ⟨A2, c2, rfl, al2, hb_w3⟩
        have sx2 := Sx.alias al2 hx hb_w3 hB2
        replace p0 := p0.later hb_w3
        replace p1 := p1.later hb_w3
        replace p2 := p2.later hb_w3
        replace p3 := p3.later hb_w3
        replace p4 := p4.later hb_w3
        replace p5 := p5.later hb_w3
        replace hx := hx.later hb_w3 (Nat.le_trans hB hb0.size)
        replace hb0 := bup hb0 hb_w3
        generalize atMostO ⟨n, false, m⟩ bv bn (a : Int) an true = q2 at *
        obtain ⟨p5_0, p5_1, p5_2, p5_f⟩ := octbox p5
        obtain ⟨p3_0, p3_1, p3_2, p3_f⟩ := octbox p3
        go_wp2
        clear p5_0 p5_1 p5_2 p5_f p3_0 p3_1 p3_2 p3_f
        have hlt5 := p3.lt
        have hlt6 := p5.lt
        have hlt7 := p4.lt
        replace hx := hx.far3 (g := g4 + 1) (v0 := .int .i64 q2.n) (v1 := .bool q2.e) (v2 := .slice A2 q2.m.length c2) (by omega) p5 (by decide)
        replace sx2 := sx2.far3 (g := g4 + 1) (v0 := .int .i64 q2.n) (v1 := .bool q2.e) (v2 := .slice A2 q2.m.length c2) (by omega) p5 (by decide)
        replace p0 := p0.far3 (g := g4 + 1) (v0 := .int .i64 q2.n) (v1 := .bool q2.e) (v2 := .slice A2 q2.m.length c2) (by omega)
        replace p1 := p1.far3 (g := g4 + 1) (v0 := .int .i64 q2.n) (v1 := .bool q2.e) (v2 := .slice A2 q2.m.length c2) (by omega)
        replace p2 := p2.far3 (g := g4 + 1) (v0 := .int .i64 q2.n) (v1 := .bool q2.e) (v2 := .slice A2 q2.m.length c2) (by omega)
        replace p3 := p3.far3 (g := g4 + 1) (v0 := .int .i64 q2.n) (v1 := .bool q2.e) (v2 := .slice A2 q2.m.length c2) (by omega)
        replace p4 := p4.far3 (g := g4 + 1) (v0 := .int .i64 q2.n) (v1 := .bool q2.e) (v2 := .slice A2 q2.m.length c2) (by omega)
        replace p5 := p5.set3 (v0 := .int .i64 q2.n) (v1 := .bool q2.e) (v2 := .slice A2 q2.m.length c2)
        replace hb0 := hb0.trans (below3 (W := w3) (g := g4 + 1) (v0 := .int .i64 q2.n) (v1 := .bool q2.e) (v2 := .slice A2 q2.m.length c2) (by omega) hb0.size)
        generalize ((w3.setCell ⟨g4 + 1, 0, none⟩ (.int .i64 q2.n)).setCell ⟨g4 + 1, 1, none⟩ (.bool q2.e)).setCell ⟨g4 + 1, 2, none⟩ (.slice A2 q2.m.length c2) = w4 at *
        have hBz := hb0.size
        have s9 := sx2.far3 (g := w.heap.size + 1 + 1 + 1) (v0 := .int .i64 q2.n) (v1 := .bool q2.e) (v2 := .slice A2 q2.m.length c2) (by omega) p3 (by decide)
        rw [HU.out]
        have q9 := p3.set3 (v0 := .int .i64 q2.n) (v1 := .bool q2.e) (v2 := .slice A2 q2.m.length c2)
        have hb9 := hb0.trans (below3 (W := w4) (g := w.heap.size + 1 + 1 + 1) (v0 := .int .i64 q2.n) (v1 := .bool q2.e) (v2 := .slice A2 q2.m.length c2) (by omega) hb0.size)
        obtain ⟨z0, z1, z2, fz⟩ := octbox q9
        refine bodyPost_ret (v := .agg #[.int .i64 q2.n, .bool q2.e, .slice A2 q2.m.length c2]) (by simp [results, Tryz.results124, go_sem, z0, z1, z2]) rfl ?_
        exact ⟨_, _, rfl, s9, hb9⟩
  · cases t3 : (r1 == bn)
    · have t3x := hidb t3
      cases h2 : r2
      · replace HU : Hid (U = ⟨n, false, m⟩) := hid (by rw [HU.out, h2]; simp [h3, t3x])
        subst h2
        subst h3
        obtain ⟨u_0, u_1, u_2, u_f⟩ := octbox (p0.later (new1 w1 (Obj.cells #[.int .i64 r0, .int .i64 r1, .bool false, .bool true] 49)))
        obtain ⟨p4, p5, hbn, -⟩ := new_two w1 #[.int .i64 r0, .int .i64 r1, .bool false, .bool true] #[.int .i64 n, .bool false, .slice A m.length cap] 49 24
        replace p0 := p0.later hbn
        replace p1 := p1.later hbn
        replace p2 := p2.later hbn
        replace p3 := p3.later hbn
        replace hx := hx.later hbn (Nat.le_trans hB hb0.size)
        replace hb0 := bup hb0 hbn
        obtain ⟨p1_0, p1_1, p1_f⟩ := opbox p1
        obtain ⟨p2_0, p2_1, p2_f⟩ := opbox p2
        obtain ⟨p4_0, p4_1, p4_2, p4_3, p4_f⟩ := rgbox p4
        obtain ⟨p5_0, p5_1, p5_2, p5_f⟩ := octbox p5
        obtain ⟨p3_0, p3_1, p3_2, p3_f⟩ := octbox p3
        go_wp2
        clear u_0 u_1 u_2 u_f p1_0 p1_1 p1_f p2_0 p2_1 p2_f p4_0 p4_1 p4_2 p4_3 p4_f p5_0 p5_1 p5_2 p5_f p3_0 p3_1 p3_2 p3_f
        generalize (w1.alloc (Obj.cells #[.int .i64 r0, .int .i64 r1, .bool false, .bool true] 49)).alloc (Obj.cells #[.int .i64 n, .bool false, .slice A m.length cap] 24) = w2 at *
        generalize w1.heap.size = g4 at *
        have hBz := hb0.size
        have s9 := hx.far3 (g := w.heap.size + 1 + 1 + 1) (v0 := .int .i64 n) (v1 := .bool false) (v2 := .slice A m.length cap) (by omega) p3 (by decide)
        rw [HU.out]
        have q9 := p3.set3 (v0 := .int .i64 n) (v1 := .bool false) (v2 := .slice A m.length cap)
        have hb9 := hb0.trans (below3 (W := w2) (g := w.heap.size + 1 + 1 + 1) (v0 := .int .i64 n) (v1 := .bool false) (v2 := .slice A m.length cap) (by omega) hb0.size)
        obtain ⟨z0, z1, z2, fz⟩ := octbox q9
        refine bodyPost_ret (v := .agg #[.int .i64 n, .bool false, .slice A m.length cap]) (by simp [results, Tryz.results124, go_sem, z0, z1, z2]) rfl ?_
        exact ⟨_, _, rfl, s9, hb9⟩
      · cases t4 : (r0 == bn)
        · have t4x := hidb t4
          replace HU : Hid (U = ⟨n, false, m⟩) := hid (by rw [HU.out, h2, h3]; simp [t3x, t4x])
          clear t4x t3x
          subst h2
          subst h3
          obtain ⟨u_0, u_1, u_2, u_f⟩ := octbox (p0.later (new1 w1 (Obj.cells #[.int .i64 r0, .int .i64 r1, .bool true, .bool true] 49)))
          obtain ⟨p4, p5, hbn, -⟩ := new_two w1 #[.int .i64 r0, .int .i64 r1, .bool true, .bool true] #[.int .i64 n, .bool false, .slice A m.length cap] 49 24
          replace p0 := p0.later hbn
          replace p1 := p1.later hbn
          replace p2 := p2.later hbn
          replace p3 := p3.later hbn
          replace hx := hx.later hbn (Nat.le_trans hB hb0.size)
          replace hb0 := bup hb0 hbn
          obtain ⟨p1_0, p1_1, p1_f⟩ := opbox p1
          obtain ⟨p2_0, p2_1, p2_f⟩ := opbox p2
          obtain ⟨p4_0, p4_1, p4_2, p4_3, p4_f⟩ := rgbox p4
          obtain ⟨p5_0, p5_1, p5_2, p5_f⟩ := octbox p5
          obtain ⟨p3_0, p3_1, p3_2, p3_f⟩ := octbox p3
          go_wp2
          clear u_0 u_1 u_2 u_f p1_0 p1_1 p1_f p2_0 p2_1 p2_f p4_0 p4_1 p4_2 p4_3 p4_f p5_0 p5_1 p5_2 p5_f p3_0 p3_1 p3_2 p3_f
          generalize (w1.alloc (Obj.cells #[.int .i64 r0, .int .i64 r1, .bool true, .bool true] 49)).alloc (Obj.cells #[.int .i64 n, .bool false, .slice A m.length cap] 24) = w2 at *
          generalize w1.heap.size = g4 at *
          have hBz := hb0.size
          have s9 := hx.far3 (g := w.heap.size + 1 + 1 + 1) (v0 := .int .i64 n) (v1 := .bool false) (v2 := .slice A m.length cap) (by omega) p3 (by decide)
          rw [HU.out]
          have q9 := p3.set3 (v0 := .int .i64 n) (v1 := .bool false) (v2 := .slice A m.length cap)
          have hb9 := hb0.trans (below3 (W := w2) (g := w.heap.size + 1 + 1 + 1) (v0 := .int .i64 n) (v1 := .bool false) (v2 := .slice A m.length cap) (by omega) hb0.size)
          obtain ⟨z0, z1, z2, fz⟩ := octbox q9
          refine bodyPost_ret (v := .agg #[.int .i64 n, .bool false, .slice A m.length cap]) (by simp [results, Tryz.results124, go_sem, z0, z1, z2]) rfl ?_
          exact ⟨_, _, rfl, s9, hb9⟩
        · have t4x := hidb t4
          replace HU : Hid (U = atMostO ⟨n, false, m⟩ bv bn (a : Int) an true) := hid (by rw [HU.out, h2, h3]; simp [t3x, t4x])
          clear t4x t3x
          subst h2
          subst h3
          obtain ⟨u_0, u_1, u_2, u_f⟩ := octbox (p0.later (new1 w1 (Obj.cells #[.int .i64 r0, .int .i64 r1, .bool true, .bool true] 49)))
          obtain ⟨p4, p5, hbn, -⟩ := new_two w1 #[.int .i64 r0, .int .i64 r1, .bool true, .bool true] #[.int .i64 n, .bool false, .slice A m.length cap] 49 24
          replace p0 := p0.later hbn
          replace p1 := p1.later hbn
          replace p2 := p2.later hbn
          replace p3 := p3.later hbn
          replace hx := hx.later hbn (Nat.le_trans hB hb0.size)
          replace hb0 := bup hb0 hbn
          obtain ⟨p1_0, p1_1, p1_f⟩ := opbox p1
          obtain ⟨p2_0, p2_1, p2_f⟩ := opbox p2
          obtain ⟨p4_0, p4_1, p4_2, p4_3, p4_f⟩ := rgbox p4
          obtain ⟨p5_0, p5_1, p5_2, p5_f⟩ := octbox p5
          go_wp2_with fail
          clear u_0 u_1 u_2 u_f p1_0 p1_1 p1_f p2_0 p2_1 p2_f p4_0 p4_1 p4_2 p4_3 p4_f p5_0 p5_1 p5_2 p5_f
          generalize (w1.alloc (Obj.cells #[.int .i64 r0, .int .i64 r1, .bool true, .bool true] 49)).alloc (Obj.cells #[.int .i64 n, .bool false, .slice A m.length cap] 24) = w2 at *
          generalize w1.heap.size = g4 at *
          have hB2 := Nat.le_trans hB hb0.size
          have HX := hid (atMost_ok n ⟨n, false, m⟩ HOK.out bv bn (a : Int) an true (by have := HA.out; omega) (by have := HA.out; omega) (by omega) ib ia A cap w2 (hx.rd hB2) hm)
          (try dsimp only at HX)
          (with_reducible refine HX.out.mono ?_)
          clear HX
          rintro e_w3 w3 ⟨A2, c2, rfl, al2, hb_w3⟩
          have sx2 := Sx.alias al2 hx hb_w3 hB2
          replace p0 := p0.later hb_w3
          replace p1 := p1.later hb_w3
          replace p2 := p2.later hb_w3
          replace p3 := p3.later hb_w3
          replace p4 := p4.later hb_w3
          replace p5 := p5.later hb_w3
          replace hx := hx.later hb_w3 (Nat.le_trans hB hb0.size)
          replace hb0 := bup hb0 hb_w3
          generalize atMostO ⟨n, false, m⟩ bv bn (a : Int) an true = q2 at *
          obtain ⟨p5_0, p5_1, p5_2, p5_f⟩ := octbox p5
          obtain ⟨p3_0, p3_1, p3_2, p3_f⟩ := octbox p3
          go_wp2
          clear p5_0 p5_1 p5_2 p5_f p3_0 p3_1 p3_2 p3_f
          have hlt5 := p3.lt
          have hlt6 := p5.lt
          have hlt7 := p4.lt
          replace hx := hx.far3 (g := g4 + 1) (v0 := .int .i64 q2.n) (v1 := .bool q2.e) (v2 := .slice A2 q2.m.length c2) (by omega) p5 (by decide)
          replace sx2 := sx2.far3 (g := g4 + 1) (v0 := .int .i64 q2.n) (v1 := .bool q2.e) (v2 := .slice A2 q2.m.length c2) (by omega) p5 (by decide)
          replace p0 := p0.far3 (g := g4 + 1) (v0 := .int .i64 q2.n) (v1 := .bool q2.e) (v2 := .slice A2 q2.m.length c2) (by omega)
          replace p1 := p1.far3 (g := g4 + 1) (v0 := .int .i64 q2.n) (v1 := .bool q2.e) (v2 := .slice A2 q2.m.length c2) (by omega)
          replace p2 := p2.far3 (g := g4 + 1) (v0 := .int .i64 q2.n) (v1 := .bool q2.e) (v2 := .slice A2 q2.m.length c2) (by omega)
          replace p3 := p3.far3 (g := g4 + 1) (v0 := .int .i64 q2.n) (v1 := .bool q2.e) (v2 := .slice A2 q2.m.length c2) (by omega)
          replace p4 := p4.far3 (g := g4 + 1) (v0 := .int .i64 q2.n) (v1 := .bool q2.e) (v2 := .slice A2 q2.m.length c2) (by omega)
          replace p5 := p5.set3 (v0 := .int .i64 q2.n) (v1 := .bool q2.e) (v2 := .slice A2 q2.m.length c2)
          replace hb0 := hb0.trans (below3 (W := w3) (g := g4 + 1) (v0 := .int .i64 q2.n) (v1 := .bool q2.e) (v2 := .slice A2 q2.m.length c2) (by omega) hb0.size)
          generalize ((w3.setCell ⟨g4 + 1, 0, none⟩ (.int .i64 q2.n)).setCell ⟨g4 + 1, 1, none⟩ (.bool q2.e)).setCell ⟨g4 + 1, 2, none⟩ (.slice A2 q2.m.length c2) = w4 at *
          have hBz := hb0.size
          have s9 := sx2.far3 (g := w.heap.size + 1 + 1 + 1) (v0 := .int .i64 q2.n) (v1 := .bool q2.e) (v2 := .slice A2 q2.m.length c2) (by omega) p3 (by decide)
          rw [HU.out]
          have q9 := p3.set3 (v0 := .int .i64 q2.n) (v1 := .bool q2.e) (v2 := .slice A2 q2.m.length c2)
          have hb9 := hb0.trans (below3 (W := w4) (g := w.heap.size + 1 + 1 + 1) (v0 := .int .i64 q2.n) (v1 := .bool q2.e) (v2 := .slice A2 q2.m.length c2) (by omega) hb0.size)
          obtain ⟨z0, z1, z2, fz⟩ := octbox q9
          refine bodyPost_ret (v := .agg #[.int .i64 q2.n, .bool q2.e, .slice A2 q2.m.length c2]) (by simp [results, Tryz.results124, go_sem, z0, z1, z2]) rfl ?_
          exact ⟨_, _, rfl, s9, hb9⟩
    · have t3x := hidb t3
      cases h2 : r2
      · replace HU : Hid (U = atMostO ⟨n, false, m⟩ (a : Int) an bv bn true) := hid (by rw [HU.out, h2]; simp [h3, t3x])
        subst h2
        subst h3
        obtain ⟨u_0, u_1, u_2, u_f⟩ := octbox (p0.later (new1 w1 (Obj.cells #[.int .i64 r0, .int .i64 r1, .bool false, .bool true] 49)))
        obtain ⟨p4, p5, hbn, -⟩ := new_two w1 #[.int .i64 r0, .int .i64 r1, .bool false, .bool true] #[.int .i64 n, .bool false, .slice A m.length cap] 49 24
        replace p0 := p0.later hbn
        replace p1 := p1.later hbn
        replace p2 := p2.later hbn
        replace p3 := p3.later hbn
        replace hx := hx.later hbn (Nat.le_trans hB hb0.size)
        replace hb0 := bup hb0 hbn
        obtain ⟨p1_0, p1_1, p1_f⟩ := opbox p1
        obtain ⟨p2_0, p2_1, p2_f⟩ := opbox p2
        obtain ⟨p4_0, p4_1, p4_2, p4_3, p4_f⟩ := rgbox p4
        obtain ⟨p5_0, p5_1, p5_2, p5_f⟩ := octbox p5
        go_wp2_with fail
        clear u_0 u_1 u_2 u_f p1_0 p1_1 p1_f p2_0 p2_1 p2_f p4_0 p4_1 p4_2 p4_3 p4_f p5_0 p5_1 p5_2 p5_f
        generalize (w1.alloc (Obj.cells #[.int .i64 r0, .int .i64 r1, .bool false, .bool true] 49)).alloc (Obj.cells #[.int .i64 n, .bool false, .slice A m.length cap] 24) = w2 at *
        generalize w1.heap.size = g4 at *
        have hB1 := Nat.le_trans hB hb0.size
        have HX := hid (atMost_ok n ⟨n, false, m⟩ HOK.out (a : Int) an bv bn true (by have := HA.out; omega) (by have := HA.out; omega) (by omega) ia ib A cap w2 (hx.rd hB1) hm)
        (try dsimp only at HX)
        (with_reducible refine HX.out.mono ?_)
        clear HX
        rintro e_w3 w3 ⟨A1, c1, rfl, al1, hb_w3⟩
        have sx1 := Sx.alias al1 hx hb_w3 hB1
        replace p0 := p0.later hb_w3
        replace p1 := p1.later hb_w3
        replace p2 := p2.later hb_w3
        replace p3 := p3.later hb_w3
        replace p4 := p4.later hb_w3
        replace p5 := p5.later hb_w3
        replace hx := hx.later hb_w3 (Nat.le_trans hB hb0.size)
        replace hb0 := bup hb0 hb_w3
        have ok1 := OkO.atMost HOK.out (av := (a : Int)) (an := an) (bv := bv) (bn := bn) (s := true) (by have := HA.out; omega) (by have := HA.out; omega) (by omega)
        have hm1 : (atMostO ⟨n, false, m⟩ (a : Int) an bv bn true).m.length ≤ 17592186044416 := OkO.small ok1
        generalize atMostO ⟨n, false, m⟩ (a : Int) an bv bn true = q1 at *
        obtain ⟨p5_0, p5_1, p5_2, p5_f⟩ := octbox p5
        obtain ⟨p4_0, p4_1, p4_2, p4_3, p4_f⟩ := rgbox p4
        obtain ⟨p3_0, p3_1, p3_2, p3_f⟩ := octbox p3
        obtain ⟨p2_0, p2_1, p2_f⟩ := opbox p2
        go_wp2
        clear p5_0 p5_1 p5_2 p5_f p4_0 p4_1 p4_2 p4_3 p4_f p3_0 p3_1 p3_2 p3_f p2_0 p2_1 p2_f
        have hlt := p3.lt
        have hlt4 := p4.lt
        replace hx := hx.far3 (g := g4 + 1) (v0 := .int .i64 q1.n) (v1 := .bool q1.e) (v2 := .slice A1 q1.m.length c1) (by omega) p5 (by decide)
        replace sx1 := sx1.far3 (g := g4 + 1) (v0 := .int .i64 q1.n) (v1 := .bool q1.e) (v2 := .slice A1 q1.m.length c1) (by omega) p5 (by decide)
        replace p0 := p0.far3 (g := g4 + 1) (v0 := .int .i64 q1.n) (v1 := .bool q1.e) (v2 := .slice A1 q1.m.length c1) (by omega)
        replace p1 := p1.far3 (g := g4 + 1) (v0 := .int .i64 q1.n) (v1 := .bool q1.e) (v2 := .slice A1 q1.m.length c1) (by omega)
        replace p2 := p2.far3 (g := g4 + 1) (v0 := .int .i64 q1.n) (v1 := .bool q1.e) (v2 := .slice A1 q1.m.length c1) (by omega)
        replace p3 := p3.far3 (g := g4 + 1) (v0 := .int .i64 q1.n) (v1 := .bool q1.e) (v2 := .slice A1 q1.m.length c1) (by omega)
        replace p4 := p4.far3 (g := g4 + 1) (v0 := .int .i64 q1.n) (v1 := .bool q1.e) (v2 := .slice A1 q1.m.length c1) (by omega)
        replace p5 := p5.set3 (v0 := .int .i64 q1.n) (v1 := .bool q1.e) (v2 := .slice A1 q1.m.length c1)
        replace hb0 := hb0.trans (below3 (W := w3) (g := g4 + 1) (v0 := .int .i64 q1.n) (v1 := .bool q1.e) (v2 := .slice A1 q1.m.length c1) (by omega) hb0.size)
        generalize ((w3.setCell ⟨g4 + 1, 0, none⟩ (.int .i64 q1.n)).setCell ⟨g4 + 1, 1, none⟩ (.bool q1.e)).setCell ⟨g4 + 1, 2, none⟩ (.slice A1 q1.m.length c1) = w4 at *
        have hBz := hb0.size
        have s9 := sx1.far3 (g := w.heap.size + 1 + 1 + 1) (v0 := .int .i64 q1.n) (v1 := .bool q1.e) (v2 := .slice A1 q1.m.length c1) (by omega) p3 (by decide)
        rw [HU.out]
        have q9 := p3.set3 (v0 := .int .i64 q1.n) (v1 := .bool q1.e) (v2 := .slice A1 q1.m.length c1)
        have hb9 := hb0.trans (below3 (W := w4) (g := w.heap.size + 1 + 1 + 1) (v0 := .int .i64 q1.n) (v1 := .bool q1.e) (v2 := .slice A1 q1.m.length c1) (by omega) hb0.size)
        obtain ⟨z0, z1, z2, fz⟩ := octbox q9
        refine bodyPost_ret (v := .agg #[.int .i64 q1.n, .bool q1.e, .slice A1 q1.m.length c1]) (by simp [results, Tryz.results124, go_sem, z0, z1, z2]) rfl ?_
        exact ⟨_, _, rfl, s9, hb9⟩
      · cases t4 : (r0 == bn)
        · have t4x := hidb t4
          replace HU : Hid (U = atMostO ⟨n, false, m⟩ (a : Int) an bv bn true) := hid (by rw [HU.out, h2, h3]; simp [t3x, t4x])
          clear t4x t3x
          subst h2
          subst h3
          obtain ⟨u_0, u_1, u_2, u_f⟩ := octbox (p0.later (new1 w1 (Obj.cells #[.int .i64 r0, .int .i64 r1, .bool true, .bool true] 49)))
          obtain ⟨p4, p5, hbn, -⟩ := new_two w1 #[.int .i64 r0, .int .i64 r1, .bool true, .bool true] #[.int .i64 n, .bool false, .slice A m.length cap] 49 24
          replace p0 := p0.later hbn
          replace p1 := p1.later hbn
          replace p2 := p2.later hbn
          replace p3 := p3.later hbn
          replace hx := hx.later hbn (Nat.le_trans hB hb0.size)
          replace hb0 := bup hb0 hbn
          obtain ⟨p1_0, p1_1, p1_f⟩ := opbox p1
          obtain ⟨p2_0, p2_1, p2_f⟩ := opbox p2
          obtain ⟨p4_0, p4_1, p4_2, p4_3, p4_f⟩ := rgbox p4
          obtain ⟨p5_0, p5_1, p5_2, p5_f⟩ := octbox p5
          go_wp2_with fail
          clear u_0 u_1 u_2 u_f p1_0 p1_1 p1_f p2_0 p2_1 p2_f p4_0 p4_1 p4_2 p4_3 p4_f p5_0 p5_1 p5_2 p5_f
          generalize (w1.alloc (Obj.cells #[.int .i64 r0, .int .i64 r1, .bool true, .bool true] 49)).alloc (Obj.cells #[.int .i64 n, .bool false, .slice A m.length cap] 24) = w2 at *
          generalize w1.heap.size = g4 at *
          have hB1 := Nat.le_trans hB hb0.size
          have HX := hid (atMost_ok n ⟨n, false, m⟩ HOK.out (a : Int) an bv bn true (by have := HA.out; omega) (by have := HA.out; omega) (by omega) ia ib A cap w2 (hx.rd hB1) hm)
          (try dsimp only at HX)
          (with_reducible refine HX.out.mono ?_)
          clear HX
          rintro e_w3 w3 ⟨A1, c1, rfl, al1, hb_w3⟩
          have sx1 := Sx.alias al1 hx hb_w3 hB1
          replace p0 := p0.later hb_w3
          replace p1 := p1.later hb_w3
          replace p2 := p2.later hb_w3
          replace p3 := p3.later hb_w3
          replace p4 := p4.later hb_w3
          replace p5 := p5.later hb_w3
          replace hx := hx.later hb_w3 (Nat.le_trans hB hb0.size)
          replace hb0 := bup hb0 hb_w3
          have ok1 := OkO.atMost HOK.out (av := (a : Int)) (an := an) (bv := bv) (bn := bn) (s := true) (by have := HA.out; omega) (by have := HA.out; omega) (by omega)
          have hm1 : (atMostO ⟨n, false, m⟩ (a : Int) an bv bn true).m.length ≤ 17592186044416 := OkO.small ok1
          generalize atMostO ⟨n, false, m⟩ (a : Int) an bv bn true = q1 at *
          obtain ⟨p5_0, p5_1, p5_2, p5_f⟩ := octbox p5
          obtain ⟨p4_0, p4_1, p4_2, p4_3, p4_f⟩ := rgbox p4
          obtain ⟨p3_0, p3_1, p3_2, p3_f⟩ := octbox p3
          obtain ⟨p2_0, p2_1, p2_f⟩ := opbox p2
          go_wp2
          clear p5_0 p5_1 p5_2 p5_f p4_0 p4_1 p4_2 p4_3 p4_f p3_0 p3_1 p3_2 p3_f p2_0 p2_1 p2_f
          have hlt := p3.lt
          have hlt4 := p4.lt
          replace hx := hx.far3 (g := g4 + 1) (v0 := .int .i64 q1.n) (v1 := .bool q1.e) (v2 := .slice A1 q1.m.length c1) (by omega) p5 (by decide)
          replace sx1 := sx1.far3 (g := g4 + 1) (v0 := .int .i64 q1.n) (v1 := .bool q1.e) (v2 := .slice A1 q1.m.length c1) (by omega) p5 (by decide)
          replace p0 := p0.far3 (g := g4 + 1) (v0 := .int .i64 q1.n) (v1 := .bool q1.e) (v2 := .slice A1 q1.m.length c1) (by omega)
          replace p1 := p1.far3 (g := g4 + 1) (v0 := .int .i64 q1.n) (v1 := .bool q1.e) (v2 := .slice A1 q1.m.length c1) (by omega)
          replace p2 := p2.far3 (g := g4 + 1) (v0 := .int .i64 q1.n) (v1 := .bool q1.e) (v2 := .slice A1 q1.m.length c1) (by omega)
          replace p3 := p3.far3 (g := g4 + 1) (v0 := .int .i64 q1.n) (v1 := .bool q1.e) (v2 := .slice A1 q1.m.length c1) (by omega)
          replace p4 := p4.far3 (g := g4 + 1) (v0 := .int .i64 q1.n) (v1 := .bool q1.e) (v2 := .slice A1 q1.m.length c1) (by omega)
          replace p5 := p5.set3 (v0 := .int .i64 q1.n) (v1 := .bool q1.e) (v2 := .slice A1 q1.m.length c1)
          replace hb0 := hb0.trans (below3 (W := w3) (g := g4 + 1) (v0 := .int .i64 q1.n) (v1 := .bool q1.e) (v2 := .slice A1 q1.m.length c1) (by omega) hb0.size)
          generalize ((w3.setCell ⟨g4 + 1, 0, none⟩ (.int .i64 q1.n)).setCell ⟨g4 + 1, 1, none⟩ (.bool q1.e)).setCell ⟨g4 + 1, 2, none⟩ (.slice A1 q1.m.length c1) = w4 at *
          have hBz := hb0.size
          have s9 := sx1.far3 (g := w.heap.size + 1 + 1 + 1) (v0 := .int .i64 q1.n) (v1 := .bool q1.e) (v2 := .slice A1 q1.m.length c1) (by omega) p3 (by decide)
          rw [HU.out]
          have q9 := p3.set3 (v0 := .int .i64 q1.n) (v1 := .bool q1.e) (v2 := .slice A1 q1.m.length c1)
          have hb9 := hb0.trans (below3 (W := w4) (g := w.heap.size + 1 + 1 + 1) (v0 := .int .i64 q1.n) (v1 := .bool q1.e) (v2 := .slice A1 q1.m.length c1) (by omega) hb0.size)
          obtain ⟨z0, z1, z2, fz⟩ := octbox q9
          refine bodyPost_ret (v := .agg #[.int .i64 q1.n, .bool q1.e, .slice A1 q1.m.length c1]) (by simp [results, Tryz.results124, go_sem, z0, z1, z2]) rfl ?_
          exact ⟨_, _, rfl, s9, hb9⟩
        · have t4x := hidb t4
          replace HU : Hid (U = atMostO (atMostO ⟨n, false, m⟩ (a : Int) an bv bn true) bv bn (a : Int) an true) := hid (by rw [HU.out, h2, h3]; simp [t3x, t4x])
          clear t4x t3x
          subst h2
          subst h3
          obtain ⟨u_0, u_1, u_2, u_f⟩ := octbox (p0.later (new1 w1 (Obj.cells #[.int .i64 r0, .int .i64 r1, .bool true, .bool true] 49)))
          obtain ⟨p4, p5, hbn, -⟩ := new_two w1 #[.int .i64 r0, .int .i64 r1, .bool true, .bool true] #[.int .i64 n, .bool false, .slice A m.length cap] 49 24
          replace p0 := p0.later hbn
          replace p1 := p1.later hbn
          replace p2 := p2.later hbn
          replace p3 := p3.later hbn
          replace hx := hx.later hbn (Nat.le_trans hB hb0.size)
          replace hb0 := bup hb0 hbn
          obtain ⟨p1_0, p1_1, p1_f⟩ := opbox p1
          obtain ⟨p2_0, p2_1, p2_f⟩ := opbox p2
          obtain ⟨p4_0, p4_1, p4_2, p4_3, p4_f⟩ := rgbox p4
          obtain ⟨p5_0, p5_1, p5_2, p5_f⟩ := octbox p5
          go_wp2_with fail
          clear u_0 u_1 u_2 u_f p1_0 p1_1 p1_f p2_0 p2_1 p2_f p4_0 p4_1 p4_2 p4_3 p4_f p5_0 p5_1 p5_2 p5_f
          generalize (w1.alloc (Obj.cells #[.int .i64 r0, .int .i64 r1, .bool true, .bool true] 49)).alloc (Obj.cells #[.int .i64 n, .bool false, .slice A m.length cap] 24) = w2 at *
          generalize w1.heap.size = g4 at *
          have hB1 := Nat.le_trans hB hb0.size
          have HX := hid (atMost_ok n ⟨n, false, m⟩ HOK.out (a : Int) an bv bn true (by have := HA.out; omega) (by have := HA.out; omega) (by omega) ia ib A cap w2 (hx.rd hB1) hm)
          (try dsimp only at HX)
          (with_reducible refine HX.out.mono ?_)
          clear HX
          rintro e_w3 w3 ⟨A1, c1, rfl, al1, hb_w3⟩
          have sx1 := Sx.alias al1 hx hb_w3 hB1
          replace p0 := p0.later hb_w3
          replace p1 := p1.later hb_w3
          replace p2 := p2.later hb_w3
          replace p3 := p3.later hb_w3
          replace p4 := p4.later hb_w3
          replace p5 := p5.later hb_w3
          replace hx := hx.later hb_w3 (Nat.le_trans hB hb0.size)
          replace hb0 := bup hb0 hb_w3
          have ok1 := OkO.atMost HOK.out (av := (a : Int)) (an := an) (bv := bv) (bn := bn) (s := true) (by have := HA.out; omega) (by have := HA.out; omega) (by omega)
          have hm1 : (atMostO ⟨n, false, m⟩ (a : Int) an bv bn true).m.length ≤ 17592186044416 := OkO.small ok1
          generalize atMostO ⟨n, false, m⟩ (a : Int) an bv bn true = q1 at *
          obtain ⟨p5_0, p5_1, p5_2, p5_f⟩ := octbox p5
          obtain ⟨p1_0, p1_1, p1_f⟩ := opbox p1
          obtain ⟨p2_0, p2_1, p2_f⟩ := opbox p2
          obtain ⟨p4_0, p4_1, p4_2, p4_3, p4_f⟩ := rgbox p4
          go_wp2_with fail
          clear p5_0 p5_1 p5_2 p5_f p1_0 p1_1 p1_f p2_0 p2_1 p2_f p4_0 p4_1 p4_2 p4_3 p4_f
          have hlt := p3.lt
          have hlt4 := p4.lt
          replace hx := hx.far3 (g := g4 + 1) (v0 := .int .i64 q1.n) (v1 := .bool q1.e) (v2 := .slice A1 q1.m.length c1) (by omega) p5 (by decide)
          replace sx1 := sx1.far3 (g := g4 + 1) (v0 := .int .i64 q1.n) (v1 := .bool q1.e) (v2 := .slice A1 q1.m.length c1) (by omega) p5 (by decide)
          replace p0 := p0.far3 (g := g4 + 1) (v0 := .int .i64 q1.n) (v1 := .bool q1.e) (v2 := .slice A1 q1.m.length c1) (by omega)
          replace p1 := p1.far3 (g := g4 + 1) (v0 := .int .i64 q1.n) (v1 := .bool q1.e) (v2 := .slice A1 q1.m.length c1) (by omega)
          replace p2 := p2.far3 (g := g4 + 1) (v0 := .int .i64 q1.n) (v1 := .bool q1.e) (v2 := .slice A1 q1.m.length c1) (by omega)
          replace p3 := p3.far3 (g := g4 + 1) (v0 := .int .i64 q1.n) (v1 := .bool q1.e) (v2 := .slice A1 q1.m.length c1) (by omega)
          replace p4 := p4.far3 (g := g4 + 1) (v0 := .int .i64 q1.n) (v1 := .bool q1.e) (v2 := .slice A1 q1.m.length c1) (by omega)
          replace p5 := p5.set3 (v0 := .int .i64 q1.n) (v1 := .bool q1.e) (v2 := .slice A1 q1.m.length c1)
          replace hb0 := hb0.trans (below3 (W := w3) (g := g4 + 1) (v0 := .int .i64 q1.n) (v1 := .bool q1.e) (v2 := .slice A1 q1.m.length c1) (by omega) hb0.size)
          generalize ((w3.setCell ⟨g4 + 1, 0, none⟩ (.int .i64 q1.n)).setCell ⟨g4 + 1, 1, none⟩ (.bool q1.e)).setCell ⟨g4 + 1, 2, none⟩ (.slice A1 q1.m.length c1) = w4 at *
          have hB2 := Nat.le_trans hB hb0.size
          have HX := hid (atMost_ok n q1 ok1 bv bn (a : Int) an true (by have := HA.out; omega) (by have := HA.out; omega) (by omega) ib ia A1 c1 w4 (sx1.rd hB2) hm1)
          (try dsimp only at HX)
          (with_reducible refine HX.out.mono ?_)
          clear HX
          rintro e_w5 w5 ⟨A2, c2, rfl, al2, hb_w5⟩
          have sx2 := Sx.alias al2 sx1 hb_w5 hB2
          replace p0 := p0.later hb_w5
          replace p1 := p1.later hb_w5
          replace p2 := p2.later hb_w5
          replace p3 := p3.later hb_w5
          replace p4 := p4.later hb_w5
          replace p5 := p5.later hb_w5
          replace hx := hx.later hb_w5 (Nat.le_trans hB hb0.size)
          replace sx1 := sx1.later hb_w5 (Nat.le_trans hB hb0.size)
          replace hb0 := bup hb0 hb_w5
          generalize atMostO q1 bv bn (a : Int) an true = q2 at *
          obtain ⟨p5_0, p5_1, p5_2, p5_f⟩ := octbox p5
          obtain ⟨p3_0, p3_1, p3_2, p3_f⟩ := octbox p3
          go_wp2
          clear p5_0 p5_1 p5_2 p5_f p3_0 p3_1 p3_2 p3_f
          have hlt5 := p3.lt
          have hlt6 := p5.lt
          have hlt7 := p4.lt
          replace hx := hx.far3 (g := g4 + 1) (v0 := .int .i64 q2.n) (v1 := .bool q2.e) (v2 := .slice A2 q2.m.length c2) (by omega) p5 (by decide)
          replace sx1 := sx1.far3 (g := g4 + 1) (v0 := .int .i64 q2.n) (v1 := .bool q2.e) (v2 := .slice A2 q2.m.length c2) (by omega) p5 (by decide)
          replace sx2 := sx2.far3 (g := g4 + 1) (v0 := .int .i64 q2.n) (v1 := .bool q2.e) (v2 := .slice A2 q2.m.length c2) (by omega) p5 (by decide)
          replace p0 := p0.far3 (g := g4 + 1) (v0 := .int .i64 q2.n) (v1 := .bool q2.e) (v2 := .slice A2 q2.m.length c2) (by omega)
          replace p1 := p1.far3 (g := g4 + 1) (v0 := .int .i64 q2.n) (v1 := .bool q2.e) (v2 := .slice A2 q2.m.length c2) (by omega)
          replace p2 := p2.far3 (g := g4 + 1) (v0 := .int .i64 q2.n) (v1 := .bool q2.e) (v2 := .slice A2 q2.m.length c2) (by omega)
          replace p3 := p3.far3 (g := g4 + 1) (v0 := .int .i64 q2.n) (v1 := .bool q2.e) (v2 := .slice A2 q2.m.length c2) (by omega)
          replace p4 := p4.far3 (g := g4 + 1) (v0 := .int .i64 q2.n) (v1 := .bool q2.e) (v2 := .slice A2 q2.m.length c2) (by omega)
          replace p5 := p5.set3 (v0 := .int .i64 q2.n) (v1 := .bool q2.e) (v2 := .slice A2 q2.m.length c2)
          replace hb0 := hb0.trans (below3 (W := w5) (g := g4 + 1) (v0 := .int .i64 q2.n) (v1 := .bool q2.e) (v2 := .slice A2 q2.m.length c2) (by omega) hb0.size)
          generalize ((w5.setCell ⟨g4 + 1, 0, none⟩ (.int .i64 q2.n)).setCell ⟨g4 + 1, 1, none⟩ (.bool q2.e)).setCell ⟨g4 + 1, 2, none⟩ (.slice A2 q2.m.length c2) = w6 at *
          have hBz := hb0.size
          have s9 := sx2.far3 (g := w.heap.size + 1 + 1 + 1) (v0 := .int .i64 q2.n) (v1 := .bool q2.e) (v2 := .slice A2 q2.m.length c2) (by omega) p3 (by decide)
          rw [HU.out]
          have q9 := p3.set3 (v0 := .int .i64 q2.n) (v1 := .bool q2.e) (v2 := .slice A2 q2.m.length c2)
          have hb9 := hb0.trans (below3 (W := w6) (g := w.heap.size + 1 + 1 + 1) (v0 := .int .i64 q2.n) (v1 := .bool q2.e) (v2 := .slice A2 q2.m.length c2) (by omega) hb0.size)
          obtain ⟨z0, z1, z2, fz⟩ := octbox q9
          refine bodyPost_ret (v := .agg #[.int .i64 q2.n, .bool q2.e, .slice A2 q2.m.length c2]) (by simp [results, Tryz.results124, go_sem, z0, z1, z2]) rfl ?_
          exact ⟨_, _, rfl, s9, hb9⟩
end Go.Proofs.YtnmpgijiimglcaaGreat
