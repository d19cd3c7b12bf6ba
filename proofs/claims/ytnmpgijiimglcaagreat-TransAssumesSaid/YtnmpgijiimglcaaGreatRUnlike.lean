/-
  gnomonref16.unlike: what it answers.
-/
import Derived.Test.YtnmpgijiimglcaaGreatRAtMost
import Derived.Test.YtnmpgijiimglcaaGreatRSpan
import Derived.Test.YtnmpgijiimglcaaGreatUnlikeV
import Derived.Test.YtnmpgijiimglcaaGreatBTA03
import Derived.Test.YtnmpgijiimglcaaGreatBTA16
namespace Go.Proofs.YtnmpgijiimglcaaGreat
open Go.RowKit
attribute [local go_sem ↓] Go.wp_at_zero Go.wp_at_succ

theorem row_ge {w : World} {base cap : Nat} {A : Option Addr} {xs : List Int} (h : Own w base A cap xs) : ∀ k, rowB A = some k → base ≤ k := by
  rcases h.form with ⟨rfl, _⟩ | ⟨g, rfl, hg, _⟩
  · exact fun k e => by cases e
  · intro k e
    simp only [rowB, Option.map_some, Option.some.injEq] at e
    omega

set_option maxRecDepth 8000 in
set_option maxHeartbeats 4000000 in
theorem runlike_two (n : Int) (m : List Int) (N : Nat) (hN : (N : Int) = 2 * n) (hn : N ≤ 128) (hc : Cells N m) (a b : Nat) (an bn : Int) (hab : a ≠ b) (ha : (a : Int) < n) (hb : (b : Int) < n) (ia : I64 an) (ib : I64 bn) (A : Option Addr) (cap : Nat) (w : World) (hx : Rd w w.heap.size A m) (hm : m.length ≤ 17592186044416) :
    Calls Tryz.prog 127 #[.agg #[.int .i64 n, .bool false, .slice A m.length cap], .agg #[.int .i64 (a : Int), .int .i64 an], .agg #[.int .i64 (b : Int), .int .i64 bn]] w (OctOwn w (uV N ⟨n, false, m⟩ a an b bn 2)) := by
  have HOK := hid (OkO.of_cells hN hn hc)
  have HA := hid (And.intro ha hb)
  have HU := hid (show uV N ⟨n, false, m⟩ a an b bn 2 = _ from rfl)
  have t1 : decide (0 ≤ (a : Int)) = true := by rw [decide_eq_true_eq]; omega
  have t2 : decide (0 ≤ (b : Int)) = true := by rw [decide_eq_true_eq]; omega
  have t3 : ((a : Int) == (b : Int)) = false := by rw [beq_eq_false_iff_ne]; omega
  have hl := hc.len
  obtain ⟨x1, x2, x3, x4, x5, x6⟩ := idxr_ok (i := 2 * a) (j := 2 * b) hN (by omega) (by omega) hn
  obtain ⟨y1, y2, y3, y4, y5, y6⟩ := idxr_ok (i := 2 * b) (j := 2 * a) hN (by omega) (by omega) hn
  have ea : ((2 * a : Nat) : Int) = 2 * (a : Int) := by omega
  have eb : ((2 * b : Nat) : Int) = 2 * (b : Int) := by omega
  rw [ea, eb] at x3 x5 x6
  rw [eb, ea] at y3 y5 y6
  rw [ea] at x1 x2
  rw [eb] at y1 y2
  rw [← hl] at x4 x6 y4 y6
  have hlim : (0 : Int) ≤ n ∧ n ≤ 64 ∧ (a : Int) ≤ 64 ∧ (b : Int) ≤ 64 := by omega
  obtain ⟨hl1, hl2, hl3, hl4⟩ := hlim
  clear ea eb hN hn hc ha hb hab hl
  obtain ⟨gx, hgx⟩ : ∃ g, g = G N m (2 * a) (2 * b) := ⟨_, rfl⟩
  obtain ⟨gy, hgy⟩ : ∃ g, g = G N m (2 * b) (2 * a) := ⟨_, rfl⟩
  replace HU : Hid (uV N ⟨n, false, m⟩ a an b bn 2 = if gy = 0 then atMostO (if gx = 0 then atMostO ⟨n, false, m⟩ (a : Int) an (b : Int) bn true else ⟨n, false, m⟩) (b : Int) bn (a : Int) an true else (if gx = 0 then atMostO ⟨n, false, m⟩ (a : Int) an (b : Int) bn true else ⟨n, false, m⟩)) := hid (by rw [hgx, hgy]; rfl)
  obtain ⟨U, hU⟩ : ∃ U, U = uV N ⟨n, false, m⟩ a an b bn 2 := ⟨_, rfl⟩
  rw [← hU] at HU ⊢
  clear hU
  obtain ⟨p0, p1, p2, p3, hb0, hsz⟩ := new_four w #[.int .i64 n, .bool false, .slice A m.length cap] #[.int .i64 (a : Int), .int .i64 an] #[.int .i64 (b : Int), .int .i64 bn] #[.int .i64 0, .bool false, .slice none 0 0] 24 26 26 24
  replace hx := hx.up hb0
  clear hsz
  obtain ⟨g1, o1, rfl, -, cx⟩ := hx ((2 * a) * N + 2 * b) x4
  obtain ⟨g2, o2, e2, -, cy⟩ := hx ((2 * b) * N + 2 * a) y4
  obtain ⟨rfl, rfl⟩ : g1 = g2 ∧ o1 = o2 := by simpa using e2
  rw [show gI m (((2 * a) * N + 2 * b : Nat) : Int) = gx from hgx.symm] at cx
  rw [show gI m (((2 * b) * N + 2 * a : Nat) : Int) = gy from hgy.symm] at cy
  clear e2 hgx hgy
  go_enter Tryz.func127, Tryz.ntmps127
  obtain ⟨p0_0, p0_1, p0_2, p0_f⟩ := octbox p0
  obtain ⟨p1_0, p1_1, p1_f⟩ := opbox p1
  obtain ⟨p2_0, p2_1, p2_f⟩ := opbox p2
  go_wp2
  clear p0_0 p0_1 p0_2 p0_f p1_0 p1_1 p1_f p2_0 p2_1 p2_f
  generalize (((w.alloc (Obj.cells #[.int .i64 n, .bool false, .slice (some ⟨g1, o1, none⟩) m.length cap] 24)).alloc (Obj.cells #[.int .i64 (a : Int), .int .i64 an] 26)).alloc (Obj.cells #[.int .i64 (b : Int), .int .i64 bn] 26)).alloc (Obj.cells #[.int .i64 0, .bool false, .slice none 0 0] 24) = w1 at *
  have f0 := later (show w1.cell? ⟨w.heap.size, 0, none⟩ = some (.int .i64 n) from p0.cell 0)
  have f2 := later (show w1.cell? ⟨w.heap.size, 2, none⟩ = some (.slice (some ⟨g1, o1, none⟩) m.length cap) from p0.cell 2)
  have j0 := later (show w1.cell? ⟨w.heap.size + 1, 0, none⟩ = some (.int .i64 (a : Int)) from p1.cell 0)
  have l0 := later (show w1.cell? ⟨w.heap.size + 1 + 1, 0, none⟩ = some (.int .i64 (b : Int)) from p2.cell 0)
  have f4 := later cx
  have f5 := later cy
  clear cx cy
  refine wp_region_flow 27 (fun X => Below w1.heap.size w1 X) (by kernel_rfl) (by kernel_rfl) (Below.refl _ _).drew ?_
  (repeat (first | (refine Flow.skip (by rfl) ?_; simp only [Act.put, List.setIfInBounds_toArray, List.set_cons_zero, List.set_cons_succ]) | (refine' Flow.take _ (by rfl) (fun W hW R hR => ?_) ?_; rotate_left; (go_simp; (try go_bits); with_reducible exact hR); simp only [Act.put, List.setIfInBounds_toArray, List.set_cons_zero, List.set_cons_succ])))
  intro w2 hbf
  clear f0 f2 f4 f5 j0 l0
  replace p0 := p0.later hbf
  replace p1 := p1.later hbf
  replace p2 := p2.later hbf
  replace p3 := p3.later hbf
  replace hx := hx.up hbf
  replace hb0 := bup hb0 hbf
  clear hbf x1 x2 x3 x4 x5 x6 y1 y2 y3 y4 y5 y6
  obtain ⟨p0_0, p0_1, p0_2, p0_f⟩ := octbox p0
  go_wp2_with fail
  clear p0_0 p0_1 p0_2 p0_f
  (with_reducible refine (rcopy_any n false m (some ⟨g1, o1, none⟩) cap w2 hx hm).mono ?_)
  rintro e_w3 w3 ⟨A1, c1, rfl, own, hb_w3⟩
  replace own := own.less hb0.size
  replace p0 := p0.later hb_w3
  replace p1 := p1.later hb_w3
  replace p2 := p2.later hb_w3
  replace p3 := p3.later hb_w3
  replace hx := hx.up hb_w3
  replace hb0 := bup hb0 hb_w3
  clear hx
  have hp3 := p3.lt
  obtain ⟨p5, hbn, -⟩ := new_one w3 #[.int .i64 n, .bool false, .slice A1 m.length c1] 24
  replace p0 := p0.later hbn
  replace p1 := p1.later hbn
  replace p2 := p2.later hbn
  replace p3 := p3.later hbn
  replace own := own.below hbn
  replace hb0 := bup hb0 hbn
  cases tx : (gx == 0)
  · have hx0 : gx ≠ 0 := by rw [beq_eq_false_iff_ne] at tx; exact tx
    have HX0 := hid hx0
    clear hx0
    cases ty : (gy == 0)
    · have hy0 : gy ≠ 0 := by rw [beq_eq_false_iff_ne] at ty; exact ty
      replace HU := hid (HU.out.trans (by rw [if_neg hy0, if_neg HX0.out]))
      clear hy0 HX0
      obtain ⟨p5_0, p5_1, p5_2, p5_f⟩ := octbox p5
      obtain ⟨p1_0, p1_1, p1_f⟩ := opbox p1
      obtain ⟨p2_0, p2_1, p2_f⟩ := opbox p2
      go_upto_region 11 with fail
      clear p5_0 p5_1 p5_2 p5_f p1_0 p1_1 p1_f p2_0 p2_1 p2_f
      generalize w3.alloc (Obj.cells #[.int .i64 n, .bool false, .slice A1 m.length c1] 24) = w4 at *
      generalize w3.heap.size = g5 at *
      obtain ⟨p5_0, p5_1, p5_2, p5_f⟩ := octbox p5
      obtain ⟨p3_0, p3_1, p3_2, p3_f⟩ := octbox p3
      go_wp2
      clear p5_0 p5_1 p5_2 p5_f p3_0 p3_1 p3_2 p3_f
      rw [HU.out]
      have q9 := p3.set3 (v0 := .int .i64 n) (v1 := .bool false) (v2 := .slice A1 m.length c1)
      have hb9 := hb0.trans (below3 (W := w4) (g := w.heap.size + 1 + 1 + 1) (v0 := .int .i64 n) (v1 := .bool false) (v2 := .slice A1 m.length c1) (by omega) hb0.size)
      have own9 := own.far3 (g := w.heap.size + 1 + 1 + 1) (v0 := .int .i64 n) (v1 := .bool false) (v2 := .slice A1 m.length c1) (own_blk' own p3 (by decide))
      obtain ⟨z0, z1, z2, fz⟩ := octbox q9
      refine bodyPost_ret (v := .agg #[.int .i64 n, .bool false, .slice A1 m.length c1]) (by simp [results, Tryz.results127, go_sem, z0, z1, z2]) rfl ?_
      exact ⟨_, _, rfl, own9, hb9⟩
    · have hy0 : gy = 0 := by rw [beq_iff_eq] at ty; exact ty
      replace HU := hid (HU.out.trans (by rw [if_pos hy0, if_neg HX0.out]))
      clear hy0 HX0
      obtain ⟨p5_0, p5_1, p5_2, p5_f⟩ := octbox p5
      obtain ⟨p1_0, p1_1, p1_f⟩ := opbox p1
      obtain ⟨p2_0, p2_1, p2_f⟩ := opbox p2
      go_wp2_with fail
      clear p5_0 p5_1 p5_2 p5_f p1_0 p1_1 p1_f p2_0 p2_1 p2_f
      generalize w3.alloc (Obj.cells #[.int .i64 n, .bool false, .slice A1 m.length c1] 24) = w4 at *
      generalize w3.heap.size = g5 at *
      have hbs := hb0.size
      have ok2 := OkO.atMost HOK.out (av := (b : Int)) (an := bn) (bv := (a : Int)) (bn := an) (s := true) (by have := HA.out; omega) (by have := HA.out; omega) (by omega)
      have HX := hid (ratMost_ok n ⟨n, false, m⟩ HOK.out (b : Int) bn (a : Int) an true (by have := HA.out; omega) (by have := HA.out; omega) (by omega) ib ia A1 c1 w.heap.size w4 own hbs)
      (try dsimp only at HX)
      (with_reducible refine HX.out.mono ?_)
      clear HX
      rintro e_w5 w5 ⟨A2, c2, rfl, own_w5, -, hg_w5, -⟩
      replace p0 := p0.kept hg_w5 (row_ne own p0 (by decide))
      replace p1 := p1.kept hg_w5 (row_ne own p1 (by decide))
      replace p2 := p2.kept hg_w5 (row_ne own p2 (by decide))
      replace p3 := p3.kept hg_w5 (row_ne own p3 (by decide))
      replace p5 := p5.kept hg_w5 (row_ne own p5 (by decide))
      replace hb0 := hb0.trans (below_grown hg_w5 (row_ge own) hb0.size)
      clear own hg_w5
      have own := own_w5
      clear own_w5
      obtain ⟨q2, hq2⟩ : ∃ q, q = atMostO (⟨n, false, m⟩) (b : Int) bn (a : Int) an true := ⟨_, rfl⟩
      rw [← hq2] at own ok2 ⊢
      have HQ2 := hid hq2
      clear hq2 hbs
      obtain ⟨p5_0, p5_1, p5_2, p5_f⟩ := octbox p5
      obtain ⟨p3_0, p3_1, p3_2, p3_f⟩ := octbox p3
      obtain ⟨p2_0, p2_1, p2_f⟩ := opbox p2
      obtain ⟨p1_0, p1_1, p1_f⟩ := opbox p1
      go_wp2
      clear p5_0 p5_1 p5_2 p5_f p3_0 p3_1 p3_2 p3_f p2_0 p2_1 p2_f p1_0 p1_1 p1_f
      replace own := own.far3 (g := g5) (v0 := .int .i64 q2.n) (v1 := .bool q2.e) (v2 := .slice A2 q2.m.length c2) (own_blk' own p5 (by decide))
      replace p0 := p0.far3 (g := g5) (v0 := .int .i64 q2.n) (v1 := .bool q2.e) (v2 := .slice A2 q2.m.length c2) (by omega)
      replace p1 := p1.far3 (g := g5) (v0 := .int .i64 q2.n) (v1 := .bool q2.e) (v2 := .slice A2 q2.m.length c2) (by omega)
      replace p2 := p2.far3 (g := g5) (v0 := .int .i64 q2.n) (v1 := .bool q2.e) (v2 := .slice A2 q2.m.length c2) (by omega)
      replace p3 := p3.far3 (g := g5) (v0 := .int .i64 q2.n) (v1 := .bool q2.e) (v2 := .slice A2 q2.m.length c2) (by omega)
      replace p5 := p5.set3 (v0 := .int .i64 q2.n) (v1 := .bool q2.e) (v2 := .slice A2 q2.m.length c2)
      replace hb0 := hb0.trans (below3 (W := w5) (g := g5) (v0 := .int .i64 q2.n) (v1 := .bool q2.e) (v2 := .slice A2 q2.m.length c2) (by omega) hb0.size)
      generalize ((w5.setCell ⟨g5, 0, none⟩ (.int .i64 q2.n)).setCell ⟨g5, 1, none⟩ (.bool q2.e)).setCell ⟨g5, 2, none⟩ (.slice A2 q2.m.length c2) = w6 at *
      rw [HU.out]
      rw [← HQ2.out]
      have q9 := p3.set3 (v0 := .int .i64 q2.n) (v1 := .bool q2.e) (v2 := .slice A2 q2.m.length c2)
      have hb9 := hb0.trans (below3 (W := w6) (g := w.heap.size + 1 + 1 + 1) (v0 := .int .i64 q2.n) (v1 := .bool q2.e) (v2 := .slice A2 q2.m.length c2) (by omega) hb0.size)
      have own9 := own.far3 (g := w.heap.size + 1 + 1 + 1) (v0 := .int .i64 q2.n) (v1 := .bool q2.e) (v2 := .slice A2 q2.m.length c2) (own_blk' own p3 (by decide))
      obtain ⟨z0, z1, z2, fz⟩ := octbox q9
      refine bodyPost_ret (v := .agg #[.int .i64 q2.n, .bool q2.e, .slice A2 q2.m.length c2]) (by simp [results, Tryz.results127, go_sem, z0, z1, z2]) rfl ?_
      exact ⟨_, _, rfl, own9, hb9⟩
  · have hx0 : gx = 0 := by rw [beq_iff_eq] at tx; exact tx
    have HX0 := hid hx0
    clear hx0
    cases ty : (gy == 0)
    · have hy0 : gy ≠ 0 := by rw [beq_eq_false_iff_ne] at ty; exact ty
      replace HU := hid (HU.out.trans (by rw [if_neg hy0, if_pos HX0.out]))
      clear hy0 HX0
      obtain ⟨p5_0, p5_1, p5_2, p5_f⟩ := octbox p5
      obtain ⟨p1_0, p1_1, p1_f⟩ := opbox p1
      obtain ⟨p2_0, p2_1, p2_f⟩ := opbox p2
      go_wp2_with fail
      clear p5_0 p5_1 p5_2 p5_f p1_0 p1_1 p1_f p2_0 p2_1 p2_f
      generalize w3.alloc (Obj.cells #[.int .i64 n, .bool false, .slice A1 m.length c1] 24) = w4 at *
      generalize w3.heap.size = g5 at *
      have hbs := hb0.size
      have ok2 := OkO.atMost HOK.out (av := (a : Int)) (an := an) (bv := (b : Int)) (bn := bn) (s := true) (by have := HA.out; omega) (by have := HA.out; omega) (by omega)
      have HX := hid (ratMost_ok n ⟨n, false, m⟩ HOK.out (a : Int) an (b : Int) bn true (by have := HA.out; omega) (by have := HA.out; omega) (by omega) ia ib A1 c1 w.heap.size w4 own hbs)
      (try dsimp only at HX)
      (with_reducible refine HX.out.mono ?_)
      clear HX
      rintro e_w5 w5 ⟨A2, c2, rfl, own_w5, -, hg_w5, -⟩
      replace p0 := p0.kept hg_w5 (row_ne own p0 (by decide))
      replace p1 := p1.kept hg_w5 (row_ne own p1 (by decide))
      replace p2 := p2.kept hg_w5 (row_ne own p2 (by decide))
      replace p3 := p3.kept hg_w5 (row_ne own p3 (by decide))
      replace p5 := p5.kept hg_w5 (row_ne own p5 (by decide))
      replace hb0 := hb0.trans (below_grown hg_w5 (row_ge own) hb0.size)
      clear own hg_w5
      have own := own_w5
      clear own_w5
      obtain ⟨q2, hq2⟩ : ∃ q, q = atMostO (⟨n, false, m⟩) (a : Int) an (b : Int) bn true := ⟨_, rfl⟩
      rw [← hq2] at own ok2 ⊢
      have HQ2 := hid hq2
      clear hq2 hbs
      obtain ⟨p5_0, p5_1, p5_2, p5_f⟩ := octbox p5
      obtain ⟨p3_0, p3_1, p3_2, p3_f⟩ := octbox p3
      obtain ⟨p2_0, p2_1, p2_f⟩ := opbox p2
      obtain ⟨p1_0, p1_1, p1_f⟩ := opbox p1
      go_wp2
      clear p5_0 p5_1 p5_2 p5_f p3_0 p3_1 p3_2 p3_f p2_0 p2_1 p2_f p1_0 p1_1 p1_f
      replace own := own.far3 (g := g5) (v0 := .int .i64 q2.n) (v1 := .bool q2.e) (v2 := .slice A2 q2.m.length c2) (own_blk' own p5 (by decide))
      replace p0 := p0.far3 (g := g5) (v0 := .int .i64 q2.n) (v1 := .bool q2.e) (v2 := .slice A2 q2.m.length c2) (by omega)
      replace p1 := p1.far3 (g := g5) (v0 := .int .i64 q2.n) (v1 := .bool q2.e) (v2 := .slice A2 q2.m.length c2) (by omega)
      replace p2 := p2.far3 (g := g5) (v0 := .int .i64 q2.n) (v1 := .bool q2.e) (v2 := .slice A2 q2.m.length c2) (by omega)
      replace p3 := p3.far3 (g := g5) (v0 := .int .i64 q2.n) (v1 := .bool q2.e) (v2 := .slice A2 q2.m.length c2) (by omega)
      replace p5 := p5.set3 (v0 := .int .i64 q2.n) (v1 := .bool q2.e) (v2 := .slice A2 q2.m.length c2)
      replace hb0 := hb0.trans (below3 (W := w5) (g := g5) (v0 := .int .i64 q2.n) (v1 := .bool q2.e) (v2 := .slice A2 q2.m.length c2) (by omega) hb0.size)
      generalize ((w5.setCell ⟨g5, 0, none⟩ (.int .i64 q2.n)).setCell ⟨g5, 1, none⟩ (.bool q2.e)).setCell ⟨g5, 2, none⟩ (.slice A2 q2.m.length c2) = w6 at *
      rw [HU.out]
      rw [← HQ2.out]
      have q9 := p3.set3 (v0 := .int .i64 q2.n) (v1 := .bool q2.e) (v2 := .slice A2 q2.m.length c2)
      have hb9 := hb0.trans (below3 (W := w6) (g := w.heap.size + 1 + 1 + 1) (v0 := .int .i64 q2.n) (v1 := .bool q2.e) (v2 := .slice A2 q2.m.length c2) (by omega) hb0.size)
      have own9 := own.far3 (g := w.heap.size + 1 + 1 + 1) (v0 := .int .i64 q2.n) (v1 := .bool q2.e) (v2 := .slice A2 q2.m.length c2) (own_blk' own p3 (by decide))
      obtain ⟨z0, z1, z2, fz⟩ := octbox q9
      refine bodyPost_ret (v := .agg #[.int .i64 q2.n, .bool q2.e, .slice A2 q2.m.length c2]) (by simp [results, Tryz.results127, go_sem, z0, z1, z2]) rfl ?_
      exact ⟨_, _, rfl, own9, hb9⟩
    · have hy0 : gy = 0 := by rw [beq_iff_eq] at ty; exact ty
      replace HU := hid (HU.out.trans (by rw [if_pos hy0, if_pos HX0.out]))
      clear hy0 HX0
      obtain ⟨p5_0, p5_1, p5_2, p5_f⟩ := octbox p5
      obtain ⟨p1_0, p1_1, p1_f⟩ := opbox p1
      obtain ⟨p2_0, p2_1, p2_f⟩ := opbox p2
      go_wp2_with fail
      clear p5_0 p5_1 p5_2 p5_f p1_0 p1_1 p1_f p2_0 p2_1 p2_f
      generalize w3.alloc (Obj.cells #[.int .i64 n, .bool false, .slice A1 m.length c1] 24) = w4 at *
      generalize w3.heap.size = g5 at *
      have hbs := hb0.size
      have ok2 := OkO.atMost HOK.out (av := (a : Int)) (an := an) (bv := (b : Int)) (bn := bn) (s := true) (by have := HA.out; omega) (by have := HA.out; omega) (by omega)
      have HX := hid (ratMost_ok n ⟨n, false, m⟩ HOK.out (a : Int) an (b : Int) bn true (by have := HA.out; omega) (by have := HA.out; omega) (by omega) ia ib A1 c1 w.heap.size w4 own hbs)
      (try dsimp only at HX)
      (with_reducible refine HX.out.mono ?_)
      clear HX
      rintro e_w5 w5 ⟨A2, c2, rfl, own_w5, -, hg_w5, -⟩
      replace p0 := p0.kept hg_w5 (row_ne own p0 (by decide))
      replace p1 := p1.kept hg_w5 (row_ne own p1 (by decide))
      replace p2 := p2.kept hg_w5 (row_ne own p2 (by decide))
      replace p3 := p3.kept hg_w5 (row_ne own p3 (by decide))
      replace p5 := p5.kept hg_w5 (row_ne own p5 (by decide))
      replace hb0 := hb0.trans (below_grown hg_w5 (row_ge own) hb0.size)
      clear own hg_w5
      have own := own_w5
      clear own_w5
      obtain ⟨q2, hq2⟩ : ∃ q, q = atMostO (⟨n, false, m⟩) (a : Int) an (b : Int) bn true := ⟨_, rfl⟩
      rw [← hq2] at own ok2 ⊢
      have HQ2 := hid hq2
      clear hq2 hbs
      obtain ⟨p5_0, p5_1, p5_2, p5_f⟩ := octbox p5
      obtain ⟨p3_0, p3_1, p3_2, p3_f⟩ := octbox p3
      obtain ⟨p2_0, p2_1, p2_f⟩ := opbox p2
      obtain ⟨p1_0, p1_1, p1_f⟩ := opbox p1
      go_wp2_with fail
      clear p5_0 p5_1 p5_2 p5_f p3_0 p3_1 p3_2 p3_f p2_0 p2_1 p2_f p1_0 p1_1 p1_f
      replace own := own.far3 (g := g5) (v0 := .int .i64 q2.n) (v1 := .bool q2.e) (v2 := .slice A2 q2.m.length c2) (own_blk' own p5 (by decide))
      replace p0 := p0.far3 (g := g5) (v0 := .int .i64 q2.n) (v1 := .bool q2.e) (v2 := .slice A2 q2.m.length c2) (by omega)
      replace p1 := p1.far3 (g := g5) (v0 := .int .i64 q2.n) (v1 := .bool q2.e) (v2 := .slice A2 q2.m.length c2) (by omega)
      replace p2 := p2.far3 (g := g5) (v0 := .int .i64 q2.n) (v1 := .bool q2.e) (v2 := .slice A2 q2.m.length c2) (by omega)
      replace p3 := p3.far3 (g := g5) (v0 := .int .i64 q2.n) (v1 := .bool q2.e) (v2 := .slice A2 q2.m.length c2) (by omega)
      replace p5 := p5.set3 (v0 := .int .i64 q2.n) (v1 := .bool q2.e) (v2 := .slice A2 q2.m.length c2)
      replace hb0 := hb0.trans (below3 (W := w5) (g := g5) (v0 := .int .i64 q2.n) (v1 := .bool q2.e) (v2 := .slice A2 q2.m.length c2) (by omega) hb0.size)
      generalize ((w5.setCell ⟨g5, 0, none⟩ (.int .i64 q2.n)).setCell ⟨g5, 1, none⟩ (.bool q2.e)).setCell ⟨g5, 2, none⟩ (.slice A2 q2.m.length c2) = w6 at *
      have hbs := hb0.size
      have ok3 := OkO.atMost ok2 (av := (b : Int)) (an := bn) (bv := (a : Int)) (bn := an) (s := true) (by have := HA.out; omega) (by have := HA.out; omega) (by omega)
      have HX := hid (ratMost_ok n q2 ok2 (b : Int) bn (a : Int) an true (by have := HA.out; omega) (by have := HA.out; omega) (by omega) ib ia A2 c2 w.heap.size w6 own hbs)
      (try dsimp only at HX)
      (with_reducible refine HX.out.mono ?_)
      clear HX
      rintro e_w7 w7 ⟨A3, c3, rfl, own_w7, -, hg_w7, -⟩
      replace p0 := p0.kept hg_w7 (row_ne own p0 (by decide))
      replace p1 := p1.kept hg_w7 (row_ne own p1 (by decide))
      replace p2 := p2.kept hg_w7 (row_ne own p2 (by decide))
      replace p3 := p3.kept hg_w7 (row_ne own p3 (by decide))
      replace p5 := p5.kept hg_w7 (row_ne own p5 (by decide))
      replace hb0 := hb0.trans (below_grown hg_w7 (row_ge own) hb0.size)
      clear own hg_w7
      have own := own_w7
      clear own_w7
      obtain ⟨q3, hq3⟩ : ∃ q, q = atMostO (q2) (b : Int) bn (a : Int) an true := ⟨_, rfl⟩
      rw [← hq3] at own ok3 ⊢
      have HQ3 := hid hq3
      clear hq3 hbs
      obtain ⟨p5_0, p5_1, p5_2, p5_f⟩ := octbox p5
      obtain ⟨p3_0, p3_1, p3_2, p3_f⟩ := octbox p3
      go_wp2
      clear p5_0 p5_1 p5_2 p5_f p3_0 p3_1 p3_2 p3_f
      replace own := own.far3 (g := g5) (v0 := .int .i64 q3.n) (v1 := .bool q3.e) (v2 := .slice A3 q3.m.length c3) (own_blk' own p5 (by decide))
      replace p0 := p0.far3 (g := g5) (v0 := .int .i64 q3.n) (v1 := .bool q3.e) (v2 := .slice A3 q3.m.length c3) (by omega)
      replace p1 := p1.far3 (g := g5) (v0 := .int .i64 q3.n) (v1 := .bool q3.e) (v2 := .slice A3 q3.m.length c3) (by omega)
      replace p2 := p2.far3 (g := g5) (v0 := .int .i64 q3.n) (v1 := .bool q3.e) (v2 := .slice A3 q3.m.length c3) (by omega)
      replace p3 := p3.far3 (g := g5) (v0 := .int .i64 q3.n) (v1 := .bool q3.e) (v2 := .slice A3 q3.m.length c3) (by omega)
      replace p5 := p5.set3 (v0 := .int .i64 q3.n) (v1 := .bool q3.e) (v2 := .slice A3 q3.m.length c3)
      replace hb0 := hb0.trans (below3 (W := w7) (g := g5) (v0 := .int .i64 q3.n) (v1 := .bool q3.e) (v2 := .slice A3 q3.m.length c3) (by omega) hb0.size)
      generalize ((w7.setCell ⟨g5, 0, none⟩ (.int .i64 q3.n)).setCell ⟨g5, 1, none⟩ (.bool q3.e)).setCell ⟨g5, 2, none⟩ (.slice A3 q3.m.length c3) = w8 at *
      rw [HU.out]
      rw [← HQ2.out, ← HQ3.out]
      have q9 := p3.set3 (v0 := .int .i64 q3.n) (v1 := .bool q3.e) (v2 := .slice A3 q3.m.length c3)
      have hb9 := hb0.trans (below3 (W := w8) (g := w.heap.size + 1 + 1 + 1) (v0 := .int .i64 q3.n) (v1 := .bool q3.e) (v2 := .slice A3 q3.m.length c3) (by omega) hb0.size)
      have own9 := own.far3 (g := w.heap.size + 1 + 1 + 1) (v0 := .int .i64 q3.n) (v1 := .bool q3.e) (v2 := .slice A3 q3.m.length c3) (own_blk' own p3 (by decide))
      obtain ⟨z0, z1, z2, fz⟩ := octbox q9
      refine bodyPost_ret (v := .agg #[.int .i64 q3.n, .bool q3.e, .slice A3 q3.m.length c3]) (by simp [results, Tryz.results127, go_sem, z0, z1, z2]) rfl ?_
      exact ⟨_, _, rfl, own9, hb9⟩

set_option maxRecDepth 8000 in
set_option maxHeartbeats 4000000 in
theorem runlike_num (n : Int) (m : List Int) (N : Nat) (hN : (N : Int) = 2 * n) (hn : N ≤ 128) (hc : Cells N m) (a : Nat) (an bv bn : Int) (h1 : bv < 0) (ha : (a : Int) < n) (ia : I64 an) (ib : I64 bn) (A : Option Addr) (cap : Nat) (w : World) (hx : Rd w w.heap.size A m) (hm : m.length ≤ 17592186044416) :
    Calls Tryz.prog 127 #[.agg #[.int .i64 n, .bool false, .slice A m.length cap], .agg #[.int .i64 (a : Int), .int .i64 an], .agg #[.int .i64 bv, .int .i64 bn]] w (OctOwn w (unlikeNumO ⟨n, false, m⟩ (a : Int) an bv bn)) := by
  have HOK := hid (OkO.of_cells hN hn hc)
  have HA := hid (And.intro ha h1)
  have HVAR := hid (fun W (h : Rd W W.heap.size A m) => rvar_ok n m N a A cap W hN hn hc (by omega) h)
  have HU : Hid (unlikeNumO ⟨n, false, m⟩ (a : Int) an bv bn = (let r := varR N m a; let o1 := if r.hh && decide (r.hi = bn) then atMostO ⟨n, false, m⟩ (a : Int) an bv bn true else ⟨n, false, m⟩; if r.hl && decide (r.lo = bn) then atMostO o1 bv bn (a : Int) an true else o1)) := hid (by unfold unlikeNumO; dsimp only; rw [show (2 * n).toNat = N by omega, Int.toNat_natCast])
  generalize unlikeNumO ⟨n, false, m⟩ (a : Int) an bv bn = U at *
  generalize varR N m a = r at *
  obtain ⟨r0, r1, r2, r3⟩ := r
  unfold Rg.val at HVAR
  dsimp only at HU HVAR
  have t0 : decide (0 ≤ (a : Int)) = true := by rw [decide_eq_true_eq]; omega
  have t1 : decide ((a : Int) < 0) = false := by rw [decide_eq_false_iff_not]; omega
  have t2 : decide (0 ≤ bv) = false := by rw [decide_eq_false_iff_not]; omega
  have t3 : decide (bv < 0) = true := by rw [decide_eq_true_eq]; omega
  clear hN hn hc ha
  obtain ⟨p0, p1, p2, p3, hb0, hsz⟩ := new_four w #[.int .i64 n, .bool false, .slice A m.length cap] #[.int .i64 (a : Int), .int .i64 an] #[.int .i64 bv, .int .i64 bn] #[.int .i64 0, .bool false, .slice none 0 0] 24 26 26 24
  replace hx := hx.up hb0
  clear hsz
  go_enter Tryz.func127, Tryz.ntmps127
  obtain ⟨p0_0, p0_1, p0_2, p0_f⟩ := octbox p0
  obtain ⟨p1_0, p1_1, p1_f⟩ := opbox p1
  obtain ⟨p2_0, p2_1, p2_f⟩ := opbox p2
  go_wp2_with fail
  clear p0_0 p0_1 p0_2 p0_f p1_0 p1_1 p1_f p2_0 p2_1 p2_f
  generalize (((w.alloc (Obj.cells #[.int .i64 n, .bool false, .slice A m.length cap] 24)).alloc (Obj.cells #[.int .i64 (a : Int), .int .i64 an] 26)).alloc (Obj.cells #[.int .i64 bv, .int .i64 bn] 26)).alloc (Obj.cells #[.int .i64 0, .bool false, .slice none 0 0] 24) = w1 at *
  (with_reducible refine (HVAR.out _ hx).mono ?_)
  rintro e_w2 w2 ⟨rfl, hb_w2⟩
  replace p0 := p0.later hb_w2
  replace p1 := p1.later hb_w2
  replace p2 := p2.later hb_w2
  replace p3 := p3.later hb_w2
  replace hx := hx.up hb_w2
  replace hb0 := bup hb0 hb_w2
  clear HVAR hb_w2
  have hp3 := p3.lt
  cases h3 : r3
  · have t3x := h3
    cases h2 : r2
    · replace HU : Hid (U = ⟨n, false, m⟩) := hid (by rw [HU.out, h2]; simp [h3, t3x])
      clear t3x
      subst h2
      subst h3
      obtain ⟨p4, hbn, -⟩ := new_one w2 #[.int .i64 r0, .int .i64 r1, .bool false, .bool false] 49
      replace p0 := p0.later hbn
      replace p1 := p1.later hbn
      replace p2 := p2.later hbn
      replace p3 := p3.later hbn
      replace hx := hx.up hbn
      replace hb0 := bup hb0 hbn
      obtain ⟨p0_0, p0_1, p0_2, p0_f⟩ := octbox p0
      go_wp2_with fail
      clear p0_0 p0_1 p0_2 p0_f
      generalize w2.alloc (Obj.cells #[.int .i64 r0, .int .i64 r1, .bool false, .bool false] 49) = w3 at *
      generalize w2.heap.size = g4 at *
      (with_reducible refine (rcopy_any n false m A cap w3 hx hm).mono ?_)
      rintro e_w4 w4 ⟨A1, c1, rfl, own, hb_w4⟩
      replace own := own.less hb0.size
      replace p0 := p0.later hb_w4
      replace p1 := p1.later hb_w4
      replace p2 := p2.later hb_w4
      replace p3 := p3.later hb_w4
      replace p4 := p4.later hb_w4
      replace hx := hx.up hb_w4
      replace hb0 := bup hb0 hb_w4
      clear hx
      have hp4 := p4.lt
      obtain ⟨p5, hbn, -⟩ := new_one w4 #[.int .i64 n, .bool false, .slice A1 m.length c1] 24
      replace p0 := p0.later hbn
      replace p1 := p1.later hbn
      replace p2 := p2.later hbn
      replace p3 := p3.later hbn
      replace p4 := p4.later hbn
      replace own := own.below hbn
      replace hb0 := bup hb0 hbn
      obtain ⟨p5_0, p5_1, p5_2, p5_f⟩ := octbox p5
      obtain ⟨p1_0, p1_1, p1_f⟩ := opbox p1
      obtain ⟨p2_0, p2_1, p2_f⟩ := opbox p2
      obtain ⟨p4_0, p4_1, p4_2, p4_3, p4_f⟩ := rgbox p4
      go_upto_region 20 with fail
      clear p5_0 p5_1 p5_2 p5_f p1_0 p1_1 p1_f p2_0 p2_1 p2_f p4_0 p4_1 p4_2 p4_3 p4_f
      generalize w4.alloc (Obj.cells #[.int .i64 n, .bool false, .slice A1 m.length c1] 24) = w5 at *
      generalize w4.heap.size = g5 at *
      obtain ⟨p5_0, p5_1, p5_2, p5_f⟩ := octbox p5
      obtain ⟨p3_0, p3_1, p3_2, p3_f⟩ := octbox p3
      go_wp2
      clear p5_0 p5_1 p5_2 p5_f p3_0 p3_1 p3_2 p3_f
      rw [HU.out]
      have q9 := p3.set3 (v0 := .int .i64 n) (v1 := .bool false) (v2 := .slice A1 m.length c1)
      have hb9 := hb0.trans (below3 (W := w5) (g := w.heap.size + 1 + 1 + 1) (v0 := .int .i64 n) (v1 := .bool false) (v2 := .slice A1 m.length c1) (by omega) hb0.size)
      have own9 := own.far3 (g := w.heap.size + 1 + 1 + 1) (v0 := .int .i64 n) (v1 := .bool false) (v2 := .slice A1 m.length c1) (own_blk' own p3 (by decide))
      obtain ⟨z0, z1, z2, fz⟩ := octbox q9
      refine bodyPost_ret (v := .agg #[.int .i64 n, .bool false, .slice A1 m.length c1]) (by simp [results, Tryz.results127, go_sem, z0, z1, z2]) rfl ?_
      exact ⟨_, _, rfl, own9, hb9⟩
    · cases t4 : (r0 == bn)
      · have t4x := hidb t4
        replace HU : Hid (U = ⟨n, false, m⟩) := hid (by rw [HU.out, h2, h3]; simp [t3x, t4x])
        clear t4x t3x
        subst h2
        subst h3
        obtain ⟨p4, hbn, -⟩ := new_one w2 #[.int .i64 r0, .int .i64 r1, .bool true, .bool false] 49
        replace p0 := p0.later hbn
        replace p1 := p1.later hbn
        replace p2 := p2.later hbn
        replace p3 := p3.later hbn
        replace hx := hx.up hbn
        replace hb0 := bup hb0 hbn
        obtain ⟨p0_0, p0_1, p0_2, p0_f⟩ := octbox p0
        go_wp2_with fail
        clear p0_0 p0_1 p0_2 p0_f
        generalize w2.alloc (Obj.cells #[.int .i64 r0, .int .i64 r1, .bool true, .bool false] 49) = w3 at *
        generalize w2.heap.size = g4 at *
        (with_reducible refine (rcopy_any n false m A cap w3 hx hm).mono ?_)
        rintro e_w4 w4 ⟨A1, c1, rfl, own, hb_w4⟩
        replace own := own.less hb0.size
        replace p0 := p0.later hb_w4
        replace p1 := p1.later hb_w4
        replace p2 := p2.later hb_w4
        replace p3 := p3.later hb_w4
        replace p4 := p4.later hb_w4
        replace hx := hx.up hb_w4
        replace hb0 := bup hb0 hb_w4
        clear hx
        have hp4 := p4.lt
        obtain ⟨p5, hbn, -⟩ := new_one w4 #[.int .i64 n, .bool false, .slice A1 m.length c1] 24
        replace p0 := p0.later hbn
        replace p1 := p1.later hbn
        replace p2 := p2.later hbn
        replace p3 := p3.later hbn
        replace p4 := p4.later hbn
        replace own := own.below hbn
        replace hb0 := bup hb0 hbn
        obtain ⟨p5_0, p5_1, p5_2, p5_f⟩ := octbox p5
        obtain ⟨p1_0, p1_1, p1_f⟩ := opbox p1
        obtain ⟨p2_0, p2_1, p2_f⟩ := opbox p2
        obtain ⟨p4_0, p4_1, p4_2, p4_3, p4_f⟩ := rgbox p4
        go_upto_region 20 with fail
        clear p5_0 p5_1 p5_2 p5_f p1_0 p1_1 p1_f p2_0 p2_1 p2_f p4_0 p4_1 p4_2 p4_3 p4_f
        generalize w4.alloc (Obj.cells #[.int .i64 n, .bool false, .slice A1 m.length c1] 24) = w5 at *
        generalize w4.heap.size = g5 at *
        obtain ⟨p5_0, p5_1, p5_2, p5_f⟩ := octbox p5
        obtain ⟨p3_0, p3_1, p3_2, p3_f⟩ := octbox p3
        go_wp2
        clear p5_0 p5_1 p5_2 p5_f p3_0 p3_1 p3_2 p3_f
        rw [HU.out]
        have q9 := p3.set3 (v0 := .int .i64 n) (v1 := .bool false) (v2 := .slice A1 m.length c1)
        have hb9 := hb0.trans (below3 (W := w5) (g := w.heap.size + 1 + 1 + 1) (v0 := .int .i64 n) (v1 := .bool false) (v2 := .slice A1 m.length c1) (by omega) hb0.size)
        have own9 := own.far3 (g := w.heap.size + 1 + 1 + 1) (v0 := .int .i64 n) (v1 := .bool false) (v2 := .slice A1 m.length c1) (own_blk' own p3 (by decide))
        obtain ⟨z0, z1, z2, fz⟩ := octbox q9
        refine bodyPost_ret (v := .agg #[.int .i64 n, .bool false, .slice A1 m.length c1]) (by simp [results, Tryz.results127, go_sem, z0, z1, z2]) rfl ?_
        exact ⟨_, _, rfl, own9, hb9⟩
      · have t4x := hidb t4
        replace HU : Hid (U = atMostO ⟨n, false, m⟩ bv bn (a : Int) an true) := hid (by rw [HU.out, h2, h3]; simp [t3x, t4x])
        clear t4x t3x
        subst h2
        subst h3
        obtain ⟨p4, hbn, -⟩ := new_one w2 #[.int .i64 r0, .int .i64 r1, .bool true, .bool false] 49
        replace p0 := p0.later hbn
        replace p1 := p1.later hbn
        replace p2 := p2.later hbn
        replace p3 := p3.later hbn
        replace hx := hx.up hbn
        replace hb0 := bup hb0 hbn
        obtain ⟨p0_0, p0_1, p0_2, p0_f⟩ := octbox p0
        go_wp2_with fail
        clear p0_0 p0_1 p0_2 p0_f
        generalize w2.alloc (Obj.cells #[.int .i64 r0, .int .i64 r1, .bool true, .bool false] 49) = w3 at *
        generalize w2.heap.size = g4 at *
        (with_reducible refine (rcopy_any n false m A cap w3 hx hm).mono ?_)
        rintro e_w4 w4 ⟨A1, c1, rfl, own, hb_w4⟩
        replace own := own.less hb0.size
        replace p0 := p0.later hb_w4
        replace p1 := p1.later hb_w4
        replace p2 := p2.later hb_w4
        replace p3 := p3.later hb_w4
        replace p4 := p4.later hb_w4
        replace hx := hx.up hb_w4
        replace hb0 := bup hb0 hb_w4
        clear hx
        have hp4 := p4.lt
        obtain ⟨p5, hbn, -⟩ := new_one w4 #[.int .i64 n, .bool false, .slice A1 m.length c1] 24
        replace p0 := p0.later hbn
        replace p1 := p1.later hbn
        replace p2 := p2.later hbn
        replace p3 := p3.later hbn
        replace p4 := p4.later hbn
        replace own := own.below hbn
        replace hb0 := bup hb0 hbn
        obtain ⟨p5_0, p5_1, p5_2, p5_f⟩ := octbox p5
        obtain ⟨p1_0, p1_1, p1_f⟩ := opbox p1
        obtain ⟨p2_0, p2_1, p2_f⟩ := opbox p2
        obtain ⟨p4_0, p4_1, p4_2, p4_3, p4_f⟩ := rgbox p4
        go_wp2_with fail
        clear p5_0 p5_1 p5_2 p5_f p1_0 p1_1 p1_f p2_0 p2_1 p2_f p4_0 p4_1 p4_2 p4_3 p4_f
        generalize w4.alloc (Obj.cells #[.int .i64 n, .bool false, .slice A1 m.length c1] 24) = w5 at *
        generalize w4.heap.size = g5 at *
        have hbs := hb0.size
        have ok2 := OkO.atMost HOK.out (av := bv) (an := bn) (bv := (a : Int)) (bn := an) (s := true) (by have := HA.out; omega) (by have := HA.out; omega) (by omega)
        have HX := hid (ratMost_ok n ⟨n, false, m⟩ HOK.out bv bn (a : Int) an true (by have := HA.out; omega) (by have := HA.out; omega) (by omega) ib ia A1 c1 w.heap.size w5 own hbs)
        (try dsimp only at HX)
        (with_reducible refine HX.out.mono ?_)
        clear HX
        rintro e_w6 w6 ⟨A2, c2, rfl, own_w6, -, hg_w6, -⟩
        replace p0 := p0.kept hg_w6 (row_ne own p0 (by decide))
        replace p1 := p1.kept hg_w6 (row_ne own p1 (by decide))
        replace p2 := p2.kept hg_w6 (row_ne own p2 (by decide))
        replace p3 := p3.kept hg_w6 (row_ne own p3 (by decide))
        replace p4 := p4.kept hg_w6 (row_ne own p4 (by decide))
        replace p5 := p5.kept hg_w6 (row_ne own p5 (by decide))
        replace hb0 := hb0.trans (below_grown hg_w6 (row_ge own) hb0.size)
        clear own hg_w6
        have own := own_w6
        clear own_w6
        obtain ⟨q2, hq2⟩ : ∃ q, q = atMostO (⟨n, false, m⟩) bv bn (a : Int) an true := ⟨_, rfl⟩
        rw [← hq2] at own ok2 ⊢
        have HQ2 := hid hq2
        clear hq2 hbs
        obtain ⟨p5_0, p5_1, p5_2, p5_f⟩ := octbox p5
        obtain ⟨p3_0, p3_1, p3_2, p3_f⟩ := octbox p3
        obtain ⟨p2_0, p2_1, p2_f⟩ := opbox p2
        obtain ⟨p1_0, p1_1, p1_f⟩ := opbox p1
        obtain ⟨p4_0, p4_1, p4_2, p4_3, p4_f⟩ := rgbox p4
        go_wp2
        clear p5_0 p5_1 p5_2 p5_f p3_0 p3_1 p3_2 p3_f p2_0 p2_1 p2_f p1_0 p1_1 p1_f p4_0 p4_1 p4_2 p4_3 p4_f
        replace own := own.far3 (g := g5) (v0 := .int .i64 q2.n) (v1 := .bool q2.e) (v2 := .slice A2 q2.m.length c2) (own_blk' own p5 (by decide))
        replace p0 := p0.far3 (g := g5) (v0 := .int .i64 q2.n) (v1 := .bool q2.e) (v2 := .slice A2 q2.m.length c2) (by omega)
        replace p1 := p1.far3 (g := g5) (v0 := .int .i64 q2.n) (v1 := .bool q2.e) (v2 := .slice A2 q2.m.length c2) (by omega)
        replace p2 := p2.far3 (g := g5) (v0 := .int .i64 q2.n) (v1 := .bool q2.e) (v2 := .slice A2 q2.m.length c2) (by omega)
        replace p3 := p3.far3 (g := g5) (v0 := .int .i64 q2.n) (v1 := .bool q2.e) (v2 := .slice A2 q2.m.length c2) (by omega)
        replace p4 := p4.far3 (g := g5) (v0 := .int .i64 q2.n) (v1 := .bool q2.e) (v2 := .slice A2 q2.m.length c2) (by omega)
        replace p5 := p5.set3 (v0 := .int .i64 q2.n) (v1 := .bool q2.e) (v2 := .slice A2 q2.m.length c2)
        replace hb0 := hb0.trans (below3 (W := w6) (g := g5) (v0 := .int .i64 q2.n) (v1 := .bool q2.e) (v2 := .slice A2 q2.m.length c2) (by omega) hb0.size)
        generalize ((w6.setCell ⟨g5, 0, none⟩ (.int .i64 q2.n)).setCell ⟨g5, 1, none⟩ (.bool q2.e)).setCell ⟨g5, 2, none⟩ (.slice A2 q2.m.length c2) = w7 at *
        rw [HU.out]
        rw [← HQ2.out]
        have q9 := p3.set3 (v0 := .int .i64 q2.n) (v1 := .bool q2.e) (v2 := .slice A2 q2.m.length c2)
        have hb9 := hb0.trans (below3 (W := w7) (g := w.heap.size + 1 + 1 + 1) (v0 := .int .i64 q2.n) (v1 := .bool q2.e) (v2 := .slice A2 q2.m.length c2) (by omega) hb0.size)
        have own9 := own.far3 (g := w.heap.size + 1 + 1 + 1) (v0 := .int .i64 q2.n) (v1 := .bool q2.e) (v2 := .slice A2 q2.m.length c2) (own_blk' own p3 (by decide))
        obtain ⟨z0, z1, z2, fz⟩ := octbox q9
        refine bodyPost_ret (v := .agg #[.int .i64 q2.n, .bool q2.e, .slice A2 q2.m.length c2]) (by simp [results, Tryz.results127, go_sem, z0, z1, z2]) rfl ?_
        exact ⟨_, _, rfl, own9, hb9⟩
  · cases t5 : (r1 == bn)
    · have t3x := hidb t5
      cases h2 : r2
      · replace HU : Hid (U = ⟨n, false, m⟩) := hid (by rw [HU.out, h2]; simp [h3, t3x])
        clear t3x
        subst h2
        subst h3
        obtain ⟨p4, hbn, -⟩ := new_one w2 #[.int .i64 r0, .int .i64 r1, .bool false, .bool true] 49
        replace p0 := p0.later hbn
        replace p1 := p1.later hbn
        replace p2 := p2.later hbn
        replace p3 := p3.later hbn
        replace hx := hx.up hbn
        replace hb0 := bup hb0 hbn
        obtain ⟨p0_0, p0_1, p0_2, p0_f⟩ := octbox p0
        go_wp2_with fail
        clear p0_0 p0_1 p0_2 p0_f
        generalize w2.alloc (Obj.cells #[.int .i64 r0, .int .i64 r1, .bool false, .bool true] 49) = w3 at *
        generalize w2.heap.size = g4 at *
        (with_reducible refine (rcopy_any n false m A cap w3 hx hm).mono ?_)
        rintro e_w4 w4 ⟨A1, c1, rfl, own, hb_w4⟩
        replace own := own.less hb0.size
        replace p0 := p0.later hb_w4
        replace p1 := p1.later hb_w4
        replace p2 := p2.later hb_w4
        replace p3 := p3.later hb_w4
        replace p4 := p4.later hb_w4
        replace hx := hx.up hb_w4
        replace hb0 := bup hb0 hb_w4
        clear hx
        have hp4 := p4.lt
        obtain ⟨p5, hbn, -⟩ := new_one w4 #[.int .i64 n, .bool false, .slice A1 m.length c1] 24
        replace p0 := p0.later hbn
        replace p1 := p1.later hbn
        replace p2 := p2.later hbn
        replace p3 := p3.later hbn
        replace p4 := p4.later hbn
        replace own := own.below hbn
        replace hb0 := bup hb0 hbn
        obtain ⟨p5_0, p5_1, p5_2, p5_f⟩ := octbox p5
        obtain ⟨p1_0, p1_1, p1_f⟩ := opbox p1
        obtain ⟨p2_0, p2_1, p2_f⟩ := opbox p2
        obtain ⟨p4_0, p4_1, p4_2, p4_3, p4_f⟩ := rgbox p4
        go_upto_region 20 with fail
        clear p5_0 p5_1 p5_2 p5_f p1_0 p1_1 p1_f p2_0 p2_1 p2_f p4_0 p4_1 p4_2 p4_3 p4_f
        generalize w4.alloc (Obj.cells #[.int .i64 n, .bool false, .slice A1 m.length c1] 24) = w5 at *
        generalize w4.heap.size = g5 at *
        obtain ⟨p5_0, p5_1, p5_2, p5_f⟩ := octbox p5
        obtain ⟨p3_0, p3_1, p3_2, p3_f⟩ := octbox p3
        go_wp2
        clear p5_0 p5_1 p5_2 p5_f p3_0 p3_1 p3_2 p3_f
        rw [HU.out]
        have q9 := p3.set3 (v0 := .int .i64 n) (v1 := .bool false) (v2 := .slice A1 m.length c1)
        have hb9 := hb0.trans (below3 (W := w5) (g := w.heap.size + 1 + 1 + 1) (v0 := .int .i64 n) (v1 := .bool false) (v2 := .slice A1 m.length c1) (by omega) hb0.size)
        have own9 := own.far3 (g := w.heap.size + 1 + 1 + 1) (v0 := .int .i64 n) (v1 := .bool false) (v2 := .slice A1 m.length c1) (own_blk' own p3 (by decide))
        obtain ⟨z0, z1, z2, fz⟩ := octbox q9
        refine bodyPost_ret (v := .agg #[.int .i64 n, .bool false, .slice A1 m.length c1]) (by simp [results, Tryz.results127, go_sem, z0, z1, z2]) rfl ?_
        exact ⟨_, _, rfl, own9, hb9⟩
      · cases t4 : (r0 == bn)
        · have t4x := hidb t4
          replace HU : Hid (U = ⟨n, false, m⟩) := hid (by rw [HU.out, h2, h3]; simp [t3x, t4x])
          clear t4x t3x
          subst h2
          subst h3
          obtain ⟨p4, hbn, -⟩ := new_one w2 #[.int .i64 r0, .int .i64 r1, .bool true, .bool true] 49
          replace p0 := p0.later hbn
          replace p1 := p1.later hbn
          replace p2 := p2.later hbn
          replace p3 := p3.later hbn
          replace hx := hx.up hbn
          replace hb0 := bup hb0 hbn
          obtain ⟨p0_0, p0_1, p0_2, p0_f⟩ := octbox p0
          go_wp2_with fail
          clear p0_0 p0_1 p0_2 p0_f
          generalize w2.alloc (Obj.cells #[.int .i64 r0, .int .i64 r1, .bool true, .bool true] 49) = w3 at *
          generalize w2.heap.size = g4 at *
          (with_reducible refine (rcopy_any n false m A cap w3 hx hm).mono ?_)
          rintro e_w4 w4 ⟨A1, c1, rfl, own, hb_w4⟩
          replace own := own.less hb0.size
          replace p0 := p0.later hb_w4
          replace p1 := p1.later hb_w4
          replace p2 := p2.later hb_w4
          replace p3 := p3.later hb_w4
          replace p4 := p4.later hb_w4
          replace hx := hx.up hb_w4
          replace hb0 := bup hb0 hb_w4
          clear hx
          have hp4 := p4.lt
          obtain ⟨p5, hbn, -⟩ := new_one w4 #[.int .i64 n, .bool false, .slice A1 m.length c1] 24
          replace p0 := p0.later hbn
          replace p1 := p1.later hbn
          replace p2 := p2.later hbn
          replace p3 := p3.later hbn
          replace p4 := p4.later hbn
          replace own := own.below hbn
          replace hb0 := bup hb0 hbn
          obtain ⟨p5_0, p5_1, p5_2, p5_f⟩ := octbox p5
          obtain ⟨p1_0, p1_1, p1_f⟩ := opbox p1
          obtain ⟨p2_0, p2_1, p2_f⟩ := opbox p2
          obtain ⟨p4_0, p4_1, p4_2, p4_3, p4_f⟩ := rgbox p4
          go_upto_region 20 with fail
          clear p5_0 p5_1 p5_2 p5_f p1_0 p1_1 p1_f p2_0 p2_1 p2_f p4_0 p4_1 p4_2 p4_3 p4_f
          generalize w4.alloc (Obj.cells #[.int .i64 n, .bool false, .slice A1 m.length c1] 24) = w5 at *
          generalize w4.heap.size = g5 at *
          obtain ⟨p5_0, p5_1, p5_2, p5_f⟩ := octbox p5
          obtain ⟨p3_0, p3_1, p3_2, p3_f⟩ := octbox p3
          go_wp2
          clear p5_0 p5_1 p5_2 p5_f p3_0 p3_1 p3_2 p3_f
          rw [HU.out]
          have q9 := p3.set3 (v0 := .int .i64 n) (v1 := .bool false) (v2 := .slice A1 m.length c1)
          have hb9 := hb0.trans (below3 (W := w5) (g := w.heap.size + 1 + 1 + 1) (v0 := .int .i64 n) (v1 := .bool false) (v2 := .slice A1 m.length c1) (by omega) hb0.size)
          have own9 := own.far3 (g := w.heap.size + 1 + 1 + 1) (v0 := .int .i64 n) (v1 := .bool false) (v2 := .slice A1 m.length c1) (own_blk' own p3 (by decide))
          obtain ⟨z0, z1, z2, fz⟩ := octbox q9
          refine bodyPost_ret (v := .agg #[.int .i64 n, .bool false, .slice A1 m.length c1]) (by simp [results, Tryz.results127, go_sem, z0, z1, z2]) rfl ?_
          exact ⟨_, _, rfl, own9, hb9⟩
        · have t4x := hidb t4
          replace HU : Hid (U = atMostO ⟨n, false, m⟩ bv bn (a : Int) an true) := hid (by rw [HU.out, h2, h3]; simp [t3x, t4x])
          clear t4x t3x
          subst h2
          subst h3
          obtain ⟨p4, hbn, -⟩ := new_one w2 #[.int .i64 r0, .int .i64 r1, .bool true, .bool true] 49
          replace p0 := p0.later hbn
          replace p1 := p1.later hbn
          replace p2 := p2.later hbn
          replace p3 := p3.later hbn
          replace hx := hx.up hbn
          replace hb0 := bup hb0 hbn
          obtain ⟨p0_0, p0_1, p0_2, p0_f⟩ := octbox p0
          go_wp2_with fail
          clear p0_0 p0_1 p0_2 p0_f
          generalize w2.alloc (Obj.cells #[.int .i64 r0, .int .i64 r1, .bool true, .bool true] 49) = w3 at *
          generalize w2.heap.size = g4 at *
          (with_reducible refine (rcopy_any n false m A cap w3 hx hm).mono ?_)
          rintro e_w4 w4 ⟨A1, c1, rfl, own, hb_w4⟩
          replace own := own.less hb0.size
          replace p0 := p0.later hb_w4
          replace p1 := p1.later hb_w4
          replace p2 := p2.later hb_w4
          replace p3 := p3.later hb_w4
          replace p4 := p4.later hb_w4
          replace hx := hx.up hb_w4
          replace hb0 := bup hb0 hb_w4
          clear hx
          have hp4 := p4.lt
          obtain ⟨p5, hbn, -⟩ := new_one w4 #[.int .i64 n, .bool false, .slice A1 m.length c1] 24
          replace p0 := p0.later hbn
          replace p1 := p1.later hbn
          replace p2 := p2.later hbn
          replace p3 := p3.later hbn
          replace p4 := p4.later hbn
          replace own := own.below hbn
          replace hb0 := bup hb0 hbn
          obtain ⟨p5_0, p5_1, p5_2, p5_f⟩ := octbox p5
          obtain ⟨p1_0, p1_1, p1_f⟩ := opbox p1
          obtain ⟨p2_0, p2_1, p2_f⟩ := opbox p2
          obtain ⟨p4_0, p4_1, p4_2, p4_3, p4_f⟩ := rgbox p4
          go_wp2_with fail
          clear p5_0 p5_1 p5_2 p5_f p1_0 p1_1 p1_f p2_0 p2_1 p2_f p4_0 p4_1 p4_2 p4_3 p4_f
          generalize w4.alloc (Obj.cells #[.int .i64 n, .bool false, .slice A1 m.length c1] 24) = w5 at *
          generalize w4.heap.size = g5 at *
          have hbs := hb0.size
          have ok2 := OkO.atMost HOK.out (av := bv) (an := bn) (bv := (a : Int)) (bn := an) (s := true) (by have := HA.out; omega) (by have := HA.out; omega) (by omega)
          have HX := hid (ratMost_ok n ⟨n, false, m⟩ HOK.out bv bn (a : Int) an true (by have := HA.out; omega) (by have := HA.out; omega) (by omega) ib ia A1 c1 w.heap.size w5 own hbs)
          (try dsimp only at HX)
          (with_reducible refine HX.out.mono ?_)
          clear HX
          rintro e_w6 w6 ⟨A2, c2, rfl, own_w6, -, hg_w6, -⟩
          replace p0 := p0.kept hg_w6 (row_ne own p0 (by decide))
          replace p1 := p1.kept hg_w6 (row_ne own p1 (by decide))
          replace p2 := p2.kept hg_w6 (row_ne own p2 (by decide))
          replace p3 := p3.kept hg_w6 (row_ne own p3 (by decide))
          replace p4 := p4.kept hg_w6 (row_ne own p4 (by decide))
          replace p5 := p5.kept hg_w6 (row_ne own p5 (by decide))
          replace hb0 := hb0.trans (below_grown hg_w6 (row_ge own) hb0.size)
          clear own hg_w6
          have own := own_w6
          clear own_w6
          obtain ⟨q2, hq2⟩ : ∃ q, q = atMostO (⟨n, false, m⟩) bv bn (a : Int) an true := ⟨_, rfl⟩
          rw [← hq2] at own ok2 ⊢
          have HQ2 := hid hq2
          clear hq2 hbs
          obtain ⟨p5_0, p5_1, p5_2, p5_f⟩ := octbox p5
          obtain ⟨p3_0, p3_1, p3_2, p3_f⟩ := octbox p3
          obtain ⟨p2_0, p2_1, p2_f⟩ := opbox p2
          obtain ⟨p1_0, p1_1, p1_f⟩ := opbox p1
          obtain ⟨p4_0, p4_1, p4_2, p4_3, p4_f⟩ := rgbox p4
          go_wp2
          clear p5_0 p5_1 p5_2 p5_f p3_0 p3_1 p3_2 p3_f p2_0 p2_1 p2_f p1_0 p1_1 p1_f p4_0 p4_1 p4_2 p4_3 p4_f
          replace own := own.far3 (g := g5) (v0 := .int .i64 q2.n) (v1 := .bool q2.e) (v2 := .slice A2 q2.m.length c2) (own_blk' own p5 (by decide))
          replace p0 := p0.far3 (g := g5) (v0 := .int .i64 q2.n) (v1 := .bool q2.e) (v2 := .slice A2 q2.m.length c2) (by omega)
          replace p1 := p1.far3 (g := g5) (v0 := .int .i64 q2.n) (v1 := .bool q2.e) (v2 := .slice A2 q2.m.length c2) (by omega)
          replace p2 := p2.far3 (g := g5) (v0 := .int .i64 q2.n) (v1 := .bool q2.e) (v2 := .slice A2 q2.m.length c2) (by omega)
          replace p3 := p3.far3 (g := g5) (v0 := .int .i64 q2.n) (v1 := .bool q2.e) (v2 := .slice A2 q2.m.length c2) (by omega)
          replace p4 := p4.far3 (g := g5) (v0 := .int .i64 q2.n) (v1 := .bool q2.e) (v2 := .slice A2 q2.m.length c2) (by omega)
          replace p5 := p5.set3 (v0 := .int .i64 q2.n) (v1 := .bool q2.e) (v2 := .slice A2 q2.m.length c2)
          replace hb0 := hb0.trans (below3 (W := w6) (g := g5) (v0 := .int .i64 q2.n) (v1 := .bool q2.e) (v2 := .slice A2 q2.m.length c2) (by omega) hb0.size)
          generalize ((w6.setCell ⟨g5, 0, none⟩ (.int .i64 q2.n)).setCell ⟨g5, 1, none⟩ (.bool q2.e)).setCell ⟨g5, 2, none⟩ (.slice A2 q2.m.length c2) = w7 at *
          rw [HU.out]
          rw [← HQ2.out]
          have q9 := p3.set3 (v0 := .int .i64 q2.n) (v1 := .bool q2.e) (v2 := .slice A2 q2.m.length c2)
          have hb9 := hb0.trans (below3 (W := w7) (g := w.heap.size + 1 + 1 + 1) (v0 := .int .i64 q2.n) (v1 := .bool q2.e) (v2 := .slice A2 q2.m.length c2) (by omega) hb0.size)
          have own9 := own.far3 (g := w.heap.size + 1 + 1 + 1) (v0 := .int .i64 q2.n) (v1 := .bool q2.e) (v2 := .slice A2 q2.m.length c2) (own_blk' own p3 (by decide))
          obtain ⟨z0, z1, z2, fz⟩ := octbox q9
          refine bodyPost_ret (v := .agg #[.int .i64 q2.n, .bool q2.e, .slice A2 q2.m.length c2]) (by simp [results, Tryz.results127, go_sem, z0, z1, z2]) rfl ?_
          exact ⟨_, _, rfl, own9, hb9⟩
    · have t3x := hidb t5
      cases h2 : r2
      · replace HU : Hid (U = atMostO ⟨n, false, m⟩ (a : Int) an bv bn true) := hid (by rw [HU.out, h2]; simp [h3, t3x])
        clear t3x
        subst h2
        subst h3
        obtain ⟨p4, hbn, -⟩ := new_one w2 #[.int .i64 r0, .int .i64 r1, .bool false, .bool true] 49
        replace p0 := p0.later hbn
        replace p1 := p1.later hbn
        replace p2 := p2.later hbn
        replace p3 := p3.later hbn
        replace hx := hx.up hbn
        replace hb0 := bup hb0 hbn
        obtain ⟨p0_0, p0_1, p0_2, p0_f⟩ := octbox p0
        go_wp2_with fail
        clear p0_0 p0_1 p0_2 p0_f
        generalize w2.alloc (Obj.cells #[.int .i64 r0, .int .i64 r1, .bool false, .bool true] 49) = w3 at *
        generalize w2.heap.size = g4 at *
        (with_reducible refine (rcopy_any n false m A cap w3 hx hm).mono ?_)
        rintro e_w4 w4 ⟨A1, c1, rfl, own, hb_w4⟩
        replace own := own.less hb0.size
        replace p0 := p0.later hb_w4
        replace p1 := p1.later hb_w4
        replace p2 := p2.later hb_w4
        replace p3 := p3.later hb_w4
        replace p4 := p4.later hb_w4
        replace hx := hx.up hb_w4
        replace hb0 := bup hb0 hb_w4
        clear hx
        have hp4 := p4.lt
        obtain ⟨p5, hbn, -⟩ := new_one w4 #[.int .i64 n, .bool false, .slice A1 m.length c1] 24
        replace p0 := p0.later hbn
        replace p1 := p1.later hbn
        replace p2 := p2.later hbn
        replace p3 := p3.later hbn
        replace p4 := p4.later hbn
        replace own := own.below hbn
        replace hb0 := bup hb0 hbn
        obtain ⟨p5_0, p5_1, p5_2, p5_f⟩ := octbox p5
        obtain ⟨p1_0, p1_1, p1_f⟩ := opbox p1
        obtain ⟨p2_0, p2_1, p2_f⟩ := opbox p2
        obtain ⟨p4_0, p4_1, p4_2, p4_3, p4_f⟩ := rgbox p4
        go_wp2_with fail
        clear p5_0 p5_1 p5_2 p5_f p1_0 p1_1 p1_f p2_0 p2_1 p2_f p4_0 p4_1 p4_2 p4_3 p4_f
        generalize w4.alloc (Obj.cells #[.int .i64 n, .bool false, .slice A1 m.length c1] 24) = w5 at *
        generalize w4.heap.size = g5 at *
        have hbs := hb0.size
        have ok2 := OkO.atMost HOK.out (av := (a : Int)) (an := an) (bv := bv) (bn := bn) (s := true) (by have := HA.out; omega) (by have := HA.out; omega) (by omega)
        have HX := hid (ratMost_ok n ⟨n, false, m⟩ HOK.out (a : Int) an bv bn true (by have := HA.out; omega) (by have := HA.out; omega) (by omega) ia ib A1 c1 w.heap.size w5 own hbs)
        (try dsimp only at HX)
        (with_reducible refine HX.out.mono ?_)
        clear HX
        rintro e_w6 w6 ⟨A2, c2, rfl, own_w6, -, hg_w6, -⟩
        replace p0 := p0.kept hg_w6 (row_ne own p0 (by decide))
        replace p1 := p1.kept hg_w6 (row_ne own p1 (by decide))
        replace p2 := p2.kept hg_w6 (row_ne own p2 (by decide))
        replace p3 := p3.kept hg_w6 (row_ne own p3 (by decide))
        replace p4 := p4.kept hg_w6 (row_ne own p4 (by decide))
        replace p5 := p5.kept hg_w6 (row_ne own p5 (by decide))
        replace hb0 := hb0.trans (below_grown hg_w6 (row_ge own) hb0.size)
        clear own hg_w6
        have own := own_w6
        clear own_w6
        obtain ⟨q2, hq2⟩ : ∃ q, q = atMostO (⟨n, false, m⟩) (a : Int) an bv bn true := ⟨_, rfl⟩
        rw [← hq2] at own ok2 ⊢
        have HQ2 := hid hq2
        clear hq2 hbs
        obtain ⟨p5_0, p5_1, p5_2, p5_f⟩ := octbox p5
        obtain ⟨p3_0, p3_1, p3_2, p3_f⟩ := octbox p3
        obtain ⟨p2_0, p2_1, p2_f⟩ := opbox p2
        obtain ⟨p1_0, p1_1, p1_f⟩ := opbox p1
        obtain ⟨p4_0, p4_1, p4_2, p4_3, p4_f⟩ := rgbox p4
        go_wp2
        clear p5_0 p5_1 p5_2 p5_f p3_0 p3_1 p3_2 p3_f p2_0 p2_1 p2_f p1_0 p1_1 p1_f p4_0 p4_1 p4_2 p4_3 p4_f
        replace own := own.far3 (g := g5) (v0 := .int .i64 q2.n) (v1 := .bool q2.e) (v2 := .slice A2 q2.m.length c2) (own_blk' own p5 (by decide))
        replace p0 := p0.far3 (g := g5) (v0 := .int .i64 q2.n) (v1 := .bool q2.e) (v2 := .slice A2 q2.m.length c2) (by omega)
        replace p1 := p1.far3 (g := g5) (v0 := .int .i64 q2.n) (v1 := .bool q2.e) (v2 := .slice A2 q2.m.length c2) (by omega)
        replace p2 := p2.far3 (g := g5) (v0 := .int .i64 q2.n) (v1 := .bool q2.e) (v2 := .slice A2 q2.m.length c2) (by omega)
        replace p3 := p3.far3 (g := g5) (v0 := .int .i64 q2.n) (v1 := .bool q2.e) (v2 := .slice A2 q2.m.length c2) (by omega)
        replace p4 := p4.far3 (g := g5) (v0 := .int .i64 q2.n) (v1 := .bool q2.e) (v2 := .slice A2 q2.m.length c2) (by omega)
        replace p5 := p5.set3 (v0 := .int .i64 q2.n) (v1 := .bool q2.e) (v2 := .slice A2 q2.m.length c2)
        replace hb0 := hb0.trans (below3 (W := w6) (g := g5) (v0 := .int .i64 q2.n) (v1 := .bool q2.e) (v2 := .slice A2 q2.m.length c2) (by omega) hb0.size)
        generalize ((w6.setCell ⟨g5, 0, none⟩ (.int .i64 q2.n)).setCell ⟨g5, 1, none⟩ (.bool q2.e)).setCell ⟨g5, 2, none⟩ (.slice A2 q2.m.length c2) = w7 at *
        rw [HU.out]
        rw [← HQ2.out]
        have q9 := p3.set3 (v0 := .int .i64 q2.n) (v1 := .bool q2.e) (v2 := .slice A2 q2.m.length c2)
        have hb9 := hb0.trans (below3 (W := w7) (g := w.heap.size + 1 + 1 + 1) (v0 := .int .i64 q2.n) (v1 := .bool q2.e) (v2 := .slice A2 q2.m.length c2) (by omega) hb0.size)
        have own9 := own.far3 (g := w.heap.size + 1 + 1 + 1) (v0 := .int .i64 q2.n) (v1 := .bool q2.e) (v2 := .slice A2 q2.m.length c2) (own_blk' own p3 (by decide))
        obtain ⟨z0, z1, z2, fz⟩ := octbox q9
        refine bodyPost_ret (v := .agg #[.int .i64 q2.n, .bool q2.e, .slice A2 q2.m.length c2]) (by simp [results, Tryz.results127, go_sem, z0, z1, z2]) rfl ?_
        exact ⟨_, _, rfl, own9, hb9⟩
      · cases t4 : (r0 == bn)
        · have t4x := hidb t4
          replace HU : Hid (U = atMostO ⟨n, false, m⟩ (a : Int) an bv bn true) := hid (by rw [HU.out, h2, h3]; simp [t3x, t4x])
          clear t4x t3x
          subst h2
          subst h3
          obtain ⟨p4, hbn, -⟩ := new_one w2 #[.int .i64 r0, .int .i64 r1, .bool true, .bool true] 49
          replace p0 := p0.later hbn
          replace p1 := p1.later hbn
          replace p2 := p2.later hbn
          replace p3 := p3.later hbn
          replace hx := hx.up hbn
          replace hb0 := bup hb0 hbn
          obtain ⟨p0_0, p0_1, p0_2, p0_f⟩ := octbox p0
          go_wp2_with fail
          clear p0_0 p0_1 p0_2 p0_f
          generalize w2.alloc (Obj.cells #[.int .i64 r0, .int .i64 r1, .bool true, .bool true] 49) = w3 at *
          generalize w2.heap.size = g4 at *
          (with_reducible refine (rcopy_any n false m A cap w3 hx hm).mono ?_)
          rintro e_w4 w4 ⟨A1, c1, rfl, own, hb_w4⟩
          replace own := own.less hb0.size
          replace p0 := p0.later hb_w4
          replace p1 := p1.later hb_w4
          replace p2 := p2.later hb_w4
          replace p3 := p3.later hb_w4
          replace p4 := p4.later hb_w4
          replace hx := hx.up hb_w4
          replace hb0 := bup hb0 hb_w4
          clear hx
          have hp4 := p4.lt
          obtain ⟨p5, hbn, -⟩ := new_one w4 #[.int .i64 n, .bool false, .slice A1 m.length c1] 24
          replace p0 := p0.later hbn
          replace p1 := p1.later hbn
          replace p2 := p2.later hbn
          replace p3 := p3.later hbn
          replace p4 := p4.later hbn
          replace own := own.below hbn
          replace hb0 := bup hb0 hbn
          obtain ⟨p5_0, p5_1, p5_2, p5_f⟩ := octbox p5
          obtain ⟨p1_0, p1_1, p1_f⟩ := opbox p1
          obtain ⟨p2_0, p2_1, p2_f⟩ := opbox p2
          obtain ⟨p4_0, p4_1, p4_2, p4_3, p4_f⟩ := rgbox p4
          go_wp2_with fail
          clear p5_0 p5_1 p5_2 p5_f p1_0 p1_1 p1_f p2_0 p2_1 p2_f p4_0 p4_1 p4_2 p4_3 p4_f
          generalize w4.alloc (Obj.cells #[.int .i64 n, .bool false, .slice A1 m.length c1] 24) = w5 at *
          generalize w4.heap.size = g5 at *
          have hbs := hb0.size
          have ok2 := OkO.atMost HOK.out (av := (a : Int)) (an := an) (bv := bv) (bn := bn) (s := true) (by have := HA.out; omega) (by have := HA.out; omega) (by omega)
          have HX := hid (ratMost_ok n ⟨n, false, m⟩ HOK.out (a : Int) an bv bn true (by have := HA.out; omega) (by have := HA.out; omega) (by omega) ia ib A1 c1 w.heap.size w5 own hbs)
          (try dsimp only at HX)
          (with_reducible refine HX.out.mono ?_)
          clear HX
          rintro e_w6 w6 ⟨A2, c2, rfl, own_w6, -, hg_w6, -⟩
          replace p0 := p0.kept hg_w6 (row_ne own p0 (by decide))
          replace p1 := p1.kept hg_w6 (row_ne own p1 (by decide))
          replace p2 := p2.kept hg_w6 (row_ne own p2 (by decide))
          replace p3 := p3.kept hg_w6 (row_ne own p3 (by decide))
          replace p4 := p4.kept hg_w6 (row_ne own p4 (by decide))
          replace p5 := p5.kept hg_w6 (row_ne own p5 (by decide))
          replace hb0 := hb0.trans (below_grown hg_w6 (row_ge own) hb0.size)
          clear own hg_w6
          have own := own_w6
          clear own_w6
          obtain ⟨q2, hq2⟩ : ∃ q, q = atMostO (⟨n, false, m⟩) (a : Int) an bv bn true := ⟨_, rfl⟩
          rw [← hq2] at own ok2 ⊢
          have HQ2 := hid hq2
          clear hq2 hbs
          obtain ⟨p5_0, p5_1, p5_2, p5_f⟩ := octbox p5
          obtain ⟨p3_0, p3_1, p3_2, p3_f⟩ := octbox p3
          obtain ⟨p2_0, p2_1, p2_f⟩ := opbox p2
          obtain ⟨p1_0, p1_1, p1_f⟩ := opbox p1
          obtain ⟨p4_0, p4_1, p4_2, p4_3, p4_f⟩ := rgbox p4
          go_wp2
          clear p5_0 p5_1 p5_2 p5_f p3_0 p3_1 p3_2 p3_f p2_0 p2_1 p2_f p1_0 p1_1 p1_f p4_0 p4_1 p4_2 p4_3 p4_f
          replace own := own.far3 (g := g5) (v0 := .int .i64 q2.n) (v1 := .bool q2.e) (v2 := .slice A2 q2.m.length c2) (own_blk' own p5 (by decide))
          replace p0 := p0.far3 (g := g5) (v0 := .int .i64 q2.n) (v1 := .bool q2.e) (v2 := .slice A2 q2.m.length c2) (by omega)
          replace p1 := p1.far3 (g := g5) (v0 := .int .i64 q2.n) (v1 := .bool q2.e) (v2 := .slice A2 q2.m.length c2) (by omega)
          replace p2 := p2.far3 (g := g5) (v0 := .int .i64 q2.n) (v1 := .bool q2.e) (v2 := .slice A2 q2.m.length c2) (by omega)
          replace p3 := p3.far3 (g := g5) (v0 := .int .i64 q2.n) (v1 := .bool q2.e) (v2 := .slice A2 q2.m.length c2) (by omega)
          replace p4 := p4.far3 (g := g5) (v0 := .int .i64 q2.n) (v1 := .bool q2.e) (v2 := .slice A2 q2.m.length c2) (by omega)
          replace p5 := p5.set3 (v0 := .int .i64 q2.n) (v1 := .bool q2.e) (v2 := .slice A2 q2.m.length c2)
          replace hb0 := hb0.trans (below3 (W := w6) (g := g5) (v0 := .int .i64 q2.n) (v1 := .bool q2.e) (v2 := .slice A2 q2.m.length c2) (by omega) hb0.size)
          generalize ((w6.setCell ⟨g5, 0, none⟩ (.int .i64 q2.n)).setCell ⟨g5, 1, none⟩ (.bool q2.e)).setCell ⟨g5, 2, none⟩ (.slice A2 q2.m.length c2) = w7 at *
          rw [HU.out]
          rw [← HQ2.out]
          have q9 := p3.set3 (v0 := .int .i64 q2.n) (v1 := .bool q2.e) (v2 := .slice A2 q2.m.length c2)
          have hb9 := hb0.trans (below3 (W := w7) (g := w.heap.size + 1 + 1 + 1) (v0 := .int .i64 q2.n) (v1 := .bool q2.e) (v2 := .slice A2 q2.m.length c2) (by omega) hb0.size)
          have own9 := own.far3 (g := w.heap.size + 1 + 1 + 1) (v0 := .int .i64 q2.n) (v1 := .bool q2.e) (v2 := .slice A2 q2.m.length c2) (own_blk' own p3 (by decide))
          obtain ⟨z0, z1, z2, fz⟩ := octbox q9
          refine bodyPost_ret (v := .agg #[.int .i64 q2.n, .bool q2.e, .slice A2 q2.m.length c2]) (by simp [results, Tryz.results127, go_sem, z0, z1, z2]) rfl ?_
          exact ⟨_, _, rfl, own9, hb9⟩
        · have t4x := hidb t4
          replace HU : Hid (U = atMostO (atMostO ⟨n, false, m⟩ (a : Int) an bv bn true) bv bn (a : Int) an true) := hid (by rw [HU.out, h2, h3]; simp [t3x, t4x])
          clear t4x t3x
          subst h2
          subst h3
          obtain ⟨p4, hbn, -⟩ := new_one w2 #[.int .i64 r0, .int .i64 r1, .bool true, .bool true] 49
          replace p0 := p0.later hbn
          replace p1 := p1.later hbn
          replace p2 := p2.later hbn
          replace p3 := p3.later hbn
          replace hx := hx.up hbn
          replace hb0 := bup hb0 hbn
          obtain ⟨p0_0, p0_1, p0_2, p0_f⟩ := octbox p0
          go_wp2_with fail
          clear p0_0 p0_1 p0_2 p0_f
          generalize w2.alloc (Obj.cells #[.int .i64 r0, .int .i64 r1, .bool true, .bool true] 49) = w3 at *
          generalize w2.heap.size = g4 at *
          (with_reducible refine (rcopy_any n false m A cap w3 hx hm).mono ?_)
          rintro e_w4 w4 ⟨A1, c1, rfl, own, hb_w4⟩
          replace own := own.less hb0.size
          replace p0 := p0.later hb_w4
          replace p1 := p1.later hb_w4
          replace p2 := p2.later hb_w4
          replace p3 := p3.later hb_w4
          replace p4 := p4.later hb_w4
          replace hx := hx.up hb_w4
          replace hb0 := bup hb0 hb_w4
          clear hx
          have hp4 := p4.lt
          obtain ⟨p5, hbn, -⟩ := new_one w4 #[.int .i64 n, .bool false, .slice A1 m.length c1] 24
          replace p0 := p0.later hbn
          replace p1 := p1.later hbn
          replace p2 := p2.later hbn
          replace p3 := p3.later hbn
          replace p4 := p4.later hbn
          replace own := own.below hbn
          replace hb0 := bup hb0 hbn
          obtain ⟨p5_0, p5_1, p5_2, p5_f⟩ := octbox p5
          obtain ⟨p1_0, p1_1, p1_f⟩ := opbox p1
          obtain ⟨p2_0, p2_1, p2_f⟩ := opbox p2
          obtain ⟨p4_0, p4_1, p4_2, p4_3, p4_f⟩ := rgbox p4
          go_wp2_with fail
          clear p5_0 p5_1 p5_2 p5_f p1_0 p1_1 p1_f p2_0 p2_1 p2_f p4_0 p4_1 p4_2 p4_3 p4_f
          generalize w4.alloc (Obj.cells #[.int .i64 n, .bool false, .slice A1 m.length c1] 24) = w5 at *
          generalize w4.heap.size = g5 at *
          have hbs := hb0.size
          have ok2 := OkO.atMost HOK.out (av := (a : Int)) (an := an) (bv := bv) (bn := bn) (s := true) (by have := HA.out; omega) (by have := HA.out; omega) (by omega)
          have HX := hid (ratMost_ok n ⟨n, false, m⟩ HOK.out (a : Int) an bv bn true (by have := HA.out; omega) (by have := HA.out; omega) (by omega) ia ib A1 c1 w.heap.size w5 own hbs)
          (try dsimp only at HX)
          (with_reducible refine HX.out.mono ?_)
          clear HX
          rintro e_w6 w6 ⟨A2, c2, rfl, own_w6, -, hg_w6, -⟩
          replace p0 := p0.kept hg_w6 (row_ne own p0 (by decide))
          replace p1 := p1.kept hg_w6 (row_ne own p1 (by decide))
          replace p2 := p2.kept hg_w6 (row_ne own p2 (by decide))
          replace p3 := p3.kept hg_w6 (row_ne own p3 (by decide))
          replace p4 := p4.kept hg_w6 (row_ne own p4 (by decide))
          replace p5 := p5.kept hg_w6 (row_ne own p5 (by decide))
          replace hb0 := hb0.trans (below_grown hg_w6 (row_ge own) hb0.size)
          clear own hg_w6
          have own := own_w6
          clear own_w6
          obtain ⟨q2, hq2⟩ : ∃ q, q = atMostO (⟨n, false, m⟩) (a : Int) an bv bn true := ⟨_, rfl⟩
          rw [← hq2] at own ok2 ⊢
          have HQ2 := hid hq2
          clear hq2 hbs
          obtain ⟨p5_0, p5_1, p5_2, p5_f⟩ := octbox p5
          obtain ⟨p3_0, p3_1, p3_2, p3_f⟩ := octbox p3
          obtain ⟨p2_0, p2_1, p2_f⟩ := opbox p2
          obtain ⟨p1_0, p1_1, p1_f⟩ := opbox p1
          obtain ⟨p4_0, p4_1, p4_2, p4_3, p4_f⟩ := rgbox p4
          go_wp2_with fail
          clear p5_0 p5_1 p5_2 p5_f p3_0 p3_1 p3_2 p3_f p2_0 p2_1 p2_f p1_0 p1_1 p1_f p4_0 p4_1 p4_2 p4_3 p4_f
          replace own := own.far3 (g := g5) (v0 := .int .i64 q2.n) (v1 := .bool q2.e) (v2 := .slice A2 q2.m.length c2) (own_blk' own p5 (by decide))
          replace p0 := p0.far3 (g := g5) (v0 := .int .i64 q2.n) (v1 := .bool q2.e) (v2 := .slice A2 q2.m.length c2) (by omega)
          replace p1 := p1.far3 (g := g5) (v0 := .int .i64 q2.n) (v1 := .bool q2.e) (v2 := .slice A2 q2.m.length c2) (by omega)
          replace p2 := p2.far3 (g := g5) (v0 := .int .i64 q2.n) (v1 := .bool q2.e) (v2 := .slice A2 q2.m.length c2) (by omega)
          replace p3 := p3.far3 (g := g5) (v0 := .int .i64 q2.n) (v1 := .bool q2.e) (v2 := .slice A2 q2.m.length c2) (by omega)
          replace p4 := p4.far3 (g := g5) (v0 := .int .i64 q2.n) (v1 := .bool q2.e) (v2 := .slice A2 q2.m.length c2) (by omega)
          replace p5 := p5.set3 (v0 := .int .i64 q2.n) (v1 := .bool q2.e) (v2 := .slice A2 q2.m.length c2)
          replace hb0 := hb0.trans (below3 (W := w6) (g := g5) (v0 := .int .i64 q2.n) (v1 := .bool q2.e) (v2 := .slice A2 q2.m.length c2) (by omega) hb0.size)
          generalize ((w6.setCell ⟨g5, 0, none⟩ (.int .i64 q2.n)).setCell ⟨g5, 1, none⟩ (.bool q2.e)).setCell ⟨g5, 2, none⟩ (.slice A2 q2.m.length c2) = w7 at *
          have hbs := hb0.size
          have ok3 := OkO.atMost ok2 (av := bv) (an := bn) (bv := (a : Int)) (bn := an) (s := true) (by have := HA.out; omega) (by have := HA.out; omega) (by omega)
          have HX := hid (ratMost_ok n q2 ok2 bv bn (a : Int) an true (by have := HA.out; omega) (by have := HA.out; omega) (by omega) ib ia A2 c2 w.heap.size w7 own hbs)
          (try dsimp only at HX)
          (with_reducible refine HX.out.mono ?_)
          clear HX
          rintro e_w8 w8 ⟨A3, c3, rfl, own_w8, -, hg_w8, -⟩
          replace p0 := p0.kept hg_w8 (row_ne own p0 (by decide))
          replace p1 := p1.kept hg_w8 (row_ne own p1 (by decide))
          replace p2 := p2.kept hg_w8 (row_ne own p2 (by decide))
          replace p3 := p3.kept hg_w8 (row_ne own p3 (by decide))
          replace p4 := p4.kept hg_w8 (row_ne own p4 (by decide))
          replace p5 := p5.kept hg_w8 (row_ne own p5 (by decide))
          replace hb0 := hb0.trans (below_grown hg_w8 (row_ge own) hb0.size)
          clear own hg_w8
          have own := own_w8
          clear own_w8
          obtain ⟨q3, hq3⟩ : ∃ q, q = atMostO (q2) bv bn (a : Int) an true := ⟨_, rfl⟩
          rw [← hq3] at own ok3 ⊢
          have HQ3 := hid hq3
          clear hq3 hbs
          obtain ⟨p5_0, p5_1, p5_2, p5_f⟩ := octbox p5
          obtain ⟨p3_0, p3_1, p3_2, p3_f⟩ := octbox p3
          go_wp2
          clear p5_0 p5_1 p5_2 p5_f p3_0 p3_1 p3_2 p3_f
          replace own := own.far3 (g := g5) (v0 := .int .i64 q3.n) (v1 := .bool q3.e) (v2 := .slice A3 q3.m.length c3) (own_blk' own p5 (by decide))
          replace p0 := p0.far3 (g := g5) (v0 := .int .i64 q3.n) (v1 := .bool q3.e) (v2 := .slice A3 q3.m.length c3) (by omega)
          replace p1 := p1.far3 (g := g5) (v0 := .int .i64 q3.n) (v1 := .bool q3.e) (v2 := .slice A3 q3.m.length c3) (by omega)
          replace p2 := p2.far3 (g := g5) (v0 := .int .i64 q3.n) (v1 := .bool q3.e) (v2 := .slice A3 q3.m.length c3) (by omega)
          replace p3 := p3.far3 (g := g5) (v0 := .int .i64 q3.n) (v1 := .bool q3.e) (v2 := .slice A3 q3.m.length c3) (by omega)
          replace p4 := p4.far3 (g := g5) (v0 := .int .i64 q3.n) (v1 := .bool q3.e) (v2 := .slice A3 q3.m.length c3) (by omega)
          replace p5 := p5.set3 (v0 := .int .i64 q3.n) (v1 := .bool q3.e) (v2 := .slice A3 q3.m.length c3)
          replace hb0 := hb0.trans (below3 (W := w8) (g := g5) (v0 := .int .i64 q3.n) (v1 := .bool q3.e) (v2 := .slice A3 q3.m.length c3) (by omega) hb0.size)
          generalize ((w8.setCell ⟨g5, 0, none⟩ (.int .i64 q3.n)).setCell ⟨g5, 1, none⟩ (.bool q3.e)).setCell ⟨g5, 2, none⟩ (.slice A3 q3.m.length c3) = w9 at *
          rw [HU.out]
          rw [← HQ2.out, ← HQ3.out]
          have q9 := p3.set3 (v0 := .int .i64 q3.n) (v1 := .bool q3.e) (v2 := .slice A3 q3.m.length c3)
          have hb9 := hb0.trans (below3 (W := w9) (g := w.heap.size + 1 + 1 + 1) (v0 := .int .i64 q3.n) (v1 := .bool q3.e) (v2 := .slice A3 q3.m.length c3) (by omega) hb0.size)
          have own9 := own.far3 (g := w.heap.size + 1 + 1 + 1) (v0 := .int .i64 q3.n) (v1 := .bool q3.e) (v2 := .slice A3 q3.m.length c3) (own_blk' own p3 (by decide))
          obtain ⟨z0, z1, z2, fz⟩ := octbox q9
          refine bodyPost_ret (v := .agg #[.int .i64 q3.n, .bool q3.e, .slice A3 q3.m.length c3]) (by simp [results, Tryz.results127, go_sem, z0, z1, z2]) rfl ?_
          exact ⟨_, _, rfl, own9, hb9⟩

set_option maxRecDepth 8000 in
set_option maxHeartbeats 4000000 in
theorem runlike_swap (n : Int) (m : List Int) (N : Nat) (hN : (N : Int) = 2 * n) (hn : N ≤ 128) (hc : Cells N m) (a : Nat) (an bv bn : Int) (h1 : bv < 0) (ha : (a : Int) < n) (ia : I64 an) (ib : I64 bn) (A : Option Addr) (cap : Nat) (w : World) (hx : Rd w w.heap.size A m) (hm : m.length ≤ 17592186044416) :
    Calls Tryz.prog 127 #[.agg #[.int .i64 n, .bool false, .slice A m.length cap], .agg #[.int .i64 bv, .int .i64 bn], .agg #[.int .i64 (a : Int), .int .i64 an]] w (OctOwn w (unlikeNumO ⟨n, false, m⟩ (a : Int) an bv bn)) := by
  have HOK := hid (OkO.of_cells hN hn hc)
  have HA := hid (And.intro ha h1)
  have HVAR := hid (fun W (h : Rd W W.heap.size A m) => rvar_ok n m N a A cap W hN hn hc (by omega) h)
  have HU : Hid (unlikeNumO ⟨n, false, m⟩ (a : Int) an bv bn = (let r := varR N m a; let o1 := if r.hh && decide (r.hi = bn) then atMostO ⟨n, false, m⟩ (a : Int) an bv bn true else ⟨n, false, m⟩; if r.hl && decide (r.lo = bn) then atMostO o1 bv bn (a : Int) an true else o1)) := hid (by unfold unlikeNumO; dsimp only; rw [show (2 * n).toNat = N by omega, Int.toNat_natCast])
  generalize unlikeNumO ⟨n, false, m⟩ (a : Int) an bv bn = U at *
  generalize varR N m a = r at *
  obtain ⟨r0, r1, r2, r3⟩ := r
  unfold Rg.val at HVAR
  dsimp only at HU HVAR
  have t0 : decide (0 ≤ (a : Int)) = true := by rw [decide_eq_true_eq]; omega
  have t1 : decide ((a : Int) < 0) = false := by rw [decide_eq_false_iff_not]; omega
  have t2 : decide (0 ≤ bv) = false := by rw [decide_eq_false_iff_not]; omega
  have t3 : decide (bv < 0) = true := by rw [decide_eq_true_eq]; omega
  clear hN hn hc ha
  obtain ⟨k0, k1, k2, k3, hbk, hszk⟩ := new_four w #[.int .i64 n, .bool false, .slice A m.length cap] #[.int .i64 bv, .int .i64 bn] #[.int .i64 (a : Int), .int .i64 an] #[.int .i64 0, .bool false, .slice none 0 0] 24 26 26 24
  obtain ⟨k0_0, k0_1, k0_2, k0_f⟩ := octbox k0
  obtain ⟨k1_0, k1_1, k1_f⟩ := opbox k1
  obtain ⟨k2_0, k2_1, k2_f⟩ := opbox k2
  obtain ⟨p0, p1, p2, p3, hb0, hsz⟩ := new_four w #[.int .i64 n, .bool false, .slice A m.length cap] #[.int .i64 (a : Int), .int .i64 an] #[.int .i64 bv, .int .i64 bn] #[.int .i64 0, .bool false, .slice none 0 0] 24 26 26 24
  replace hx := hx.up hb0
  clear hsz
  go_enter Tryz.func127, Tryz.ntmps127
  obtain ⟨p0_0, p0_1, p0_2, p0_f⟩ := octbox p0
  obtain ⟨p1_0, p1_1, p1_f⟩ := opbox p1
  obtain ⟨p2_0, p2_1, p2_f⟩ := opbox p2
  go_wp2_with fail
  clear p0_0 p0_1 p0_2 p0_f p1_0 p1_1 p1_f p2_0 p2_1 p2_f k0 k1 k2 k3 hbk hszk k0_0 k0_1 k0_2 k0_f k1_0 k1_1 k1_f k2_0 k2_1 k2_f
  generalize (((w.alloc (Obj.cells #[.int .i64 n, .bool false, .slice A m.length cap] 24)).alloc (Obj.cells #[.int .i64 (a : Int), .int .i64 an] 26)).alloc (Obj.cells #[.int .i64 bv, .int .i64 bn] 26)).alloc (Obj.cells #[.int .i64 0, .bool false, .slice none 0 0] 24) = w1 at *
  (with_reducible refine (HVAR.out _ hx).mono ?_)
  rintro e_w2 w2 ⟨rfl, hb_w2⟩
  replace p0 := p0.later hb_w2
  replace p1 := p1.later hb_w2
  replace p2 := p2.later hb_w2
  replace p3 := p3.later hb_w2
  replace hx := hx.up hb_w2
  replace hb0 := bup hb0 hb_w2
  clear HVAR hb_w2
  have hp3 := p3.lt
  cases h3 : r3
  · have t3x := h3
    cases h2 : r2
    · replace HU : Hid (U = ⟨n, false, m⟩) := hid (by rw [HU.out, h2]; simp [h3, t3x])
      clear t3x
      subst h2
      subst h3
      obtain ⟨p4, hbn, -⟩ := new_one w2 #[.int .i64 r0, .int .i64 r1, .bool false, .bool false] 49
      replace p0 := p0.later hbn
      replace p1 := p1.later hbn
      replace p2 := p2.later hbn
      replace p3 := p3.later hbn
      replace hx := hx.up hbn
      replace hb0 := bup hb0 hbn
      obtain ⟨p0_0, p0_1, p0_2, p0_f⟩ := octbox p0
      go_wp2_with fail
      clear p0_0 p0_1 p0_2 p0_f
      generalize w2.alloc (Obj.cells #[.int .i64 r0, .int .i64 r1, .bool false, .bool false] 49) = w3 at *
      generalize w2.heap.size = g4 at *
      (with_reducible refine (rcopy_any n false m A cap w3 hx hm).mono ?_)
      rintro e_w4 w4 ⟨A1, c1, rfl, own, hb_w4⟩
      replace own := own.less hb0.size
      replace p0 := p0.later hb_w4
      replace p1 := p1.later hb_w4
      replace p2 := p2.later hb_w4
      replace p3 := p3.later hb_w4
      replace p4 := p4.later hb_w4
      replace hx := hx.up hb_w4
      replace hb0 := bup hb0 hb_w4
      clear hx
      have hp4 := p4.lt
      obtain ⟨p5, hbn, -⟩ := new_one w4 #[.int .i64 n, .bool false, .slice A1 m.length c1] 24
      replace p0 := p0.later hbn
      replace p1 := p1.later hbn
      replace p2 := p2.later hbn
      replace p3 := p3.later hbn
      replace p4 := p4.later hbn
      replace own := own.below hbn
      replace hb0 := bup hb0 hbn
      obtain ⟨p5_0, p5_1, p5_2, p5_f⟩ := octbox p5
      obtain ⟨p1_0, p1_1, p1_f⟩ := opbox p1
      obtain ⟨p2_0, p2_1, p2_f⟩ := opbox p2
      obtain ⟨p4_0, p4_1, p4_2, p4_3, p4_f⟩ := rgbox p4
      go_upto_region 20 with fail
      clear p5_0 p5_1 p5_2 p5_f p1_0 p1_1 p1_f p2_0 p2_1 p2_f p4_0 p4_1 p4_2 p4_3 p4_f
      generalize w4.alloc (Obj.cells #[.int .i64 n, .bool false, .slice A1 m.length c1] 24) = w5 at *
      generalize w4.heap.size = g5 at *
      obtain ⟨p5_0, p5_1, p5_2, p5_f⟩ := octbox p5
      obtain ⟨p3_0, p3_1, p3_2, p3_f⟩ := octbox p3
      go_wp2
      clear p5_0 p5_1 p5_2 p5_f p3_0 p3_1 p3_2 p3_f
      rw [HU.out]
      have q9 := p3.set3 (v0 := .int .i64 n) (v1 := .bool false) (v2 := .slice A1 m.length c1)
      have hb9 := hb0.trans (below3 (W := w5) (g := w.heap.size + 1 + 1 + 1) (v0 := .int .i64 n) (v1 := .bool false) (v2 := .slice A1 m.length c1) (by omega) hb0.size)
      have own9 := own.far3 (g := w.heap.size + 1 + 1 + 1) (v0 := .int .i64 n) (v1 := .bool false) (v2 := .slice A1 m.length c1) (own_blk' own p3 (by decide))
      obtain ⟨z0, z1, z2, fz⟩ := octbox q9
      refine bodyPost_ret (v := .agg #[.int .i64 n, .bool false, .slice A1 m.length c1]) (by simp [results, Tryz.results127, go_sem, z0, z1, z2]) rfl ?_
      exact ⟨_, _, rfl, own9, hb9⟩
    · cases t4 : (r0 == bn)
      · have t4x := hidb t4
        replace HU : Hid (U = ⟨n, false, m⟩) := hid (by rw [HU.out, h2, h3]; simp [t3x, t4x])
        clear t4x t3x
        subst h2
        subst h3
        obtain ⟨p4, hbn, -⟩ := new_one w2 #[.int .i64 r0, .int .i64 r1, .bool true, .bool false] 49
        replace p0 := p0.later hbn
        replace p1 := p1.later hbn
        replace p2 := p2.later hbn
        replace p3 := p3.later hbn
        replace hx := hx.up hbn
        replace hb0 := bup hb0 hbn
        obtain ⟨p0_0, p0_1, p0_2, p0_f⟩ := octbox p0
        go_wp2_with fail
        clear p0_0 p0_1 p0_2 p0_f
        generalize w2.alloc (Obj.cells #[.int .i64 r0, .int .i64 r1, .bool true, .bool false] 49) = w3 at *
        generalize w2.heap.size = g4 at *
        (with_reducible refine (rcopy_any n false m A cap w3 hx hm).mono ?_)
        rintro e_w4 w4 ⟨A1, c1, rfl, own, hb_w4⟩
        replace own := own.less hb0.size
        replace p0 := p0.later hb_w4
        replace p1 := p1.later hb_w4
        replace p2 := p2.later hb_w4
        replace p3 := p3.later hb_w4
        replace p4 := p4.later hb_w4
        replace hx := hx.up hb_w4
        replace hb0 := bup hb0 hb_w4
        clear hx
        have hp4 := p4.lt
        obtain ⟨p5, hbn, -⟩ := new_one w4 #[.int .i64 n, .bool false, .slice A1 m.length c1] 24
        replace p0 := p0.later hbn
        replace p1 := p1.later hbn
        replace p2 := p2.later hbn
        replace p3 := p3.later hbn
        replace p4 := p4.later hbn
        replace own := own.below hbn
        replace hb0 := bup hb0 hbn
        obtain ⟨p5_0, p5_1, p5_2, p5_f⟩ := octbox p5
        obtain ⟨p1_0, p1_1, p1_f⟩ := opbox p1
        obtain ⟨p2_0, p2_1, p2_f⟩ := opbox p2
        obtain ⟨p4_0, p4_1, p4_2, p4_3, p4_f⟩ := rgbox p4
        go_upto_region 20 with fail
        clear p5_0 p5_1 p5_2 p5_f p1_0 p1_1 p1_f p2_0 p2_1 p2_f p4_0 p4_1 p4_2 p4_3 p4_f
        generalize w4.alloc (Obj.cells #[.int .i64 n, .bool false, .slice A1 m.length c1] 24) = w5 at *
        generalize w4.heap.size = g5 at *
        obtain ⟨p5_0, p5_1, p5_2, p5_f⟩ := octbox p5
        obtain ⟨p3_0, p3_1, p3_2, p3_f⟩ := octbox p3
        go_wp2
        clear p5_0 p5_1 p5_2 p5_f p3_0 p3_1 p3_2 p3_f
        rw [HU.out]
        have q9 := p3.set3 (v0 := .int .i64 n) (v1 := .bool false) (v2 := .slice A1 m.length c1)
        have hb9 := hb0.trans (below3 (W := w5) (g := w.heap.size + 1 + 1 + 1) (v0 := .int .i64 n) (v1 := .bool false) (v2 := .slice A1 m.length c1) (by omega) hb0.size)
        have own9 := own.far3 (g := w.heap.size + 1 + 1 + 1) (v0 := .int .i64 n) (v1 := .bool false) (v2 := .slice A1 m.length c1) (own_blk' own p3 (by decide))
        obtain ⟨z0, z1, z2, fz⟩ := octbox q9
        refine bodyPost_ret (v := .agg #[.int .i64 n, .bool false, .slice A1 m.length c1]) (by simp [results, Tryz.results127, go_sem, z0, z1, z2]) rfl ?_
        exact ⟨_, _, rfl, own9, hb9⟩
      · have t4x := hidb t4
        replace HU : Hid (U = atMostO ⟨n, false, m⟩ bv bn (a : Int) an true) := hid (by rw [HU.out, h2, h3]; simp [t3x, t4x])
        clear t4x t3x
        subst h2
        subst h3
        obtain ⟨p4, hbn, -⟩ := new_one w2 #[.int .i64 r0, .int .i64 r1, .bool true, .bool false] 49
        replace p0 := p0.later hbn
        replace p1 := p1.later hbn
        replace p2 := p2.later hbn
        replace p3 := p3.later hbn
        replace hx := hx.up hbn
        replace hb0 := bup hb0 hbn
        obtain ⟨p0_0, p0_1, p0_2, p0_f⟩ := octbox p0
        go_wp2_with fail
        clear p0_0 p0_1 p0_2 p0_f
        generalize w2.alloc (Obj.cells #[.int .i64 r0, .int .i64 r1, .bool true, .bool false] 49) = w3 at *
        generalize w2.heap.size = g4 at *
        (with_reducible refine (rcopy_any n false m A cap w3 hx hm).mono ?_)
        rintro e_w4 w4 ⟨A1, c1, rfl, own, hb_w4⟩
        replace own := own.less hb0.size
        replace p0 := p0.later hb_w4
        replace p1 := p1.later hb_w4
        replace p2 := p2.later hb_w4
        replace p3 := p3.later hb_w4
        replace p4 := p4.later hb_w4
        replace hx := hx.up hb_w4
        replace hb0 := bup hb0 hb_w4
        clear hx
        have hp4 := p4.lt
        obtain ⟨p5, hbn, -⟩ := new_one w4 #[.int .i64 n, .bool false, .slice A1 m.length c1] 24
        replace p0 := p0.later hbn
        replace p1 := p1.later hbn
        replace p2 := p2.later hbn
        replace p3 := p3.later hbn
        replace p4 := p4.later hbn
        replace own := own.below hbn
        replace hb0 := bup hb0 hbn
        obtain ⟨p5_0, p5_1, p5_2, p5_f⟩ := octbox p5
        obtain ⟨p1_0, p1_1, p1_f⟩ := opbox p1
        obtain ⟨p2_0, p2_1, p2_f⟩ := opbox p2
        obtain ⟨p4_0, p4_1, p4_2, p4_3, p4_f⟩ := rgbox p4
        go_wp2_with fail
        clear p5_0 p5_1 p5_2 p5_f p1_0 p1_1 p1_f p2_0 p2_1 p2_f p4_0 p4_1 p4_2 p4_3 p4_f
        generalize w4.alloc (Obj.cells #[.int .i64 n, .bool false, .slice A1 m.length c1] 24) = w5 at *
        generalize w4.heap.size = g5 at *
        have hbs := hb0.size
        have ok2 := OkO.atMost HOK.out (av := bv) (an := bn) (bv := (a : Int)) (bn := an) (s := true) (by have := HA.out; omega) (by have := HA.out; omega) (by omega)
        have HX := hid (ratMost_ok n ⟨n, false, m⟩ HOK.out bv bn (a : Int) an true (by have := HA.out; omega) (by have := HA.out; omega) (by omega) ib ia A1 c1 w.heap.size w5 own hbs)
        (try dsimp only at HX)
        (with_reducible refine HX.out.mono ?_)
        clear HX
        rintro e_w6 w6 ⟨A2, c2, rfl, own_w6, -, hg_w6, -⟩
        replace p0 := p0.kept hg_w6 (row_ne own p0 (by decide))
        replace p1 := p1.kept hg_w6 (row_ne own p1 (by decide))
        replace p2 := p2.kept hg_w6 (row_ne own p2 (by decide))
        replace p3 := p3.kept hg_w6 (row_ne own p3 (by decide))
        replace p4 := p4.kept hg_w6 (row_ne own p4 (by decide))
        replace p5 := p5.kept hg_w6 (row_ne own p5 (by decide))
        replace hb0 := hb0.trans (below_grown hg_w6 (row_ge own) hb0.size)
        clear own hg_w6
        have own := own_w6
        clear own_w6
        obtain ⟨q2, hq2⟩ : ∃ q, q = atMostO (⟨n, false, m⟩) bv bn (a : Int) an true := ⟨_, rfl⟩
        rw [← hq2] at own ok2 ⊢
        have HQ2 := hid hq2
        clear hq2 hbs
        obtain ⟨p5_0, p5_1, p5_2, p5_f⟩ := octbox p5
        obtain ⟨p3_0, p3_1, p3_2, p3_f⟩ := octbox p3
        obtain ⟨p2_0, p2_1, p2_f⟩ := opbox p2
        obtain ⟨p1_0, p1_1, p1_f⟩ := opbox p1
        obtain ⟨p4_0, p4_1, p4_2, p4_3, p4_f⟩ := rgbox p4
        go_wp2
        clear p5_0 p5_1 p5_2 p5_f p3_0 p3_1 p3_2 p3_f p2_0 p2_1 p2_f p1_0 p1_1 p1_f p4_0 p4_1 p4_2 p4_3 p4_f
        replace own := own.far3 (g := g5) (v0 := .int .i64 q2.n) (v1 := .bool q2.e) (v2 := .slice A2 q2.m.length c2) (own_blk' own p5 (by decide))
        replace p0 := p0.far3 (g := g5) (v0 := .int .i64 q2.n) (v1 := .bool q2.e) (v2 := .slice A2 q2.m.length c2) (by omega)
        replace p1 := p1.far3 (g := g5) (v0 := .int .i64 q2.n) (v1 := .bool q2.e) (v2 := .slice A2 q2.m.length c2) (by omega)
        replace p2 := p2.far3 (g := g5) (v0 := .int .i64 q2.n) (v1 := .bool q2.e) (v2 := .slice A2 q2.m.length c2) (by omega)
        replace p3 := p3.far3 (g := g5) (v0 := .int .i64 q2.n) (v1 := .bool q2.e) (v2 := .slice A2 q2.m.length c2) (by omega)
        replace p4 := p4.far3 (g := g5) (v0 := .int .i64 q2.n) (v1 := .bool q2.e) (v2 := .slice A2 q2.m.length c2) (by omega)
        replace p5 := p5.set3 (v0 := .int .i64 q2.n) (v1 := .bool q2.e) (v2 := .slice A2 q2.m.length c2)
        replace hb0 := hb0.trans (below3 (W := w6) (g := g5) (v0 := .int .i64 q2.n) (v1 := .bool q2.e) (v2 := .slice A2 q2.m.length c2) (by omega) hb0.size)
        generalize ((w6.setCell ⟨g5, 0, none⟩ (.int .i64 q2.n)).setCell ⟨g5, 1, none⟩ (.bool q2.e)).setCell ⟨g5, 2, none⟩ (.slice A2 q2.m.length c2) = w7 at *
        rw [HU.out]
        rw [← HQ2.out]
        have q9 := p3.set3 (v0 := .int .i64 q2.n) (v1 := .bool q2.e) (v2 := .slice A2 q2.m.length c2)
        have hb9 := hb0.trans (below3 (W := w7) (g := w.heap.size + 1 + 1 + 1) (v0 := .int .i64 q2.n) (v1 := .bool q2.e) (v2 := .slice A2 q2.m.length c2) (by omega) hb0.size)
        have own9 := own.far3 (g := w.heap.size + 1 + 1 + 1) (v0 := .int .i64 q2.n) (v1 := .bool q2.e) (v2 := .slice A2 q2.m.length c2) (own_blk' own p3 (by decide))
        obtain ⟨z0, z1, z2, fz⟩ := octbox q9
        refine bodyPost_ret (v := .agg #[.int .i64 q2.n, .bool q2.e, .slice A2 q2.m.length c2]) (by simp [results, Tryz.results127, go_sem, z0, z1, z2]) rfl ?_
        exact ⟨_, _, rfl, own9, hb9⟩
  · cases t5 : (r1 == bn)
    · have t3x := hidb t5
      cases h2 : r2
      · replace HU : Hid (U = ⟨n, false, m⟩) := hid (by rw [HU.out, h2]; simp [h3, t3x])
        clear t3x
        subst h2
        subst h3
        obtain ⟨p4, hbn, -⟩ := new_one w2 #[.int .i64 r0, .int .i64 r1, .bool false, .bool true] 49
        replace p0 := p0.later hbn
        replace p1 := p1.later hbn
        replace p2 := p2.later hbn
        replace p3 := p3.later hbn
        replace hx := hx.up hbn
        replace hb0 := bup hb0 hbn
        obtain ⟨p0_0, p0_1, p0_2, p0_f⟩ := octbox p0
        go_wp2_with fail
        clear p0_0 p0_1 p0_2 p0_f
        generalize w2.alloc (Obj.cells #[.int .i64 r0, .int .i64 r1, .bool false, .bool true] 49) = w3 at *
        generalize w2.heap.size = g4 at *
        (with_reducible refine (rcopy_any n false m A cap w3 hx hm).mono ?_)
        rintro e_w4 w4 ⟨A1, c1, rfl, own, hb_w4⟩
        replace own := own.less hb0.size
        replace p0 := p0.later hb_w4
        replace p1 := p1.later hb_w4
        replace p2 := p2.later hb_w4
        replace p3 := p3.later hb_w4
        replace p4 := p4.later hb_w4
        replace hx := hx.up hb_w4
        replace hb0 := bup hb0 hb_w4
        clear hx
        have hp4 := p4.lt
        obtain ⟨p5, hbn, -⟩ := new_one w4 #[.int .i64 n, .bool false, .slice A1 m.length c1] 24
        replace p0 := p0.later hbn
        replace p1 := p1.later hbn
        replace p2 := p2.later hbn
        replace p3 := p3.later hbn
        replace p4 := p4.later hbn
        replace own := own.below hbn
        replace hb0 := bup hb0 hbn
        obtain ⟨p5_0, p5_1, p5_2, p5_f⟩ := octbox p5
        obtain ⟨p1_0, p1_1, p1_f⟩ := opbox p1
        obtain ⟨p2_0, p2_1, p2_f⟩ := opbox p2
        obtain ⟨p4_0, p4_1, p4_2, p4_3, p4_f⟩ := rgbox p4
        go_upto_region 20 with fail
        clear p5_0 p5_1 p5_2 p5_f p1_0 p1_1 p1_f p2_0 p2_1 p2_f p4_0 p4_1 p4_2 p4_3 p4_f
        generalize w4.alloc (Obj.cells #[.int .i64 n, .bool false, .slice A1 m.length c1] 24) = w5 at *
        generalize w4.heap.size = g5 at *
        obtain ⟨p5_0, p5_1, p5_2, p5_f⟩ := octbox p5
        obtain ⟨p3_0, p3_1, p3_2, p3_f⟩ := octbox p3
        go_wp2
        clear p5_0 p5_1 p5_2 p5_f p3_0 p3_1 p3_2 p3_f
        rw [HU.out]
        have q9 := p3.set3 (v0 := .int .i64 n) (v1 := .bool false) (v2 := .slice A1 m.length c1)
        have hb9 := hb0.trans (below3 (W := w5) (g := w.heap.size + 1 + 1 + 1) (v0 := .int .i64 n) (v1 := .bool false) (v2 := .slice A1 m.length c1) (by omega) hb0.size)
        have own9 := own.far3 (g := w.heap.size + 1 + 1 + 1) (v0 := .int .i64 n) (v1 := .bool false) (v2 := .slice A1 m.length c1) (own_blk' own p3 (by decide))
        obtain ⟨z0, z1, z2, fz⟩ := octbox q9
        refine bodyPost_ret (v := .agg #[.int .i64 n, .bool false, .slice A1 m.length c1]) (by simp [results, Tryz.results127, go_sem, z0, z1, z2]) rfl ?_
        exact ⟨_, _, rfl, own9, hb9⟩
      · cases t4 : (r0 == bn)
        · have t4x := hidb t4
          replace HU : Hid (U = ⟨n, false, m⟩) := hid (by rw [HU.out, h2, h3]; simp [t3x, t4x])
          clear t4x t3x
          subst h2
          subst h3
          obtain ⟨p4, hbn, -⟩ := new_one w2 #[.int .i64 r0, .int .i64 r1, .bool true, .bool true] 49
          replace p0 := p0.later hbn
          replace p1 := p1.later hbn
          replace p2 := p2.later hbn
          replace p3 := p3.later hbn
          replace hx := hx.up hbn
          replace hb0 := bup hb0 hbn
          obtain ⟨p0_0, p0_1, p0_2, p0_f⟩ := octbox p0
          go_wp2_with fail
          clear p0_0 p0_1 p0_2 p0_f
          generalize w2.alloc (Obj.cells #[.int .i64 r0, .int .i64 r1, .bool true, .bool true] 49) = w3 at *
          generalize w2.heap.size = g4 at *
          (with_reducible refine (rcopy_any n false m A cap w3 hx hm).mono ?_)
          rintro e_w4 w4 ⟨A1, c1, rfl, own, hb_w4⟩
          replace own := own.less hb0.size
          replace p0 := p0.later hb_w4
          replace p1 := p1.later hb_w4
          replace p2 := p2.later hb_w4
          replace p3 := p3.later hb_w4
          replace p4 := p4.later hb_w4
          replace hx := hx.up hb_w4
          replace hb0 := bup hb0 hb_w4
          clear hx
          have hp4 := p4.lt
          obtain ⟨p5, hbn, -⟩ := new_one w4 #[.int .i64 n, .bool false, .slice A1 m.length c1] 24
          replace p0 := p0.later hbn
          replace p1 := p1.later hbn
          replace p2 := p2.later hbn
          replace p3 := p3.later hbn
          replace p4 := p4.later hbn
          replace own := own.below hbn
          replace hb0 := bup hb0 hbn
          obtain ⟨p5_0, p5_1, p5_2, p5_f⟩ := octbox p5
          obtain ⟨p1_0, p1_1, p1_f⟩ := opbox p1
          obtain ⟨p2_0, p2_1, p2_f⟩ := opbox p2
          obtain ⟨p4_0, p4_1, p4_2, p4_3, p4_f⟩ := rgbox p4
          go_upto_region 20 with fail
          clear p5_0 p5_1 p5_2 p5_f p1_0 p1_1 p1_f p2_0 p2_1 p2_f p4_0 p4_1 p4_2 p4_3 p4_f
          generalize w4.alloc (Obj.cells #[.int .i64 n, .bool false, .slice A1 m.length c1] 24) = w5 at *
          generalize w4.heap.size = g5 at *
          obtain ⟨p5_0, p5_1, p5_2, p5_f⟩ := octbox p5
          obtain ⟨p3_0, p3_1, p3_2, p3_f⟩ := octbox p3
          go_wp2
          clear p5_0 p5_1 p5_2 p5_f p3_0 p3_1 p3_2 p3_f
          rw [HU.out]
          have q9 := p3.set3 (v0 := .int .i64 n) (v1 := .bool false) (v2 := .slice A1 m.length c1)
          have hb9 := hb0.trans (below3 (W := w5) (g := w.heap.size + 1 + 1 + 1) (v0 := .int .i64 n) (v1 := .bool false) (v2 := .slice A1 m.length c1) (by omega) hb0.size)
          have own9 := own.far3 (g := w.heap.size + 1 + 1 + 1) (v0 := .int .i64 n) (v1 := .bool false) (v2 := .slice A1 m.length c1) (own_blk' own p3 (by decide))
          obtain ⟨z0, z1, z2, fz⟩ := octbox q9
          refine bodyPost_ret (v := .agg #[.int .i64 n, .bool false, .slice A1 m.length c1]) (by simp [results, Tryz.results127, go_sem, z0, z1, z2]) rfl ?_
          exact ⟨_, _, rfl, own9, hb9⟩
        · have t4x := hidb t4
          replace HU : Hid (U = atMostO ⟨n, false, m⟩ bv bn (a : Int) an true) := hid (by rw [HU.out, h2, h3]; simp [t3x, t4x])
          clear t4x t3x
          subst h2
          subst h3
          obtain ⟨p4, hbn, -⟩ := new_one w2 #[.int .i64 r0, .int .i64 r1, .bool true, .bool true] 49
          replace p0 := p0.later hbn
          replace p1 := p1.later hbn
          replace p2 := p2.later hbn
          replace p3 := p3.later hbn
          replace hx := hx.up hbn
          replace hb0 := bup hb0 hbn
          obtain ⟨p0_0, p0_1, p0_2, p0_f⟩ := octbox p0
          go_wp2_with fail
          clear p0_0 p0_1 p0_2 p0_f
          generalize w2.alloc (Obj.cells #[.int .i64 r0, .int .i64 r1, .bool true, .bool true] 49) = w3 at *
          generalize w2.heap.size = g4 at *
          (with_reducible refine (rcopy_any n false m A cap w3 hx hm).mono ?_)
          rintro e_w4 w4 ⟨A1, c1, rfl, own, hb_w4⟩
          replace own := own.less hb0.size
          replace p0 := p0.later hb_w4
          replace p1 := p1.later hb_w4
          replace p2 := p2.later hb_w4
          replace p3 := p3.later hb_w4
          replace p4 := p4.later hb_w4
          replace hx := hx.up hb_w4
          replace hb0 := bup hb0 hb_w4
          clear hx
          have hp4 := p4.lt
          obtain ⟨p5, hbn, -⟩ := new_one w4 #[.int .i64 n, .bool false, .slice A1 m.length c1] 24
          replace p0 := p0.later hbn
          replace p1 := p1.later hbn
          replace p2 := p2.later hbn
          replace p3 := p3.later hbn
          replace p4 := p4.later hbn
          replace own := own.below hbn
          replace hb0 := bup hb0 hbn
          obtain ⟨p5_0, p5_1, p5_2, p5_f⟩ := octbox p5
          obtain ⟨p1_0, p1_1, p1_f⟩ := opbox p1
          obtain ⟨p2_0, p2_1, p2_f⟩ := opbox p2
          obtain ⟨p4_0, p4_1, p4_2, p4_3, p4_f⟩ := rgbox p4
          go_wp2_with fail
          clear p5_0 p5_1 p5_2 p5_f p1_0 p1_1 p1_f p2_0 p2_1 p2_f p4_0 p4_1 p4_2 p4_3 p4_f
          generalize w4.alloc (Obj.cells #[.int .i64 n, .bool false, .slice A1 m.length c1] 24) = w5 at *
          generalize w4.heap.size = g5 at *
          have hbs := hb0.size
          have ok2 := OkO.atMost HOK.out (av := bv) (an := bn) (bv := (a : Int)) (bn := an) (s := true) (by have := HA.out; omega) (by have := HA.out; omega) (by omega)
          have HX := hid (ratMost_ok n ⟨n, false, m⟩ HOK.out bv bn (a : Int) an true (by have := HA.out; omega) (by have := HA.out; omega) (by omega) ib ia A1 c1 w.heap.size w5 own hbs)
          (try dsimp only at HX)
          (with_reducible refine HX.out.mono ?_)
          clear HX
          rintro e_w6 w6 ⟨A2, c2, rfl, own_w6, -, hg_w6, -⟩
          replace p0 := p0.kept hg_w6 (row_ne own p0 (by decide))
          replace p1 := p1.kept hg_w6 (row_ne own p1 (by decide))
          replace p2 := p2.kept hg_w6 (row_ne own p2 (by decide))
          replace p3 := p3.kept hg_w6 (row_ne own p3 (by decide))
          replace p4 := p4.kept hg_w6 (row_ne own p4 (by decide))
          replace p5 := p5.kept hg_w6 (row_ne own p5 (by decide))
          replace hb0 := hb0.trans (below_grown hg_w6 (row_ge own) hb0.size)
          clear own hg_w6
          have own := own_w6
          clear own_w6
          obtain ⟨q2, hq2⟩ : ∃ q, q = atMostO (⟨n, false, m⟩) bv bn (a : Int) an true := ⟨_, rfl⟩
          rw [← hq2] at own ok2 ⊢
          have HQ2 := hid hq2
          clear hq2 hbs
          obtain ⟨p5_0, p5_1, p5_2, p5_f⟩ := octbox p5
          obtain ⟨p3_0, p3_1, p3_2, p3_f⟩ := octbox p3
          obtain ⟨p2_0, p2_1, p2_f⟩ := opbox p2
          obtain ⟨p1_0, p1_1, p1_f⟩ := opbox p1
          obtain ⟨p4_0, p4_1, p4_2, p4_3, p4_f⟩ := rgbox p4
          go_wp2
          clear p5_0 p5_1 p5_2 p5_f p3_0 p3_1 p3_2 p3_f p2_0 p2_1 p2_f p1_0 p1_1 p1_f p4_0 p4_1 p4_2 p4_3 p4_f
          replace own := own.far3 (g := g5) (v0 := .int .i64 q2.n) (v1 := .bool q2.e) (v2 := .slice A2 q2.m.length c2) (own_blk' own p5 (by decide))
          replace p0 := p0.far3 (g := g5) (v0 := .int .i64 q2.n) (v1 := .bool q2.e) (v2 := .slice A2 q2.m.length c2) (by omega)
          replace p1 := p1.far3 (g := g5) (v0 := .int .i64 q2.n) (v1 := .bool q2.e) (v2 := .slice A2 q2.m.length c2) (by omega)
          replace p2 := p2.far3 (g := g5) (v0 := .int .i64 q2.n) (v1 := .bool q2.e) (v2 := .slice A2 q2.m.length c2) (by omega)
          replace p3 := p3.far3 (g := g5) (v0 := .int .i64 q2.n) (v1 := .bool q2.e) (v2 := .slice A2 q2.m.length c2) (by omega)
          replace p4 := p4.far3 (g := g5) (v0 := .int .i64 q2.n) (v1 := .bool q2.e) (v2 := .slice A2 q2.m.length c2) (by omega)
          replace p5 := p5.set3 (v0 := .int .i64 q2.n) (v1 := .bool q2.e) (v2 := .slice A2 q2.m.length c2)
          replace hb0 := hb0.trans (below3 (W := w6) (g := g5) (v0 := .int .i64 q2.n) (v1 := .bool q2.e) (v2 := .slice A2 q2.m.length c2) (by omega) hb0.size)
          generalize ((w6.setCell ⟨g5, 0, none⟩ (.int .i64 q2.n)).setCell ⟨g5, 1, none⟩ (.bool q2.e)).setCell ⟨g5, 2, none⟩ (.slice A2 q2.m.length c2) = w7 at *
          rw [HU.out]
          rw [← HQ2.out]
          have q9 := p3.set3 (v0 := .int .i64 q2.n) (v1 := .bool q2.e) (v2 := .slice A2 q2.m.length c2)
          have hb9 := hb0.trans (below3 (W := w7) (g := w.heap.size + 1 + 1 + 1) (v0 := .int .i64 q2.n) (v1 := .bool q2.e) (v2 := .slice A2 q2.m.length c2) (by omega) hb0.size)
          have own9 := own.far3 (g := w.heap.size + 1 + 1 + 1) (v0 := .int .i64 q2.n) (v1 := .bool q2.e) (v2 := .slice A2 q2.m.length c2) (own_blk' own p3 (by decide))
          obtain ⟨z0, z1, z2, fz⟩ := octbox q9
          refine bodyPost_ret (v := .agg #[.int .i64 q2.n, .bool q2.e, .slice A2 q2.m.length c2]) (by simp [results, Tryz.results127, go_sem, z0, z1, z2]) rfl ?_
          exact ⟨_, _, rfl, own9, hb9⟩
    · have t3x := hidb t5
      cases h2 : r2
      · replace HU : Hid (U = atMostO ⟨n, false, m⟩ (a : Int) an bv bn true) := hid (by rw [HU.out, h2]; simp [h3, t3x])
        clear t3x
        subst h2
        subst h3
        obtain ⟨p4, hbn, -⟩ := new_one w2 #[.int .i64 r0, .int .i64 r1, .bool false, .bool true] 49
        replace p0 := p0.later hbn
        replace p1 := p1.later hbn
        replace p2 := p2.later hbn
        replace p3 := p3.later hbn
        replace hx := hx.up hbn
        replace hb0 := bup hb0 hbn
        obtain ⟨p0_0, p0_1, p0_2, p0_f⟩ := octbox p0
        go_wp2_with fail
        clear p0_0 p0_1 p0_2 p0_f
        generalize w2.alloc (Obj.cells #[.int .i64 r0, .int .i64 r1, .bool false, .bool true] 49) = w3 at *
        generalize w2.heap.size = g4 at *
        (with_reducible refine (rcopy_any n false m A cap w3 hx hm).mono ?_)
        rintro e_w4 w4 ⟨A1, c1, rfl, own, hb_w4⟩
        replace own := own.less hb0.size
        replace p0 := p0.later hb_w4
        replace p1 := p1.later hb_w4
        replace p2 := p2.later hb_w4
        replace p3 := p3.later hb_w4
        replace p4 := p4.later hb_w4
        replace hx := hx.up hb_w4
        replace hb0 := bup hb0 hb_w4
        clear hx
        have hp4 := p4.lt
        obtain ⟨p5, hbn, -⟩ := new_one w4 #[.int .i64 n, .bool false, .slice A1 m.length c1] 24
        replace p0 := p0.later hbn
        replace p1 := p1.later hbn
        replace p2 := p2.later hbn
        replace p3 := p3.later hbn
        replace p4 := p4.later hbn
        replace own := own.below hbn
        replace hb0 := bup hb0 hbn
        obtain ⟨p5_0, p5_1, p5_2, p5_f⟩ := octbox p5
        obtain ⟨p1_0, p1_1, p1_f⟩ := opbox p1
        obtain ⟨p2_0, p2_1, p2_f⟩ := opbox p2
        obtain ⟨p4_0, p4_1, p4_2, p4_3, p4_f⟩ := rgbox p4
        go_wp2_with fail
        clear p5_0 p5_1 p5_2 p5_f p1_0 p1_1 p1_f p2_0 p2_1 p2_f p4_0 p4_1 p4_2 p4_3 p4_f
        generalize w4.alloc (Obj.cells #[.int .i64 n, .bool false, .slice A1 m.length c1] 24) = w5 at *
        generalize w4.heap.size = g5 at *
        have hbs := hb0.size
        have ok2 := OkO.atMost HOK.out (av := (a : Int)) (an := an) (bv := bv) (bn := bn) (s := true) (by have := HA.out; omega) (by have := HA.out; omega) (by omega)
        have HX := hid (ratMost_ok n ⟨n, false, m⟩ HOK.out (a : Int) an bv bn true (by have := HA.out; omega) (by have := HA.out; omega) (by omega) ia ib A1 c1 w.heap.size w5 own hbs)
        (try dsimp only at HX)
        (with_reducible refine HX.out.mono ?_)
        clear HX
        rintro e_w6 w6 ⟨A2, c2, rfl, own_w6, -, hg_w6, -⟩
        replace p0 := p0.kept hg_w6 (row_ne own p0 (by decide))
        replace p1 := p1.kept hg_w6 (row_ne own p1 (by decide))
        replace p2 := p2.kept hg_w6 (row_ne own p2 (by decide))
        replace p3 := p3.kept hg_w6 (row_ne own p3 (by decide))
        replace p4 := p4.kept hg_w6 (row_ne own p4 (by decide))
        replace p5 := p5.kept hg_w6 (row_ne own p5 (by decide))
        replace hb0 := hb0.trans (below_grown hg_w6 (row_ge own) hb0.size)
        clear own hg_w6
        have own := own_w6
        clear own_w6
        obtain ⟨q2, hq2⟩ : ∃ q, q = atMostO (⟨n, false, m⟩) (a : Int) an bv bn true := ⟨_, rfl⟩
        rw [← hq2] at own ok2 ⊢
        have HQ2 := hid hq2
        clear hq2 hbs
        obtain ⟨p5_0, p5_1, p5_2, p5_f⟩ := octbox p5
        obtain ⟨p3_0, p3_1, p3_2, p3_f⟩ := octbox p3
        obtain ⟨p2_0, p2_1, p2_f⟩ := opbox p2
        obtain ⟨p1_0, p1_1, p1_f⟩ := opbox p1
        obtain ⟨p4_0, p4_1, p4_2, p4_3, p4_f⟩ := rgbox p4
        go_wp2
        clear p5_0 p5_1 p5_2 p5_f p3_0 p3_1 p3_2 p3_f p2_0 p2_1 p2_f p1_0 p1_1 p1_f p4_0 p4_1 p4_2 p4_3 p4_f
        replace own := own.far3 (g := g5) (v0 := .int .i64 q2.n) (v1 := .bool q2.e) (v2 := .slice A2 q2.m.length c2) (own_blk' own p5 (by decide))
        replace p0 := p0.far3 (g := g5) (v0 := .int .i64 q2.n) (v1 := .bool q2.e) (v2 := .slice A2 q2.m.length c2) (by omega)
        replace p1 := p1.far3 (g := g5) (v0 := .int .i64 q2.n) (v1 := .bool q2.e) (v2 := .slice A2 q2.m.length c2) (by omega)
        replace p2 := p2.far3 (g := g5) (v0 := .int .i64 q2.n) (v1 := .bool q2.e) (v2 := .slice A2 q2.m.length c2) (by omega)
        replace p3 := p3.far3 (g := g5) (v0 := .int .i64 q2.n) (v1 := .bool q2.e) (v2 := .slice A2 q2.m.length c2) (by omega)
        replace p4 := p4.far3 (g := g5) (v0 := .int .i64 q2.n) (v1 := .bool q2.e) (v2 := .slice A2 q2.m.length c2) (by omega)
        replace p5 := p5.set3 (v0 := .int .i64 q2.n) (v1 := .bool q2.e) (v2 := .slice A2 q2.m.length c2)
        replace hb0 := hb0.trans (below3 (W := w6) (g := g5) (v0 := .int .i64 q2.n) (v1 := .bool q2.e) (v2 := .slice A2 q2.m.length c2) (by omega) hb0.size)
        generalize ((w6.setCell ⟨g5, 0, none⟩ (.int .i64 q2.n)).setCell ⟨g5, 1, none⟩ (.bool q2.e)).setCell ⟨g5, 2, none⟩ (.slice A2 q2.m.length c2) = w7 at *
        rw [HU.out]
        rw [← HQ2.out]
        have q9 := p3.set3 (v0 := .int .i64 q2.n) (v1 := .bool q2.e) (v2 := .slice A2 q2.m.length c2)
        have hb9 := hb0.trans (below3 (W := w7) (g := w.heap.size + 1 + 1 + 1) (v0 := .int .i64 q2.n) (v1 := .bool q2.e) (v2 := .slice A2 q2.m.length c2) (by omega) hb0.size)
        have own9 := own.far3 (g := w.heap.size + 1 + 1 + 1) (v0 := .int .i64 q2.n) (v1 := .bool q2.e) (v2 := .slice A2 q2.m.length c2) (own_blk' own p3 (by decide))
        obtain ⟨z0, z1, z2, fz⟩ := octbox q9
        refine bodyPost_ret (v := .agg #[.int .i64 q2.n, .bool q2.e, .slice A2 q2.m.length c2]) (by simp [results, Tryz.results127, go_sem, z0, z1, z2]) rfl ?_
        exact ⟨_, _, rfl, own9, hb9⟩
      · cases t4 : (r0 == bn)
        · have t4x := hidb t4
          replace HU : Hid (U = atMostO ⟨n, false, m⟩ (a : Int) an bv bn true) := hid (by rw [HU.out, h2, h3]; simp [t3x, t4x])
          clear t4x t3x
          subst h2
          subst h3
          obtain ⟨p4, hbn, -⟩ := new_one w2 #[.int .i64 r0, .int .i64 r1, .bool true, .bool true] 49
          replace p0 := p0.later hbn
          replace p1 := p1.later hbn
          replace p2 := p2.later hbn
          replace p3 := p3.later hbn
          replace hx := hx.up hbn
          replace hb0 := bup hb0 hbn
          obtain ⟨p0_0, p0_1, p0_2, p0_f⟩ := octbox p0
          go_wp2_with fail
          clear p0_0 p0_1 p0_2 p0_f
          generalize w2.alloc (Obj.cells #[.int .i64 r0, .int .i64 r1, .bool true, .bool true] 49) = w3 at *
          generalize w2.heap.size = g4 at *
          (with_reducible refine (rcopy_any n false m A cap w3 hx hm).mono ?_)
          rintro e_w4 w4 ⟨A1, c1, rfl, own, hb_w4⟩
          replace own := own.less hb0.size
          replace p0 := p0.later hb_w4
          replace p1 := p1.later hb_w4
          replace p2 := p2.later hb_w4
          replace p3 := p3.later hb_w4
          replace p4 := p4.later hb_w4
          replace hx := hx.up hb_w4
          replace hb0 := bup hb0 hb_w4
          clear hx
          have hp4 := p4.lt
          obtain ⟨p5, hbn, -⟩ := new_one w4 #[.int .i64 n, .bool false, .slice A1 m.length c1] 24
          replace p0 := p0.later hbn
          replace p1 := p1.later hbn
          replace p2 := p2.later hbn
          replace p3 := p3.later hbn
          replace p4 := p4.later hbn
          replace own := own.below hbn
          replace hb0 := bup hb0 hbn
          obtain ⟨p5_0, p5_1, p5_2, p5_f⟩ := octbox p5
          obtain ⟨p1_0, p1_1, p1_f⟩ := opbox p1
          obtain ⟨p2_0, p2_1, p2_f⟩ := opbox p2
          obtain ⟨p4_0, p4_1, p4_2, p4_3, p4_f⟩ := rgbox p4
          go_wp2_with fail
          clear p5_0 p5_1 p5_2 p5_f p1_0 p1_1 p1_f p2_0 p2_1 p2_f p4_0 p4_1 p4_2 p4_3 p4_f
          generalize w4.alloc (Obj.cells #[.int .i64 n, .bool false, .slice A1 m.length c1] 24) = w5 at *
          generalize w4.heap.size = g5 at *
          have hbs := hb0.size
          have ok2 := OkO.atMost HOK.out (av := (a : Int)) (an := an) (bv := bv) (bn := bn) (s := true) (by have := HA.out; omega) (by have := HA.out; omega) (by omega)
          have HX := hid (ratMost_ok n ⟨n, false, m⟩ HOK.out (a : Int) an bv bn true (by have := HA.out; omega) (by have := HA.out; omega) (by omega) ia ib A1 c1 w.heap.size w5 own hbs)
          (try dsimp only at HX)
          (with_reducible refine HX.out.mono ?_)
          clear HX
          rintro e_w6 w6 ⟨A2, c2, rfl, own_w6, -, hg_w6, -⟩
          replace p0 := p0.kept hg_w6 (row_ne own p0 (by decide))
          replace p1 := p1.kept hg_w6 (row_ne own p1 (by decide))
          replace p2 := p2.kept hg_w6 (row_ne own p2 (by decide))
          replace p3 := p3.kept hg_w6 (row_ne own p3 (by decide))
          replace p4 := p4.kept hg_w6 (row_ne own p4 (by decide))
          replace p5 := p5.kept hg_w6 (row_ne own p5 (by decide))
          replace hb0 := hb0.trans (below_grown hg_w6 (row_ge own) hb0.size)
          clear own hg_w6
          have own := own_w6
          clear own_w6
          obtain ⟨q2, hq2⟩ : ∃ q, q = atMostO (⟨n, false, m⟩) (a : Int) an bv bn true := ⟨_, rfl⟩
          rw [← hq2] at own ok2 ⊢
          have HQ2 := hid hq2
          clear hq2 hbs
          obtain ⟨p5_0, p5_1, p5_2, p5_f⟩ := octbox p5
          obtain ⟨p3_0, p3_1, p3_2, p3_f⟩ := octbox p3
          obtain ⟨p2_0, p2_1, p2_f⟩ := opbox p2
          obtain ⟨p1_0, p1_1, p1_f⟩ := opbox p1
          obtain ⟨p4_0, p4_1, p4_2, p4_3, p4_f⟩ := rgbox p4
          go_wp2
          clear p5_0 p5_1 p5_2 p5_f p3_0 p3_1 p3_2 p3_f p2_0 p2_1 p2_f p1_0 p1_1 p1_f p4_0 p4_1 p4_2 p4_3 p4_f
          replace own := own.far3 (g := g5) (v0 := .int .i64 q2.n) (v1 := .bool q2.e) (v2 := .slice A2 q2.m.length c2) (own_blk' own p5 (by decide))
          replace p0 := p0.far3 (g := g5) (v0 := .int .i64 q2.n) (v1 := .bool q2.e) (v2 := .slice A2 q2.m.length c2) (by omega)
          replace p1 := p1.far3 (g := g5) (v0 := .int .i64 q2.n) (v1 := .bool q2.e) (v2 := .slice A2 q2.m.length c2) (by omega)
          replace p2 := p2.far3 (g := g5) (v0 := .int .i64 q2.n) (v1 := .bool q2.e) (v2 := .slice A2 q2.m.length c2) (by omega)
          replace p3 := p3.far3 (g := g5) (v0 := .int .i64 q2.n) (v1 := .bool q2.e) (v2 := .slice A2 q2.m.length c2) (by omega)
          replace p4 := p4.far3 (g := g5) (v0 := .int .i64 q2.n) (v1 := .bool q2.e) (v2 := .slice A2 q2.m.length c2) (by omega)
          replace p5 := p5.set3 (v0 := .int .i64 q2.n) (v1 := .bool q2.e) (v2 := .slice A2 q2.m.length c2)
          replace hb0 := hb0.trans (below3 (W := w6) (g := g5) (v0 := .int .i64 q2.n) (v1 := .bool q2.e) (v2 := .slice A2 q2.m.length c2) (by omega) hb0.size)
          generalize ((w6.setCell ⟨g5, 0, none⟩ (.int .i64 q2.n)).setCell ⟨g5, 1, none⟩ (.bool q2.e)).setCell ⟨g5, 2, none⟩ (.slice A2 q2.m.length c2) = w7 at *
          rw [HU.out]
          rw [← HQ2.out]
          have q9 := p3.set3 (v0 := .int .i64 q2.n) (v1 := .bool q2.e) (v2 := .slice A2 q2.m.length c2)
          have hb9 := hb0.trans (below3 (W := w7) (g := w.heap.size + 1 + 1 + 1) (v0 := .int .i64 q2.n) (v1 := .bool q2.e) (v2 := .slice A2 q2.m.length c2) (by omega) hb0.size)
          have own9 := own.far3 (g := w.heap.size + 1 + 1 + 1) (v0 := .int .i64 q2.n) (v1 := .bool q2.e) (v2 := .slice A2 q2.m.length c2) (own_blk' own p3 (by decide))
          obtain ⟨z0, z1, z2, fz⟩ := octbox q9
          refine bodyPost_ret (v := .agg #[.int .i64 q2.n, .bool q2.e, .slice A2 q2.m.length c2]) (by simp [results, Tryz.results127, go_sem, z0, z1, z2]) rfl ?_
          exact ⟨_, _, rfl, own9, hb9⟩
        · have t4x := hidb t4
          replace HU : Hid (U = atMostO (atMostO ⟨n, false, m⟩ (a : Int) an bv bn true) bv bn (a : Int) an true) := hid (by rw [HU.out, h2, h3]; simp [t3x, t4x])
          clear t4x t3x
          subst h2
          subst h3
          obtain ⟨p4, hbn, -⟩ := new_one w2 #[.int .i64 r0, .int .i64 r1, .bool true, .bool true] 49
          replace p0 := p0.later hbn
          replace p1 := p1.later hbn
          replace p2 := p2.later hbn
          replace p3 := p3.later hbn
          replace hx := hx.up hbn
          replace hb0 := bup hb0 hbn
          obtain ⟨p0_0, p0_1, p0_2, p0_f⟩ := octbox p0
          go_wp2_with fail
          clear p0_0 p0_1 p0_2 p0_f
          generalize w2.alloc (Obj.cells #[.int .i64 r0, .int .i64 r1, .bool true, .bool true] 49) = w3 at *
          generalize w2.heap.size = g4 at *
          (with_reducible refine (rcopy_any n false m A cap w3 hx hm).mono ?_)
          rintro e_w4 w4 ⟨A1, c1, rfl, own, hb_w4⟩
          replace own := own.less hb0.size
          replace p0 := p0.later hb_w4
          replace p1 := p1.later hb_w4
          replace p2 := p2.later hb_w4
          replace p3 := p3.later hb_w4
          replace p4 := p4.later hb_w4
          replace hx := hx.up hb_w4
          replace hb0 := bup hb0 hb_w4
          clear hx
          have hp4 := p4.lt
          obtain ⟨p5, hbn, -⟩ := new_one w4 #[.int .i64 n, .bool false, .slice A1 m.length c1] 24
          replace p0 := p0.later hbn
          replace p1 := p1.later hbn
          replace p2 := p2.later hbn
          replace p3 := p3.later hbn
          replace p4 := p4.later hbn
          replace own := own.below hbn
          replace hb0 := bup hb0 hbn
          obtain ⟨p5_0, p5_1, p5_2, p5_f⟩ := octbox p5
          obtain ⟨p1_0, p1_1, p1_f⟩ := opbox p1
          obtain ⟨p2_0, p2_1, p2_f⟩ := opbox p2
          obtain ⟨p4_0, p4_1, p4_2, p4_3, p4_f⟩ := rgbox p4
          go_wp2_with fail
          clear p5_0 p5_1 p5_2 p5_f p1_0 p1_1 p1_f p2_0 p2_1 p2_f p4_0 p4_1 p4_2 p4_3 p4_f
          generalize w4.alloc (Obj.cells #[.int .i64 n, .bool false, .slice A1 m.length c1] 24) = w5 at *
          generalize w4.heap.size = g5 at *
          have hbs := hb0.size
          have ok2 := OkO.atMost HOK.out (av := (a : Int)) (an := an) (bv := bv) (bn := bn) (s := true) (by have := HA.out; omega) (by have := HA.out; omega) (by omega)
          have HX := hid (ratMost_ok n ⟨n, false, m⟩ HOK.out (a : Int) an bv bn true (by have := HA.out; omega) (by have := HA.out; omega) (by omega) ia ib A1 c1 w.heap.size w5 own hbs)
          (try dsimp only at HX)
          (with_reducible refine HX.out.mono ?_)
          clear HX
          rintro e_w6 w6 ⟨A2, c2, rfl, own_w6, -, hg_w6, -⟩
          replace p0 := p0.kept hg_w6 (row_ne own p0 (by decide))
          replace p1 := p1.kept hg_w6 (row_ne own p1 (by decide))
          replace p2 := p2.kept hg_w6 (row_ne own p2 (by decide))
          replace p3 := p3.kept hg_w6 (row_ne own p3 (by decide))
          replace p4 := p4.kept hg_w6 (row_ne own p4 (by decide))
          replace p5 := p5.kept hg_w6 (row_ne own p5 (by decide))
          replace hb0 := hb0.trans (below_grown hg_w6 (row_ge own) hb0.size)
          clear own hg_w6
          have own := own_w6
          clear own_w6
          obtain ⟨q2, hq2⟩ : ∃ q, q = atMostO (⟨n, false, m⟩) (a : Int) an bv bn true := ⟨_, rfl⟩
          rw [← hq2] at own ok2 ⊢
          have HQ2 := hid hq2
          clear hq2 hbs
          obtain ⟨p5_0, p5_1, p5_2, p5_f⟩ := octbox p5
          obtain ⟨p3_0, p3_1, p3_2, p3_f⟩ := octbox p3
          obtain ⟨p2_0, p2_1, p2_f⟩ := opbox p2
          obtain ⟨p1_0, p1_1, p1_f⟩ := opbox p1
          obtain ⟨p4_0, p4_1, p4_2, p4_3, p4_f⟩ := rgbox p4
          go_wp2_with fail
          clear p5_0 p5_1 p5_2 p5_f p3_0 p3_1 p3_2 p3_f p2_0 p2_1 p2_f p1_0 p1_1 p1_f p4_0 p4_1 p4_2 p4_3 p4_f
          replace own := own.far3 (g := g5) (v0 := .int .i64 q2.n) (v1 := .bool q2.e) (v2 := .slice A2 q2.m.length c2) (own_blk' own p5 (by decide))
          replace p0 := p0.far3 (g := g5) (v0 := .int .i64 q2.n) (v1 := .bool q2.e) (v2 := .slice A2 q2.m.length c2) (by omega)
          replace p1 := p1.far3 (g := g5) (v0 := .int .i64 q2.n) (v1 := .bool q2.e) (v2 := .slice A2 q2.m.length c2) (by omega)
          replace p2 := p2.far3 (g := g5) (v0 := .int .i64 q2.n) (v1 := .bool q2.e) (v2 := .slice A2 q2.m.length c2) (by omega)
          replace p3 := p3.far3 (g := g5) (v0 := .int .i64 q2.n) (v1 := .bool q2.e) (v2 := .slice A2 q2.m.length c2) (by omega)
          replace p4 := p4.far3 (g := g5) (v0 := .int .i64 q2.n) (v1 := .bool q2.e) (v2 := .slice A2 q2.m.length c2) (by omega)
          replace p5 := p5.set3 (v0 := .int .i64 q2.n) (v1 := .bool q2.e) (v2 := .slice A2 q2.m.length c2)
          replace hb0 := hb0.trans (below3 (W := w6) (g := g5) (v0 := .int .i64 q2.n) (v1 := .bool q2.e) (v2 := .slice A2 q2.m.length c2) (by omega) hb0.size)
          generalize ((w6.setCell ⟨g5, 0, none⟩ (.int .i64 q2.n)).setCell ⟨g5, 1, none⟩ (.bool q2.e)).setCell ⟨g5, 2, none⟩ (.slice A2 q2.m.length c2) = w7 at *
          have hbs := hb0.size
          have ok3 := OkO.atMost ok2 (av := bv) (an := bn) (bv := (a : Int)) (bn := an) (s := true) (by have := HA.out; omega) (by have := HA.out; omega) (by omega)
          have HX := hid (ratMost_ok n q2 ok2 bv bn (a : Int) an true (by have := HA.out; omega) (by have := HA.out; omega) (by omega) ib ia A2 c2 w.heap.size w7 own hbs)
          (try dsimp only at HX)
          (with_reducible refine HX.out.mono ?_)
          clear HX
          rintro e_w8 w8 ⟨A3, c3, rfl, own_w8, -, hg_w8, -⟩
          replace p0 := p0.kept hg_w8 (row_ne own p0 (by decide))
          replace p1 := p1.kept hg_w8 (row_ne own p1 (by decide))
          replace p2 := p2.kept hg_w8 (row_ne own p2 (by decide))
          replace p3 := p3.kept hg_w8 (row_ne own p3 (by decide))
          replace p4 := p4.kept hg_w8 (row_ne own p4 (by decide))
          replace p5 := p5.kept hg_w8 (row_ne own p5 (by decide))
          replace hb0 := hb0.trans (below_grown hg_w8 (row_ge own) hb0.size)
          clear own hg_w8
          have own := own_w8
          clear own_w8
          obtain ⟨q3, hq3⟩ : ∃ q, q = atMostO (q2) bv bn (a : Int) an true := ⟨_, rfl⟩
          rw [← hq3] at own ok3 ⊢
          have HQ3 := hid hq3
          clear hq3 hbs
          obtain ⟨p5_0, p5_1, p5_2, p5_f⟩ := octbox p5
          obtain ⟨p3_0, p3_1, p3_2, p3_f⟩ := octbox p3
          go_wp2
          clear p5_0 p5_1 p5_2 p5_f p3_0 p3_1 p3_2 p3_f
          replace own := own.far3 (g := g5) (v0 := .int .i64 q3.n) (v1 := .bool q3.e) (v2 := .slice A3 q3.m.length c3) (own_blk' own p5 (by decide))
          replace p0 := p0.far3 (g := g5) (v0 := .int .i64 q3.n) (v1 := .bool q3.e) (v2 := .slice A3 q3.m.length c3) (by omega)
          replace p1 := p1.far3 (g := g5) (v0 := .int .i64 q3.n) (v1 := .bool q3.e) (v2 := .slice A3 q3.m.length c3) (by omega)
          replace p2 := p2.far3 (g := g5) (v0 := .int .i64 q3.n) (v1 := .bool q3.e) (v2 := .slice A3 q3.m.length c3) (by omega)
          replace p3 := p3.far3 (g := g5) (v0 := .int .i64 q3.n) (v1 := .bool q3.e) (v2 := .slice A3 q3.m.length c3) (by omega)
          replace p4 := p4.far3 (g := g5) (v0 := .int .i64 q3.n) (v1 := .bool q3.e) (v2 := .slice A3 q3.m.length c3) (by omega)
          replace p5 := p5.set3 (v0 := .int .i64 q3.n) (v1 := .bool q3.e) (v2 := .slice A3 q3.m.length c3)
          replace hb0 := hb0.trans (below3 (W := w8) (g := g5) (v0 := .int .i64 q3.n) (v1 := .bool q3.e) (v2 := .slice A3 q3.m.length c3) (by omega) hb0.size)
          generalize ((w8.setCell ⟨g5, 0, none⟩ (.int .i64 q3.n)).setCell ⟨g5, 1, none⟩ (.bool q3.e)).setCell ⟨g5, 2, none⟩ (.slice A3 q3.m.length c3) = w9 at *
          rw [HU.out]
          rw [← HQ2.out, ← HQ3.out]
          have q9 := p3.set3 (v0 := .int .i64 q3.n) (v1 := .bool q3.e) (v2 := .slice A3 q3.m.length c3)
          have hb9 := hb0.trans (below3 (W := w9) (g := w.heap.size + 1 + 1 + 1) (v0 := .int .i64 q3.n) (v1 := .bool q3.e) (v2 := .slice A3 q3.m.length c3) (by omega) hb0.size)
          have own9 := own.far3 (g := w.heap.size + 1 + 1 + 1) (v0 := .int .i64 q3.n) (v1 := .bool q3.e) (v2 := .slice A3 q3.m.length c3) (own_blk' own p3 (by decide))
          obtain ⟨z0, z1, z2, fz⟩ := octbox q9
          refine bodyPost_ret (v := .agg #[.int .i64 q3.n, .bool q3.e, .slice A3 q3.m.length c3]) (by simp [results, Tryz.results127, go_sem, z0, z1, z2]) rfl ?_
          exact ⟨_, _, rfl, own9, hb9⟩

set_option maxRecDepth 8000 in
set_option maxHeartbeats 2000000 in
theorem runlike_same (n : Int) (m : List Int) (a : Nat) (an bn : Int) (A : Option Addr) (cap : Nat) (w : World) :
    Calls Tryz.prog 127 #[.agg #[.int .i64 n, .bool false, .slice A m.length cap], .agg #[.int .i64 (a : Int), .int .i64 an], .agg #[.int .i64 (a : Int), .int .i64 bn]] w (OctOwn w (emptyO n)) := by
  have t0 : decide (0 ≤ (a : Int)) = true := by rw [decide_eq_true_eq]; omega
  have t1 : ((a : Int) == (a : Int)) = true := by simp
  obtain ⟨p0, p1, p2, p3, hb0, hsz⟩ := new_four w #[.int .i64 n, .bool false, .slice A m.length cap] #[.int .i64 (a : Int), .int .i64 an] #[.int .i64 (a : Int), .int .i64 bn] #[.int .i64 0, .bool false, .slice none 0 0] 24 26 26 24
  clear hsz
  go_enter Tryz.func127, Tryz.ntmps127
  obtain ⟨p0_0, p0_1, p0_2, p0_f⟩ := octbox p0
  obtain ⟨p1_0, p1_1, p1_f⟩ := opbox p1
  obtain ⟨p2_0, p2_1, p2_f⟩ := opbox p2
  go_wp2_with fail
  clear p0_0 p0_1 p0_2 p0_f p1_0 p1_1 p1_f p2_0 p2_1 p2_f
  generalize (((w.alloc (Obj.cells #[.int .i64 n, .bool false, .slice A m.length cap] 24)).alloc (Obj.cells #[.int .i64 (a : Int), .int .i64 an] 26)).alloc (Obj.cells #[.int .i64 (a : Int), .int .i64 bn] 26)).alloc (Obj.cells #[.int .i64 0, .bool false, .slice none 0 0] 24) = w1 at *
  (with_reducible refine (rempty_any n w1).mono ?_)
  rintro e_w2 w2 ⟨rfl, hb_w2⟩
  replace p0 := p0.later hb_w2
  replace p1 := p1.later hb_w2
  replace p2 := p2.later hb_w2
  replace p3 := p3.later hb_w2
  replace hb0 := bup hb0 hb_w2
  have own : Own w2 w.heap.size none 0 [] := own_nil _ _
  obtain ⟨p3_0, p3_1, p3_2, p3_f⟩ := octbox p3
  go_wp2
  clear p3_0 p3_1 p3_2 p3_f
  unfold emptyO
  have q9 := p3.set3 (v0 := .int .i64 n) (v1 := .bool true) (v2 := .slice none 0 0)
  have hb9 := hb0.trans (below3 (W := w2) (g := w.heap.size + 1 + 1 + 1) (v0 := .int .i64 n) (v1 := .bool true) (v2 := .slice none 0 0) (by omega) hb0.size)
  have own9 := own.far3 (g := w.heap.size + 1 + 1 + 1) (v0 := .int .i64 n) (v1 := .bool true) (v2 := .slice none 0 0) (own_blk' own p3 (by decide))
  obtain ⟨z0, z1, z2, fz⟩ := octbox q9
  refine bodyPost_ret (v := .agg #[.int .i64 n, .bool true, .slice none 0 0]) (by simp [results, Tryz.results127, go_sem, z0, z1, z2]) rfl ?_
  exact ⟨_, _, rfl, own9, hb9⟩

theorem runlike_ok (n : Int) (m : List Int) (N : Nat) (hN : (N : Int) = 2 * n) (hn : N ≤ 128) (hc : Cells N m) (av an bv bn : Int) (ha : av < n) (hb : bv < n) (hab : 0 ≤ av ∨ 0 ≤ bv) (ia : I64 an) (ib : I64 bn) (A : Option Addr) (cap : Nat) (w : World) (hx : Rd w w.heap.size A m) (hm : m.length ≤ 17592186044416) :
    Calls Tryz.prog 127 #[.agg #[.int .i64 n, .bool false, .slice A m.length cap], .agg #[.int .i64 av, .int .i64 an], .agg #[.int .i64 bv, .int .i64 bn]] w (OctOwn w (unlikeO ⟨n, false, m⟩ av an bv bn)) := by
  unfold unlikeO
  by_cases h : av < 0
  · rw [if_pos h, if_neg (by omega)]
    obtain ⟨b, rfl⟩ := Int.eq_ofNat_of_zero_le (show 0 ≤ bv by omega)
    exact runlike_swap n m N hN hn hc b bn av an h hb ib ia A cap w hx hm
  · rw [if_neg h]
    obtain ⟨a, rfl⟩ := Int.eq_ofNat_of_zero_le (show 0 ≤ av by omega)
    by_cases h1 : 0 ≤ bv
    · rw [if_pos h1]
      obtain ⟨b, rfl⟩ := Int.eq_ofNat_of_zero_le h1
      unfold unlikeVarsO
      by_cases he : a = b
      · subst he
        rw [if_pos rfl]
        exact runlike_same n m a an bn A cap w
      · rw [if_neg (by omega)]
        have := runlike_two n m N hN hn hc a b an bn he ha hb ia ib A cap w hx hm
        dsimp only
        rw [show (2 * n).toNat = N by omega, Int.toNat_natCast, Int.toNat_natCast]
        exact this
    · rw [if_neg h1]
      exact runlike_num n m N hN hn hc a an bv bn (by omega) ha ia ib A cap w hx hm
end Go.Proofs.YtnmpgijiimglcaaGreat
