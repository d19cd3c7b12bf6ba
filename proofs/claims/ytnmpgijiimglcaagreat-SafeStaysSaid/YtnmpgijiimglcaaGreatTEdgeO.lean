import Derived.Test.YtnmpgijiimglcaaGreatTEdge
namespace Go.Proofs.YtnmpgijiimglcaaGreat
open Go.RowKit
set_option maxRecDepth 100000
set_option maxHeartbeats 8000000
attribute [local go_sem ↓] Go.wp_at_zero Go.wp_at_succ
theorem tEdge_any (o : O) (fr te kd dst arr op av an bv bn : Int) (A : Option Addr) (cap : Nat) (w : World) (hx : Rd w w.heap.size A o.m) (hm : o.m.length ≤ 17592186044416) (B : Nat) (hB : B ≤ w.heap.size)
  (P : transErr o ⟨fr, te, kd, dst, arr, op, av, an, bv, bn⟩ = 0 → ∀ (N : Nat) (cm : List Int) (Ac : Option Addr) (cc : Nat) (W : World), (N : Int) = 2 * o.n → N ≤ 128 → Cells N cm → closeO o = ⟨o.n, false, cm⟩ → B ≤ W.heap.size → Sx W B Ac cm → cm.length ≤ 17592186044416 → Calls Tryz.prog 68 #[.agg #[o.n, false, .slice Ac cm.length cc], .agg #[fr, te, kd, dst, arr, op, av, an, bv, bn]] W (SxRes W B (edgeO ⟨o.n, false, cm⟩ ⟨fr, te, kd, dst, arr, op, av, an, bv, bn⟩))) :
  Calls Tryz.prog 28 #[.agg #[o.n, o.e, .slice A o.m.length cap], .agg #[fr, te, kd, dst, arr, op, av, an, bv, bn]] w (ErrSx w B (transAns o ⟨fr, te, kd, dst, arr, op, av, an, bv, bn⟩) (transErr o ⟨fr, te, kd, dst, arr, op, av, an, bv, bn⟩)) := by
 have HE : Hid (transErr o ⟨fr, te, kd, dst, arr, op, av, an, bv, bn⟩ = if check o ≠ 0 then check o else if rightT o.n ⟨fr, te, kd, dst, arr, op, av, an, bv, bn⟩ then 0 else 160) := hid rfl
 have HR : Hid (transAns o ⟨fr, te, kd, dst, arr, op, av, an, bv, bn⟩ = if transErr o ⟨fr, te, kd, dst, arr, op, av, an, bv, bn⟩ = 0 then transO o ⟨fr, te, kd, dst, arr, op, av, an, bv, bn⟩ else ⟨0, false, []⟩) := hid rfl
 have HP := hid P
 clear P
 have HRT : Hid (∀ W, Calls Tryz.prog 67 #[.agg #[fr, te, kd, dst, arr, op, av, an, bv, bn], o.n] W fun r w' => r = .returned (.bool (rightT o.n ⟨fr, te, kd, dst, arr, op, av, an, bv, bn⟩)) ∧ Below W.heap.size W w') := hid (fun W => tright_any o.n ⟨fr, te, kd, dst, arr, op, av, an, bv, bn⟩ W)
 have HTO : Hid (transO o ⟨fr, te, kd, dst, arr, op, av, an, bv, bn⟩ = if (closeO o).e then closeO o else edgeO (closeO o) ⟨fr, te, kd, dst, arr, op, av, an, bv, bn⟩) := hid rfl
 generalize transO o ⟨fr, te, kd, dst, arr, op, av, an, bv, bn⟩ = TO at *
 generalize transAns o ⟨fr, te, kd, dst, arr, op, av, an, bv, bn⟩ = R at *
 generalize transErr o ⟨fr, te, kd, dst, arr, op, av, an, bv, bn⟩ = E at *
 generalize hrb : rightT o.n ⟨fr, te, kd, dst, arr, op, av, an, bv, bn⟩ = rb at *
 clear hrb
 have HCK := hid (fun W (h : Rd W W.heap.size A o.m) => check_any o A cap W h (by omega))
 have HK : Hid (∃ k, k = check o) := hid ⟨_, rfl⟩
 obtain ⟨k, hk⟩ := HK.out
 rw [← hk] at HCK HE
 clear HK
 obtain ⟨p0, p1, p3, a0, hsz⟩ := new_three w #[o.n, o.e, .slice A o.m.length cap] #[fr, te, kd, dst, arr, op, av, an, bv, bn] #[.int .i64 0, false, .slice none 0 0] 24 44 24
 replace hx := hx.up a0
 have HSZ := hid hsz
 clear hsz
 have HKK := hid hk
 clear hk
 obtain ⟨b1, b2, b0, b3⟩ := octbox p0
 go_enter Tryz.func28, Tryz.ntmps28
 go_wp2_with fail
 clear b1 b2 b0 b3
 generalize ((w.alloc (Obj.cells #[o.n, o.e, .slice A o.m.length cap] 24)).alloc (Obj.cells #[fr, te, kd, dst, arr, op, av, an, bv, bn] 44)).alloc (Obj.cells #[.int .i64 0, false, .slice none 0 0] 24) = w1 at *
 (with_reducible refine (HCK.out w1 hx).mono ?_)
 rintro e_w2 w2 ⟨rfl, a3⟩
 replace p0 := p0.later a3
 replace p1 := p1.later a3
 replace p3 := p3.later a3
 replace hx := hx.up a3
 replace a0 := bup a0 a3
 cases t1 : (k != 0)
 rotate_left
 ·have d1 : k ≠ 0 := by simpa using t1
  have e1 : E = k := by rw [HE.out, if_pos d1]
  have e2 : R = ⟨0, false, []⟩ := by rw [HR.out, e1, if_neg d1]
  subst e2
  clear HR HE d1
  subst e1
  obtain ⟨a8, a6, a5, a7⟩ := octbox p3
  go_wp2
  clear a8 a6 a5 a7
  have hBz := a0.size
  have q9 := p3.set3 (v0 := .int .i64 0) (v1 := .bool false) (v2 := .slice none 0 0)
  have c1 := a0.trans (below3 (W := w2) (g := w.heap.size + 1 + 1) (v0 := .int .i64 0) (v1 := .bool false) (v2 := .slice none 0 0) (by omega) a0.size)
  obtain ⟨z0, z1, z2, fz⟩ := octbox q9
  refine bodyPost_ret (v := .tuple #[.agg #[.int .i64 0, false, .slice none 0 0], E]) (by simp [results, Tryz.results28, go_sem, z0, z1, z2]) rfl ?_
  exact ⟨none, 0, rfl, sx_nil _ _, c1⟩
 ·have d1 : k = 0 := by simpa using t1
  subst d1
  have hck : check o = 0 := HKK.out.symm
  have d2 := hid hck
  clear hck t1
  replace HE : Hid (E = if rb then 0 else 160) := hid (by rw [HE.out, if_neg (by simp)])
  obtain ⟨b1, b2, b0, b3⟩ := octbox p0
  obtain ⟨c0, b8, b5, c6, c7, c9, c5, c4, b7, b9, c3⟩ := edgbox p1
  go_wp2_with fail
  clear b1 b2 b0 b3 c0 b8 b5 c6 c7 c9 c5 c4 b7 b9 c3
  (with_reducible refine (HRT.out w2).mono ?_)
  rintro e_w3 w3 ⟨rfl, a4⟩
  replace p0 := p0.later a4
  replace p1 := p1.later a4
  replace p3 := p3.later a4
  replace hx := hx.up a4
  replace a0 := bup a0 a4
  cases rb
  ·have e1 : E = 160 := by rw [HE.out]; rfl
   have e2 : R = ⟨0, false, []⟩ := by rw [HR.out, e1, if_neg (by omega)]
   subst e2
   clear HR HE HP
   subst e1
   obtain ⟨a8, a6, a5, a7⟩ := octbox p3
   go_wp2
   clear a8 a6 a5 a7
   have hBz := a0.size
   have q9 := p3.set3 (v0 := .int .i64 0) (v1 := .bool false) (v2 := .slice none 0 0)
   have c1 := a0.trans (below3 (W := w3) (g := w.heap.size + 1 + 1) (v0 := .int .i64 0) (v1 := .bool false) (v2 := .slice none 0 0) (by omega) a0.size)
   obtain ⟨z0, z1, z2, fz⟩ := octbox q9
   refine bodyPost_ret (v := .tuple #[.agg #[.int .i64 0, false, .slice none 0 0], .int .i64 160]) (by simp [results, Tryz.results28, go_sem, z0, z1, z2]) rfl ?_
   exact ⟨none, 0, rfl, sx_nil _ _, c1⟩
  ·have e1 : E = 0 := by rw [HE.out]; rfl
   replace HR : Hid (R = if (closeO o).e then closeO o else edgeO (closeO o) ⟨fr, te, kd, dst, arr, op, av, an, bv, bn⟩) := hid (by rw [HR.out, e1, if_pos rfl, HTO.out])
   clear HE HTO
   subst e1
   obtain ⟨b1, b2, b0, b3⟩ := octbox p0
   go_wp2_with fail
   clear b1 b2 b0 b3
   have hle : w.heap.size ≤ w3.heap.size := a0.size
   have hBc := Nat.le_trans hB hle
   (with_reducible refine (tclosed_ok o d2.out A cap w3 hx hm).mono ?_)
   rintro e_w4 w4 ⟨Ac, cc, rfl, ownc, a2⟩
   have sxc := Sx.of_own ownc hBc
   replace p0 := p0.later a2
   replace p1 := p1.later a2
   replace p3 := p3.later a2
   replace hx := hx.up a2
   replace a0 := bup a0 a2
   have okc : OkO o.n (closeO o) := OkO.close ⟨rfl, d2.out⟩
   have d3 := OkO.small okc
   rcases okc.form with hE | ⟨N, cm, hN, hn, hE, hc⟩
   ·replace HR : Hid (R = emptyO o.n) := hid (by rw [HR.out, hE]; rfl)
    rw [hE] at sxc ⊢
    unfold emptyO at *
    dsimp only at *
    replace sxc : Sx w4 B Ac [] := sxc
    clear hE d3 okc HP
    simp only [List.length_nil]
    obtain ⟨p5, a9, -⟩ := new_one w4 #[o.n, true, .slice Ac 0 cc] 24
    replace p0 := p0.later a9
    replace p1 := p1.later a9
    replace p3 := p3.later a9
    replace sxc := sxc.later a9 (Nat.le_trans hB a0.size)
    replace hx := hx.up a9
    replace a0 := bup a0 a9
    obtain ⟨b6, b4, c8, d0⟩ := octbox p5
    obtain ⟨a8, a6, a5, a7⟩ := octbox p3
    go_wp2
    clear b6 b4 c8 d0 a8 a6 a5 a7
    generalize w4.alloc (Obj.cells #[o.n, true, .slice Ac 0 cc] 24) = w5 at *
    have hBz := a0.size
    have s9 := sxc.far3 (g := w.heap.size + 1 + 1) (v0 := .int .i64 o.n) (v1 := .bool true) (v2 := .slice Ac 0 cc) (by omega) p3 (by decide)
    rw [HR.out]
    have q9 := p3.set3 (v0 := .int .i64 o.n) (v1 := .bool true) (v2 := .slice Ac 0 cc)
    have c1 := a0.trans (below3 (W := w5) (g := w.heap.size + 1 + 1) (v0 := .int .i64 o.n) (v1 := .bool true) (v2 := .slice Ac 0 cc) (by omega) a0.size)
    obtain ⟨z0, z1, z2, fz⟩ := octbox q9
    refine bodyPost_ret (v := .tuple #[.agg #[o.n, true, .slice Ac 0 cc], .int .i64 0]) (by simp [results, Tryz.results28, go_sem, z0, z1, z2]) rfl ?_
    exact ⟨_, _, rfl, s9, c1⟩
   ·replace HR : Hid (R = edgeO ⟨o.n, false, cm⟩ ⟨fr, te, kd, dst, arr, op, av, an, bv, bn⟩) := hid (by rw [HR.out, hE]; rfl)
    rw [hE] at sxc d3 ⊢
    dsimp only at *
    have HP2 := hid (fun W h1 h2 => HP.out (by first | rfl | trivial) N cm Ac cc W hN hn hc hE h1 h2 d3)
    clear hE okc HP
    obtain ⟨p5, a9, -⟩ := new_one w4 #[o.n, false, .slice Ac cm.length cc] 24
    replace p0 := p0.later a9
    replace p1 := p1.later a9
    replace p3 := p3.later a9
    replace sxc := sxc.later a9 (Nat.le_trans hB a0.size)
    replace hx := hx.up a9
    replace a0 := bup a0 a9
    obtain ⟨b6, b4, c8, d0⟩ := octbox p5
    obtain ⟨c0, b8, b5, c6, c7, c9, c5, c4, b7, b9, c3⟩ := edgbox p1
    go_wp2_with fail
    clear b6 b4 c8 d0 c0 b8 b5 c6 c7 c9 c5 c4 b7 b9 c3
    generalize w4.alloc (Obj.cells #[o.n, false, .slice Ac cm.length cc] 24) = w5 at *
    have hBd := Nat.le_trans hB a0.size
    (with_reducible refine (HP2.out w5 hBd sxc).mono ?_)
    rintro e_w6 w6 ⟨A2, c2, rfl, sx2, a1⟩
    replace p0 := p0.later a1
    replace p1 := p1.later a1
    replace p3 := p3.later a1
    replace p5 := p5.later a1
    replace sxc := sxc.later a1 (Nat.le_trans hB a0.size)
    replace hx := hx.up a1
    replace a0 := bup a0 a1
    rw [← HR.out] at sx2 ⊢
    obtain ⟨a8, a6, a5, a7⟩ := octbox p3
    go_wp2
    clear a8 a6 a5 a7
    have hBz := a0.size
    have s9 := sx2.far3 (g := w.heap.size + 1 + 1) (v0 := .int .i64 R.n) (v1 := .bool R.e) (v2 := .slice A2 R.m.length c2) (by omega) p3 (by decide)
    have q9 := p3.set3 (v0 := .int .i64 R.n) (v1 := .bool R.e) (v2 := .slice A2 R.m.length c2)
    have c1 := a0.trans (below3 (W := w6) (g := w.heap.size + 1 + 1) (v0 := .int .i64 R.n) (v1 := .bool R.e) (v2 := .slice A2 R.m.length c2) (by omega) a0.size)
    obtain ⟨z0, z1, z2, fz⟩ := octbox q9
    refine bodyPost_ret (v := .tuple #[.agg #[R.n, R.e, .slice A2 R.m.length c2], .int .i64 0]) (by simp [results, Tryz.results28, go_sem, z0, z1, z2]) rfl ?_
    exact ⟨_, _, rfl, s9, c1⟩
end Go.Proofs.YtnmpgijiimglcaaGreat
