/-
  trans.Edge: what it answers, of what trans.edge answers.
-/
import Derived.Test.YtnmpgijiimglcaaGreatBTS33
namespace Go.Proofs.YtnmpgijiimglcaaGreat
open Go.RowKit
attribute [local go_sem ↓] Go.wp_at_zero Go.wp_at_succ

set_option maxRecDepth 8000 in
set_option maxHeartbeats 4000000 in
theorem tEdge_any (o : O) (fr te kd dst arr op av an bv bn : Int) (A : Option Addr) (cap : Nat) (w : World) (hx : Rd w w.heap.size A o.m) (hm : o.m.length ≤ 17592186044416) (B : Nat) (hB : B ≤ w.heap.size)
    (P : transErr o ⟨fr, te, kd, dst, arr, op, av, an, bv, bn⟩ = 0 → ∀ (N : Nat) (cm : List Int) (Ac : Option Addr) (cc : Nat) (W : World), (N : Int) = 2 * o.n → N ≤ 128 → Cells N cm → closeO o = ⟨o.n, false, cm⟩ → B ≤ W.heap.size → Sx W B Ac cm → cm.length ≤ 17592186044416 → Calls Tryz.prog 68 #[.agg #[.int .i64 o.n, .bool false, .slice Ac cm.length cc], .agg #[.int .i64 fr, .int .i64 te, .int .i64 kd, .int .i64 dst, .int .i64 arr, .int .i64 op, .int .i64 av, .int .i64 an, .int .i64 bv, .int .i64 bn]] W (SxRes W B (edgeO ⟨o.n, false, cm⟩ ⟨fr, te, kd, dst, arr, op, av, an, bv, bn⟩))) :
    Calls Tryz.prog 28 #[.agg #[.int .i64 o.n, .bool o.e, .slice A o.m.length cap], .agg #[.int .i64 fr, .int .i64 te, .int .i64 kd, .int .i64 dst, .int .i64 arr, .int .i64 op, .int .i64 av, .int .i64 an, .int .i64 bv, .int .i64 bn]] w (ErrSx w B (transAns o ⟨fr, te, kd, dst, arr, op, av, an, bv, bn⟩) (transErr o ⟨fr, te, kd, dst, arr, op, av, an, bv, bn⟩)) := by
  have HE : Hid (transErr o ⟨fr, te, kd, dst, arr, op, av, an, bv, bn⟩ = if check o ≠ 0 then check o else if rightT o.n ⟨fr, te, kd, dst, arr, op, av, an, bv, bn⟩ then 0 else 160) := hid rfl
  have HR : Hid (transAns o ⟨fr, te, kd, dst, arr, op, av, an, bv, bn⟩ = if transErr o ⟨fr, te, kd, dst, arr, op, av, an, bv, bn⟩ = 0 then transO o ⟨fr, te, kd, dst, arr, op, av, an, bv, bn⟩ else ⟨0, false, []⟩) := hid rfl
  have HP := hid P
  clear P
  have HRT : Hid (∀ W, Calls Tryz.prog 67 #[.agg #[.int .i64 fr, .int .i64 te, .int .i64 kd, .int .i64 dst, .int .i64 arr, .int .i64 op, .int .i64 av, .int .i64 an, .int .i64 bv, .int .i64 bn], .int .i64 o.n] W fun r w' => r = .returned (.bool (rightT o.n ⟨fr, te, kd, dst, arr, op, av, an, bv, bn⟩)) ∧ Below W.heap.size W w') := hid (fun W => tright_any o.n ⟨fr, te, kd, dst, arr, op, av, an, bv, bn⟩ W)
  have HTO : Hid (transO o ⟨fr, te, kd, dst, arr, op, av, an, bv, bn⟩ = if (closeO o).e then closeO o else edgeO (closeO o) ⟨fr, te, kd, dst, arr, op, av, an, bv, bn⟩) := hid rfl
  generalize transO o ⟨fr, te, kd, dst, arr, op, av, an, bv, bn⟩ = TO at *
  generalize transAns o ⟨fr, te, kd, dst, arr, op, av, an, bv, bn⟩ = R at *
  generalize transErr o ⟨fr, te, kd, dst, arr, op, av, an, bv, bn⟩ = E at *
  generalize hrb : rightT o.n ⟨fr, te, kd, dst, arr, op, av, an, bv, bn⟩ = rb at *
  clear hrb
  have HCK := hid (fun W (h : Rd W W.heap.size A o.m) => check_any o A cap W h (by omega))
  have HK : Hid (∃ k, k = check o) := hid ⟨_, rfl⟩
  obtain ⟨k, hk⟩ := HK.out
  rw [← hk] at HCK HE
  clear HK
  obtain ⟨p0, p1, p3, hb0, hsz⟩ := new_three w #[.int .i64 o.n, .bool o.e, .slice A o.m.length cap] #[.int .i64 fr, .int .i64 te, .int .i64 kd, .int .i64 dst, .int .i64 arr, .int .i64 op, .int .i64 av, .int .i64 an, .int .i64 bv, .int .i64 bn] #[.int .i64 0, .bool false, .slice none 0 0] 24 44 24
  replace hx := hx.up hb0
  have HSZ := hid hsz
  clear hsz
  have HKK := hid hk
  clear hk
  obtain ⟨p0_0, p0_1, p0_2, p0_f⟩ := octbox p0
  go_enter Tryz.func28, Tryz.ntmps28
  go_wp2_with fail
  clear p0_0 p0_1 p0_2 p0_f
  generalize ((w.alloc (Obj.cells #[.int .i64 o.n, .bool o.e, .slice A o.m.length cap] 24)).alloc (Obj.cells #[.int .i64 fr, .int .i64 te, .int .i64 kd, .int .i64 dst, .int .i64 arr, .int .i64 op, .int .i64 av, .int .i64 an, .int .i64 bv, .int .i64 bn] 44)).alloc (Obj.cells #[.int .i64 0, .bool false, .slice none 0 0] 24) = w1 at *
  (with_reducible refine (HCK.out w1 hx).mono ?_)
  rintro e_w2 w2 ⟨rfl, hb_w2⟩
  replace p0 := p0.later hb_w2
  replace p1 := p1.later hb_w2
  replace p3 := p3.later hb_w2
  replace hx := hx.up hb_w2
  replace hb0 := bup hb0 hb_w2
  cases t1 : (k != 0)
  rotate_left
  · have hk0 : k ≠ 0 := by simpa using t1
    have e1 : E = k := by rw [HE.out, if_pos hk0]
    have e2 : R = ⟨0, false, []⟩ := by rw [HR.out, e1, if_neg hk0]
    subst e2
    clear HR HE hk0
    subst e1
    obtain ⟨p3_0, p3_1, p3_2, p3_f⟩ := octbox p3
    go_wp2
    clear p3_0 p3_1 p3_2 p3_f
    have hBz := hb0.size
    have q9 := p3.set3 (v0 := .int .i64 0) (v1 := .bool false) (v2 := .slice none 0 0)
    have hb9 := hb0.trans (below3 (W := w2) (g := w.heap.size + 1 + 1) (v0 := .int .i64 0) (v1 := .bool false) (v2 := .slice none 0 0) (by omega) hb0.size)
    obtain ⟨z0, z1, z2, fz⟩ := octbox q9
    refine bodyPost_ret (v := .tuple #[.agg #[.int .i64 0, .bool false, .slice none 0 0], .int .i64 E]) (by simp [results, Tryz.results28, go_sem, z0, z1, z2]) rfl ?_
    exact ⟨none, 0, rfl, sx_nil _ _, hb9⟩
  · have hk0 : k = 0 := by simpa using t1
    subst hk0
    have hck : check o = 0 := HKK.out.symm
    have HCK0 := hid hck
    clear hck t1
    replace HE : Hid (E = if rb then 0 else 160) := hid (by rw [HE.out, if_neg (by simp)])
    obtain ⟨p0_0, p0_1, p0_2, p0_f⟩ := octbox p0
    obtain ⟨p1_0, p1_1, p1_2, p1_3, p1_4, p1_5, p1_6, p1_7, p1_8, p1_9, p1_f⟩ := edgbox p1
    go_wp2_with fail
    clear p0_0 p0_1 p0_2 p0_f p1_0 p1_1 p1_2 p1_3 p1_4 p1_5 p1_6 p1_7 p1_8 p1_9 p1_f
    (with_reducible refine (HRT.out w2).mono ?_)
    rintro e_w3 w3 ⟨rfl, hb_w3⟩
    replace p0 := p0.later hb_w3
    replace p1 := p1.later hb_w3
    replace p3 := p3.later hb_w3
    replace hx := hx.up hb_w3
    replace hb0 := bup hb0 hb_w3
    cases rb
    · have e1 : E = 160 := by rw [HE.out]; rfl
      have e2 : R = ⟨0, false, []⟩ := by rw [HR.out, e1, if_neg (by omega)]
      subst e2
      clear HR HE HP
      subst e1
      obtain ⟨p3_0, p3_1, p3_2, p3_f⟩ := octbox p3
      go_wp2
      clear p3_0 p3_1 p3_2 p3_f
      have hBz := hb0.size
      have q9 := p3.set3 (v0 := .int .i64 0) (v1 := .bool false) (v2 := .slice none 0 0)
      have hb9 := hb0.trans (below3 (W := w3) (g := w.heap.size + 1 + 1) (v0 := .int .i64 0) (v1 := .bool false) (v2 := .slice none 0 0) (by omega) hb0.size)
      obtain ⟨z0, z1, z2, fz⟩ := octbox q9
      refine bodyPost_ret (v := .tuple #[.agg #[.int .i64 0, .bool false, .slice none 0 0], .int .i64 160]) (by simp [results, Tryz.results28, go_sem, z0, z1, z2]) rfl ?_
      exact ⟨none, 0, rfl, sx_nil _ _, hb9⟩
    · have e1 : E = 0 := by rw [HE.out]; rfl
      replace HR : Hid (R = if (closeO o).e then closeO o else edgeO (closeO o) ⟨fr, te, kd, dst, arr, op, av, an, bv, bn⟩) := hid (by rw [HR.out, e1, if_pos rfl, HTO.out])
      clear HE HTO
      subst e1
      obtain ⟨p0_0, p0_1, p0_2, p0_f⟩ := octbox p0
      go_wp2_with fail
      clear p0_0 p0_1 p0_2 p0_f
      have hle : w.heap.size ≤ w3.heap.size := hb0.size
      have hBc := Nat.le_trans hB hle
      (with_reducible refine (tclosed_ok o HCK0.out A cap w3 hx hm).mono ?_)
      rintro e_w4 w4 ⟨Ac, cc, rfl, ownc, hb_w4⟩
      have sxc := Sx.of_own ownc hBc
      replace p0 := p0.later hb_w4
      replace p1 := p1.later hb_w4
      replace p3 := p3.later hb_w4
      replace hx := hx.up hb_w4
      replace hb0 := bup hb0 hb_w4
      have okc : OkO o.n (closeO o) := OkO.close ⟨rfl, HCK0.out⟩
      have hmc := OkO.small okc
      rcases okc.form with hE | ⟨N, cm, hN, hn, hE, hc⟩
      · replace HR : Hid (R = emptyO o.n) := hid (by rw [HR.out, hE]; rfl)
        rw [hE] at sxc ⊢
        unfold emptyO at *
        dsimp only at *
        replace sxc : Sx w4 B Ac [] := sxc
        clear hE hmc okc HP
        simp only [List.length_nil]
        obtain ⟨p5, hbn, -⟩ := new_one w4 #[.int .i64 o.n, .bool true, .slice Ac 0 cc] 24
        replace p0 := p0.later hbn
        replace p1 := p1.later hbn
        replace p3 := p3.later hbn
        replace sxc := sxc.later hbn (Nat.le_trans hB hb0.size)
        replace hx := hx.up hbn
        replace hb0 := bup hb0 hbn
        obtain ⟨p5_0, p5_1, p5_2, p5_f⟩ := octbox p5
        obtain ⟨p3_0, p3_1, p3_2, p3_f⟩ := octbox p3
        go_wp2
        clear p5_0 p5_1 p5_2 p5_f p3_0 p3_1 p3_2 p3_f
        generalize w4.alloc (Obj.cells #[.int .i64 o.n, .bool true, .slice Ac 0 cc] 24) = w5 at *
        have hBz := hb0.size
        have s9 := sxc.far3 (g := w.heap.size + 1 + 1) (v0 := .int .i64 o.n) (v1 := .bool true) (v2 := .slice Ac 0 cc) (by omega) p3 (by decide)
        rw [HR.out]
        have q9 := p3.set3 (v0 := .int .i64 o.n) (v1 := .bool true) (v2 := .slice Ac 0 cc)
        have hb9 := hb0.trans (below3 (W := w5) (g := w.heap.size + 1 + 1) (v0 := .int .i64 o.n) (v1 := .bool true) (v2 := .slice Ac 0 cc) (by omega) hb0.size)
        obtain ⟨z0, z1, z2, fz⟩ := octbox q9
        refine bodyPost_ret (v := .tuple #[.agg #[.int .i64 o.n, .bool true, .slice Ac 0 cc], .int .i64 0]) (by simp [results, Tryz.results28, go_sem, z0, z1, z2]) rfl ?_
        exact ⟨_, _, rfl, s9, hb9⟩
      · replace HR : Hid (R = edgeO ⟨o.n, false, cm⟩ ⟨fr, te, kd, dst, arr, op, av, an, bv, bn⟩) := hid (by rw [HR.out, hE]; rfl)
        rw [hE] at sxc hmc ⊢
        dsimp only at *
        have HP2 := hid (fun W h1 h2 => HP.out (by first | rfl | trivial) N cm Ac cc W hN hn hc hE h1 h2 hmc)
        clear hE okc HP
        obtain ⟨p5, hbn, -⟩ := new_one w4 #[.int .i64 o.n, .bool false, .slice Ac cm.length cc] 24
        replace p0 := p0.later hbn
        replace p1 := p1.later hbn
        replace p3 := p3.later hbn
        replace sxc := sxc.later hbn (Nat.le_trans hB hb0.size)
        replace hx := hx.up hbn
        replace hb0 := bup hb0 hbn
        obtain ⟨p5_0, p5_1, p5_2, p5_f⟩ := octbox p5
        obtain ⟨p1_0, p1_1, p1_2, p1_3, p1_4, p1_5, p1_6, p1_7, p1_8, p1_9, p1_f⟩ := edgbox p1
        go_wp2_with fail
        clear p5_0 p5_1 p5_2 p5_f p1_0 p1_1 p1_2 p1_3 p1_4 p1_5 p1_6 p1_7 p1_8 p1_9 p1_f
        generalize w4.alloc (Obj.cells #[.int .i64 o.n, .bool false, .slice Ac cm.length cc] 24) = w5 at *
        have hBd := Nat.le_trans hB hb0.size
        (with_reducible refine (HP2.out w5 hBd sxc).mono ?_)
        rintro e_w6 w6 ⟨A2, c2, rfl, sx2, hb_w6⟩
        replace p0 := p0.later hb_w6
        replace p1 := p1.later hb_w6
        replace p3 := p3.later hb_w6
        replace p5 := p5.later hb_w6
        replace sxc := sxc.later hb_w6 (Nat.le_trans hB hb0.size)
        replace hx := hx.up hb_w6
        replace hb0 := bup hb0 hb_w6
        rw [← HR.out] at sx2 ⊢
        obtain ⟨p3_0, p3_1, p3_2, p3_f⟩ := octbox p3
        go_wp2
        clear p3_0 p3_1 p3_2 p3_f
        have hBz := hb0.size
        have s9 := sx2.far3 (g := w.heap.size + 1 + 1) (v0 := .int .i64 R.n) (v1 := .bool R.e) (v2 := .slice A2 R.m.length c2) (by omega) p3 (by decide)
        have q9 := p3.set3 (v0 := .int .i64 R.n) (v1 := .bool R.e) (v2 := .slice A2 R.m.length c2)
        have hb9 := hb0.trans (below3 (W := w6) (g := w.heap.size + 1 + 1) (v0 := .int .i64 R.n) (v1 := .bool R.e) (v2 := .slice A2 R.m.length c2) (by omega) hb0.size)
        obtain ⟨z0, z1, z2, fz⟩ := octbox q9
        refine bodyPost_ret (v := .tuple #[.agg #[.int .i64 R.n, .bool R.e, .slice A2 R.m.length c2], .int .i64 0]) (by simp [results, Tryz.results28, go_sem, z0, z1, z2]) rfl ?_
        exact ⟨_, _, rfl, s9, hb9⟩
end Go.Proofs.YtnmpgijiimglcaaGreat
