import Derived.Test.YtnmpgijiimglcaaGreatBTt33
import Derived.Test.YtnmpgijiimglcaaGreatBTt25
import Derived.Test.YtnmpgijiimglcaaGreatBTt26
namespace Go.Proofs.YtnmpgijiimglcaaGreat
open Go.RowKit
set_option maxRecDepth 100000
set_option maxHeartbeats 8000000
section
attribute [local go_sem ↓] Go.wp_at_zero Go.wp_at_succ
theorem zgO (o : O) (fr te kd dst arr op av an bv bn : Int) (A : Option Addr) (cap : Nat) (w : World) (hx : Rd w w.heap.size A o.m) (hm : o.m.length ≤ 17592186044416) (B : Nat) (hB : B ≤ w.heap.size)
  (P : transErr o ⟨fr, te, kd, dst, arr, op, av, an, bv, bn⟩ = 0 → ∀ (N : Nat) (cm : List Int) (Ac : Option Addr) (cc : Nat) (W : World), (N : Int) = 2 * o.n → N ≤ 128 → Cells N cm → closeO o = ⟨o.n, false, cm⟩ → B ≤ W.heap.size → Sx W B Ac cm → cm.length ≤ 17592186044416 → Calls Tryz.prog 68 #[.agg #[o.n, false, .slice Ac cm.length cc], .agg #[fr, te, kd, dst, arr, op, av, an, bv, bn]] W (zan W B (zbx ⟨o.n, false, cm⟩ ⟨fr, te, kd, dst, arr, op, av, an, bv, bn⟩))) :
  Calls Tryz.prog 28 #[.agg #[o.n, o.e, .slice A o.m.length cap], .agg #[fr, te, kd, dst, arr, op, av, an, bv, bn]] w (zjc w B (transAns o ⟨fr, te, kd, dst, arr, op, av, an, bv, bn⟩) (transErr o ⟨fr, te, kd, dst, arr, op, av, an, bv, bn⟩)) := by
 have HE : Hid (transErr o ⟨fr, te, kd, dst, arr, op, av, an, bv, bn⟩ = if check o ≠ 0 then check o else if zbd o.n ⟨fr, te, kd, dst, arr, op, av, an, bv, bn⟩ then 0 else 160) := hid rfl
 have HR : Hid (transAns o ⟨fr, te, kd, dst, arr, op, av, an, bv, bn⟩ = if transErr o ⟨fr, te, kd, dst, arr, op, av, an, bv, bn⟩ = 0 then transO o ⟨fr, te, kd, dst, arr, op, av, an, bv, bn⟩ else ⟨0, false, []⟩) := hid rfl
 have HP := hid P
 clear P
 have HRT : Hid (∀ W, Calls Tryz.prog 67 #[.agg #[fr, te, kd, dst, arr, op, av, an, bv, bn], o.n] W fun r w' => r = .returned (.bool (zbd o.n ⟨fr, te, kd, dst, arr, op, av, an, bv, bn⟩)) ∧ Below W.heap.size W w') := hid (fun W => zjj o.n ⟨fr, te, kd, dst, arr, op, av, an, bv, bn⟩ W)
 have HTO : Hid (transO o ⟨fr, te, kd, dst, arr, op, av, an, bv, bn⟩ = if (closeO o).e then closeO o else zbx (closeO o) ⟨fr, te, kd, dst, arr, op, av, an, bv, bn⟩) := hid rfl
 generalize transO o ⟨fr, te, kd, dst, arr, op, av, an, bv, bn⟩ = TO at *
 generalize transAns o ⟨fr, te, kd, dst, arr, op, av, an, bv, bn⟩ = R at *
 generalize transErr o ⟨fr, te, kd, dst, arr, op, av, an, bv, bn⟩ = E at *
 generalize hrb : zbd o.n ⟨fr, te, kd, dst, arr, op, av, an, bv, bn⟩ = rb at *
 clear hrb
 have HCK := hid (fun W (h : Rd W W.heap.size A o.m) => zbH o A cap W h (by omega))
 have HK : Hid (∃ k, k = check o) := hid ⟨_, rfl⟩
 obtain ⟨k, hk⟩ := HK.out
 rw [← hk] at HCK HE
 clear HK
 obtain ⟨p0, p1, p3, a0, hsz⟩ := zah w #[o.n, o.e, .slice A o.m.length cap] #[fr, te, kd, dst, arr, op, av, an, bv, bn] #[.int .i64 0, false, .slice none 0 0] 24 44 24
 replace hx := hx.up a0
 have HSZ := hid hsz
 clear hsz
 have HKK := hid hk
 clear hk
 have b3 := zaa p0
 go_enter Tryz.func28, Tryz.ntmps28
 go_wp2_with fail
 clear b3
 generalize ((w.alloc (Obj.cells #[o.n, o.e, .slice A o.m.length cap] 24)).alloc (Obj.cells #[fr, te, kd, dst, arr, op, av, an, bv, bn] 44)).alloc (Obj.cells #[.int .i64 0, false, .slice none 0 0] 24) = w1 at *
 (with_reducible refine (HCK.out w1 hx).mono ?_)
 rintro e_w2 w2 ⟨rfl, a3⟩
 replace p0 := p0.later a3
 replace p1 := p1.later a3
 replace p3 := p3.later a3
 replace hx := hx.up a3
 replace a0 := bup a0 a3
 cases t1 : (k != 0)
 rotate_left
 ·have d2 : k ≠ 0 := by simpa using t1
  have e1 : E = k := by rw [HE.out, if_pos d2]
  have e2 : R = ⟨0, false, []⟩ := by rw [HR.out, e1, if_neg d2]
  subst e2
  clear HR HE d2
  subst e1
  have a5 := zaa p3
  go_wp2
  clear a5
  have hBz := a0.size
  have q9 := p3.set3 (v0 := .int .i64 0) (v1 := .bool false) (v2 := .slice none 0 0)
  have c5 := a0.trans (zae (W := w2) (g := w.heap.size + 1 + 1) (v0 := .int .i64 0) (v1 := .bool false) (v2 := .slice none 0 0) (by omega) a0.size)
  obtain ⟨z0, z1, z2, fz⟩ := zaa q9
  refine bodyPost_ret (v := .tuple #[.agg #[.int .i64 0, false, .slice none 0 0], E]) (by simp [results, Tryz.results28, go_sem, z0, z1, z2]) rfl ?_
  exact ⟨none, 0, rfl, zeP _ _, c5⟩
 ·have d2 : k = 0 := by simpa using t1
  subst d2
  have hck : check o = 0 := HKK.out.symm
  have d1 := hid hck
  clear hck t1
  replace HE : Hid (E = if rb then 0 else 160) := hid (by rw [HE.out, if_neg (by simp)])
  have b3 := zaa p0
  have b7 := zam p1
  go_wp2_with fail
  clear b3 b7
  (with_reducible refine (HRT.out w2).mono ?_)
  rintro e_w3 w3 ⟨rfl, a4⟩
  replace p0 := p0.later a4
  replace p1 := p1.later a4
  replace p3 := p3.later a4
  replace hx := hx.up a4
  replace a0 := bup a0 a4
  cases rb
  ·have e1 : E = 160 := by rw [HE.out]; rfl
   have e2 : R = ⟨0, false, []⟩ := by rw [HR.out, e1, if_neg (by omega)]
   subst e2
   clear HR HE HP
   subst e1
   have a5 := zaa p3
   go_wp2
   clear a5
   have hBz := a0.size
   have q9 := p3.set3 (v0 := .int .i64 0) (v1 := .bool false) (v2 := .slice none 0 0)
   have c5 := a0.trans (zae (W := w3) (g := w.heap.size + 1 + 1) (v0 := .int .i64 0) (v1 := .bool false) (v2 := .slice none 0 0) (by omega) a0.size)
   obtain ⟨z0, z1, z2, fz⟩ := zaa q9
   refine bodyPost_ret (v := .tuple #[.agg #[.int .i64 0, false, .slice none 0 0], .int .i64 160]) (by simp [results, Tryz.results28, go_sem, z0, z1, z2]) rfl ?_
   exact ⟨none, 0, rfl, zeP _ _, c5⟩
  ·have e1 : E = 0 := by rw [HE.out]; rfl
   replace HR : Hid (R = if (closeO o).e then closeO o else zbx (closeO o) ⟨fr, te, kd, dst, arr, op, av, an, bv, bn⟩) := hid (by rw [HR.out, e1, if_pos rfl, HTO.out])
   clear HE HTO
   subst e1
   have b3 := zaa p0
   go_wp2_with fail
   clear b3
   have hle : w.heap.size ≤ w3.heap.size := a0.size
   have hBc := Nat.le_trans hB hle
   (with_reducible refine (zaN o d1.out A cap w3 hx hm).mono ?_)
   rintro e_w4 w4 ⟨Ac, cc, rfl, ownc, a2⟩
   have sxc := Sx.of_own ownc hBc
   replace p0 := p0.later a2
   replace p1 := p1.later a2
   replace p3 := p3.later a2
   replace hx := hx.up a2
   replace a0 := bup a0 a2
   have okc : OkO o.n (closeO o) := OkO.close ⟨rfl, d1.out⟩
   have d3 := OkO.small okc
   rcases okc.form with hE | ⟨N, cm, hN, hn, hE, hc⟩
   ·replace HR : Hid (R = emptyO o.n) := hid (by rw [HR.out, hE]; rfl)
    rw [hE] at sxc ⊢
    unfold emptyO at *
    dsimp only at *
    replace sxc : Sx w4 B Ac [] := sxc
    clear hE d3 okc HP
    simp only [List.length_nil]
    obtain ⟨p5, a9, -⟩ := zaw w4 #[o.n, true, .slice Ac 0 cc] 24
    replace p0 := p0.later a9
    replace p1 := p1.later a9
    replace p3 := p3.later a9
    replace sxc := sxc.later a9 (Nat.le_trans hB a0.size)
    replace hx := hx.up a9
    replace a0 := bup a0 a9
    have c6 := zaa p5
    have a5 := zaa p3
    go_wp2
    clear c6 a5
    generalize w4.alloc (Obj.cells #[o.n, true, .slice Ac 0 cc] 24) = w5 at *
    have hBz := a0.size
    have s9 := sxc.far3 (g := w.heap.size + 1 + 1) (v0 := .int .i64 o.n) (v1 := .bool true) (v2 := .slice Ac 0 cc) (by omega) p3 (by decide)
    rw [HR.out]
    have q9 := p3.set3 (v0 := .int .i64 o.n) (v1 := .bool true) (v2 := .slice Ac 0 cc)
    have c5 := a0.trans (zae (W := w5) (g := w.heap.size + 1 + 1) (v0 := .int .i64 o.n) (v1 := .bool true) (v2 := .slice Ac 0 cc) (by omega) a0.size)
    obtain ⟨z0, z1, z2, fz⟩ := zaa q9
    refine bodyPost_ret (v := .tuple #[.agg #[o.n, true, .slice Ac 0 cc], .int .i64 0]) (by simp [results, Tryz.results28, go_sem, z0, z1, z2]) rfl ?_
    exact ⟨_, _, rfl, s9, c5⟩
   ·replace HR : Hid (R = zbx ⟨o.n, false, cm⟩ ⟨fr, te, kd, dst, arr, op, av, an, bv, bn⟩) := hid (by rw [HR.out, hE]; rfl)
    rw [hE] at sxc d3 ⊢
    dsimp only at *
    have HP2 := hid (fun W h1 h2 => HP.out (by first | rfl | trivial) N cm Ac cc W hN hn hc hE h1 h2 d3)
    clear hE okc HP
    obtain ⟨p5, a9, -⟩ := zaw w4 #[o.n, false, .slice Ac cm.length cc] 24
    replace p0 := p0.later a9
    replace p1 := p1.later a9
    replace p3 := p3.later a9
    replace sxc := sxc.later a9 (Nat.le_trans hB a0.size)
    replace hx := hx.up a9
    replace a0 := bup a0 a9
    have c6 := zaa p5
    have b7 := zam p1
    go_wp2_with fail
    clear c6 b7
    generalize w4.alloc (Obj.cells #[o.n, false, .slice Ac cm.length cc] 24) = w5 at *
    have hBd := Nat.le_trans hB a0.size
    (with_reducible refine (HP2.out w5 hBd sxc).mono ?_)
    rintro e_w6 w6 ⟨A2, c2, rfl, sx2, a1⟩
    replace p0 := p0.later a1
    replace p1 := p1.later a1
    replace p3 := p3.later a1
    replace p5 := p5.later a1
    replace sxc := sxc.later a1 (Nat.le_trans hB a0.size)
    replace hx := hx.up a1
    replace a0 := bup a0 a1
    rw [← HR.out] at sx2 ⊢
    have a5 := zaa p3
    go_wp2
    clear a5
    have hBz := a0.size
    have s9 := sx2.far3 (g := w.heap.size + 1 + 1) (v0 := .int .i64 R.n) (v1 := .bool R.e) (v2 := .slice A2 R.m.length c2) (by omega) p3 (by decide)
    have q9 := p3.set3 (v0 := .int .i64 R.n) (v1 := .bool R.e) (v2 := .slice A2 R.m.length c2)
    have c5 := a0.trans (zae (W := w6) (g := w.heap.size + 1 + 1) (v0 := .int .i64 R.n) (v1 := .bool R.e) (v2 := .slice A2 R.m.length c2) (by omega) a0.size)
    obtain ⟨z0, z1, z2, fz⟩ := zaa q9
    refine bodyPost_ret (v := .tuple #[.agg #[R.n, R.e, .slice A2 R.m.length c2], .int .i64 0]) (by simp [results, Tryz.results28, go_sem, z0, z1, z2]) rfl ?_
    exact ⟨_, _, rfl, s9, c5⟩
end
section
attribute [local go_sem ↓] Go.wp_at_zero Go.wp_at_succ
theorem zkC (n : Int) (m : List Int) (fr te dst arr op av an bv bn : Int) (_ia : I64 an) (_ib : I64 bn) (h0 : 0 ≤ av) (h1 : 0 ≤ bv) (A : Option Addr) (cap : Nat) (w : World) (B : Nat) (hB : B ≤ w.heap.size) (hx : Sx w B A m) (R : O)
  (P : ∀ W, B ≤ W.heap.size → Sx W B A m → Calls Tryz.prog 195 #[.agg #[n, false, .slice A m.length cap], dst, av, bv, false] W (zan W B R)) :
  Calls Tryz.prog 139 #[.agg #[n, false, .slice A m.length cap], .agg #[fr, te, .int .i64 4, dst, arr, op, av, an, bv, bn]] w (zan w B R) := by
 have t1 : decide (0 ≤ av) = true := by rw [decide_eq_true_eq]; omega
 have t2 : decide (0 ≤ bv) = true := by rw [decide_eq_true_eq]; omega
 have t3 : decide (av < 0) = false := by rw [decide_eq_false_iff_not]; omega
 have HP := hid P
 clear P
 obtain ⟨p0, p1, p2, a1, c9⟩ := zah w #[n, false, .slice A m.length cap] #[fr, te, .int .i64 4, dst, arr, op, av, an, bv, bn] #[.int .i64 0, false, .slice none 0 0] 24 44 24
 replace hx := hx.later a1 hB
 have d5 := hid c9
 have b8 := zaa p0
 have a3 := zam p1
 go_enter Tryz.func139, Tryz.ntmps139
 go_upto_region 2 with fail
 clear b8 a3
 generalize ((w.alloc (Obj.cells #[n, false, .slice A m.length cap] 24)).alloc (Obj.cells #[fr, te, .int .i64 4, dst, arr, op, av, an, bv, bn] 44)).alloc (Obj.cells #[.int .i64 0, false, .slice none 0 0] 24) = w1 at *
 go_cut [6, 7] (fun s6 s7 W => ∃ g6 g7 : Nat, s6 = .pointer (some ⟨g6, 0, none⟩) ∧ s7 = .pointer (some ⟨g7, 0, none⟩) ∧ Blk W g6 26 #[av, an] ∧ Blk W g7 26 #[bv, bn] ∧ Below w1.heap.size w1 W)
 case first =>
  have a3 := zam p1
  go_region_held3 (fun W => W.cell? ⟨w.heap.size + 1, 6, none⟩ = some (.int .i64 av) ∧ W.cell? ⟨w.heap.size + 1, 7, none⟩ = some (.int .i64 an) ∧ W.cell? ⟨w.heap.size + 1, 8, none⟩ = some (.int .i64 bv) ∧ W.cell? ⟨w.heap.size + 1, 9, none⟩ = some (.int .i64 bn)) (go_keep) (fail)
  all_goals (go_wp2_with fail; go_meet)
  ·obtain ⟨q1, q2, q3⟩ := za4 w1 c9 #[av, an] #[bv, bn] 26 26
   exact ⟨_, _, rfl, rfl, q1, q2, q3⟩
  ·obtain ⟨q1, q2, q3⟩ := za4 w1 c9 #[bv, bn] #[av, an] 26 26
   exact ⟨_, _, rfl, rfl, q2, q1, q3⟩
 case rest =>
  obtain ⟨g6, g7, rfl, rfl, b6, b7, b9⟩ := hcut
  have hB0 := Nat.le_trans hB a1.size
  replace p0 := p0.later b9
  replace p1 := p1.later b9
  replace p2 := p2.later b9
  replace hx := hx.later b9 (Nat.le_trans hB a1.size)
  replace a1 := bup a1 b9
  have b8 := zaa p0
  have a3 := zam p1
  obtain ⟨c3, c0, c1⟩ := zai b6
  obtain ⟨c4, c5, c6⟩ := zai b7
  go_wp2_with fail
  clear b8 a3 c3 c0 c1 c4 c5 c6
  have hB1 := Nat.le_trans hB a1.size
  (with_reducible refine (HP.out wc hB1 hx).mono ?_)
  rintro d3 w2 ⟨A2, c2, rfl, d4, a0⟩
  replace p0 := p0.later a0
  replace p1 := p1.later a0
  replace p2 := p2.later a0
  replace b6 := b6.later a0
  replace b7 := b7.later a0
  replace hx := hx.later a0 (Nat.le_trans hB a1.size)
  replace a1 := bup a1 a0
  have d0 := zaa p2
  go_wp2
  clear d0
  have hBz := a1.size
  have s9 := d4.far3 (g := w.heap.size + 1 + 1) (v0 := .int .i64 R.n) (v1 := .bool R.e) (v2 := .slice A2 R.m.length c2) (by omega) p2 (by decide)
  have q9 := p2.set3 (v0 := .int .i64 R.n) (v1 := .bool R.e) (v2 := .slice A2 R.m.length c2)
  have d2 := a1.trans (zae (W := w2) (g := w.heap.size + 1 + 1) (v0 := .int .i64 R.n) (v1 := .bool R.e) (v2 := .slice A2 R.m.length c2) (by omega) a1.size)
  obtain ⟨z0, z1, z2, fz⟩ := zaa q9
  refine bodyPost_ret (v := .agg #[R.n, R.e, .slice A2 R.m.length c2]) (by simp [results, Tryz.results139, go_sem, z0, z1, z2]) rfl ?_
  exact ⟨_, _, rfl, s9, d2⟩
theorem zjw (n : Int) (m : List Int) (fr te dst arr op av an bv bn : Int) (_ia : I64 an) (_ib : I64 bn) (h0 : 0 ≤ av) (h1 : 0 ≤ bv) (A : Option Addr) (cap : Nat) (w : World) (B : Nat) (hB : B ≤ w.heap.size) (hx : Sx w B A m) (R : O)
  (P : ∀ W, B ≤ W.heap.size → Sx W B A m → Calls Tryz.prog 195 #[.agg #[n, false, .slice A m.length cap], dst, av, bv, true] W (zan W B R)) :
  Calls Tryz.prog 139 #[.agg #[n, false, .slice A m.length cap], .agg #[fr, te, .int .i64 5, dst, arr, op, av, an, bv, bn]] w (zan w B R) := by
 have t1 : decide (0 ≤ av) = true := by rw [decide_eq_true_eq]; omega
 have t2 : decide (0 ≤ bv) = true := by rw [decide_eq_true_eq]; omega
 have t3 : decide (av < 0) = false := by rw [decide_eq_false_iff_not]; omega
 have HP := hid P
 clear P
 obtain ⟨p0, p1, p2, a1, c9⟩ := zah w #[n, false, .slice A m.length cap] #[fr, te, .int .i64 5, dst, arr, op, av, an, bv, bn] #[.int .i64 0, false, .slice none 0 0] 24 44 24
 replace hx := hx.later a1 hB
 have d5 := hid c9
 have b8 := zaa p0
 have a3 := zam p1
 go_enter Tryz.func139, Tryz.ntmps139
 go_upto_region 2 with fail
 clear b8 a3
 generalize ((w.alloc (Obj.cells #[n, false, .slice A m.length cap] 24)).alloc (Obj.cells #[fr, te, .int .i64 5, dst, arr, op, av, an, bv, bn] 44)).alloc (Obj.cells #[.int .i64 0, false, .slice none 0 0] 24) = w1 at *
 go_cut [6, 7] (fun s6 s7 W => ∃ g6 g7 : Nat, s6 = .pointer (some ⟨g6, 0, none⟩) ∧ s7 = .pointer (some ⟨g7, 0, none⟩) ∧ Blk W g6 26 #[av, an] ∧ Blk W g7 26 #[bv, bn] ∧ Below w1.heap.size w1 W)
 case first =>
  have a3 := zam p1
  go_region_held3 (fun W => W.cell? ⟨w.heap.size + 1, 6, none⟩ = some (.int .i64 av) ∧ W.cell? ⟨w.heap.size + 1, 7, none⟩ = some (.int .i64 an) ∧ W.cell? ⟨w.heap.size + 1, 8, none⟩ = some (.int .i64 bv) ∧ W.cell? ⟨w.heap.size + 1, 9, none⟩ = some (.int .i64 bn)) (go_keep) (fail)
  all_goals (go_wp2_with fail; go_meet)
  ·obtain ⟨q1, q2, q3⟩ := za4 w1 c9 #[av, an] #[bv, bn] 26 26
   exact ⟨_, _, rfl, rfl, q1, q2, q3⟩
  ·obtain ⟨q1, q2, q3⟩ := za4 w1 c9 #[bv, bn] #[av, an] 26 26
   exact ⟨_, _, rfl, rfl, q2, q1, q3⟩
 case rest =>
  obtain ⟨g6, g7, rfl, rfl, b6, b7, b9⟩ := hcut
  have hB0 := Nat.le_trans hB a1.size
  replace p0 := p0.later b9
  replace p1 := p1.later b9
  replace p2 := p2.later b9
  replace hx := hx.later b9 (Nat.le_trans hB a1.size)
  replace a1 := bup a1 b9
  have b8 := zaa p0
  have a3 := zam p1
  obtain ⟨c3, c0, c1⟩ := zai b6
  obtain ⟨c4, c5, c6⟩ := zai b7
  go_wp2_with fail
  clear b8 a3 c3 c0 c1 c4 c5 c6
  have hB1 := Nat.le_trans hB a1.size
  (with_reducible refine (HP.out wc hB1 hx).mono ?_)
  rintro d3 w2 ⟨A2, c2, rfl, d4, a0⟩
  replace p0 := p0.later a0
  replace p1 := p1.later a0
  replace p2 := p2.later a0
  replace b6 := b6.later a0
  replace b7 := b7.later a0
  replace hx := hx.later a0 (Nat.le_trans hB a1.size)
  replace a1 := bup a1 a0
  have d0 := zaa p2
  go_wp2
  clear d0
  have hBz := a1.size
  have s9 := d4.far3 (g := w.heap.size + 1 + 1) (v0 := .int .i64 R.n) (v1 := .bool R.e) (v2 := .slice A2 R.m.length c2) (by omega) p2 (by decide)
  have q9 := p2.set3 (v0 := .int .i64 R.n) (v1 := .bool R.e) (v2 := .slice A2 R.m.length c2)
  have d2 := a1.trans (zae (W := w2) (g := w.heap.size + 1 + 1) (v0 := .int .i64 R.n) (v1 := .bool R.e) (v2 := .slice A2 R.m.length c2) (by omega) a1.size)
  obtain ⟨z0, z1, z2, fz⟩ := zaa q9
  refine bodyPost_ret (v := .agg #[R.n, R.e, .slice A2 R.m.length c2]) (by simp [results, Tryz.results139, go_sem, z0, z1, z2]) rfl ?_
  exact ⟨_, _, rfl, s9, d2⟩
theorem zjz (n : Int) (m : List Int) (fr te dst arr op av an bv bn : Int) (_ia : I64 an) (_ib : I64 bn) (h0 : av < 0) (h1 : 0 ≤ bv) (A : Option Addr) (cap : Nat) (w : World) (B : Nat) (hB : B ≤ w.heap.size) (hx : Sx w B A m) (R : O)
  (P : ∀ W, B ≤ W.heap.size → Sx W B A m → Calls Tryz.prog 197 #[.agg #[n, false, .slice A m.length cap], dst, bv, an] W (zan W B R)) :
  Calls Tryz.prog 139 #[.agg #[n, false, .slice A m.length cap], .agg #[fr, te, .int .i64 4, dst, arr, op, av, an, bv, bn]] w (zan w B R) := by
 have t1 : decide (0 ≤ av) = false := by rw [decide_eq_false_iff_not]; omega
 have t2 : decide (0 ≤ bv) = true := by rw [decide_eq_true_eq]; omega
 have t3 : decide (av < 0) = true := by rw [decide_eq_true_eq]; omega
 have HP := hid P
 clear P
 obtain ⟨p0, p1, p2, a1, c9⟩ := zah w #[n, false, .slice A m.length cap] #[fr, te, .int .i64 4, dst, arr, op, av, an, bv, bn] #[.int .i64 0, false, .slice none 0 0] 24 44 24
 replace hx := hx.later a1 hB
 have d5 := hid c9
 have b8 := zaa p0
 have a3 := zam p1
 go_enter Tryz.func139, Tryz.ntmps139
 go_upto_region 2 with fail
 clear b8 a3
 generalize ((w.alloc (Obj.cells #[n, false, .slice A m.length cap] 24)).alloc (Obj.cells #[fr, te, .int .i64 4, dst, arr, op, av, an, bv, bn] 44)).alloc (Obj.cells #[.int .i64 0, false, .slice none 0 0] 24) = w1 at *
 go_cut [6, 7] (fun s6 s7 W => ∃ g6 g7 : Nat, s6 = .pointer (some ⟨g6, 0, none⟩) ∧ s7 = .pointer (some ⟨g7, 0, none⟩) ∧ Blk W g6 26 #[av, an] ∧ Blk W g7 26 #[bv, bn] ∧ Below w1.heap.size w1 W)
 case first =>
  have a3 := zam p1
  go_region_held3 (fun W => W.cell? ⟨w.heap.size + 1, 6, none⟩ = some (.int .i64 av) ∧ W.cell? ⟨w.heap.size + 1, 7, none⟩ = some (.int .i64 an) ∧ W.cell? ⟨w.heap.size + 1, 8, none⟩ = some (.int .i64 bv) ∧ W.cell? ⟨w.heap.size + 1, 9, none⟩ = some (.int .i64 bn)) (go_keep) (fail)
  all_goals (go_wp2_with fail; go_meet)
  ·obtain ⟨q1, q2, q3⟩ := za4 w1 c9 #[av, an] #[bv, bn] 26 26
   exact ⟨_, _, rfl, rfl, q1, q2, q3⟩
  ·obtain ⟨q1, q2, q3⟩ := za4 w1 c9 #[bv, bn] #[av, an] 26 26
   exact ⟨_, _, rfl, rfl, q2, q1, q3⟩
 case rest =>
  obtain ⟨g6, g7, rfl, rfl, b6, b7, b9⟩ := hcut
  have hB0 := Nat.le_trans hB a1.size
  replace p0 := p0.later b9
  replace p1 := p1.later b9
  replace p2 := p2.later b9
  replace hx := hx.later b9 (Nat.le_trans hB a1.size)
  replace a1 := bup a1 b9
  have b8 := zaa p0
  have a3 := zam p1
  obtain ⟨c3, c0, c1⟩ := zai b6
  obtain ⟨c4, c5, c6⟩ := zai b7
  go_wp2_with fail
  clear b8 a3 c3 c0 c1 c4 c5 c6
  have hB1 := Nat.le_trans hB a1.size
  (with_reducible refine (HP.out wc hB1 hx).mono ?_)
  rintro d3 w2 ⟨A2, c2, rfl, d4, a0⟩
  replace p0 := p0.later a0
  replace p1 := p1.later a0
  replace p2 := p2.later a0
  replace b6 := b6.later a0
  replace b7 := b7.later a0
  replace hx := hx.later a0 (Nat.le_trans hB a1.size)
  replace a1 := bup a1 a0
  have d0 := zaa p2
  go_wp2
  clear d0
  have hBz := a1.size
  have s9 := d4.far3 (g := w.heap.size + 1 + 1) (v0 := .int .i64 R.n) (v1 := .bool R.e) (v2 := .slice A2 R.m.length c2) (by omega) p2 (by decide)
  have q9 := p2.set3 (v0 := .int .i64 R.n) (v1 := .bool R.e) (v2 := .slice A2 R.m.length c2)
  have d2 := a1.trans (zae (W := w2) (g := w.heap.size + 1 + 1) (v0 := .int .i64 R.n) (v1 := .bool R.e) (v2 := .slice A2 R.m.length c2) (by omega) a1.size)
  obtain ⟨z0, z1, z2, fz⟩ := zaa q9
  refine bodyPost_ret (v := .agg #[R.n, R.e, .slice A2 R.m.length c2]) (by simp [results, Tryz.results139, go_sem, z0, z1, z2]) rfl ?_
  exact ⟨_, _, rfl, s9, d2⟩
theorem zmW (n : Int) (m : List Int) (fr te dst arr op av an bv bn : Int) (_ia : I64 an) (ib : I64 bn) (h0 : 0 ≤ av) (h1 : bv < 0) (hbn : bn = -9223372036854775808) (A : Option Addr) (cap : Nat) (w : World) (B : Nat) (hB : B ≤ w.heap.size) (hx : Sx w B A m) (R : O)
  (P : ∀ W, B ≤ W.heap.size → Sx W B A m → Calls Tryz.prog 75 #[.agg #[n, false, .slice A m.length cap], dst, .agg #[.int .i64 0, .int .i64 0, false, false]] W (zan W B R)) :
  Calls Tryz.prog 139 #[.agg #[n, false, .slice A m.length cap], .agg #[fr, te, .int .i64 5, dst, arr, op, av, an, bv, bn]] w (zan w B R) := by
 have t1 : decide (0 ≤ av) = true := by rw [decide_eq_true_eq]; omega
 have t2 : decide (0 ≤ bv) = false := by rw [decide_eq_false_iff_not]; omega
 have t3 : decide (av < 0) = false := by rw [decide_eq_false_iff_not]; omega
 have HBN := hid hbn
 clear hbn
 have HP := hid P
 clear P
 obtain ⟨p0, p1, p2, a1, c9⟩ := zah w #[n, false, .slice A m.length cap] #[fr, te, .int .i64 5, dst, arr, op, av, an, bv, bn] #[.int .i64 0, false, .slice none 0 0] 24 44 24
 replace hx := hx.later a1 hB
 have d5 := hid c9
 have b8 := zaa p0
 have a3 := zam p1
 go_enter Tryz.func139, Tryz.ntmps139
 go_upto_region 2 with fail
 clear b8 a3
 generalize ((w.alloc (Obj.cells #[n, false, .slice A m.length cap] 24)).alloc (Obj.cells #[fr, te, .int .i64 5, dst, arr, op, av, an, bv, bn] 44)).alloc (Obj.cells #[.int .i64 0, false, .slice none 0 0] 24) = w1 at *
 go_cut [6, 7] (fun s6 s7 W => ∃ g6 g7 : Nat, s6 = .pointer (some ⟨g6, 0, none⟩) ∧ s7 = .pointer (some ⟨g7, 0, none⟩) ∧ Blk W g6 26 #[av, an] ∧ Blk W g7 26 #[bv, bn] ∧ Below w1.heap.size w1 W)
 case first =>
  have a3 := zam p1
  go_region_held3 (fun W => W.cell? ⟨w.heap.size + 1, 6, none⟩ = some (.int .i64 av) ∧ W.cell? ⟨w.heap.size + 1, 7, none⟩ = some (.int .i64 an) ∧ W.cell? ⟨w.heap.size + 1, 8, none⟩ = some (.int .i64 bv) ∧ W.cell? ⟨w.heap.size + 1, 9, none⟩ = some (.int .i64 bn)) (go_keep) (fail)
  all_goals (go_wp2_with fail; go_meet)
  ·obtain ⟨q1, q2, q3⟩ := za4 w1 c9 #[av, an] #[bv, bn] 26 26
   exact ⟨_, _, rfl, rfl, q1, q2, q3⟩
  ·obtain ⟨q1, q2, q3⟩ := za4 w1 c9 #[bv, bn] #[av, an] 26 26
   exact ⟨_, _, rfl, rfl, q2, q1, q3⟩
 case rest =>
  obtain ⟨g6, g7, rfl, rfl, b6, b7, b9⟩ := hcut
  have hB0 := Nat.le_trans hB a1.size
  replace p0 := p0.later b9
  replace p1 := p1.later b9
  replace p2 := p2.later b9
  replace hx := hx.later b9 (Nat.le_trans hB a1.size)
  replace a1 := bup a1 b9
  have b8 := zaa p0
  have a3 := zam p1
  obtain ⟨c3, c0, c1⟩ := zai b6
  obtain ⟨c4, c5, c6⟩ := zai b7
  go_wp2_with fail
  clear b8 a3 c3 c0 c1 c4 c5 c6
  have HNG := hid (show Calls Tryz.prog 198 #[bn] wc (fun e w' => e = .returned (.tuple #[.int .i64 0, .int .i64 1]) ∧ wc = w') from by
   have h := zfN bn wc ib
   have e : negW bn = (0, 1) := by unfold negW; rw [HBN.out]; exact zbB (by omega)
   rw [e] at h
   exact h)
  (with_reducible refine HNG.out.mono ?_)
  clear HNG
  rintro e_ng w_ng ⟨rfl, hw⟩
  subst w_ng
  have b8 := zaa p0
  have a3 := zam p1
  obtain ⟨c3, c0, c1⟩ := zai b6
  obtain ⟨c4, c5, c6⟩ := zai b7
  go_wp2_with fail
  clear b8 a3 c3 c0 c1 c4 c5 c6
  have hB1 := Nat.le_trans hB a1.size
  (with_reducible refine (HP.out wc hB1 hx).mono ?_)
  rintro d3 w2 ⟨A2, c2, rfl, d4, a0⟩
  replace p0 := p0.later a0
  replace p1 := p1.later a0
  replace p2 := p2.later a0
  replace b6 := b6.later a0
  replace b7 := b7.later a0
  replace hx := hx.later a0 (Nat.le_trans hB a1.size)
  replace a1 := bup a1 a0
  have d0 := zaa p2
  go_wp2
  clear d0
  have hBz := a1.size
  have s9 := d4.far3 (g := w.heap.size + 1 + 1) (v0 := .int .i64 R.n) (v1 := .bool R.e) (v2 := .slice A2 R.m.length c2) (by omega) p2 (by decide)
  have q9 := p2.set3 (v0 := .int .i64 R.n) (v1 := .bool R.e) (v2 := .slice A2 R.m.length c2)
  have d2 := a1.trans (zae (W := w2) (g := w.heap.size + 1 + 1) (v0 := .int .i64 R.n) (v1 := .bool R.e) (v2 := .slice A2 R.m.length c2) (by omega) a1.size)
  obtain ⟨z0, z1, z2, fz⟩ := zaa q9
  refine bodyPost_ret (v := .agg #[R.n, R.e, .slice A2 R.m.length c2]) (by simp [results, Tryz.results139, go_sem, z0, z1, z2]) rfl ?_
  exact ⟨_, _, rfl, s9, d2⟩
theorem zkK (n : Int) (m : List Int) (fr te dst arr op av an bv bn : Int) (ia : I64 an) (_ib : I64 bn) (v : Nat) (hbv : bv = (v : Int)) (N : Nat) (hN : (N : Int) = 2 * n) (hn : N ≤ 128) (hc : Cells N m) (hv : 2 * v + 1 < N) (h0 : av < 0) (hm : m.length ≤ 17592186044416) (A : Option Addr) (cap : Nat) (w : World) (B : Nat) (hB : B ≤ w.heap.size) (hx : Sx w B A m) (R : O)
  (P : ∀ W, B ≤ W.heap.size → Sx W B A m → Calls Tryz.prog 75 #[.agg #[n, false, .slice A m.length cap], dst, (restR an (varR N m v)).val] W (zan W B R)) :
  Calls Tryz.prog 139 #[.agg #[n, false, .slice A m.length cap], .agg #[fr, te, .int .i64 5, dst, arr, op, av, an, bv, bn]] w (zan w B R) := by
 have t1 : decide (0 ≤ av) = false := by rw [decide_eq_false_iff_not]; omega
 have h1 : 0 ≤ bv := by omega
 have t2 : decide (0 ≤ bv) = true := by rw [decide_eq_true_eq]; omega
 have t3 : decide (av < 0) = true := by rw [decide_eq_true_eq]; omega
 have HV := hid (fun W (hW : B ≤ W.heap.size) (h : Sx W B A m) => zeU n m N v A cap W hN hn hc hv (h.rd hW) hm)
 have d6 := hid (fun W => znO an (varR N m v) ia (zd2 v) W)
 subst hbv
 clear hm hN hn hc hv
 generalize restR an (varR N m v) = rr at *
 generalize varR N m v = rq at *
 rw [Rg.val_eq] at HV d6 P
 rw [Rg.val_eq] at d6
 have HP := hid P
 clear P
 obtain ⟨p0, p1, p2, a1, c9⟩ := zah w #[n, false, .slice A m.length cap] #[fr, te, .int .i64 5, dst, arr, op, av, an, (v : Int), bn] #[.int .i64 0, false, .slice none 0 0] 24 44 24
 replace hx := hx.later a1 hB
 have d5 := hid c9
 have b8 := zaa p0
 have a3 := zam p1
 go_enter Tryz.func139, Tryz.ntmps139
 go_upto_region 2 with fail
 clear b8 a3
 generalize ((w.alloc (Obj.cells #[n, false, .slice A m.length cap] 24)).alloc (Obj.cells #[fr, te, .int .i64 5, dst, arr, op, av, an, (v : Int), bn] 44)).alloc (Obj.cells #[.int .i64 0, false, .slice none 0 0] 24) = w1 at *
 go_cut [6, 7] (fun s6 s7 W => ∃ g6 g7 : Nat, s6 = .pointer (some ⟨g6, 0, none⟩) ∧ s7 = .pointer (some ⟨g7, 0, none⟩) ∧ Blk W g6 26 #[av, an] ∧ Blk W g7 26 #[(v : Int), bn] ∧ Below w1.heap.size w1 W)
 case first =>
  have a3 := zam p1
  go_region_held3 (fun W => W.cell? ⟨w.heap.size + 1, 6, none⟩ = some (.int .i64 av) ∧ W.cell? ⟨w.heap.size + 1, 7, none⟩ = some (.int .i64 an) ∧ W.cell? ⟨w.heap.size + 1, 8, none⟩ = some (.int .i64 (v : Int)) ∧ W.cell? ⟨w.heap.size + 1, 9, none⟩ = some (.int .i64 bn)) (go_keep) (fail)
  all_goals (go_wp2_with fail; go_meet)
  ·obtain ⟨q1, q2, q3⟩ := za4 w1 c9 #[av, an] #[(v : Int), bn] 26 26
   exact ⟨_, _, rfl, rfl, q1, q2, q3⟩
  ·obtain ⟨q1, q2, q3⟩ := za4 w1 c9 #[(v : Int), bn] #[av, an] 26 26
   exact ⟨_, _, rfl, rfl, q2, q1, q3⟩
 case rest =>
  obtain ⟨g6, g7, rfl, rfl, b6, b7, b9⟩ := hcut
  have hB0 := Nat.le_trans hB a1.size
  replace p0 := p0.later b9
  replace p1 := p1.later b9
  replace p2 := p2.later b9
  replace hx := hx.later b9 (Nat.le_trans hB a1.size)
  replace a1 := bup a1 b9
  have b8 := zaa p0
  have a3 := zam p1
  obtain ⟨c3, c0, c1⟩ := zai b6
  obtain ⟨c4, c5, c6⟩ := zai b7
  go_upto_region 6 with fail
  clear b8 a3 c3 c0 c1 c4 c5 c6
  have f0 := zac (show wc.cell? ⟨w.heap.size, 0, none⟩ = some (.int .i64 n) from p0.cell 0)
  have f1 := zac (show wc.cell? ⟨w.heap.size, 1, none⟩ = some (.bool false) from p0.cell 1)
  have f2 := zac (show wc.cell? ⟨w.heap.size, 2, none⟩ = some (.slice A m.length cap) from p0.cell 2)
  have f3 := zac (show wc.cell? ⟨w.heap.size + 1, 3, none⟩ = some (.int .i64 dst) from p1.cell 3)
  have f4 := zac (show wc.cell? ⟨g6, 1, none⟩ = some (.int .i64 an) from b6.cell 1)
  have f5 := zac (show wc.cell? ⟨g7, 0, none⟩ = some (.int .i64 (v : Int)) from b7.cell 0)
  refine zad 11 [Sp.val (.agg #[n, false, .slice A m.length cap]), Sp.val (.pointer (some ⟨w.heap.size + 1, 3, none⟩)), Sp.val (.int .i64 dst), Sp.val (.pointer (some ⟨g6, 1, none⟩)), Sp.val (.int .i64 an), Sp.val (.agg #[n, false, .slice A m.length cap]), Sp.val (.agg #[n, false, .slice A m.length cap]), Sp.val (.pointer (some ⟨g7, 0, none⟩)), Sp.val (.int .i64 (v : Int)), Sp.val (.agg #[rq.lo, rq.hi, rq.hl, rq.hh]), Sp.val (.agg #[rr.lo, rr.hi, rr.hl, rr.hh])] (by kernel_rfl) (by kernel_rfl) ?_
  iterate 9 (refine fe_t (fun _ _ => ?_))
  refine zaf.callFV (by rfl) (fun W hW hf => ⟨171, #[.agg #[n, false, .slice A m.length cap], (v : Int)], by go_simp, HV.out W (Nat.le_trans (Nat.le_trans hB a1.size) (Ext.trans (Below.refl _ _).drew hW : Below wc.heap.size wc W).size) (hx.later (Ext.trans (Below.refl _ _).drew hW) (Nat.le_trans hB a1.size))⟩) (fun _ _ => ?_)
  refine fe_p ?_
  refine zaf.callFV (by rfl) (fun W hW hf => ⟨196, #[an, .agg #[rq.lo, rq.hi, rq.hl, rq.hh]], by go_simp, d6.out W⟩) (fun _ _ => ?_)
  refine fe_p ?_
  refine zaf.tail (fun W hW hf hd2 => ?_)
  replace hW : Below wc.heap.size wc W := Ext.trans (Below.refl _ _).drew hW
  clear hf hd2 HV d6 f0 f1 f2 f3 f4 f5
  replace p2 := p2.later hW
  replace hx := hx.later hW (Nat.le_trans hB a1.size)
  replace a1 := bup a1 hW
  clear hW p0 p1 b6 b7
  go_wp2_with fail
  have hB1 := Nat.le_trans hB a1.size
  (with_reducible refine (HP.out W hB1 hx).mono ?_)
  rintro d3 w2 ⟨A2, c2, rfl, d4, a0⟩
  replace p2 := p2.later a0
  replace hx := hx.later a0 (Nat.le_trans hB a1.size)
  replace a1 := bup a1 a0
  have d0 := zaa p2
  go_wp2
  clear d0
  have hBz := a1.size
  have s9 := d4.far3 (g := w.heap.size + 1 + 1) (v0 := .int .i64 R.n) (v1 := .bool R.e) (v2 := .slice A2 R.m.length c2) (by omega) p2 (by decide)
  have q9 := p2.set3 (v0 := .int .i64 R.n) (v1 := .bool R.e) (v2 := .slice A2 R.m.length c2)
  have d2 := a1.trans (zae (W := w2) (g := w.heap.size + 1 + 1) (v0 := .int .i64 R.n) (v1 := .bool R.e) (v2 := .slice A2 R.m.length c2) (by omega) a1.size)
  obtain ⟨z0, z1, z2, fz⟩ := zaa q9
  refine bodyPost_ret (v := .agg #[R.n, R.e, .slice A2 R.m.length c2]) (by simp [results, Tryz.results139, go_sem, z0, z1, z2]) rfl ?_
  exact ⟨_, _, rfl, s9, d2⟩
end
end Go.Proofs.YtnmpgijiimglcaaGreat
