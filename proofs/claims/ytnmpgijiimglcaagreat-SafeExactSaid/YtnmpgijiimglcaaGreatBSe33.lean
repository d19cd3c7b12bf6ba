import Derived.Test.YtnmpgijiimglcaaGreatBSe32
import Derived.Test.YtnmpgijiimglcaaGreatBSe31
import Derived.Test.YtnmpgijiimglcaaGreatBSe30
import Derived.Test.YtnmpgijiimglcaaGreatBSe23
import Derived.Test.YtnmpgijiimglcaaGreatBSe11
namespace Go.Proofs.YtnmpgijiimglcaaGreat
open Go.RowKit
set_option maxRecDepth 100000
set_option maxHeartbeats 8000000
section
attribute [local go_sem ↓] Go.wp_at_zero Go.wp_at_succ
theorem zdy (o : O) (fr te kd dst arr op av an bv bn : Int) (A : Option Addr) (cap : Nat) (w : World) (hx : Rd w w.heap.size A o.m) (hm : o.m.length ≤ 17592186044416) (B : Nat) (hB : B ≤ w.heap.size)
  (P : transErr o ⟨fr, te, kd, dst, arr, op, av, an, bv, bn⟩ = 0 → ∀ (N : Nat) (cm : List Int) (Ac : Option Addr) (cc : Nat) (W : World), (N : Int) = 2 * o.n → N ≤ 128 → Cells N cm → closeO o = ⟨o.n, false, cm⟩ → B ≤ W.heap.size → Sx W B Ac cm → cm.length ≤ 17592186044416 → Calls Tryz.prog 68 #[.agg #[o.n, false, .slice Ac cm.length cc], .agg #[fr, te, kd, dst, arr, op, av, an, bv, bn]] W (zar W B (zbS ⟨o.n, false, cm⟩ ⟨fr, te, kd, dst, arr, op, av, an, bv, bn⟩))) :
  Calls Tryz.prog 28 #[.agg #[o.n, o.e, .slice A o.m.length cap], .agg #[fr, te, kd, dst, arr, op, av, an, bv, bn]] w (zcX w B (transAns o ⟨fr, te, kd, dst, arr, op, av, an, bv, bn⟩) (transErr o ⟨fr, te, kd, dst, arr, op, av, an, bv, bn⟩)) := by
 have HE : Hid (transErr o ⟨fr, te, kd, dst, arr, op, av, an, bv, bn⟩ = if check o ≠ 0 then check o else if rightT o.n ⟨fr, te, kd, dst, arr, op, av, an, bv, bn⟩ then 0 else 160) := hid rfl
 have HR : Hid (transAns o ⟨fr, te, kd, dst, arr, op, av, an, bv, bn⟩ = if transErr o ⟨fr, te, kd, dst, arr, op, av, an, bv, bn⟩ = 0 then transO o ⟨fr, te, kd, dst, arr, op, av, an, bv, bn⟩ else ⟨0, false, []⟩) := hid rfl
 have HP := hid P
 clear P
 have HRT : Hid (∀ W, Calls Tryz.prog 67 #[.agg #[fr, te, kd, dst, arr, op, av, an, bv, bn], o.n] W fun r w' => r = .returned (.bool (rightT o.n ⟨fr, te, kd, dst, arr, op, av, an, bv, bn⟩)) ∧ Below W.heap.size W w') := hid (fun W => zgp o.n ⟨fr, te, kd, dst, arr, op, av, an, bv, bn⟩ W)
 have HTO : Hid (transO o ⟨fr, te, kd, dst, arr, op, av, an, bv, bn⟩ = if (closeO o).e then closeO o else zbS (closeO o) ⟨fr, te, kd, dst, arr, op, av, an, bv, bn⟩) := hid rfl
 generalize transO o ⟨fr, te, kd, dst, arr, op, av, an, bv, bn⟩ = TO at *
 generalize transAns o ⟨fr, te, kd, dst, arr, op, av, an, bv, bn⟩ = R at *
 generalize transErr o ⟨fr, te, kd, dst, arr, op, av, an, bv, bn⟩ = E at *
 generalize hrb : rightT o.n ⟨fr, te, kd, dst, arr, op, av, an, bv, bn⟩ = rb at *
 clear hrb
 have HCK := hid (fun W (h : Rd W W.heap.size A o.m) => zbF o A cap W h (by omega))
 have HK : Hid (∃ k, k = check o) := hid ⟨_, rfl⟩
 obtain ⟨k, hk⟩ := HK.out
 rw [← hk] at HCK HE
 clear HK
 obtain ⟨p0, p1, p3, a0, hsz⟩ := zaj w #[o.n, o.e, .slice A o.m.length cap] #[fr, te, kd, dst, arr, op, av, an, bv, bn] #[.int .i64 0, false, .slice none 0 0] 24 44 24
 replace hx := hx.up a0
 have HSZ := hid hsz
 clear hsz
 have HKK := hid hk
 clear hk
 have b1 := zaa p0
 go_enter Tryz.func28, Tryz.ntmps28
 go_wp2_with fail
 clear b1
 generalize ((w.alloc (Obj.cells #[o.n, o.e, .slice A o.m.length cap] 24)).alloc (Obj.cells #[fr, te, kd, dst, arr, op, av, an, bv, bn] 44)).alloc (Obj.cells #[.int .i64 0, false, .slice none 0 0] 24) = w1 at *
 (with_reducible refine (HCK.out w1 hx).mono ?_)
 rintro e_w2 w2 ⟨rfl, a3⟩
 replace p0 := p0.later a3
 replace p1 := p1.later a3
 replace p3 := p3.later a3
 replace hx := hx.up a3
 replace a0 := bup a0 a3
 cases t1 : (k != 0)
 rotate_left
 ·have d2 : k ≠ 0 := by simpa using t1
  have e1 : E = k := by rw [HE.out, if_pos d2]
  have e2 : R = ⟨0, false, []⟩ := by rw [HR.out, e1, if_neg d2]
  subst e2
  clear HR HE d2
  subst e1
  have a8 := zaa p3
  go_wp2
  clear a8
  have hBz := a0.size
  have q9 := p3.set3 (v0 := .int .i64 0) (v1 := .bool false) (v2 := .slice none 0 0)
  have c3 := a0.trans (zah (W := w2) (g := w.heap.size + 1 + 1) (v0 := .int .i64 0) (v1 := .bool false) (v2 := .slice none 0 0) (by omega) a0.size)
  obtain ⟨z0, z1, z2, fz⟩ := zaa q9
  refine bodyPost_ret (v := .tuple #[.agg #[.int .i64 0, false, .slice none 0 0], E]) (by simp [results, Tryz.results28, go_sem, z0, z1, z2]) rfl ?_
  exact ⟨none, 0, rfl, zkm _ _, c3⟩
 ·have d2 : k = 0 := by simpa using t1
  subst d2
  have hck : check o = 0 := HKK.out.symm
  have d1 := hid hck
  clear hck t1
  replace HE : Hid (E = if rb then 0 else 160) := hid (by rw [HE.out, if_neg (by simp)])
  have b1 := zaa p0
  have c6 := zae p1
  go_wp2_with fail
  clear b1 c6
  (with_reducible refine (HRT.out w2).mono ?_)
  rintro e_w3 w3 ⟨rfl, a4⟩
  replace p0 := p0.later a4
  replace p1 := p1.later a4
  replace p3 := p3.later a4
  replace hx := hx.up a4
  replace a0 := bup a0 a4
  cases rb
  ·have e1 : E = 160 := by rw [HE.out]; rfl
   have e2 : R = ⟨0, false, []⟩ := by rw [HR.out, e1, if_neg (by omega)]
   subst e2
   clear HR HE HP
   subst e1
   have a8 := zaa p3
   go_wp2
   clear a8
   have hBz := a0.size
   have q9 := p3.set3 (v0 := .int .i64 0) (v1 := .bool false) (v2 := .slice none 0 0)
   have c3 := a0.trans (zah (W := w3) (g := w.heap.size + 1 + 1) (v0 := .int .i64 0) (v1 := .bool false) (v2 := .slice none 0 0) (by omega) a0.size)
   obtain ⟨z0, z1, z2, fz⟩ := zaa q9
   refine bodyPost_ret (v := .tuple #[.agg #[.int .i64 0, false, .slice none 0 0], .int .i64 160]) (by simp [results, Tryz.results28, go_sem, z0, z1, z2]) rfl ?_
   exact ⟨none, 0, rfl, zkm _ _, c3⟩
  ·have e1 : E = 0 := by rw [HE.out]; rfl
   replace HR : Hid (R = if (closeO o).e then closeO o else zbS (closeO o) ⟨fr, te, kd, dst, arr, op, av, an, bv, bn⟩) := hid (by rw [HR.out, e1, if_pos rfl, HTO.out])
   clear HE HTO
   subst e1
   have b1 := zaa p0
   go_wp2_with fail
   clear b1
   have hle : w.heap.size ≤ w3.heap.size := a0.size
   have hBc := Nat.le_trans hB hle
   (with_reducible refine (zaT o d1.out A cap w3 hx hm).mono ?_)
   rintro e_w4 w4 ⟨Ac, cc, rfl, ownc, a2⟩
   have sxc := Sx.of_own ownc hBc
   replace p0 := p0.later a2
   replace p1 := p1.later a2
   replace p3 := p3.later a2
   replace hx := hx.up a2
   replace a0 := bup a0 a2
   have okc : OkO o.n (closeO o) := OkO.close ⟨rfl, d1.out⟩
   have d3 := OkO.small okc
   rcases okc.form with hE | ⟨N, cm, hN, hn, hE, hc⟩
   ·replace HR : Hid (R = emptyO o.n) := hid (by rw [HR.out, hE]; rfl)
    rw [hE] at sxc ⊢
    unfold emptyO at *
    dsimp only at *
    replace sxc : Sx w4 B Ac [] := sxc
    clear hE d3 okc HP
    simp only [List.length_nil]
    obtain ⟨p5, a9, -⟩ := zak w4 #[o.n, true, .slice Ac 0 cc] 24
    replace p0 := p0.later a9
    replace p1 := p1.later a9
    replace p3 := p3.later a9
    replace sxc := sxc.later a9 (Nat.le_trans hB a0.size)
    replace hx := hx.up a9
    replace a0 := bup a0 a9
    have b5 := zaa p5
    have a8 := zaa p3
    go_wp2
    clear b5 a8
    generalize w4.alloc (Obj.cells #[o.n, true, .slice Ac 0 cc] 24) = w5 at *
    have hBz := a0.size
    have s9 := sxc.far3 (g := w.heap.size + 1 + 1) (v0 := .int .i64 o.n) (v1 := .bool true) (v2 := .slice Ac 0 cc) (by omega) p3 (by decide)
    rw [HR.out]
    have q9 := p3.set3 (v0 := .int .i64 o.n) (v1 := .bool true) (v2 := .slice Ac 0 cc)
    have c3 := a0.trans (zah (W := w5) (g := w.heap.size + 1 + 1) (v0 := .int .i64 o.n) (v1 := .bool true) (v2 := .slice Ac 0 cc) (by omega) a0.size)
    obtain ⟨z0, z1, z2, fz⟩ := zaa q9
    refine bodyPost_ret (v := .tuple #[.agg #[o.n, true, .slice Ac 0 cc], .int .i64 0]) (by simp [results, Tryz.results28, go_sem, z0, z1, z2]) rfl ?_
    exact ⟨_, _, rfl, s9, c3⟩
   ·replace HR : Hid (R = zbS ⟨o.n, false, cm⟩ ⟨fr, te, kd, dst, arr, op, av, an, bv, bn⟩) := hid (by rw [HR.out, hE]; rfl)
    rw [hE] at sxc d3 ⊢
    dsimp only at *
    have HP2 := hid (fun W h1 h2 => HP.out (by first | rfl | trivial) N cm Ac cc W hN hn hc hE h1 h2 d3)
    clear hE okc HP
    obtain ⟨p5, a9, -⟩ := zak w4 #[o.n, false, .slice Ac cm.length cc] 24
    replace p0 := p0.later a9
    replace p1 := p1.later a9
    replace p3 := p3.later a9
    replace sxc := sxc.later a9 (Nat.le_trans hB a0.size)
    replace hx := hx.up a9
    replace a0 := bup a0 a9
    have b5 := zaa p5
    have c6 := zae p1
    go_wp2_with fail
    clear b5 c6
    generalize w4.alloc (Obj.cells #[o.n, false, .slice Ac cm.length cc] 24) = w5 at *
    have hBd := Nat.le_trans hB a0.size
    (with_reducible refine (HP2.out w5 hBd sxc).mono ?_)
    rintro e_w6 w6 ⟨A2, c2, rfl, sx2, a1⟩
    replace p0 := p0.later a1
    replace p1 := p1.later a1
    replace p3 := p3.later a1
    replace p5 := p5.later a1
    replace sxc := sxc.later a1 (Nat.le_trans hB a0.size)
    replace hx := hx.up a1
    replace a0 := bup a0 a1
    rw [← HR.out] at sx2 ⊢
    have a8 := zaa p3
    go_wp2
    clear a8
    have hBz := a0.size
    have s9 := sx2.far3 (g := w.heap.size + 1 + 1) (v0 := .int .i64 R.n) (v1 := .bool R.e) (v2 := .slice A2 R.m.length c2) (by omega) p3 (by decide)
    have q9 := p3.set3 (v0 := .int .i64 R.n) (v1 := .bool R.e) (v2 := .slice A2 R.m.length c2)
    have c3 := a0.trans (zah (W := w6) (g := w.heap.size + 1 + 1) (v0 := .int .i64 R.n) (v1 := .bool R.e) (v2 := .slice A2 R.m.length c2) (by omega) a0.size)
    obtain ⟨z0, z1, z2, fz⟩ := zaa q9
    refine bodyPost_ret (v := .tuple #[.agg #[R.n, R.e, .slice A2 R.m.length c2], .int .i64 0]) (by simp [results, Tryz.results28, go_sem, z0, z1, z2]) rfl ?_
    exact ⟨_, _, rfl, s9, c3⟩
end
section
attribute [local go_sem ↓] Go.wp_at_zero Go.wp_at_succ
def fits4 (r s : Rg) : Bool := !(decide (hiR r < loR r) || decide (hiR s < loR s)) && (decide ((addW (loR r) (loR s)).2 = 0) && decide ((addW (hiR r) (hiR s)).2 = 0))
def fits5 (r s : Rg) : Bool := !(decide (hiR r < loR r) || decide (hiR s < loR s)) && (decide ((subW (loR r) (hiR s)).2 = 0) && decide ((subW (hiR r) (loR s)).2 = 0))
theorem zjP (N : Nat) (m : List Int) (v : Nat) : I64 (loR (varR N m v)) ∧ I64 (hiR (varR N m v)) := by
 unfold varR za3 loR hiR I64
 have h1 := zc8 (G N m (2 * v) (2 * v + 1))
 have h2 := zcJ (G N m (2 * v) (2 * v + 1))
 have h3 := zc8 (G N m (2 * v + 1) (2 * v))
 have h4 := zcJ (G N m (2 * v + 1) (2 * v))
 generalize half (G N m (2 * v) (2 * v + 1)) = a at *
 generalize half (G N m (2 * v + 1) (2 * v)) = b at *
 dsimp only
 by_cases e1 : a = 9223372036854775807 <;> by_cases e2 : b = 9223372036854775807 <;> simp [e1, e2] <;> omega
theorem zao (N : Nat) (m : List Int) (v n : Int) (hn : I64 n) : I64 (loR (opdR N m v n)) ∧ I64 (hiR (opdR N m v n)) := by
 unfold opdR
 split
 ·exact zjP N m _
 ·exact ⟨hn, hn⟩
theorem zf9 (F : Value) (g : Nat) (fr te kd dst arr op av an bv bn : Int) (hb : bv < 0) (w : World) (hg : Blk w g 44 #[fr, te, kd, dst, arr, op, av, an, bv, bn]) :
  Calls Tryz.prog 92 #[F, .pointer (some ⟨g, 0, none⟩)] w fun e w' => e = .returned (.bool false) ∧ w' = w := by
 have x0 := zae hg
 have t2 : decide (0 ≤ bv) = false := by rw [decide_eq_false_iff_not]; omega
 clear hb
 cases t1 : decide (0 ≤ av)
 all_goals
  go_enter Tryz.func92, Tryz.ntmps92
  go_wp2
  go_ret
  exact ⟨rfl, rfl⟩
theorem zkF (o R : O) (fr te dst arr op av an bv bn sz : Int) (hbv : bv < 0) (ib : I64 bn) (hk : check o = 0) (hav : av < o.n) (ian : I64 an) (C : O) (hC : C = closeO o) (A : Option Addr) (cap : Nat) (w : World) (hx : Rd w w.heap.size A o.m) (hm : o.m.length ≤ 17592186044416)
  (HP : ∀ W, w.heap.size ≤ W.heap.size → Rd W W.heap.size A o.m → Calls Tryz.prog 28 #[.agg #[o.n, o.e, .slice A o.m.length cap], .agg #[fr, te, .int .i64 4, dst, arr, op, av, an, bv, bn]] W (zcX W w.heap.size R 0)) :
  Calls Tryz.prog 43 #[.agg #[o.n, o.e, .slice A o.m.length cap], .agg #[fr, te, .int .i64 4, dst, arr, op, av, an, bv, bn], sz] w fun e w' => e = .returned (.tuple #[.bool (C.e || fits4 (opdR (2 * C.n).toNat C.m av an) (opdR (2 * C.n).toNat C.m bv bn)), .int .i64 0]) ∧ Below w.heap.size w w' := by
 have okc : OkO o.n C := hC ▸ (⟨rfl, hk⟩ : OkO o.n o).close
 have HT := hid HP
 have HC := hid (fun W (h : Rd W W.heap.size A o.m) => (show Calls Tryz.prog 89 #[.agg #[o.n, o.e, .slice A o.m.length cap]] W (zbo W C 0) from by have h1 := zbp o A cap W h hm; unfold zbQ at h1; rw [if_pos hk, hk, ← hC] at h1; exact h1))
 clear HP hC hk
 have hn := okc.n_
 obtain ⟨CN, Ce, cm⟩ := C
 dsimp only at hn
 subst hn
 have d8 := hid (fun F g W (hg : Blk W g 44 #[fr, te, .int .i64 4, dst, arr, op, av, an, bv, bn]) => zf9 F g fr te 4 dst arr op av an bv bn hbv W hg)
 have c3 : Ce = false → ∃ N : Nat, (2 * o.n).toNat = N ∧ (N : Int) = 2 * o.n ∧ N ≤ 128 ∧ Cells N cm ∧ cm.length ≤ 17592186044416 := by
  intro he
  subst he
  obtain ⟨n0, n1, _, _⟩ := zas okc.ok
  dsimp only at n0 n1
  exact ⟨(2 * o.n).toNat, rfl, by omega, by omega, zaz (by omega) okc.ok, OkO.small okc⟩
 have H1 := hid (fun (he : Ce = false) A2 c2 W (h : Rd W W.heap.size A2 cm) => (show Calls Tryz.prog 90 #[.agg #[o.n, false, .slice A2 cm.length c2], .agg #[av, an]] W (zam (opdR (2 * o.n).toNat cm av an).val W) from by
  obtain ⟨N, hNt, hN, hn, d3, d2⟩ := c3 he
  rw [hNt]
  exact zaA o.n cm N av an A2 c2 W hN hn d3 hav h d2))
 have H2 := hid (fun (he : Ce = false) A2 c2 W (h : Rd W W.heap.size A2 cm) => (show Calls Tryz.prog 90 #[.agg #[o.n, false, .slice A2 cm.length c2], .agg #[bv, bn]] W (zam (opdR (2 * o.n).toNat cm bv bn).val W) from by
  obtain ⟨N, hNt, hN, hn, d3, d2⟩ := c3 he
  rw [hNt]
  exact zaA o.n cm N bv bn A2 c2 W hN hn d3 (by omega) h d2))
 have I1 := zao (2 * o.n).toNat cm av an ian
 have I2 := zao (2 * o.n).toNat cm bv bn ib
 dsimp only
 generalize opdR (2 * o.n).toNat cm av an = r at *
 generalize opdR (2 * o.n).toNat cm bv bn = s at *
 clear okc c3 hav hbv ib ian
 have HF := hid (fun W => (show Calls Tryz.prog 46 #[.int .i64 4, r.val, s.val] W (fun e w' => e = .returned (.bool (fits4 r s)) ∧ Below W.heap.size W w') from zej r s I1 I2 W))
 clear I1 I2
 generalize fits4 r s = Q at *
 rw [Rg.val_eq] at H1 H2 HF
 rw [Rg.val_eq] at HF
 obtain ⟨p0, p1, a0, e0⟩ := zal w #[o.n, o.e, .slice A o.m.length cap] #[fr, te, .int .i64 4, dst, arr, op, av, an, bv, bn] 24 44
 clear e0
 replace hx := hx.up a0
 go_enter Tryz.func43, Tryz.ntmps43
 have c5 := zaa p0
 have a5 := zae p1
 go_wp2_with fail
 clear c5 a5
 generalize (w.alloc (Obj.cells #[o.n, o.e, .slice A o.m.length cap] 24)).alloc (Obj.cells #[fr, te, .int .i64 4, dst, arr, op, av, an, bv, bn] 44) = w1 at *
 (with_reducible refine (HT.out w1 a0.size hx).mono ?_)
 rintro d9 w2 ⟨A1, c1, rfl, d7, a4⟩
 clear d7 HT
 replace p0 := p0.later a4
 replace p1 := p1.later a4
 replace hx := hx.up a4
 replace a0 := bup a0 a4
 clear a4
 obtain ⟨p8, b4, -⟩ := zak w2 #[R.n, R.e, .slice A1 R.m.length c1] 24
 replace p0 := p0.later b4
 replace p1 := p1.later b4
 replace hx := hx.up b4
 replace a0 := bup a0 b4
 have c5 := zaa p0
 have a5 := zae p1
 go_wp2_with fail
 clear c5 a5
 generalize w2.alloc (Obj.cells #[R.n, R.e, .slice A1 R.m.length c1] 24) = w3 at *
 clear p8
 (with_reducible refine (HC.out w3 hx).mono ?_)
 rintro d6 w4 ⟨A2, c2, s2, rfl, own, a9⟩
 clear HC
 replace p0 := p0.later a9
 replace p1 := p1.later a9
 replace hx := hx.up a9
 replace a0 := bup a0 a9
 clear a9
 dsimp only at own
 have hr := own.rd
 clear own hx
 cases Ce with
 | true =>
  obtain ⟨p10, b4, -⟩ := zak w4 #[o.n, true, .slice A2 cm.length c2] 24
  replace p0 := p0.later b4
  replace p1 := p1.later b4
  replace hr := hr.up b4
  replace a0 := bup a0 b4
  have b8 := zaa p10
  have a5 := zae p1
  go_wp2
  refine bodyPost_ret (v := .tuple #[true, .int .i64 0]) (by simp [results, Tryz.results43, go_sem]) rfl ⟨rfl, a0⟩
 | false =>
  obtain ⟨k0, k1, k2, k3, k4, k5, k6, k7, k8, k9, fk⟩ := zae (p1.later (new1 w4 (Obj.cells #[o.n, false, .slice A2 cm.length c2] 24)))
  obtain ⟨p10, p13, b4, -⟩ := zal w4 #[o.n, false, .slice A2 cm.length c2] #[o.n, false, .slice A2 cm.length c2] 24 125
  replace p0 := p0.later b4
  replace p1 := p1.later b4
  replace hr := hr.up b4
  replace a0 := bup a0 b4
  have b8 := zaa p10
  have a5 := zae p1
  go_upto_region 17 with fail
  clear b8 a5
  clear k0 k1 k2 k3 k4 k5 k6 k7 k8 k9 fk
  generalize (w4.alloc (Obj.cells #[o.n, false, .slice A2 cm.length c2] 24)).alloc (Obj.cells #[o.n, false, .slice A2 cm.length c2] 125) = w5 at *
  have f0 := zab (show w5.cell? ⟨w4.heap.size + 1, 0, none⟩ = some (.int .i64 o.n) from p13.cell 0)
  have f1 := zab (show w5.cell? ⟨w4.heap.size + 1, 1, none⟩ = some (.bool false) from p13.cell 1)
  have f2 := zab (show w5.cell? ⟨w4.heap.size + 1, 2, none⟩ = some (.slice A2 cm.length c2) from p13.cell 2)
  have j0 := zab (show w5.cell? ⟨w.heap.size + 1, 0, none⟩ = some (.int .i64 fr) from p1.cell 0)
  have j1 := zab (show w5.cell? ⟨w.heap.size + 1, 1, none⟩ = some (.int .i64 te) from p1.cell 1)
  have j2 := zab (show w5.cell? ⟨w.heap.size + 1, 2, none⟩ = some (.int .i64 4) from p1.cell 2)
  have j3 := zab (show w5.cell? ⟨w.heap.size + 1, 3, none⟩ = some (.int .i64 dst) from p1.cell 3)
  have j4 := zab (show w5.cell? ⟨w.heap.size + 1, 4, none⟩ = some (.int .i64 arr) from p1.cell 4)
  have j5 := zab (show w5.cell? ⟨w.heap.size + 1, 5, none⟩ = some (.int .i64 op) from p1.cell 5)
  have j6 := zab (show w5.cell? ⟨w.heap.size + 1, 6, none⟩ = some (.int .i64 av) from p1.cell 6)
  have j7 := zab (show w5.cell? ⟨w.heap.size + 1, 7, none⟩ = some (.int .i64 an) from p1.cell 7)
  have j8 := zab (show w5.cell? ⟨w.heap.size + 1, 8, none⟩ = some (.int .i64 bv) from p1.cell 8)
  have j9 := zab (show w5.cell? ⟨w.heap.size + 1, 9, none⟩ = some (.int .i64 bn) from p1.cell 9)
  refine zac 10 [Sp.val (.agg #[o.n, false, .slice A2 cm.length c2]), Sp.val (.pointer (some ⟨w.heap.size + 1, 6, none⟩)), Sp.val (.agg #[av, an]), Sp.val (.agg #[r.lo, r.hi, r.hl, r.hh]), Sp.val (.agg #[o.n, false, .slice A2 cm.length c2]), Sp.val (.pointer (some ⟨w.heap.size + 1, 8, none⟩)), Sp.val (.agg #[bv, bn]), Sp.val (.agg #[s.lo, s.hi, s.hl, s.hh]), Sp.any (zat 49 #[.int .i64 0, .int .i64 0, false, false]), Sp.any (zat 49 #[.int .i64 0, .int .i64 0, false, false])] (by kernel_rfl) (by kernel_rfl) ?_
  (refine fe_t (fun _ _ => ?_))
  (refine fe_t (fun _ _ => ?_))
  (refine fe_t (fun _ _ => ?_))
  refine zaf.callFV (by rfl) (fun W hW hf => ⟨90, #[.agg #[o.n, false, .slice A2 cm.length c2], .agg #[av, an]], by go_simp, H1.out (by first | rfl | trivial) A2 c2 W (hr.up (Ext.trans (Below.refl _ _).drew hW))⟩) (fun _ _ => ?_)
  refine fe_p ?_
  (refine fe_t (fun _ _ => ?_))
  (refine fe_t (fun _ _ => ?_))
  (refine fe_t (fun _ _ => ?_))
  refine zaf.callFV (by rfl) (fun W hW hf => ⟨90, #[.agg #[o.n, false, .slice A2 cm.length c2], .agg #[bv, bn]], by go_simp, H2.out (by first | rfl | trivial) A2 c2 W (hr.up (Ext.trans (Below.refl _ _).drew hW))⟩) (fun _ _ => ?_)
  refine fe_p ?_
  refine zaf.step (by rfl) (fun W hW K hK => ?_) (fun v8 l8 h8 => ?_)
  ·go_simp
   exact hK _ _ (new1 _ _) ⟨rfl, Blk.new _ _ _, by simp⟩
  refine fe_p ?_
  refine zaf.step (by rfl) (fun W hW K hK => ?_) (fun v9 l9 h9 => ?_)
  ·go_simp
   exact hK _ _ (new1 _ _) ⟨rfl, Blk.new _ _ _, by simp⟩
  refine fe_p ?_
  refine zaf.tail (fun W hW hf hd => ?_)
  replace hW : Below w5.heap.size w5 W := Ext.trans (Below.refl _ _).drew hW
  obtain ⟨g8, rfl, k8, lo8, e8, e8'⟩ := zap (show Sp.fact w5.drew (Sp.any (zat 49 #[.int .i64 0, .int .i64 0, false, false])) v8 l8 h8 W from hf 8)
  obtain ⟨g9, rfl, k9, lo9, e9, e9'⟩ := zap (show Sp.fact w5.drew (Sp.any (zat 49 #[.int .i64 0, .int .i64 0, false, false])) v9 l9 h9 W from hf 9)
  have dd : h8 ≤ l9 ∨ h9 ≤ l8 := hd 8 9 (by decide)
  have d4 : g8 ≠ g9 := by omega
  have d5 : w5.heap.size ≤ g8 := lo8
  have e3 : w5.heap.size ≤ g9 := lo9
  have l1 := p1.lt
  have l13 := p13.lt
  have hw := a0.size
  have n81 : g8 ≠ w.heap.size + 1 := by omega
  have n91 : g9 ≠ w.heap.size + 1 := by omega
  have n8d : g8 ≠ w4.heap.size + 1 := by omega
  have n9d : g9 ≠ w4.heap.size + 1 := by omega
  have l8 : w.heap.size ≤ g8 := by omega
  have l9 : w.heap.size ≤ g9 := by omega
  clear hf hd H1 H2 e8 e8' e9 e9' dd d5 e3 lo8 lo9 l1 l13 f0 f1 f2 j0 j1 j2 j3 j4 j5 j6 j7 j8 j9
  replace p1 := p1.later hW
  replace p13 := p13.later hW
  replace a0 := bup a0 hW
  clear hW hr
  obtain ⟨q8, q9, d1, far⟩ := zbM k8 k9 d4 a0 (Nat.le_refl _) l8 l9 (.int .i64 r.lo) (.int .i64 r.hi) (.bool r.hl) (.bool r.hh) (.int .i64 s.lo) (.int .i64 s.hi) (.bool s.hl) (.bool s.hh)
  have q1 := far _ _ _ p1 n81 n91
  have q13 := far _ _ _ p13 n8d n9d
  clear far
  have m81 := Ne.symm n81
  have m91 := Ne.symm n91
  have m8d := Ne.symm n8d
  have m9d := Ne.symm n9d
  have mne := Ne.symm d4
  have a5 := zae p1
  have c8 := zaa p13
  have x0 := zag k8
  have y0 := zag k9
  go_wp2_with fail
  clear a5 c8
  clear x0 y0 k8 k9 p1 p13 a0
  generalize (((((((W.setCell ⟨g8, 0, none⟩ (.int .i64 r.lo)).setCell ⟨g8, 1, none⟩ (.int .i64 r.hi)).setCell ⟨g8, 2, none⟩ (.bool r.hl)).setCell ⟨g8, 3, none⟩ (.bool r.hh)).setCell ⟨g9, 0, none⟩ (.int .i64 s.lo)).setCell ⟨g9, 1, none⟩ (.int .i64 s.hi)).setCell ⟨g9, 2, none⟩ (.bool s.hl)).setCell ⟨g9, 3, none⟩ (.bool s.hh) = w5 at *
  (with_reducible refine (HF.out _).mono ?_)
  rintro e6 w6 ⟨rfl, d0⟩
  replace q1 := q1.later d0
  replace q13 := q13.later d0
  replace d1 := bup d1 d0
  clear d0 HF q8 q9
  cases Q with
  | true =>
   go_wp2
   refine bodyPost_ret (v := .tuple #[true, .int .i64 0]) (by simp [results, Tryz.results43, go_sem]) rfl ⟨rfl, d1⟩
  | false =>
   have x0 := zae q1
   have y0 := zaa q13
   go_wp2_with fail
   clear x0 y0
   (with_reducible refine (d8.out _ _ _ q1).mono ?_)
   rintro e7 w7 ⟨rfl, rfl⟩
   go_wp2
   refine bodyPost_ret (v := .tuple #[false, .int .i64 0]) (by simp [results, Tryz.results43, go_sem]) rfl ⟨rfl, d1⟩
theorem zkV (o R : O) (fr te dst arr op av an bv bn sz : Int) (hbv : bv < 0) (ib : I64 bn) (hk : check o = 0) (hav : av < o.n) (ian : I64 an) (C : O) (hC : C = closeO o) (A : Option Addr) (cap : Nat) (w : World) (hx : Rd w w.heap.size A o.m) (hm : o.m.length ≤ 17592186044416)
  (HP : ∀ W, w.heap.size ≤ W.heap.size → Rd W W.heap.size A o.m → Calls Tryz.prog 28 #[.agg #[o.n, o.e, .slice A o.m.length cap], .agg #[fr, te, .int .i64 5, dst, arr, op, av, an, bv, bn]] W (zcX W w.heap.size R 0)) :
  Calls Tryz.prog 43 #[.agg #[o.n, o.e, .slice A o.m.length cap], .agg #[fr, te, .int .i64 5, dst, arr, op, av, an, bv, bn], sz] w fun e w' => e = .returned (.tuple #[.bool (C.e || fits5 (opdR (2 * C.n).toNat C.m av an) (opdR (2 * C.n).toNat C.m bv bn)), .int .i64 0]) ∧ Below w.heap.size w w' := by
 have okc : OkO o.n C := hC ▸ (⟨rfl, hk⟩ : OkO o.n o).close
 have HT := hid HP
 have HC := hid (fun W (h : Rd W W.heap.size A o.m) => (show Calls Tryz.prog 89 #[.agg #[o.n, o.e, .slice A o.m.length cap]] W (zbo W C 0) from by have h1 := zbp o A cap W h hm; unfold zbQ at h1; rw [if_pos hk, hk, ← hC] at h1; exact h1))
 clear HP hC hk
 have hn := okc.n_
 obtain ⟨CN, Ce, cm⟩ := C
 dsimp only at hn
 subst hn
 have d8 := hid (fun F g W (hg : Blk W g 44 #[fr, te, .int .i64 5, dst, arr, op, av, an, bv, bn]) => zf9 F g fr te 5 dst arr op av an bv bn hbv W hg)
 have c3 : Ce = false → ∃ N : Nat, (2 * o.n).toNat = N ∧ (N : Int) = 2 * o.n ∧ N ≤ 128 ∧ Cells N cm ∧ cm.length ≤ 17592186044416 := by
  intro he
  subst he
  obtain ⟨n0, n1, _, _⟩ := zas okc.ok
  dsimp only at n0 n1
  exact ⟨(2 * o.n).toNat, rfl, by omega, by omega, zaz (by omega) okc.ok, OkO.small okc⟩
 have H1 := hid (fun (he : Ce = false) A2 c2 W (h : Rd W W.heap.size A2 cm) => (show Calls Tryz.prog 90 #[.agg #[o.n, false, .slice A2 cm.length c2], .agg #[av, an]] W (zam (opdR (2 * o.n).toNat cm av an).val W) from by
  obtain ⟨N, hNt, hN, hn, d3, d2⟩ := c3 he
  rw [hNt]
  exact zaA o.n cm N av an A2 c2 W hN hn d3 hav h d2))
 have H2 := hid (fun (he : Ce = false) A2 c2 W (h : Rd W W.heap.size A2 cm) => (show Calls Tryz.prog 90 #[.agg #[o.n, false, .slice A2 cm.length c2], .agg #[bv, bn]] W (zam (opdR (2 * o.n).toNat cm bv bn).val W) from by
  obtain ⟨N, hNt, hN, hn, d3, d2⟩ := c3 he
  rw [hNt]
  exact zaA o.n cm N bv bn A2 c2 W hN hn d3 (by omega) h d2))
 have I1 := zao (2 * o.n).toNat cm av an ian
 have I2 := zao (2 * o.n).toNat cm bv bn ib
 dsimp only
 generalize opdR (2 * o.n).toNat cm av an = r at *
 generalize opdR (2 * o.n).toNat cm bv bn = s at *
 clear okc c3 hav hbv ib ian
 have HF := hid (fun W => (show Calls Tryz.prog 46 #[.int .i64 5, r.val, s.val] W (fun e w' => e = .returned (.bool (fits5 r s)) ∧ Below W.heap.size W w') from zd8 r s I1 I2 W))
 clear I1 I2
 generalize fits5 r s = Q at *
 rw [Rg.val_eq] at H1 H2 HF
 rw [Rg.val_eq] at HF
 obtain ⟨p0, p1, a0, e0⟩ := zal w #[o.n, o.e, .slice A o.m.length cap] #[fr, te, .int .i64 5, dst, arr, op, av, an, bv, bn] 24 44
 clear e0
 replace hx := hx.up a0
 go_enter Tryz.func43, Tryz.ntmps43
 have c5 := zaa p0
 have a5 := zae p1
 go_wp2_with fail
 clear c5 a5
 generalize (w.alloc (Obj.cells #[o.n, o.e, .slice A o.m.length cap] 24)).alloc (Obj.cells #[fr, te, .int .i64 5, dst, arr, op, av, an, bv, bn] 44) = w1 at *
 (with_reducible refine (HT.out w1 a0.size hx).mono ?_)
 rintro d9 w2 ⟨A1, c1, rfl, d7, a4⟩
 clear d7 HT
 replace p0 := p0.later a4
 replace p1 := p1.later a4
 replace hx := hx.up a4
 replace a0 := bup a0 a4
 clear a4
 obtain ⟨p8, b4, -⟩ := zak w2 #[R.n, R.e, .slice A1 R.m.length c1] 24
 replace p0 := p0.later b4
 replace p1 := p1.later b4
 replace hx := hx.up b4
 replace a0 := bup a0 b4
 have c5 := zaa p0
 have a5 := zae p1
 go_wp2_with fail
 clear c5 a5
 generalize w2.alloc (Obj.cells #[R.n, R.e, .slice A1 R.m.length c1] 24) = w3 at *
 clear p8
 (with_reducible refine (HC.out w3 hx).mono ?_)
 rintro d6 w4 ⟨A2, c2, s2, rfl, own, a9⟩
 clear HC
 replace p0 := p0.later a9
 replace p1 := p1.later a9
 replace hx := hx.up a9
 replace a0 := bup a0 a9
 clear a9
 dsimp only at own
 have hr := own.rd
 clear own hx
 cases Ce with
 | true =>
  obtain ⟨p10, b4, -⟩ := zak w4 #[o.n, true, .slice A2 cm.length c2] 24
  replace p0 := p0.later b4
  replace p1 := p1.later b4
  replace hr := hr.up b4
  replace a0 := bup a0 b4
  have b8 := zaa p10
  have a5 := zae p1
  go_wp2
  refine bodyPost_ret (v := .tuple #[true, .int .i64 0]) (by simp [results, Tryz.results43, go_sem]) rfl ⟨rfl, a0⟩
 | false =>
  obtain ⟨k0, k1, k2, k3, k4, k5, k6, k7, k8, k9, fk⟩ := zae (p1.later (new1 w4 (Obj.cells #[o.n, false, .slice A2 cm.length c2] 24)))
  obtain ⟨p10, p13, b4, -⟩ := zal w4 #[o.n, false, .slice A2 cm.length c2] #[o.n, false, .slice A2 cm.length c2] 24 125
  replace p0 := p0.later b4
  replace p1 := p1.later b4
  replace hr := hr.up b4
  replace a0 := bup a0 b4
  have b8 := zaa p10
  have a5 := zae p1
  go_upto_region 17 with fail
  clear b8 a5
  clear k0 k1 k2 k3 k4 k5 k6 k7 k8 k9 fk
  generalize (w4.alloc (Obj.cells #[o.n, false, .slice A2 cm.length c2] 24)).alloc (Obj.cells #[o.n, false, .slice A2 cm.length c2] 125) = w5 at *
  have f0 := zab (show w5.cell? ⟨w4.heap.size + 1, 0, none⟩ = some (.int .i64 o.n) from p13.cell 0)
  have f1 := zab (show w5.cell? ⟨w4.heap.size + 1, 1, none⟩ = some (.bool false) from p13.cell 1)
  have f2 := zab (show w5.cell? ⟨w4.heap.size + 1, 2, none⟩ = some (.slice A2 cm.length c2) from p13.cell 2)
  have j0 := zab (show w5.cell? ⟨w.heap.size + 1, 0, none⟩ = some (.int .i64 fr) from p1.cell 0)
  have j1 := zab (show w5.cell? ⟨w.heap.size + 1, 1, none⟩ = some (.int .i64 te) from p1.cell 1)
  have j2 := zab (show w5.cell? ⟨w.heap.size + 1, 2, none⟩ = some (.int .i64 5) from p1.cell 2)
  have j3 := zab (show w5.cell? ⟨w.heap.size + 1, 3, none⟩ = some (.int .i64 dst) from p1.cell 3)
  have j4 := zab (show w5.cell? ⟨w.heap.size + 1, 4, none⟩ = some (.int .i64 arr) from p1.cell 4)
  have j5 := zab (show w5.cell? ⟨w.heap.size + 1, 5, none⟩ = some (.int .i64 op) from p1.cell 5)
  have j6 := zab (show w5.cell? ⟨w.heap.size + 1, 6, none⟩ = some (.int .i64 av) from p1.cell 6)
  have j7 := zab (show w5.cell? ⟨w.heap.size + 1, 7, none⟩ = some (.int .i64 an) from p1.cell 7)
  have j8 := zab (show w5.cell? ⟨w.heap.size + 1, 8, none⟩ = some (.int .i64 bv) from p1.cell 8)
  have j9 := zab (show w5.cell? ⟨w.heap.size + 1, 9, none⟩ = some (.int .i64 bn) from p1.cell 9)
  refine zac 10 [Sp.val (.agg #[o.n, false, .slice A2 cm.length c2]), Sp.val (.pointer (some ⟨w.heap.size + 1, 6, none⟩)), Sp.val (.agg #[av, an]), Sp.val (.agg #[r.lo, r.hi, r.hl, r.hh]), Sp.val (.agg #[o.n, false, .slice A2 cm.length c2]), Sp.val (.pointer (some ⟨w.heap.size + 1, 8, none⟩)), Sp.val (.agg #[bv, bn]), Sp.val (.agg #[s.lo, s.hi, s.hl, s.hh]), Sp.any (zat 49 #[.int .i64 0, .int .i64 0, false, false]), Sp.any (zat 49 #[.int .i64 0, .int .i64 0, false, false])] (by kernel_rfl) (by kernel_rfl) ?_
  (refine fe_t (fun _ _ => ?_))
  (refine fe_t (fun _ _ => ?_))
  (refine fe_t (fun _ _ => ?_))
  refine zaf.callFV (by rfl) (fun W hW hf => ⟨90, #[.agg #[o.n, false, .slice A2 cm.length c2], .agg #[av, an]], by go_simp, H1.out (by first | rfl | trivial) A2 c2 W (hr.up (Ext.trans (Below.refl _ _).drew hW))⟩) (fun _ _ => ?_)
  refine fe_p ?_
  (refine fe_t (fun _ _ => ?_))
  (refine fe_t (fun _ _ => ?_))
  (refine fe_t (fun _ _ => ?_))
  refine zaf.callFV (by rfl) (fun W hW hf => ⟨90, #[.agg #[o.n, false, .slice A2 cm.length c2], .agg #[bv, bn]], by go_simp, H2.out (by first | rfl | trivial) A2 c2 W (hr.up (Ext.trans (Below.refl _ _).drew hW))⟩) (fun _ _ => ?_)
  refine fe_p ?_
  refine zaf.step (by rfl) (fun W hW K hK => ?_) (fun v8 l8 h8 => ?_)
  ·go_simp
   exact hK _ _ (new1 _ _) ⟨rfl, Blk.new _ _ _, by simp⟩
  refine fe_p ?_
  refine zaf.step (by rfl) (fun W hW K hK => ?_) (fun v9 l9 h9 => ?_)
  ·go_simp
   exact hK _ _ (new1 _ _) ⟨rfl, Blk.new _ _ _, by simp⟩
  refine fe_p ?_
  refine zaf.tail (fun W hW hf hd => ?_)
  replace hW : Below w5.heap.size w5 W := Ext.trans (Below.refl _ _).drew hW
  obtain ⟨g8, rfl, k8, lo8, e8, e8'⟩ := zap (show Sp.fact w5.drew (Sp.any (zat 49 #[.int .i64 0, .int .i64 0, false, false])) v8 l8 h8 W from hf 8)
  obtain ⟨g9, rfl, k9, lo9, e9, e9'⟩ := zap (show Sp.fact w5.drew (Sp.any (zat 49 #[.int .i64 0, .int .i64 0, false, false])) v9 l9 h9 W from hf 9)
  have dd : h8 ≤ l9 ∨ h9 ≤ l8 := hd 8 9 (by decide)
  have d4 : g8 ≠ g9 := by omega
  have d5 : w5.heap.size ≤ g8 := lo8
  have e3 : w5.heap.size ≤ g9 := lo9
  have l1 := p1.lt
  have l13 := p13.lt
  have hw := a0.size
  have n81 : g8 ≠ w.heap.size + 1 := by omega
  have n91 : g9 ≠ w.heap.size + 1 := by omega
  have n8d : g8 ≠ w4.heap.size + 1 := by omega
  have n9d : g9 ≠ w4.heap.size + 1 := by omega
  have l8 : w.heap.size ≤ g8 := by omega
  have l9 : w.heap.size ≤ g9 := by omega
  clear hf hd H1 H2 e8 e8' e9 e9' dd d5 e3 lo8 lo9 l1 l13 f0 f1 f2 j0 j1 j2 j3 j4 j5 j6 j7 j8 j9
  replace p1 := p1.later hW
  replace p13 := p13.later hW
  replace a0 := bup a0 hW
  clear hW hr
  obtain ⟨q8, q9, d1, far⟩ := zbM k8 k9 d4 a0 (Nat.le_refl _) l8 l9 (.int .i64 r.lo) (.int .i64 r.hi) (.bool r.hl) (.bool r.hh) (.int .i64 s.lo) (.int .i64 s.hi) (.bool s.hl) (.bool s.hh)
  have q1 := far _ _ _ p1 n81 n91
  have q13 := far _ _ _ p13 n8d n9d
  clear far
  have m81 := Ne.symm n81
  have m91 := Ne.symm n91
  have m8d := Ne.symm n8d
  have m9d := Ne.symm n9d
  have mne := Ne.symm d4
  have a5 := zae p1
  have c8 := zaa p13
  have x0 := zag k8
  have y0 := zag k9
  go_wp2_with fail
  clear a5 c8
  clear x0 y0 k8 k9 p1 p13 a0
  generalize (((((((W.setCell ⟨g8, 0, none⟩ (.int .i64 r.lo)).setCell ⟨g8, 1, none⟩ (.int .i64 r.hi)).setCell ⟨g8, 2, none⟩ (.bool r.hl)).setCell ⟨g8, 3, none⟩ (.bool r.hh)).setCell ⟨g9, 0, none⟩ (.int .i64 s.lo)).setCell ⟨g9, 1, none⟩ (.int .i64 s.hi)).setCell ⟨g9, 2, none⟩ (.bool s.hl)).setCell ⟨g9, 3, none⟩ (.bool s.hh) = w5 at *
  (with_reducible refine (HF.out _).mono ?_)
  rintro e6 w6 ⟨rfl, d0⟩
  replace q1 := q1.later d0
  replace q13 := q13.later d0
  replace d1 := bup d1 d0
  clear d0 HF q8 q9
  cases Q with
  | true =>
   go_wp2
   refine bodyPost_ret (v := .tuple #[true, .int .i64 0]) (by simp [results, Tryz.results43, go_sem]) rfl ⟨rfl, d1⟩
  | false =>
   have x0 := zae q1
   have y0 := zaa q13
   go_wp2_with fail
   clear x0 y0
   (with_reducible refine (d8.out _ _ _ q1).mono ?_)
   rintro e7 w7 ⟨rfl, rfl⟩
   go_wp2
   refine bodyPost_ret (v := .tuple #[false, .int .i64 0]) (by simp [results, Tryz.results43, go_sem]) rfl ⟨rfl, d1⟩
end
section
attribute [local go_sem ↓] Go.wp_at_zero Go.wp_at_succ
def placeB (r : Rg) (sz : Int) : Bool := ((r.hl && r.hh) && decide (0 ≤ r.lo)) && decide (r.hi < sz)
theorem zeG (r : Rg) (w : World) : Calls Tryz.prog 91 #[r.val] w fun e w' => e = .returned (.bool (r.hl && r.hh)) ∧ Below w.heap.size w w' := by
 obtain ⟨lo, hi, hl, hh⟩ := r
 unfold Rg.val
 dsimp only
 obtain ⟨p0, hb0, -⟩ := zak w #[lo, hi, hl, hh] 49
 have x0 := zag p0
 cases hl <;> cases hh
 all_goals
  go_enter Tryz.func91, Tryz.ntmps91
  go_wp2
  go_ret
  exact ⟨rfl, hb0⟩
end
end Go.Proofs.YtnmpgijiimglcaaGreat
