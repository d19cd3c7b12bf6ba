import Derived.Test.YtnmpgijiimglcaaGreatBSe33
import Derived.Test.YtnmpgijiimglcaaGreatBSe31
import Derived.Test.YtnmpgijiimglcaaGreatBSe27
namespace Go.Proofs.YtnmpgijiimglcaaGreat
open Go.RowKit
set_option maxRecDepth 100000
set_option maxHeartbeats 8000000
attribute [local go_sem ↓] Go.wp_at_zero Go.wp_at_succ
def wholeB (r : Rg) : Bool := r.hl && r.hh
theorem zkw (n : Int) (cm : List Int) (N : Nat) (hN : (N : Int) = 2 * n) (hn : N ≤ 128) (hc : Cells N cm) (fr te kd dst arr op av an bv bn : Int) (hav : av < n) (hbv : bv < n) (g : Nat) (A : Option Addr) (cap : Nat) (w : World) (hg : Blk w g 44 #[fr, te, kd, dst, arr, op, av, an, bv, bn]) (hx : Rd w w.heap.size A cm) (hm : cm.length ≤ 17592186044416) :
  Calls Tryz.prog 92 #[.func (.func 93) #[.agg #[n, false, .slice A cm.length cap]] #[], .pointer (some ⟨g, 0, none⟩)] w fun e w' => e = .returned (.bool (decide (0 ≤ av) && decide (0 ≤ bv) && wholeB (sumR N cm av.toNat bv.toNat))) ∧ Below w.heap.size w w' := by
 have x0 := zae hg
 by_cases ha : 0 ≤ av
 ·by_cases hb : 0 ≤ bv
  ·obtain ⟨u, rfl⟩ : ∃ u : Nat, av = (u : Int) := ⟨av.toNat, by omega⟩
   obtain ⟨v, rfl⟩ : ∃ v : Nat, bv = (v : Int) := ⟨bv.toNat, by omega⟩
   have HS := hid (zhk n cm N u v A cap w hN hn hc (by omega) (by omega) hx hm)
   rw [decide_eq_true ha, decide_eq_true hb, Int.toNat_natCast, Int.toNat_natCast]
   have t1 : decide (0 ≤ (u : Int)) = true := decide_eq_true ha
   have t2 : decide (0 ≤ (v : Int)) = true := decide_eq_true hb
   generalize sumR N cm u v = r at *
   have HW := hid (fun W => zeG r W)
   unfold wholeB
   rw [Rg.val_eq] at HS HW
   clear ha hb hav hbv hN hn hc hm
   generalize hq : (r.hl && r.hh) = q at *
   rw [show (true && true && q) = q by simp]
   go_enter Tryz.func92, Tryz.ntmps92
   go_wp2_with fail
   (with_reducible refine HS.out.mono ?_)
   rintro e1 w1 ⟨rfl, e5⟩
   go_wp2_with fail
   (with_reducible refine (HW.out w1).mono ?_)
   rintro e2 w2 ⟨rfl, d9⟩
   go_wp2
   go_ret
   exact ⟨rfl, bup e5 d9⟩
  ·have q := zf9 (.func (.func 93) #[.agg #[n, false, .slice A cm.length cap]] #[]) g fr te kd dst arr op av an bv bn (by omega) w hg
   rw [decide_eq_false hb, Bool.and_false, Bool.false_and]
   exact q.mono fun _ _ ⟨he, hw⟩ => ⟨he, hw ▸ Below.refl _ _⟩
 ·have t1 : decide (0 ≤ av) = false := decide_eq_false ha
  rw [t1, Bool.false_and, Bool.false_and]
  clear ha hav hbv hx hN hn hc hm
  go_enter Tryz.func92, Tryz.ntmps92
  go_wp2
  go_ret
  exact ⟨rfl, Below.refl _ _⟩
theorem zjG (n : Int) (cm : List Int) (N : Nat) (hN : (N : Int) = 2 * n) (hn : N ≤ 128) (hc : Cells N cm) (fr te kd dst arr op av an bv bn : Int) (hav : av < n) (hbv : bv < n) (g : Nat) (A : Option Addr) (cap : Nat) (w : World) (hg : Blk w g 44 #[fr, te, kd, dst, arr, op, av, an, bv, bn]) (hx : Rd w w.heap.size A cm) (hm : cm.length ≤ 17592186044416) :
  Calls Tryz.prog 92 #[.func (.func 94) #[.agg #[n, false, .slice A cm.length cap]] #[], .pointer (some ⟨g, 0, none⟩)] w fun e w' => e = .returned (.bool (decide (0 ≤ av) && decide (0 ≤ bv) && wholeB (diffR N cm av.toNat bv.toNat))) ∧ Below w.heap.size w w' := by
 have x0 := zae hg
 by_cases ha : 0 ≤ av
 ·by_cases hb : 0 ≤ bv
  ·obtain ⟨u, rfl⟩ : ∃ u : Nat, av = (u : Int) := ⟨av.toNat, by omega⟩
   obtain ⟨v, rfl⟩ : ∃ v : Nat, bv = (v : Int) := ⟨bv.toNat, by omega⟩
   have HS := hid (zhM n cm N u v A cap w hN hn hc (by omega) (by omega) hx hm)
   rw [decide_eq_true ha, decide_eq_true hb, Int.toNat_natCast, Int.toNat_natCast]
   have t1 : decide (0 ≤ (u : Int)) = true := decide_eq_true ha
   have t2 : decide (0 ≤ (v : Int)) = true := decide_eq_true hb
   generalize diffR N cm u v = r at *
   have HW := hid (fun W => zeG r W)
   unfold wholeB
   rw [Rg.val_eq] at HS HW
   clear ha hb hav hbv hN hn hc hm
   generalize hq : (r.hl && r.hh) = q at *
   rw [show (true && true && q) = q by simp]
   go_enter Tryz.func92, Tryz.ntmps92
   go_wp2_with fail
   (with_reducible refine HS.out.mono ?_)
   rintro e1 w1 ⟨rfl, e5⟩
   go_wp2_with fail
   (with_reducible refine (HW.out w1).mono ?_)
   rintro e2 w2 ⟨rfl, d9⟩
   go_wp2
   go_ret
   exact ⟨rfl, bup e5 d9⟩
  ·have q := zf9 (.func (.func 94) #[.agg #[n, false, .slice A cm.length cap]] #[]) g fr te kd dst arr op av an bv bn (by omega) w hg
   rw [decide_eq_false hb, Bool.and_false, Bool.false_and]
   exact q.mono fun _ _ ⟨he, hw⟩ => ⟨he, hw ▸ Below.refl _ _⟩
 ·have t1 : decide (0 ≤ av) = false := decide_eq_false ha
  rw [t1, Bool.false_and, Bool.false_and]
  clear ha hav hbv hx hN hn hc hm
  go_enter Tryz.func92, Tryz.ntmps92
  go_wp2
  go_ret
  exact ⟨rfl, Below.refl _ _⟩
theorem zjv (o R : O) (fr te dst arr op av an bv bn sz : Int) (hbv : bv < o.n) (ib : I64 bn) (hk : check o = 0) (hav : av < o.n) (ian : I64 an) (C : O) (hC : C = closeO o) (A : Option Addr) (cap : Nat) (w : World) (hx : Rd w w.heap.size A o.m) (hm : o.m.length ≤ 17592186044416)
  (HP : ∀ W, w.heap.size ≤ W.heap.size → Rd W W.heap.size A o.m → Calls Tryz.prog 28 #[.agg #[o.n, o.e, .slice A o.m.length cap], .agg #[fr, te, .int .i64 4, dst, arr, op, av, an, bv, bn]] W (zcX W w.heap.size R 0)) :
  Calls Tryz.prog 43 #[.agg #[o.n, o.e, .slice A o.m.length cap], .agg #[fr, te, .int .i64 4, dst, arr, op, av, an, bv, bn], sz] w fun e w' => e = .returned (.tuple #[.bool (C.e || (fitsK 4 (opdR (2 * C.n).toNat C.m av an) (opdR (2 * C.n).toNat C.m bv bn) || (decide (0 ≤ av) && decide (0 ≤ bv) && wholeB (sumR (2 * C.n).toNat C.m av.toNat bv.toNat)))), .int .i64 0]) ∧ Below w.heap.size w w' := by
 have okc : OkO o.n C := hC ▸ (⟨rfl, hk⟩ : OkO o.n o).close
 have HT := hid HP
 have HC := hid (fun W (h : Rd W W.heap.size A o.m) => (show Calls Tryz.prog 89 #[.agg #[o.n, o.e, .slice A o.m.length cap]] W (zbo W C 0) from by have h1 := zbp o A cap W h hm; unfold zbQ at h1; rw [if_pos hk, hk, ← hC] at h1; exact h1))
 clear HP hC hk
 have hn := okc.n_
 obtain ⟨CN, Ce, cm⟩ := C
 dsimp only at hn
 subst hn
 have hB : w.heap.size ≤ w.heap.size := Nat.le_refl _
 have b5 : Ce = false → ∃ N : Nat, (2 * o.n).toNat = N ∧ (N : Int) = 2 * o.n ∧ N ≤ 128 ∧ Cells N cm ∧ cm.length ≤ 17592186044416 := by
  intro he
  subst he
  obtain ⟨n0, n1, _, _⟩ := zas okc.ok
  dsimp only at n0 n1
  exact ⟨(2 * o.n).toNat, rfl, by omega, by omega, zaz (by omega) okc.ok, OkO.small okc⟩
 have H1 := hid (fun (he : Ce = false) A2 c2 W (h : Rd W W.heap.size A2 cm) => (show Calls Tryz.prog 90 #[.agg #[o.n, false, .slice A2 cm.length c2], .agg #[av, an]] W (zam (opdR (2 * o.n).toNat cm av an).val W) from by
  obtain ⟨N, hNt, hN, hn, d0, c8⟩ := b5 he
  rw [hNt]
  exact zaA o.n cm N av an A2 c2 W hN hn d0 hav h c8))
 have H2 := hid (fun (he : Ce = false) A2 c2 W (h : Rd W W.heap.size A2 cm) => (show Calls Tryz.prog 90 #[.agg #[o.n, false, .slice A2 cm.length c2], .agg #[bv, bn]] W (zam (opdR (2 * o.n).toNat cm bv bn).val W) from by
  obtain ⟨N, hNt, hN, hn, d0, c8⟩ := b5 he
  rw [hNt]
  exact zaA o.n cm N bv bn A2 c2 W hN hn d0 hbv h c8))
 have I1 := zao (2 * o.n).toNat cm av an ian
 have I2 := zao (2 * o.n).toNat cm bv bn ib
 have e0 := hid (fun (he : Ce = false) A2 c2 g W (hg : Blk W g 44 #[fr, te, .int .i64 4, dst, arr, op, av, an, bv, bn]) (h : Rd W W.heap.size A2 cm) => (show Calls Tryz.prog 92 #[.func (.func 93) #[.agg #[o.n, false, .slice A2 cm.length c2]] #[], .pointer (some ⟨g, 0, none⟩)] W (fun e w' => e = .returned (.bool (decide (0 ≤ av) && decide (0 ≤ bv) && wholeB (sumR (2 * o.n).toNat cm av.toNat bv.toNat))) ∧ Below W.heap.size W w') from by
  obtain ⟨N, hNt, hN, hn, d0, c8⟩ := b5 he
  rw [hNt]
  exact zkw o.n cm N hN hn d0 fr te 4 dst arr op av an bv bn hav hbv g A2 c2 W hg h c8))
 dsimp only
 generalize (decide (0 ≤ av) && decide (0 ≤ bv) && wholeB (sumR (2 * o.n).toNat cm av.toNat bv.toNat)) = T at *
 generalize opdR (2 * o.n).toNat cm av an = r at *
 generalize opdR (2 * o.n).toNat cm bv bn = s at *
 clear okc b5 hav hbv ib ian
 have HF := hid (fun W => zbN 4 r s I1 I2 W)
 clear I1 I2
 generalize fitsK 4 r s = Q at *
 rw [Rg.val_eq] at H1 H2 HF
 rw [Rg.val_eq] at HF
 obtain ⟨p0, p1, a0, f3⟩ := zal w #[o.n, o.e, .slice A o.m.length cap] #[fr, te, .int .i64 4, dst, arr, op, av, an, bv, bn] 24 44
 clear f3
 replace hx := hx.up a0
 go_enter Tryz.func43, Tryz.ntmps43
 have c5 := zaa p0
 have a5 := zae p1
 go_wp2_with fail
 clear c5 a5
 generalize (w.alloc (Obj.cells #[o.n, o.e, .slice A o.m.length cap] 24)).alloc (Obj.cells #[fr, te, .int .i64 4, dst, arr, op, av, an, bv, bn] 44) = w1 at *
 (with_reducible refine (HT.out w1 a0.size hx).mono ?_)
 rintro e4 w2 ⟨A1, c1, rfl, d8, a4⟩
 clear d8 HT
 replace p0 := p0.later a4
 replace p1 := p1.later a4
 replace hx := hx.up a4
 replace a0 := bup a0 a4
 clear a4
 obtain ⟨p8, b4, -⟩ := zak w2 #[R.n, R.e, .slice A1 R.m.length c1] 24
 replace p0 := p0.later b4
 replace p1 := p1.later b4
 replace hx := hx.up b4
 replace a0 := bup a0 b4
 have c5 := zaa p0
 have a5 := zae p1
 go_wp2_with fail
 clear c5 a5
 generalize w2.alloc (Obj.cells #[R.n, R.e, .slice A1 R.m.length c1] 24) = w3 at *
 clear p8
 have hB2 := a0.size
 (with_reducible refine (HC.out w3 hx).mono ?_)
 rintro d7 w4 ⟨A2, c2, s2, rfl, own, b3⟩
 clear HC hx
 replace p0 := p0.later b3
 replace p1 := p1.later b3
 replace a0 := bup a0 b3
 clear b3
 dsimp only at own
 have sx := Sx.of_own own hB2
 clear own hB2
 cases Ce with
 | true =>
  obtain ⟨p10, b4, -⟩ := zak w4 #[o.n, true, .slice A2 cm.length c2] 24
  replace p0 := p0.later b4
  replace p1 := p1.later b4
  replace sx := sx.later b4 (Nat.le_trans hB a0.size)
  replace a0 := bup a0 b4
  have b9 := zaa p10
  have a5 := zae p1
  go_wp2
  refine bodyPost_ret (v := .tuple #[true, .int .i64 0]) (by simp [results, Tryz.results43, go_sem]) rfl ⟨rfl, a0⟩
 | false =>
  obtain ⟨k0, k1, k2, k3, k4, k5, k6, k7, k8, k9, fk⟩ := zae (p1.later (new1 w4 (Obj.cells #[o.n, false, .slice A2 cm.length c2] 24)))
  obtain ⟨p10, p13, b4, -⟩ := zal w4 #[o.n, false, .slice A2 cm.length c2] #[o.n, false, .slice A2 cm.length c2] 24 125
  replace p0 := p0.later b4
  replace p1 := p1.later b4
  replace sx := sx.later b4 (Nat.le_trans hB a0.size)
  replace a0 := bup a0 b4
  have b9 := zaa p10
  have a5 := zae p1
  go_upto_region 17 with fail
  clear b9 a5
  clear k0 k1 k2 k3 k4 k5 k6 k7 k8 k9 fk
  generalize (w4.alloc (Obj.cells #[o.n, false, .slice A2 cm.length c2] 24)).alloc (Obj.cells #[o.n, false, .slice A2 cm.length c2] 125) = w5 at *
  have f0 := zab (show w5.cell? ⟨w4.heap.size + 1, 0, none⟩ = some (.int .i64 o.n) from p13.cell 0)
  have f1 := zab (show w5.cell? ⟨w4.heap.size + 1, 1, none⟩ = some (.bool false) from p13.cell 1)
  have f2 := zab (show w5.cell? ⟨w4.heap.size + 1, 2, none⟩ = some (.slice A2 cm.length c2) from p13.cell 2)
  have j6 := zab (show w5.cell? ⟨w.heap.size + 1, 6, none⟩ = some (.int .i64 av) from p1.cell 6)
  have j7 := zab (show w5.cell? ⟨w.heap.size + 1, 7, none⟩ = some (.int .i64 an) from p1.cell 7)
  have j8 := zab (show w5.cell? ⟨w.heap.size + 1, 8, none⟩ = some (.int .i64 bv) from p1.cell 8)
  have j9 := zab (show w5.cell? ⟨w.heap.size + 1, 9, none⟩ = some (.int .i64 bn) from p1.cell 9)
  refine zac 10 [Sp.val (.agg #[o.n, false, .slice A2 cm.length c2]), Sp.val (.pointer (some ⟨w.heap.size + 1, 6, none⟩)), Sp.val (.agg #[av, an]), Sp.val (.agg #[r.lo, r.hi, r.hl, r.hh]), Sp.val (.agg #[o.n, false, .slice A2 cm.length c2]), Sp.val (.pointer (some ⟨w.heap.size + 1, 8, none⟩)), Sp.val (.agg #[bv, bn]), Sp.val (.agg #[s.lo, s.hi, s.hl, s.hh]), Sp.any (zat 49 #[.int .i64 0, .int .i64 0, false, false]), Sp.any (zat 49 #[.int .i64 0, .int .i64 0, false, false])] (by kernel_rfl) (by kernel_rfl) ?_
  (refine fe_t (fun _ _ => ?_))
  (refine fe_t (fun _ _ => ?_))
  (refine fe_t (fun _ _ => ?_))
  refine zaf.callFV (by rfl) (fun W hW hf => ⟨90, #[.agg #[o.n, false, .slice A2 cm.length c2], .agg #[av, an]], by go_simp, H1.out (by first | rfl | trivial) A2 c2 W ((sx.later (Ext.trans (Below.refl _ _).drew hW) (Nat.le_trans hB a0.size)).rd (Nat.le_trans (Nat.le_trans hB a0.size) (Ext.trans (Below.refl _ _).drew hW : Below w5.heap.size w5 W).size))⟩) (fun _ _ => ?_)
  refine fe_p ?_
  (refine fe_t (fun _ _ => ?_))
  (refine fe_t (fun _ _ => ?_))
  (refine fe_t (fun _ _ => ?_))
  refine zaf.callFV (by rfl) (fun W hW hf => ⟨90, #[.agg #[o.n, false, .slice A2 cm.length c2], .agg #[bv, bn]], by go_simp, H2.out (by first | rfl | trivial) A2 c2 W ((sx.later (Ext.trans (Below.refl _ _).drew hW) (Nat.le_trans hB a0.size)).rd (Nat.le_trans (Nat.le_trans hB a0.size) (Ext.trans (Below.refl _ _).drew hW : Below w5.heap.size w5 W).size))⟩) (fun _ _ => ?_)
  refine fe_p ?_
  refine zaf.step (by rfl) (fun W hW K hK => ?_) (fun v8 l8 h8 => ?_)
  ·go_simp
   exact hK _ _ (new1 _ _) ⟨rfl, Blk.new _ _ _, by simp⟩
  refine fe_p ?_
  refine zaf.step (by rfl) (fun W hW K hK => ?_) (fun v9 l9 h9 => ?_)
  ·go_simp
   exact hK _ _ (new1 _ _) ⟨rfl, Blk.new _ _ _, by simp⟩
  refine fe_p ?_
  refine zaf.tail (fun W hW hf hd => ?_)
  replace hW : Below w5.heap.size w5 W := Ext.trans (Below.refl _ _).drew hW
  obtain ⟨g8, rfl, k8, lo8, e8, e8'⟩ := zap (show Sp.fact w5.drew (Sp.any (zat 49 #[.int .i64 0, .int .i64 0, false, false])) v8 l8 h8 W from hf 8)
  obtain ⟨g9, rfl, k9, lo9, e9, e9'⟩ := zap (show Sp.fact w5.drew (Sp.any (zat 49 #[.int .i64 0, .int .i64 0, false, false])) v9 l9 h9 W from hf 9)
  have dd : h8 ≤ l9 ∨ h9 ≤ l8 := hd 8 9 (by decide)
  have d5 : g8 ≠ g9 := by omega
  have d6 : w5.heap.size ≤ g8 := lo8
  have f4 : w5.heap.size ≤ g9 := lo9
  have l1 := p1.lt
  have l13 := p13.lt
  have hw := a0.size
  have n81 : g8 ≠ w.heap.size + 1 := by omega
  have n91 : g9 ≠ w.heap.size + 1 := by omega
  have n8d : g8 ≠ w4.heap.size + 1 := by omega
  have n9d : g9 ≠ w4.heap.size + 1 := by omega
  have l8 : w.heap.size ≤ g8 := by omega
  have l9 : w.heap.size ≤ g9 := by omega
  clear hf hd H1 H2 e8 e8' e9 e9' dd d6 f4 lo8 lo9 l1 l13 p10 p0 f0 f1 f2 j6 j7 j8 j9
  replace p1 := p1.later hW
  replace p13 := p13.later hW
  replace sx := sx.later hW (Nat.le_trans hB a0.size)
  replace a0 := bup a0 hW
  clear hW
  obtain ⟨q8, q9, c6, far⟩ := zbM k8 k9 d5 a0 (Nat.le_refl _) l8 l9 (.int .i64 r.lo) (.int .i64 r.hi) (.bool r.hl) (.bool r.hh) (.int .i64 s.lo) (.int .i64 s.hi) (.bool s.hl) (.bool s.hh)
  have q1 := far _ _ _ p1 n81 n91
  have q13 := far _ _ _ p13 n8d n9d
  clear far
  have d4 := (sx.far4 (g := g8) (v0 := .int .i64 r.lo) (v1 := .int .i64 r.hi) (v2 := .bool r.hl) (v3 := .bool r.hh) l8 k8 (by decide)).far4 (g := g9) (v0 := .int .i64 s.lo) (v1 := .int .i64 s.hi) (v2 := .bool s.hl) (v3 := .bool s.hh) l9 (k9.far4 d5) (by decide)
  have m81 := Ne.symm n81
  have m91 := Ne.symm n91
  have m8d := Ne.symm n8d
  have m9d := Ne.symm n9d
  have mne := Ne.symm d5
  have a5 := zae p1
  have d2 := zaa p13
  have x0 := zag k8
  have y0 := zag k9
  go_wp2_with fail
  clear a5 d2
  clear x0 y0 k8 k9 p1 p13 a0 sx
  generalize (((((((W.setCell ⟨g8, 0, none⟩ (.int .i64 r.lo)).setCell ⟨g8, 1, none⟩ (.int .i64 r.hi)).setCell ⟨g8, 2, none⟩ (.bool r.hl)).setCell ⟨g8, 3, none⟩ (.bool r.hh)).setCell ⟨g9, 0, none⟩ (.int .i64 s.lo)).setCell ⟨g9, 1, none⟩ (.int .i64 s.hi)).setCell ⟨g9, 2, none⟩ (.bool s.hl)).setCell ⟨g9, 3, none⟩ (.bool s.hh) = w5 at *
  (with_reducible refine (HF.out _).mono ?_)
  rintro e6 w6 ⟨rfl, c9⟩
  replace d4 := d4.later c9 c6.size
  replace q1 := q1.later c9
  replace q13 := q13.later c9
  replace c6 := bup c6 c9
  clear c9 HF q8 q9
  cases Q with
  | true =>
   go_wp2
   refine bodyPost_ret (v := .tuple #[true, .int .i64 0]) (by simp [results, Tryz.results43, go_sem]) rfl ⟨rfl, c6⟩
  | false =>
   have x0 := zae q1
   have y0 := zaa q13
   go_wp2_with fail
   clear x0 y0
   (with_reducible refine (e0.out (by first | rfl | trivial) _ _ _ _ q1 (d4.rd c6.size)).mono ?_)
   rintro e7 w7 ⟨rfl, e3⟩
   go_wp2
   refine bodyPost_ret (v := .tuple #[T, .int .i64 0]) (by simp [results, Tryz.results43, go_sem]) rfl ⟨rfl, (bup c6 e3)⟩
theorem zjg (o R : O) (fr te dst arr op av an bv bn sz : Int) (hbv : bv < o.n) (ib : I64 bn) (hk : check o = 0) (hav : av < o.n) (ian : I64 an) (C : O) (hC : C = closeO o) (A : Option Addr) (cap : Nat) (w : World) (hx : Rd w w.heap.size A o.m) (hm : o.m.length ≤ 17592186044416)
  (HP : ∀ W, w.heap.size ≤ W.heap.size → Rd W W.heap.size A o.m → Calls Tryz.prog 28 #[.agg #[o.n, o.e, .slice A o.m.length cap], .agg #[fr, te, .int .i64 5, dst, arr, op, av, an, bv, bn]] W (zcX W w.heap.size R 0)) :
  Calls Tryz.prog 43 #[.agg #[o.n, o.e, .slice A o.m.length cap], .agg #[fr, te, .int .i64 5, dst, arr, op, av, an, bv, bn], sz] w fun e w' => e = .returned (.tuple #[.bool (C.e || (fitsK 5 (opdR (2 * C.n).toNat C.m av an) (opdR (2 * C.n).toNat C.m bv bn) || (decide (0 ≤ av) && decide (0 ≤ bv) && wholeB (diffR (2 * C.n).toNat C.m av.toNat bv.toNat)))), .int .i64 0]) ∧ Below w.heap.size w w' := by
 have okc : OkO o.n C := hC ▸ (⟨rfl, hk⟩ : OkO o.n o).close
 have HT := hid HP
 have HC := hid (fun W (h : Rd W W.heap.size A o.m) => (show Calls Tryz.prog 89 #[.agg #[o.n, o.e, .slice A o.m.length cap]] W (zbo W C 0) from by have h1 := zbp o A cap W h hm; unfold zbQ at h1; rw [if_pos hk, hk, ← hC] at h1; exact h1))
 clear HP hC hk
 have hn := okc.n_
 obtain ⟨CN, Ce, cm⟩ := C
 dsimp only at hn
 subst hn
 have hB : w.heap.size ≤ w.heap.size := Nat.le_refl _
 have b5 : Ce = false → ∃ N : Nat, (2 * o.n).toNat = N ∧ (N : Int) = 2 * o.n ∧ N ≤ 128 ∧ Cells N cm ∧ cm.length ≤ 17592186044416 := by
  intro he
  subst he
  obtain ⟨n0, n1, _, _⟩ := zas okc.ok
  dsimp only at n0 n1
  exact ⟨(2 * o.n).toNat, rfl, by omega, by omega, zaz (by omega) okc.ok, OkO.small okc⟩
 have H1 := hid (fun (he : Ce = false) A2 c2 W (h : Rd W W.heap.size A2 cm) => (show Calls Tryz.prog 90 #[.agg #[o.n, false, .slice A2 cm.length c2], .agg #[av, an]] W (zam (opdR (2 * o.n).toNat cm av an).val W) from by
  obtain ⟨N, hNt, hN, hn, d0, c8⟩ := b5 he
  rw [hNt]
  exact zaA o.n cm N av an A2 c2 W hN hn d0 hav h c8))
 have H2 := hid (fun (he : Ce = false) A2 c2 W (h : Rd W W.heap.size A2 cm) => (show Calls Tryz.prog 90 #[.agg #[o.n, false, .slice A2 cm.length c2], .agg #[bv, bn]] W (zam (opdR (2 * o.n).toNat cm bv bn).val W) from by
  obtain ⟨N, hNt, hN, hn, d0, c8⟩ := b5 he
  rw [hNt]
  exact zaA o.n cm N bv bn A2 c2 W hN hn d0 hbv h c8))
 have I1 := zao (2 * o.n).toNat cm av an ian
 have I2 := zao (2 * o.n).toNat cm bv bn ib
 have e0 := hid (fun (he : Ce = false) A2 c2 g W (hg : Blk W g 44 #[fr, te, .int .i64 5, dst, arr, op, av, an, bv, bn]) (h : Rd W W.heap.size A2 cm) => (show Calls Tryz.prog 92 #[.func (.func 94) #[.agg #[o.n, false, .slice A2 cm.length c2]] #[], .pointer (some ⟨g, 0, none⟩)] W (fun e w' => e = .returned (.bool (decide (0 ≤ av) && decide (0 ≤ bv) && wholeB (diffR (2 * o.n).toNat cm av.toNat bv.toNat))) ∧ Below W.heap.size W w') from by
  obtain ⟨N, hNt, hN, hn, d0, c8⟩ := b5 he
  rw [hNt]
  exact zjG o.n cm N hN hn d0 fr te 5 dst arr op av an bv bn hav hbv g A2 c2 W hg h c8))
 dsimp only
 generalize (decide (0 ≤ av) && decide (0 ≤ bv) && wholeB (diffR (2 * o.n).toNat cm av.toNat bv.toNat)) = T at *
 generalize opdR (2 * o.n).toNat cm av an = r at *
 generalize opdR (2 * o.n).toNat cm bv bn = s at *
 clear okc b5 hav hbv ib ian
 have HF := hid (fun W => zbN 5 r s I1 I2 W)
 clear I1 I2
 generalize fitsK 5 r s = Q at *
 rw [Rg.val_eq] at H1 H2 HF
 rw [Rg.val_eq] at HF
 obtain ⟨p0, p1, a0, f3⟩ := zal w #[o.n, o.e, .slice A o.m.length cap] #[fr, te, .int .i64 5, dst, arr, op, av, an, bv, bn] 24 44
 clear f3
 replace hx := hx.up a0
 go_enter Tryz.func43, Tryz.ntmps43
 have c5 := zaa p0
 have a5 := zae p1
 go_wp2_with fail
 clear c5 a5
 generalize (w.alloc (Obj.cells #[o.n, o.e, .slice A o.m.length cap] 24)).alloc (Obj.cells #[fr, te, .int .i64 5, dst, arr, op, av, an, bv, bn] 44) = w1 at *
 (with_reducible refine (HT.out w1 a0.size hx).mono ?_)
 rintro e4 w2 ⟨A1, c1, rfl, d8, a4⟩
 clear d8 HT
 replace p0 := p0.later a4
 replace p1 := p1.later a4
 replace hx := hx.up a4
 replace a0 := bup a0 a4
 clear a4
 obtain ⟨p8, b4, -⟩ := zak w2 #[R.n, R.e, .slice A1 R.m.length c1] 24
 replace p0 := p0.later b4
 replace p1 := p1.later b4
 replace hx := hx.up b4
 replace a0 := bup a0 b4
 have c5 := zaa p0
 have a5 := zae p1
 go_wp2_with fail
 clear c5 a5
 generalize w2.alloc (Obj.cells #[R.n, R.e, .slice A1 R.m.length c1] 24) = w3 at *
 clear p8
 have hB2 := a0.size
 (with_reducible refine (HC.out w3 hx).mono ?_)
 rintro d7 w4 ⟨A2, c2, s2, rfl, own, b3⟩
 clear HC hx
 replace p0 := p0.later b3
 replace p1 := p1.later b3
 replace a0 := bup a0 b3
 clear b3
 dsimp only at own
 have sx := Sx.of_own own hB2
 clear own hB2
 cases Ce with
 | true =>
  obtain ⟨p10, b4, -⟩ := zak w4 #[o.n, true, .slice A2 cm.length c2] 24
  replace p0 := p0.later b4
  replace p1 := p1.later b4
  replace sx := sx.later b4 (Nat.le_trans hB a0.size)
  replace a0 := bup a0 b4
  have b9 := zaa p10
  have a5 := zae p1
  go_wp2
  refine bodyPost_ret (v := .tuple #[true, .int .i64 0]) (by simp [results, Tryz.results43, go_sem]) rfl ⟨rfl, a0⟩
 | false =>
  obtain ⟨k0, k1, k2, k3, k4, k5, k6, k7, k8, k9, fk⟩ := zae (p1.later (new1 w4 (Obj.cells #[o.n, false, .slice A2 cm.length c2] 24)))
  obtain ⟨p10, p13, b4, -⟩ := zal w4 #[o.n, false, .slice A2 cm.length c2] #[o.n, false, .slice A2 cm.length c2] 24 125
  replace p0 := p0.later b4
  replace p1 := p1.later b4
  replace sx := sx.later b4 (Nat.le_trans hB a0.size)
  replace a0 := bup a0 b4
  have b9 := zaa p10
  have a5 := zae p1
  go_upto_region 17 with fail
  clear b9 a5
  clear k0 k1 k2 k3 k4 k5 k6 k7 k8 k9 fk
  generalize (w4.alloc (Obj.cells #[o.n, false, .slice A2 cm.length c2] 24)).alloc (Obj.cells #[o.n, false, .slice A2 cm.length c2] 125) = w5 at *
  have f0 := zab (show w5.cell? ⟨w4.heap.size + 1, 0, none⟩ = some (.int .i64 o.n) from p13.cell 0)
  have f1 := zab (show w5.cell? ⟨w4.heap.size + 1, 1, none⟩ = some (.bool false) from p13.cell 1)
  have f2 := zab (show w5.cell? ⟨w4.heap.size + 1, 2, none⟩ = some (.slice A2 cm.length c2) from p13.cell 2)
  have j6 := zab (show w5.cell? ⟨w.heap.size + 1, 6, none⟩ = some (.int .i64 av) from p1.cell 6)
  have j7 := zab (show w5.cell? ⟨w.heap.size + 1, 7, none⟩ = some (.int .i64 an) from p1.cell 7)
  have j8 := zab (show w5.cell? ⟨w.heap.size + 1, 8, none⟩ = some (.int .i64 bv) from p1.cell 8)
  have j9 := zab (show w5.cell? ⟨w.heap.size + 1, 9, none⟩ = some (.int .i64 bn) from p1.cell 9)
  refine zac 10 [Sp.val (.agg #[o.n, false, .slice A2 cm.length c2]), Sp.val (.pointer (some ⟨w.heap.size + 1, 6, none⟩)), Sp.val (.agg #[av, an]), Sp.val (.agg #[r.lo, r.hi, r.hl, r.hh]), Sp.val (.agg #[o.n, false, .slice A2 cm.length c2]), Sp.val (.pointer (some ⟨w.heap.size + 1, 8, none⟩)), Sp.val (.agg #[bv, bn]), Sp.val (.agg #[s.lo, s.hi, s.hl, s.hh]), Sp.any (zat 49 #[.int .i64 0, .int .i64 0, false, false]), Sp.any (zat 49 #[.int .i64 0, .int .i64 0, false, false])] (by kernel_rfl) (by kernel_rfl) ?_
  (refine fe_t (fun _ _ => ?_))
  (refine fe_t (fun _ _ => ?_))
  (refine fe_t (fun _ _ => ?_))
  refine zaf.callFV (by rfl) (fun W hW hf => ⟨90, #[.agg #[o.n, false, .slice A2 cm.length c2], .agg #[av, an]], by go_simp, H1.out (by first | rfl | trivial) A2 c2 W ((sx.later (Ext.trans (Below.refl _ _).drew hW) (Nat.le_trans hB a0.size)).rd (Nat.le_trans (Nat.le_trans hB a0.size) (Ext.trans (Below.refl _ _).drew hW : Below w5.heap.size w5 W).size))⟩) (fun _ _ => ?_)
  refine fe_p ?_
  (refine fe_t (fun _ _ => ?_))
  (refine fe_t (fun _ _ => ?_))
  (refine fe_t (fun _ _ => ?_))
  refine zaf.callFV (by rfl) (fun W hW hf => ⟨90, #[.agg #[o.n, false, .slice A2 cm.length c2], .agg #[bv, bn]], by go_simp, H2.out (by first | rfl | trivial) A2 c2 W ((sx.later (Ext.trans (Below.refl _ _).drew hW) (Nat.le_trans hB a0.size)).rd (Nat.le_trans (Nat.le_trans hB a0.size) (Ext.trans (Below.refl _ _).drew hW : Below w5.heap.size w5 W).size))⟩) (fun _ _ => ?_)
  refine fe_p ?_
  refine zaf.step (by rfl) (fun W hW K hK => ?_) (fun v8 l8 h8 => ?_)
  ·go_simp
   exact hK _ _ (new1 _ _) ⟨rfl, Blk.new _ _ _, by simp⟩
  refine fe_p ?_
  refine zaf.step (by rfl) (fun W hW K hK => ?_) (fun v9 l9 h9 => ?_)
  ·go_simp
   exact hK _ _ (new1 _ _) ⟨rfl, Blk.new _ _ _, by simp⟩
  refine fe_p ?_
  refine zaf.tail (fun W hW hf hd => ?_)
  replace hW : Below w5.heap.size w5 W := Ext.trans (Below.refl _ _).drew hW
  obtain ⟨g8, rfl, k8, lo8, e8, e8'⟩ := zap (show Sp.fact w5.drew (Sp.any (zat 49 #[.int .i64 0, .int .i64 0, false, false])) v8 l8 h8 W from hf 8)
  obtain ⟨g9, rfl, k9, lo9, e9, e9'⟩ := zap (show Sp.fact w5.drew (Sp.any (zat 49 #[.int .i64 0, .int .i64 0, false, false])) v9 l9 h9 W from hf 9)
  have dd : h8 ≤ l9 ∨ h9 ≤ l8 := hd 8 9 (by decide)
  have d5 : g8 ≠ g9 := by omega
  have d6 : w5.heap.size ≤ g8 := lo8
  have f4 : w5.heap.size ≤ g9 := lo9
  have l1 := p1.lt
  have l13 := p13.lt
  have hw := a0.size
  have n81 : g8 ≠ w.heap.size + 1 := by omega
  have n91 : g9 ≠ w.heap.size + 1 := by omega
  have n8d : g8 ≠ w4.heap.size + 1 := by omega
  have n9d : g9 ≠ w4.heap.size + 1 := by omega
  have l8 : w.heap.size ≤ g8 := by omega
  have l9 : w.heap.size ≤ g9 := by omega
  clear hf hd H1 H2 e8 e8' e9 e9' dd d6 f4 lo8 lo9 l1 l13 p10 p0 f0 f1 f2 j6 j7 j8 j9
  replace p1 := p1.later hW
  replace p13 := p13.later hW
  replace sx := sx.later hW (Nat.le_trans hB a0.size)
  replace a0 := bup a0 hW
  clear hW
  obtain ⟨q8, q9, c6, far⟩ := zbM k8 k9 d5 a0 (Nat.le_refl _) l8 l9 (.int .i64 r.lo) (.int .i64 r.hi) (.bool r.hl) (.bool r.hh) (.int .i64 s.lo) (.int .i64 s.hi) (.bool s.hl) (.bool s.hh)
  have q1 := far _ _ _ p1 n81 n91
  have q13 := far _ _ _ p13 n8d n9d
  clear far
  have d4 := (sx.far4 (g := g8) (v0 := .int .i64 r.lo) (v1 := .int .i64 r.hi) (v2 := .bool r.hl) (v3 := .bool r.hh) l8 k8 (by decide)).far4 (g := g9) (v0 := .int .i64 s.lo) (v1 := .int .i64 s.hi) (v2 := .bool s.hl) (v3 := .bool s.hh) l9 (k9.far4 d5) (by decide)
  have m81 := Ne.symm n81
  have m91 := Ne.symm n91
  have m8d := Ne.symm n8d
  have m9d := Ne.symm n9d
  have mne := Ne.symm d5
  have a5 := zae p1
  have d2 := zaa p13
  have x0 := zag k8
  have y0 := zag k9
  go_wp2_with fail
  clear a5 d2
  clear x0 y0 k8 k9 p1 p13 a0 sx
  generalize (((((((W.setCell ⟨g8, 0, none⟩ (.int .i64 r.lo)).setCell ⟨g8, 1, none⟩ (.int .i64 r.hi)).setCell ⟨g8, 2, none⟩ (.bool r.hl)).setCell ⟨g8, 3, none⟩ (.bool r.hh)).setCell ⟨g9, 0, none⟩ (.int .i64 s.lo)).setCell ⟨g9, 1, none⟩ (.int .i64 s.hi)).setCell ⟨g9, 2, none⟩ (.bool s.hl)).setCell ⟨g9, 3, none⟩ (.bool s.hh) = w5 at *
  (with_reducible refine (HF.out _).mono ?_)
  rintro e6 w6 ⟨rfl, c9⟩
  replace d4 := d4.later c9 c6.size
  replace q1 := q1.later c9
  replace q13 := q13.later c9
  replace c6 := bup c6 c9
  clear c9 HF q8 q9
  cases Q with
  | true =>
   go_wp2
   refine bodyPost_ret (v := .tuple #[true, .int .i64 0]) (by simp [results, Tryz.results43, go_sem]) rfl ⟨rfl, c6⟩
  | false =>
   have x0 := zae q1
   have y0 := zaa q13
   go_wp2_with fail
   clear x0 y0
   (with_reducible refine (e0.out (by first | rfl | trivial) _ _ _ _ q1 (d4.rd c6.size)).mono ?_)
   rintro e7 w7 ⟨rfl, e3⟩
   go_wp2
   refine bodyPost_ret (v := .tuple #[T, .int .i64 0]) (by simp [results, Tryz.results43, go_sem]) rfl ⟨rfl, (bup c6 e3)⟩
end Go.Proofs.YtnmpgijiimglcaaGreat
