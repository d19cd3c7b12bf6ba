import Derived.Test.YtnmpgijiimglcaaGreatBSe33
import Derived.Test.YtnmpgijiimglcaaGreatBSe31
import Derived.Test.YtnmpgijiimglcaaGreatBSe27
namespace Go.Proofs.YtnmpgijiimglcaaGreat
open Go.RowKit
set_option maxRecDepth 100000
set_option maxHeartbeats 8000000
section
attribute [local go_sem ↓] Go.wp_at_zero Go.wp_at_succ
theorem zcS (kd : Int) (hkd : kd = 1 ∨ kd = 2 ∨ kd = 9 ∨ kd = 12 ∨ kd = 13) (o R : O) (fr te dst arr op av an bv bn sz : Int) (hbv : bv < o.n) (ib : I64 bn) (hk : check o = 0) (hav : av < o.n) (ian : I64 an) (C : O) (hC : C = closeO o) (A : Option Addr) (cap : Nat) (w : World) (hx : Rd w w.heap.size A o.m) (hm : o.m.length ≤ 17592186044416)
  (HP : ∀ W, w.heap.size ≤ W.heap.size → Rd W W.heap.size A o.m → Calls Tryz.prog 28 #[.agg #[o.n, o.e, .slice A o.m.length cap], .agg #[fr, te, kd, dst, arr, op, av, an, bv, bn]] W (zcX W w.heap.size R 0)) :
  Calls Tryz.prog 43 #[.agg #[o.n, o.e, .slice A o.m.length cap], .agg #[fr, te, kd, dst, arr, op, av, an, bv, bn], sz] w fun e w' => e = .returned (.tuple #[.bool (C.e || true), .int .i64 0]) ∧ Below w.heap.size w w' := by
 rcases hkd with h | h | h | h | h
 all_goals
  have k1 := kdf h 1
  have k2 := kdf h 2
  have k3 := kdf h 3
  have k4 := kdf h 4
  have k5 := kdf h 5
  have k6 := kdf h 6
  have k7 := kdf h 7
  have k8 := kdf h 8
  have k9 := kdf h 9
  have k10 := kdf h 10
  have k11 := kdf h 11
  have k12 := kdf h 12
  have k13 := kdf h 13
  have k14 := kdf h 14
  clear h
  have okc : OkO o.n C := hC ▸ (⟨rfl, hk⟩ : OkO o.n o).close
  have HT := hid HP
  have HC := hid (fun W (h : Rd W W.heap.size A o.m) => (show Calls Tryz.prog 89 #[.agg #[o.n, o.e, .slice A o.m.length cap]] W (zbo W C 0) from by have h1 := zbp o A cap W h hm; unfold zbQ at h1; rw [if_pos hk, hk, ← hC] at h1; exact h1))
  clear HP hC hk
  have hn := okc.n_
  obtain ⟨CN, Ce, cm⟩ := C
  dsimp only at hn
  subst hn
  clear okc hbv hav ib ian
  obtain ⟨p0, p1, a1, c7⟩ := zal w #[o.n, o.e, .slice A o.m.length cap] #[fr, te, kd, dst, arr, op, av, an, bv, bn] 24 44
  clear c7
  replace hx := hx.up a1
  go_enter Tryz.func43, Tryz.ntmps43
  have b6 := zaa p0
  have b1 := zae p1
  go_wp2_with fail
  clear b6 b1
  generalize (w.alloc (Obj.cells #[o.n, o.e, .slice A o.m.length cap] 24)).alloc (Obj.cells #[fr, te, kd, dst, arr, op, av, an, bv, bn] 44) = w1 at *
  (with_reducible refine (HT.out w1 a1.size hx).mono ?_)
  rintro c5 w2 ⟨A1, c1, rfl, c8, a0⟩
  clear c8 HT
  replace p0 := p0.later a0
  replace p1 := p1.later a0
  replace hx := hx.up a0
  replace a1 := bup a1 a0
  clear a0
  obtain ⟨p8, a3, -⟩ := zak w2 #[R.n, R.e, .slice A1 R.m.length c1] 24
  replace p0 := p0.later a3
  replace p1 := p1.later a3
  replace hx := hx.up a3
  replace a1 := bup a1 a3
  have b6 := zaa p0
  have b1 := zae p1
  go_wp2_with fail
  clear b6 b1
  generalize w2.alloc (Obj.cells #[R.n, R.e, .slice A1 R.m.length c1] 24) = w3 at *
  clear p8
  have hB2 := a1.size
  (with_reducible refine (HC.out w3 hx).mono ?_)
  rintro c6 w4 ⟨A2, c2, s2, rfl, own, a2⟩
  clear HC hx
  replace p0 := p0.later a2
  replace p1 := p1.later a2
  replace a1 := bup a1 a2
  clear a2
  dsimp only at own
  have sx := Sx.of_own own hB2
  clear own hB2
  clear sx
  cases Ce
  ·obtain ⟨k0, k1, k2, k3, k4, k5, k6, k7, k8, k9, fk⟩ := zae p1
   obtain ⟨p10, a3, -⟩ := zak w4 #[o.n, false, .slice A2 cm.length c2] 24
   replace p0 := p0.later a3
   replace p1 := p1.later a3
   replace a1 := bup a1 a3
   have c0 := zaa p10
   have b1 := zae p1
   go_wp2
   refine bodyPost_ret (v := .tuple #[true, .int .i64 0]) (by simp [results, Tryz.results43, go_sem]) rfl ⟨rfl, a1⟩
  ·obtain ⟨k0, k1, k2, k3, k4, k5, k6, k7, k8, k9, fk⟩ := zae p1
   obtain ⟨p10, a3, -⟩ := zak w4 #[o.n, true, .slice A2 cm.length c2] 24
   replace p0 := p0.later a3
   replace p1 := p1.later a3
   replace a1 := bup a1 a3
   have c0 := zaa p10
   have b1 := zae p1
   go_wp2
   refine bodyPost_ret (v := .tuple #[true, .int .i64 0]) (by simp [results, Tryz.results43, go_sem]) rfl ⟨rfl, a1⟩
theorem zhW (o R : O) (fr te dst arr op av an bv bn sz : Int) (hbv : bv < o.n) (ib : I64 bn) (hk : check o = 0) (hav : av < o.n) (ian : I64 an) (C : O) (hC : C = closeO o) (A : Option Addr) (cap : Nat) (w : World) (hx : Rd w w.heap.size A o.m) (hm : o.m.length ≤ 17592186044416)
  (HP : ∀ W, w.heap.size ≤ W.heap.size → Rd W W.heap.size A o.m → Calls Tryz.prog 28 #[.agg #[o.n, o.e, .slice A o.m.length cap], .agg #[fr, te, .int .i64 14, dst, arr, op, av, an, bv, bn]] W (zcX W w.heap.size R 0)) :
  Calls Tryz.prog 43 #[.agg #[o.n, o.e, .slice A o.m.length cap], .agg #[fr, te, .int .i64 14, dst, arr, op, av, an, bv, bn], sz] w fun e w' => e = .returned (.tuple #[.bool (C.e || false), .int .i64 0]) ∧ Below w.heap.size w w' := by
 have okc : OkO o.n C := hC ▸ (⟨rfl, hk⟩ : OkO o.n o).close
 have HT := hid HP
 have HC := hid (fun W (h : Rd W W.heap.size A o.m) => (show Calls Tryz.prog 89 #[.agg #[o.n, o.e, .slice A o.m.length cap]] W (zbo W C 0) from by have h1 := zbp o A cap W h hm; unfold zbQ at h1; rw [if_pos hk, hk, ← hC] at h1; exact h1))
 clear HP hC hk
 have hn := okc.n_
 obtain ⟨CN, Ce, cm⟩ := C
 dsimp only at hn
 subst hn
 clear okc hbv hav ib ian
 obtain ⟨p0, p1, a1, c7⟩ := zal w #[o.n, o.e, .slice A o.m.length cap] #[fr, te, .int .i64 14, dst, arr, op, av, an, bv, bn] 24 44
 clear c7
 replace hx := hx.up a1
 go_enter Tryz.func43, Tryz.ntmps43
 have b6 := zaa p0
 have b1 := zae p1
 go_wp2_with fail
 clear b6 b1
 generalize (w.alloc (Obj.cells #[o.n, o.e, .slice A o.m.length cap] 24)).alloc (Obj.cells #[fr, te, .int .i64 14, dst, arr, op, av, an, bv, bn] 44) = w1 at *
 (with_reducible refine (HT.out w1 a1.size hx).mono ?_)
 rintro c5 w2 ⟨A1, c1, rfl, c8, a0⟩
 clear c8 HT
 replace p0 := p0.later a0
 replace p1 := p1.later a0
 replace hx := hx.up a0
 replace a1 := bup a1 a0
 clear a0
 obtain ⟨p8, a3, -⟩ := zak w2 #[R.n, R.e, .slice A1 R.m.length c1] 24
 replace p0 := p0.later a3
 replace p1 := p1.later a3
 replace hx := hx.up a3
 replace a1 := bup a1 a3
 have b6 := zaa p0
 have b1 := zae p1
 go_wp2_with fail
 clear b6 b1
 generalize w2.alloc (Obj.cells #[R.n, R.e, .slice A1 R.m.length c1] 24) = w3 at *
 clear p8
 have hB2 := a1.size
 (with_reducible refine (HC.out w3 hx).mono ?_)
 rintro c6 w4 ⟨A2, c2, s2, rfl, own, a2⟩
 clear HC hx
 replace p0 := p0.later a2
 replace p1 := p1.later a2
 replace a1 := bup a1 a2
 clear a2
 dsimp only at own
 have sx := Sx.of_own own hB2
 clear own hB2
 clear sx
 cases Ce
 ·have k0 := zae p1
  obtain ⟨p10, a3, -⟩ := zak w4 #[o.n, false, .slice A2 cm.length c2] 24
  replace p0 := p0.later a3
  replace p1 := p1.later a3
  replace a1 := bup a1 a3
  have c0 := zaa p10
  have b1 := zae p1
  go_wp2
  refine bodyPost_ret (v := .tuple #[false, .int .i64 0]) (by simp [results, Tryz.results43, go_sem]) rfl ⟨rfl, a1⟩
 ·have k0 := zae p1
  obtain ⟨p10, a3, -⟩ := zak w4 #[o.n, true, .slice A2 cm.length c2] 24
  replace p0 := p0.later a3
  replace p1 := p1.later a3
  replace a1 := bup a1 a3
  have c0 := zaa p10
  have b1 := zae p1
  go_wp2
  refine bodyPost_ret (v := .tuple #[true, .int .i64 0]) (by simp [results, Tryz.results43, go_sem]) rfl ⟨rfl, a1⟩
end
section
attribute [local go_sem ↓] Go.wp_at_zero Go.wp_at_succ
theorem zeK (kd : Int) (hkd : kd = 6 ∨ kd = 7 ∨ kd = 8) (o R : O) (fr te dst arr op av an bv bn sz : Int) (hbv : bv < o.n) (ib : I64 bn) (hk : check o = 0) (hav : av < o.n) (ian : I64 an) (C : O) (hC : C = closeO o) (A : Option Addr) (cap : Nat) (w : World) (hx : Rd w w.heap.size A o.m) (hm : o.m.length ≤ 17592186044416)
  (HP : ∀ W, w.heap.size ≤ W.heap.size → Rd W W.heap.size A o.m → Calls Tryz.prog 28 #[.agg #[o.n, o.e, .slice A o.m.length cap], .agg #[fr, te, kd, dst, arr, op, av, an, bv, bn]] W (zcX W w.heap.size R 0)) :
  Calls Tryz.prog 43 #[.agg #[o.n, o.e, .slice A o.m.length cap], .agg #[fr, te, kd, dst, arr, op, av, an, bv, bn], sz] w fun e w' => e = .returned (.tuple #[.bool (C.e || fitsK kd (opdR (2 * C.n).toNat C.m av an) (opdR (2 * C.n).toNat C.m bv bn)), .int .i64 0]) ∧ Below w.heap.size w w' := by
 rcases hkd with h | h | h
 all_goals
  have k1 := kdf h 1
  have k2 := kdf h 2
  have k3 := kdf h 3
  have k4 := kdf h 4
  have k5 := kdf h 5
  have k6 := kdf h 6
  have k7 := kdf h 7
  have k8 := kdf h 8
  have k9 := kdf h 9
  have k10 := kdf h 10
  have k11 := kdf h 11
  have k12 := kdf h 12
  have k13 := kdf h 13
  have k14 := kdf h 14
  clear h
  have okc : OkO o.n C := hC ▸ (⟨rfl, hk⟩ : OkO o.n o).close
  have HT := hid HP
  have HC := hid (fun W (h : Rd W W.heap.size A o.m) => (show Calls Tryz.prog 89 #[.agg #[o.n, o.e, .slice A o.m.length cap]] W (zbo W C 0) from by have h1 := zbp o A cap W h hm; unfold zbQ at h1; rw [if_pos hk, hk, ← hC] at h1; exact h1))
  clear HP hC hk
  have hn := okc.n_
  obtain ⟨CN, Ce, cm⟩ := C
  dsimp only at hn
  subst hn
  have hB : w.heap.size ≤ w.heap.size := Nat.le_refl _
  have c3 : Ce = false → ∃ N : Nat, (2 * o.n).toNat = N ∧ (N : Int) = 2 * o.n ∧ N ≤ 128 ∧ Cells N cm ∧ cm.length ≤ 17592186044416 := by
   intro he
   subst he
   obtain ⟨n0, n1, _, _⟩ := zas okc.ok
   dsimp only at n0 n1
   exact ⟨(2 * o.n).toNat, rfl, by omega, by omega, zaz (by omega) okc.ok, OkO.small okc⟩
  have H1 := hid (fun (he : Ce = false) A2 c2 W (h : Rd W W.heap.size A2 cm) => (show Calls Tryz.prog 90 #[.agg #[o.n, false, .slice A2 cm.length c2], .agg #[av, an]] W (zam (opdR (2 * o.n).toNat cm av an).val W) from by
   obtain ⟨N, hNt, hN, hn, d3, d2⟩ := c3 he
   rw [hNt]
   exact zaA o.n cm N av an A2 c2 W hN hn d3 hav h d2))
  have H2 := hid (fun (he : Ce = false) A2 c2 W (h : Rd W W.heap.size A2 cm) => (show Calls Tryz.prog 90 #[.agg #[o.n, false, .slice A2 cm.length c2], .agg #[bv, bn]] W (zam (opdR (2 * o.n).toNat cm bv bn).val W) from by
   obtain ⟨N, hNt, hN, hn, d3, d2⟩ := c3 he
   rw [hNt]
   exact zaA o.n cm N bv bn A2 c2 W hN hn d3 hbv h d2))
  have I1 := zao (2 * o.n).toNat cm av an ian
  have I2 := zao (2 * o.n).toNat cm bv bn ib
  dsimp only
  generalize opdR (2 * o.n).toNat cm av an = r at *
  generalize opdR (2 * o.n).toNat cm bv bn = s at *
  clear okc c3 hav hbv ib ian
  have HF := hid (fun W => zbN kd r s I1 I2 W)
  clear I1 I2
  generalize fitsK kd r s = Q at *
  rw [Rg.val_eq] at H1 H2 HF
  rw [Rg.val_eq] at HF
  obtain ⟨p0, p1, a0, hsz⟩ := zal w #[o.n, o.e, .slice A o.m.length cap] #[fr, te, kd, dst, arr, op, av, an, bv, bn] 24 44
  clear hsz
  replace hx := hx.up a0
  go_enter Tryz.func43, Tryz.ntmps43
  have c5 := zaa p0
  have a5 := zae p1
  go_wp2_with fail
  clear c5 a5
  generalize (w.alloc (Obj.cells #[o.n, o.e, .slice A o.m.length cap] 24)).alloc (Obj.cells #[fr, te, kd, dst, arr, op, av, an, bv, bn] 44) = w1 at *
  (with_reducible refine (HT.out w1 a0.size hx).mono ?_)
  rintro e_w2 w2 ⟨A1, c1, rfl, sx1, a4⟩
  clear sx1 HT
  replace p0 := p0.later a4
  replace p1 := p1.later a4
  replace hx := hx.up a4
  replace a0 := bup a0 a4
  clear a4
  obtain ⟨p8, b4, -⟩ := zak w2 #[R.n, R.e, .slice A1 R.m.length c1] 24
  replace p0 := p0.later b4
  replace p1 := p1.later b4
  replace hx := hx.up b4
  replace a0 := bup a0 b4
  have c5 := zaa p0
  have a5 := zae p1
  go_wp2_with fail
  clear c5 a5
  generalize w2.alloc (Obj.cells #[R.n, R.e, .slice A1 R.m.length c1] 24) = w3 at *
  clear p8
  have hB2 := a0.size
  (with_reducible refine (HC.out w3 hx).mono ?_)
  rintro e_w4 w4 ⟨A2, c2, s2, rfl, own, b3⟩
  clear HC hx
  replace p0 := p0.later b3
  replace p1 := p1.later b3
  replace a0 := bup a0 b3
  clear b3
  dsimp only at own
  have sx := Sx.of_own own hB2
  clear own hB2
  cases Ce with
  | true =>
   obtain ⟨p10, b4, -⟩ := zak w4 #[o.n, true, .slice A2 cm.length c2] 24
   replace p0 := p0.later b4
   replace p1 := p1.later b4
   replace sx := sx.later b4 (Nat.le_trans hB a0.size)
   replace a0 := bup a0 b4
   have b8 := zaa p10
   have a5 := zae p1
   go_wp2
   refine bodyPost_ret (v := .tuple #[true, .int .i64 0]) (by simp [results, Tryz.results43, go_sem]) rfl ⟨rfl, a0⟩
  | false =>
   obtain ⟨k0, k1, k2, k3, k4, k5, k6, k7, k8, k9, fk⟩ := zae (p1.later (new1 w4 (Obj.cells #[o.n, false, .slice A2 cm.length c2] 24)))
   obtain ⟨p10, p13, b4, -⟩ := zal w4 #[o.n, false, .slice A2 cm.length c2] #[o.n, false, .slice A2 cm.length c2] 24 125
   replace p0 := p0.later b4
   replace p1 := p1.later b4
   replace sx := sx.later b4 (Nat.le_trans hB a0.size)
   replace a0 := bup a0 b4
   have b8 := zaa p10
   have a5 := zae p1
   go_upto_region 17 with fail
   clear b8 a5
   clear k0 k1 k2 k3 k4 k5 k6 k7 k8 k9 fk
   generalize (w4.alloc (Obj.cells #[o.n, false, .slice A2 cm.length c2] 24)).alloc (Obj.cells #[o.n, false, .slice A2 cm.length c2] 125) = w5 at *
   have f0 := zab (show w5.cell? ⟨w4.heap.size + 1, 0, none⟩ = some (.int .i64 o.n) from p13.cell 0)
   have f1 := zab (show w5.cell? ⟨w4.heap.size + 1, 1, none⟩ = some (.bool false) from p13.cell 1)
   have f2 := zab (show w5.cell? ⟨w4.heap.size + 1, 2, none⟩ = some (.slice A2 cm.length c2) from p13.cell 2)
   have j6 := zab (show w5.cell? ⟨w.heap.size + 1, 6, none⟩ = some (.int .i64 av) from p1.cell 6)
   have j7 := zab (show w5.cell? ⟨w.heap.size + 1, 7, none⟩ = some (.int .i64 an) from p1.cell 7)
   have j8 := zab (show w5.cell? ⟨w.heap.size + 1, 8, none⟩ = some (.int .i64 bv) from p1.cell 8)
   have j9 := zab (show w5.cell? ⟨w.heap.size + 1, 9, none⟩ = some (.int .i64 bn) from p1.cell 9)
   refine zac 10 [Sp.val (.agg #[o.n, false, .slice A2 cm.length c2]), Sp.val (.pointer (some ⟨w.heap.size + 1, 6, none⟩)), Sp.val (.agg #[av, an]), Sp.val (.agg #[r.lo, r.hi, r.hl, r.hh]), Sp.val (.agg #[o.n, false, .slice A2 cm.length c2]), Sp.val (.pointer (some ⟨w.heap.size + 1, 8, none⟩)), Sp.val (.agg #[bv, bn]), Sp.val (.agg #[s.lo, s.hi, s.hl, s.hh]), Sp.any (zat 49 #[.int .i64 0, .int .i64 0, false, false]), Sp.any (zat 49 #[.int .i64 0, .int .i64 0, false, false])] (by kernel_rfl) (by kernel_rfl) ?_
   (refine fe_t (fun _ _ => ?_))
   (refine fe_t (fun _ _ => ?_))
   (refine fe_t (fun _ _ => ?_))
   refine zaf.callFV (by rfl) (fun W hW hf => ⟨90, #[.agg #[o.n, false, .slice A2 cm.length c2], .agg #[av, an]], by go_simp, H1.out (by first | rfl | trivial) A2 c2 W ((sx.later (Ext.trans (Below.refl _ _).drew hW) (Nat.le_trans hB a0.size)).rd (Nat.le_trans (Nat.le_trans hB a0.size) (Ext.trans (Below.refl _ _).drew hW : Below w5.heap.size w5 W).size))⟩) (fun _ _ => ?_)
   refine fe_p ?_
   (refine fe_t (fun _ _ => ?_))
   (refine fe_t (fun _ _ => ?_))
   (refine fe_t (fun _ _ => ?_))
   refine zaf.callFV (by rfl) (fun W hW hf => ⟨90, #[.agg #[o.n, false, .slice A2 cm.length c2], .agg #[bv, bn]], by go_simp, H2.out (by first | rfl | trivial) A2 c2 W ((sx.later (Ext.trans (Below.refl _ _).drew hW) (Nat.le_trans hB a0.size)).rd (Nat.le_trans (Nat.le_trans hB a0.size) (Ext.trans (Below.refl _ _).drew hW : Below w5.heap.size w5 W).size))⟩) (fun _ _ => ?_)
   refine fe_p ?_
   refine zaf.step (by rfl) (fun W hW K hK => ?_) (fun v8 l8 h8 => ?_)
   ·go_simp
    exact hK _ _ (new1 _ _) ⟨rfl, Blk.new _ _ _, by simp⟩
   refine fe_p ?_
   refine zaf.step (by rfl) (fun W hW K hK => ?_) (fun v9 l9 h9 => ?_)
   ·go_simp
    exact hK _ _ (new1 _ _) ⟨rfl, Blk.new _ _ _, by simp⟩
   refine fe_p ?_
   refine zaf.tail (fun W hW hf hd => ?_)
   replace hW : Below w5.heap.size w5 W := Ext.trans (Below.refl _ _).drew hW
   obtain ⟨g8, rfl, k8, lo8, e8, e8'⟩ := zap (show Sp.fact w5.drew (Sp.any (zat 49 #[.int .i64 0, .int .i64 0, false, false])) v8 l8 h8 W from hf 8)
   obtain ⟨g9, rfl, k9, lo9, e9, e9'⟩ := zap (show Sp.fact w5.drew (Sp.any (zat 49 #[.int .i64 0, .int .i64 0, false, false])) v9 l9 h9 W from hf 9)
   have dd : h8 ≤ l9 ∨ h9 ≤ l8 := hd 8 9 (by decide)
   have d4 : g8 ≠ g9 := by omega
   have hs8 : w5.heap.size ≤ g8 := lo8
   have hs9 : w5.heap.size ≤ g9 := lo9
   have l1 := p1.lt
   have l13 := p13.lt
   have hw := a0.size
   have n81 : g8 ≠ w.heap.size + 1 := by omega
   have n91 : g9 ≠ w.heap.size + 1 := by omega
   have n8d : g8 ≠ w4.heap.size + 1 := by omega
   have n9d : g9 ≠ w4.heap.size + 1 := by omega
   have l8 : w.heap.size ≤ g8 := by omega
   have l9 : w.heap.size ≤ g9 := by omega
   clear hf hd H1 H2 e8 e8' e9 e9' dd hs8 hs9 lo8 lo9 l1 l13 p10 p0 f0 f1 f2 j6 j7 j8 j9
   replace p1 := p1.later hW
   replace p13 := p13.later hW
   replace sx := sx.later hW (Nat.le_trans hB a0.size)
   replace a0 := bup a0 hW
   clear hW
   obtain ⟨q8, q9, c9, far⟩ := zbM k8 k9 d4 a0 (Nat.le_refl _) l8 l9 (.int .i64 r.lo) (.int .i64 r.hi) (.bool r.hl) (.bool r.hh) (.int .i64 s.lo) (.int .i64 s.hi) (.bool s.hl) (.bool s.hh)
   have q1 := far _ _ _ p1 n81 n91
   have q13 := far _ _ _ p13 n8d n9d
   clear far
   have sx9 := (sx.far4 (g := g8) (v0 := .int .i64 r.lo) (v1 := .int .i64 r.hi) (v2 := .bool r.hl) (v3 := .bool r.hh) l8 k8 (by decide)).far4 (g := g9) (v0 := .int .i64 s.lo) (v1 := .int .i64 s.hi) (v2 := .bool s.hl) (v3 := .bool s.hh) l9 (k9.far4 d4) (by decide)
   have m81 := Ne.symm n81
   have m91 := Ne.symm n91
   have m8d := Ne.symm n8d
   have m9d := Ne.symm n9d
   have mne := Ne.symm d4
   have a5 := zae p1
   have d0 := zaa p13
   have x0 := zag k8
   have y0 := zag k9
   go_wp2_with fail
   clear a5 d0
   clear x0 y0 k8 k9 p1 p13 a0 sx
   generalize (((((((W.setCell ⟨g8, 0, none⟩ (.int .i64 r.lo)).setCell ⟨g8, 1, none⟩ (.int .i64 r.hi)).setCell ⟨g8, 2, none⟩ (.bool r.hl)).setCell ⟨g8, 3, none⟩ (.bool r.hh)).setCell ⟨g9, 0, none⟩ (.int .i64 s.lo)).setCell ⟨g9, 1, none⟩ (.int .i64 s.hi)).setCell ⟨g9, 2, none⟩ (.bool s.hl)).setCell ⟨g9, 3, none⟩ (.bool s.hh) = w5 at *
   (with_reducible refine (HF.out _).mono ?_)
   rintro e6 w6 ⟨rfl, c7⟩
   replace sx9 := sx9.later c7 c9.size
   replace q1 := q1.later c7
   replace q13 := q13.later c7
   replace c9 := bup c9 c7
   clear c7 HF q8 q9
   cases Q with
   | true =>
    go_wp2
    refine bodyPost_ret (v := .tuple #[true, .int .i64 0]) (by simp [results, Tryz.results43, go_sem]) rfl ⟨rfl, c9⟩
   | false =>
    have x0 := zae q1
    have y0 := zaa q13
    go_wp2
    refine bodyPost_ret (v := .tuple #[false, .int .i64 0]) (by simp [results, Tryz.results43, go_sem]) rfl ⟨rfl, c9⟩
end
end Go.Proofs.YtnmpgijiimglcaaGreat
