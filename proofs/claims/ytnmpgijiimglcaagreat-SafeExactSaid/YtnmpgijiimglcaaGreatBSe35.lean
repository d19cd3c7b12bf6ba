import Derived.Test.YtnmpgijiimglcaaGreatBSe29
import Derived.Test.YtnmpgijiimglcaaGreatBSe31
import Derived.Test.YtnmpgijiimglcaaGreatBSe33
import Derived.Test.YtnmpgijiimglcaaGreatBSe34
namespace Go.Proofs.YtnmpgijiimglcaaGreat
open Go.RowKit
set_option maxRecDepth 100000
set_option maxHeartbeats 8000000
attribute [local go_sem ↓] Go.wp_at_zero Go.wp_at_succ
theorem zlM (o : O) (fr te dst arr op av an bv bn sz : Int) (hbv : bv < o.n) (ib : I64 bn) (hk : check o = 0) (hav : av < o.n) (ian : I64 an) (C : O) (hC : C = closeO o) (A : Option Addr) (cap : Nat) (w : World) (hx : Rd w w.heap.size A o.m) (hm : o.m.length ≤ 17592186044416) :
  Calls Tryz.prog 45 #[.agg #[o.n, o.e, .slice A o.m.length cap], .agg #[fr, te, .int .i64 1, dst, arr, op, av, an, bv, bn], sz] w fun e w' => e = .returned (.bool (C.e || true)) ∧ Below w.heap.size w w' := by
 have okc : OkO o.n C := hC ▸ (⟨rfl, hk⟩ : OkO o.n o).close
 have HC := hid (fun W (h : Rd W W.heap.size A o.m) => (show Calls Tryz.prog 95 #[.agg #[o.n, o.e, .slice A o.m.length cap]] W (zcx W C) from by rw [hC]; exact zbi o A cap W h hm hk))
 clear hC hk
 have hn := okc.n_
 obtain ⟨CN, Ce, cm⟩ := C
 dsimp only at hn
 subst hn
 have b4 : Ce = false → ∃ N : Nat, (2 * o.n).toNat = N ∧ (N : Int) = 2 * o.n ∧ N ≤ 128 ∧ Cells N cm ∧ cm.length ≤ 17592186044416 := by
  intro he
  subst he
  obtain ⟨n0, n1, _, _⟩ := zas okc.ok
  dsimp only at n0 n1
  exact ⟨(2 * o.n).toNat, rfl, by omega, by omega, zaz (by omega) okc.ok, OkO.small okc⟩
 have H1 := hid (fun (he : Ce = false) A2 c2 W (h : Rd W W.heap.size A2 cm) => (show Calls Tryz.prog 96 #[.agg #[o.n, false, .slice A2 cm.length c2], .agg #[av, an]] W (zam (opdR (2 * o.n).toNat cm av an).val W) from by
  obtain ⟨N, hNt, hN, hn, b9, c7⟩ := b4 he
  rw [hNt]
  exact zaB o.n cm N av an A2 c2 W hN hn b9 hav h))
 have H2 := hid (fun (he : Ce = false) A2 c2 W (h : Rd W W.heap.size A2 cm) => (show Calls Tryz.prog 96 #[.agg #[o.n, false, .slice A2 cm.length c2], .agg #[bv, bn]] W (zam (opdR (2 * o.n).toNat cm bv bn).val W) from by
  obtain ⟨N, hNt, hN, hn, b9, c7⟩ := b4 he
  rw [hNt]
  exact zaB o.n cm N bv bn A2 c2 W hN hn b9 hbv h))
 have I1 := zao (2 * o.n).toNat cm av an ian
 have I2 := zao (2 * o.n).toNat cm bv bn ib
 dsimp only
 generalize opdR (2 * o.n).toNat cm av an = r at *
 generalize opdR (2 * o.n).toNat cm bv bn = s at *
 clear okc b4 hav hbv ib ian
 clear I1 I2 H1 H2
 have hB : w.heap.size ≤ w.heap.size := Nat.le_refl _
 obtain ⟨p0, p1, a0, c8⟩ := zal w #[o.n, o.e, .slice A o.m.length cap] #[fr, te, .int .i64 1, dst, arr, op, av, an, bv, bn] 24 44
 clear c8
 replace hx := hx.up a0
 go_enter Tryz.func45, Tryz.ntmps45
 have c1 := zaa p0
 have a9 := zae p1
 go_wp2_with fail
 clear c1 a9
 generalize (w.alloc (Obj.cells #[o.n, o.e, .slice A o.m.length cap] 24)).alloc (Obj.cells #[fr, te, .int .i64 1, dst, arr, op, av, an, bv, bn] 44) = w1 at *
 have hB2 := a0.size
 (with_reducible refine (HC.out w1 hx).mono ?_)
 rintro c5 w2 ⟨A2, c2, s2, rfl, own, a1⟩
 clear HC hx p0
 replace p1 := p1.later a1
 replace a0 := bup a0 a1
 clear a1
 dsimp only at own
 have sx := Sx.of_own own hB2
 clear own hB2
 cases Ce with
 | true =>
  have k0 := zae p1
  obtain ⟨p7, b3, -⟩ := zak w2 #[o.n, true, .slice A2 cm.length c2] 24
  replace p1 := p1.later b3
  replace sx := sx.later b3 (Nat.le_trans hB a0.size)
  replace a0 := bup a0 b3
  have b8 := zaa p7
  have a9 := zae p1
  go_wp2
  go_ret
  exact ⟨rfl, a0⟩
 | false =>
  have k0 := zae p1
  obtain ⟨p7, b3, -⟩ := zak w2 #[o.n, false, .slice A2 cm.length c2] 24
  replace p1 := p1.later b3
  replace sx := sx.later b3 (Nat.le_trans hB a0.size)
  replace a0 := bup a0 b3
  have b8 := zaa p7
  have a9 := zae p1
  go_wp2
  go_ret
  exact ⟨rfl, a0⟩
theorem zl2 (o : O) (fr te dst arr op av an bv bn sz : Int) (hbv : bv < o.n) (ib : I64 bn) (hk : check o = 0) (hav : av < o.n) (ian : I64 an) (C : O) (hC : C = closeO o) (A : Option Addr) (cap : Nat) (w : World) (hx : Rd w w.heap.size A o.m) (hm : o.m.length ≤ 17592186044416) :
  Calls Tryz.prog 45 #[.agg #[o.n, o.e, .slice A o.m.length cap], .agg #[fr, te, .int .i64 2, dst, arr, op, av, an, bv, bn], sz] w fun e w' => e = .returned (.bool (C.e || true)) ∧ Below w.heap.size w w' := by
 have okc : OkO o.n C := hC ▸ (⟨rfl, hk⟩ : OkO o.n o).close
 have HC := hid (fun W (h : Rd W W.heap.size A o.m) => (show Calls Tryz.prog 95 #[.agg #[o.n, o.e, .slice A o.m.length cap]] W (zcx W C) from by rw [hC]; exact zbi o A cap W h hm hk))
 clear hC hk
 have hn := okc.n_
 obtain ⟨CN, Ce, cm⟩ := C
 dsimp only at hn
 subst hn
 have b4 : Ce = false → ∃ N : Nat, (2 * o.n).toNat = N ∧ (N : Int) = 2 * o.n ∧ N ≤ 128 ∧ Cells N cm ∧ cm.length ≤ 17592186044416 := by
  intro he
  subst he
  obtain ⟨n0, n1, _, _⟩ := zas okc.ok
  dsimp only at n0 n1
  exact ⟨(2 * o.n).toNat, rfl, by omega, by omega, zaz (by omega) okc.ok, OkO.small okc⟩
 have H1 := hid (fun (he : Ce = false) A2 c2 W (h : Rd W W.heap.size A2 cm) => (show Calls Tryz.prog 96 #[.agg #[o.n, false, .slice A2 cm.length c2], .agg #[av, an]] W (zam (opdR (2 * o.n).toNat cm av an).val W) from by
  obtain ⟨N, hNt, hN, hn, b9, c7⟩ := b4 he
  rw [hNt]
  exact zaB o.n cm N av an A2 c2 W hN hn b9 hav h))
 have H2 := hid (fun (he : Ce = false) A2 c2 W (h : Rd W W.heap.size A2 cm) => (show Calls Tryz.prog 96 #[.agg #[o.n, false, .slice A2 cm.length c2], .agg #[bv, bn]] W (zam (opdR (2 * o.n).toNat cm bv bn).val W) from by
  obtain ⟨N, hNt, hN, hn, b9, c7⟩ := b4 he
  rw [hNt]
  exact zaB o.n cm N bv bn A2 c2 W hN hn b9 hbv h))
 have I1 := zao (2 * o.n).toNat cm av an ian
 have I2 := zao (2 * o.n).toNat cm bv bn ib
 dsimp only
 generalize opdR (2 * o.n).toNat cm av an = r at *
 generalize opdR (2 * o.n).toNat cm bv bn = s at *
 clear okc b4 hav hbv ib ian
 clear I1 I2 H1 H2
 have hB : w.heap.size ≤ w.heap.size := Nat.le_refl _
 obtain ⟨p0, p1, a0, c8⟩ := zal w #[o.n, o.e, .slice A o.m.length cap] #[fr, te, .int .i64 2, dst, arr, op, av, an, bv, bn] 24 44
 clear c8
 replace hx := hx.up a0
 go_enter Tryz.func45, Tryz.ntmps45
 have c1 := zaa p0
 have a9 := zae p1
 go_wp2_with fail
 clear c1 a9
 generalize (w.alloc (Obj.cells #[o.n, o.e, .slice A o.m.length cap] 24)).alloc (Obj.cells #[fr, te, .int .i64 2, dst, arr, op, av, an, bv, bn] 44) = w1 at *
 have hB2 := a0.size
 (with_reducible refine (HC.out w1 hx).mono ?_)
 rintro c5 w2 ⟨A2, c2, s2, rfl, own, a1⟩
 clear HC hx p0
 replace p1 := p1.later a1
 replace a0 := bup a0 a1
 clear a1
 dsimp only at own
 have sx := Sx.of_own own hB2
 clear own hB2
 cases Ce with
 | true =>
  have k0 := zae p1
  obtain ⟨p7, b3, -⟩ := zak w2 #[o.n, true, .slice A2 cm.length c2] 24
  replace p1 := p1.later b3
  replace sx := sx.later b3 (Nat.le_trans hB a0.size)
  replace a0 := bup a0 b3
  have b8 := zaa p7
  have a9 := zae p1
  go_wp2
  go_ret
  exact ⟨rfl, a0⟩
 | false =>
  have k0 := zae p1
  obtain ⟨p7, b3, -⟩ := zak w2 #[o.n, false, .slice A2 cm.length c2] 24
  replace p1 := p1.later b3
  replace sx := sx.later b3 (Nat.le_trans hB a0.size)
  replace a0 := bup a0 b3
  have b8 := zaa p7
  have a9 := zae p1
  go_wp2
  go_ret
  exact ⟨rfl, a0⟩
theorem zlK (o : O) (fr te dst arr op av an bv bn sz : Int) (hbv : bv < o.n) (ib : I64 bn) (hk : check o = 0) (hav : av < o.n) (ian : I64 an) (C : O) (hC : C = closeO o) (A : Option Addr) (cap : Nat) (w : World) (hx : Rd w w.heap.size A o.m) (hm : o.m.length ≤ 17592186044416) :
  Calls Tryz.prog 45 #[.agg #[o.n, o.e, .slice A o.m.length cap], .agg #[fr, te, .int .i64 3, dst, arr, op, av, an, bv, bn], sz] w fun e w' => e = .returned (.bool (C.e || fitsK 3 (opdR (2 * C.n).toNat C.m av an) rg0)) ∧ Below w.heap.size w w' := by
 have okc : OkO o.n C := hC ▸ (⟨rfl, hk⟩ : OkO o.n o).close
 have HC := hid (fun W (h : Rd W W.heap.size A o.m) => (show Calls Tryz.prog 95 #[.agg #[o.n, o.e, .slice A o.m.length cap]] W (zcx W C) from by rw [hC]; exact zbi o A cap W h hm hk))
 clear hC hk
 have hn := okc.n_
 obtain ⟨CN, Ce, cm⟩ := C
 dsimp only at hn
 subst hn
 have b4 : Ce = false → ∃ N : Nat, (2 * o.n).toNat = N ∧ (N : Int) = 2 * o.n ∧ N ≤ 128 ∧ Cells N cm ∧ cm.length ≤ 17592186044416 := by
  intro he
  subst he
  obtain ⟨n0, n1, _, _⟩ := zas okc.ok
  dsimp only at n0 n1
  exact ⟨(2 * o.n).toNat, rfl, by omega, by omega, zaz (by omega) okc.ok, OkO.small okc⟩
 have H1 := hid (fun (he : Ce = false) A2 c2 W (h : Rd W W.heap.size A2 cm) => (show Calls Tryz.prog 96 #[.agg #[o.n, false, .slice A2 cm.length c2], .agg #[av, an]] W (zam (opdR (2 * o.n).toNat cm av an).val W) from by
  obtain ⟨N, hNt, hN, hn, b9, c7⟩ := b4 he
  rw [hNt]
  exact zaB o.n cm N av an A2 c2 W hN hn b9 hav h))
 have H2 := hid (fun (he : Ce = false) A2 c2 W (h : Rd W W.heap.size A2 cm) => (show Calls Tryz.prog 96 #[.agg #[o.n, false, .slice A2 cm.length c2], .agg #[bv, bn]] W (zam (opdR (2 * o.n).toNat cm bv bn).val W) from by
  obtain ⟨N, hNt, hN, hn, b9, c7⟩ := b4 he
  rw [hNt]
  exact zaB o.n cm N bv bn A2 c2 W hN hn b9 hbv h))
 have I1 := zao (2 * o.n).toNat cm av an ian
 have I2 := zao (2 * o.n).toNat cm bv bn ib
 dsimp only
 generalize opdR (2 * o.n).toNat cm av an = r at *
 generalize opdR (2 * o.n).toNat cm bv bn = s at *
 clear okc b4 hav hbv ib ian
 have HF := hid (fun W => (show Calls Tryz.prog 47 #[.int .i64 3, r.val, rg0.val] W (fun e w' => e = .returned (.bool (fitsK 3 r rg0)) ∧ Below W.heap.size W w') from zbV 3 r rg0 I1 (by unfold rg0 loR hiR I64; simp) W))
 clear I1 I2
 generalize fitsK 3 r rg0 = Q at *
 rw [Rg.val_eq] at H1 HF
 rw [show rg0.val = .agg #[.int .i64 0, .int .i64 0, false, false] from rfl] at HF
 have hB : w.heap.size ≤ w.heap.size := Nat.le_refl _
 obtain ⟨p0, p1, a0, c8⟩ := zal w #[o.n, o.e, .slice A o.m.length cap] #[fr, te, .int .i64 3, dst, arr, op, av, an, bv, bn] 24 44
 clear c8
 replace hx := hx.up a0
 go_enter Tryz.func45, Tryz.ntmps45
 have c1 := zaa p0
 have a9 := zae p1
 go_wp2_with fail
 clear c1 a9
 generalize (w.alloc (Obj.cells #[o.n, o.e, .slice A o.m.length cap] 24)).alloc (Obj.cells #[fr, te, .int .i64 3, dst, arr, op, av, an, bv, bn] 44) = w1 at *
 have hB2 := a0.size
 (with_reducible refine (HC.out w1 hx).mono ?_)
 rintro c5 w2 ⟨A2, c2, s2, rfl, own, a1⟩
 clear HC hx p0
 replace p1 := p1.later a1
 replace a0 := bup a0 a1
 clear a1
 dsimp only at own
 have sx := Sx.of_own own hB2
 clear own hB2
 cases Ce with
 | true =>
  have k0 := zae p1
  obtain ⟨p7, b3, -⟩ := zak w2 #[o.n, true, .slice A2 cm.length c2] 24
  replace p1 := p1.later b3
  replace sx := sx.later b3 (Nat.le_trans hB a0.size)
  replace a0 := bup a0 b3
  have b8 := zaa p7
  have a9 := zae p1
  go_wp2
  go_ret
  exact ⟨rfl, a0⟩
 | false =>
  have k0 := zae p1
  obtain ⟨p7, b3, -⟩ := zak w2 #[o.n, false, .slice A2 cm.length c2] 24
  replace p1 := p1.later b3
  replace sx := sx.later b3 (Nat.le_trans hB a0.size)
  replace a0 := bup a0 b3
  have b8 := zaa p7
  have a9 := zae p1
  go_upto_region 12 with fail
  clear b8 a9
  clear k0
  generalize w2.alloc (Obj.cells #[o.n, false, .slice A2 cm.length c2] 24) = w3 at *
  have f0 := zab (show w3.cell? ⟨w2.heap.size, 0, none⟩ = some (.int .i64 o.n) from p7.cell 0)
  have f1 := zab (show w3.cell? ⟨w2.heap.size, 1, none⟩ = some (.bool false) from p7.cell 1)
  have f2 := zab (show w3.cell? ⟨w2.heap.size, 2, none⟩ = some (.slice A2 cm.length c2) from p7.cell 2)
  have j2 := zab (show w3.cell? ⟨w.heap.size + 1, 2, none⟩ = some (.int .i64 3) from p1.cell 2)
  have j6 := zab (show w3.cell? ⟨w.heap.size + 1, 6, none⟩ = some (.int .i64 av) from p1.cell 6)
  have j7 := zab (show w3.cell? ⟨w.heap.size + 1, 7, none⟩ = some (.int .i64 an) from p1.cell 7)
  have j8 := zab (show w3.cell? ⟨w.heap.size + 1, 8, none⟩ = some (.int .i64 bv) from p1.cell 8)
  have j9 := zab (show w3.cell? ⟨w.heap.size + 1, 9, none⟩ = some (.int .i64 bn) from p1.cell 9)
  refine zac 7 [Sp.val (.pointer (some ⟨w.heap.size + 1, 2, none⟩)), Sp.val (.int .i64 3), Sp.val (.agg #[o.n, false, .slice A2 cm.length c2]), Sp.val (.pointer (some ⟨w.heap.size + 1, 6, none⟩)), Sp.val (.agg #[av, an]), Sp.val (.agg #[r.lo, r.hi, r.hl, r.hh]), Sp.val (.agg #[.int .i64 0, .int .i64 0, false, false])] (by kernel_rfl) (by kernel_rfl) ?_
  iterate 5 (refine fe_t (fun _ _ => ?_))
  refine zaf.callFV (by rfl) (fun W hW hf => ⟨96, #[.agg #[o.n, false, .slice A2 cm.length c2], .agg #[av, an]], by go_simp, H1.out (by first | rfl | trivial) A2 c2 W ((sx.later (Ext.trans (Below.refl _ _).drew hW) (Nat.le_trans hB a0.size)).rd (Nat.le_trans (Nat.le_trans hB a0.size) (Ext.trans (Below.refl _ _).drew hW : Below w3.heap.size w3 W).size))⟩) (fun _ _ => ?_)
  refine fe_p ?_
  (refine fe_t (fun _ _ => ?_))
  refine zaf.tail (fun W2 hW hf hd => ?_)
  replace hW : Below w3.heap.size w3 W2 := Ext.trans (Below.refl _ _).drew hW
  replace a0 := bup a0 hW
  clear hf hd hW f0 f1 f2 j2 j6 j7 j8 j9
  go_wp2_with fail
  (with_reducible refine (HF.out W2).mono ?_)
  rintro e9 w9 ⟨rfl, c9⟩
  go_wp2
  go_ret
  exact ⟨by cases Q <;> rfl, bup a0 c9⟩
theorem zlL (o : O) (fr te dst arr op av an bv bn sz : Int) (hbv : bv < o.n) (ib : I64 bn) (hk : check o = 0) (hav : av < o.n) (ian : I64 an) (C : O) (hC : C = closeO o) (A : Option Addr) (cap : Nat) (w : World) (hx : Rd w w.heap.size A o.m) (hm : o.m.length ≤ 17592186044416) :
  Calls Tryz.prog 45 #[.agg #[o.n, o.e, .slice A o.m.length cap], .agg #[fr, te, .int .i64 6, dst, arr, op, av, an, bv, bn], sz] w fun e w' => e = .returned (.bool (C.e || fitsK 6 (opdR (2 * C.n).toNat C.m av an) (opdR (2 * C.n).toNat C.m bv bn))) ∧ Below w.heap.size w w' := by
 have okc : OkO o.n C := hC ▸ (⟨rfl, hk⟩ : OkO o.n o).close
 have HC := hid (fun W (h : Rd W W.heap.size A o.m) => (show Calls Tryz.prog 95 #[.agg #[o.n, o.e, .slice A o.m.length cap]] W (zcx W C) from by rw [hC]; exact zbi o A cap W h hm hk))
 clear hC hk
 have hn := okc.n_
 obtain ⟨CN, Ce, cm⟩ := C
 dsimp only at hn
 subst hn
 have b4 : Ce = false → ∃ N : Nat, (2 * o.n).toNat = N ∧ (N : Int) = 2 * o.n ∧ N ≤ 128 ∧ Cells N cm ∧ cm.length ≤ 17592186044416 := by
  intro he
  subst he
  obtain ⟨n0, n1, _, _⟩ := zas okc.ok
  dsimp only at n0 n1
  exact ⟨(2 * o.n).toNat, rfl, by omega, by omega, zaz (by omega) okc.ok, OkO.small okc⟩
 have H1 := hid (fun (he : Ce = false) A2 c2 W (h : Rd W W.heap.size A2 cm) => (show Calls Tryz.prog 96 #[.agg #[o.n, false, .slice A2 cm.length c2], .agg #[av, an]] W (zam (opdR (2 * o.n).toNat cm av an).val W) from by
  obtain ⟨N, hNt, hN, hn, b9, c7⟩ := b4 he
  rw [hNt]
  exact zaB o.n cm N av an A2 c2 W hN hn b9 hav h))
 have H2 := hid (fun (he : Ce = false) A2 c2 W (h : Rd W W.heap.size A2 cm) => (show Calls Tryz.prog 96 #[.agg #[o.n, false, .slice A2 cm.length c2], .agg #[bv, bn]] W (zam (opdR (2 * o.n).toNat cm bv bn).val W) from by
  obtain ⟨N, hNt, hN, hn, b9, c7⟩ := b4 he
  rw [hNt]
  exact zaB o.n cm N bv bn A2 c2 W hN hn b9 hbv h))
 have I1 := zao (2 * o.n).toNat cm av an ian
 have I2 := zao (2 * o.n).toNat cm bv bn ib
 dsimp only
 generalize opdR (2 * o.n).toNat cm av an = r at *
 generalize opdR (2 * o.n).toNat cm bv bn = s at *
 clear okc b4 hav hbv ib ian
 have HF := hid (fun W => zbV 6 r s I1 I2 W)
 clear I1 I2
 generalize fitsK 6 r s = Q at *
 rw [Rg.val_eq] at H1 H2 HF
 rw [Rg.val_eq] at HF
 have hB : w.heap.size ≤ w.heap.size := Nat.le_refl _
 obtain ⟨p0, p1, a0, c8⟩ := zal w #[o.n, o.e, .slice A o.m.length cap] #[fr, te, .int .i64 6, dst, arr, op, av, an, bv, bn] 24 44
 clear c8
 replace hx := hx.up a0
 go_enter Tryz.func45, Tryz.ntmps45
 have c1 := zaa p0
 have a9 := zae p1
 go_wp2_with fail
 clear c1 a9
 generalize (w.alloc (Obj.cells #[o.n, o.e, .slice A o.m.length cap] 24)).alloc (Obj.cells #[fr, te, .int .i64 6, dst, arr, op, av, an, bv, bn] 44) = w1 at *
 have hB2 := a0.size
 (with_reducible refine (HC.out w1 hx).mono ?_)
 rintro c5 w2 ⟨A2, c2, s2, rfl, own, a1⟩
 clear HC hx p0
 replace p1 := p1.later a1
 replace a0 := bup a0 a1
 clear a1
 dsimp only at own
 have sx := Sx.of_own own hB2
 clear own hB2
 cases Ce with
 | true =>
  have k0 := zae p1
  obtain ⟨p7, b3, -⟩ := zak w2 #[o.n, true, .slice A2 cm.length c2] 24
  replace p1 := p1.later b3
  replace sx := sx.later b3 (Nat.le_trans hB a0.size)
  replace a0 := bup a0 b3
  have b8 := zaa p7
  have a9 := zae p1
  go_wp2
  go_ret
  exact ⟨rfl, a0⟩
 | false =>
  have k0 := zae p1
  obtain ⟨p7, b3, -⟩ := zak w2 #[o.n, false, .slice A2 cm.length c2] 24
  replace p1 := p1.later b3
  replace sx := sx.later b3 (Nat.le_trans hB a0.size)
  replace a0 := bup a0 b3
  have b8 := zaa p7
  have a9 := zae p1
  go_upto_region 24 with fail
  clear b8 a9
  clear k0
  generalize w2.alloc (Obj.cells #[o.n, false, .slice A2 cm.length c2] 24) = w3 at *
  have f0 := zab (show w3.cell? ⟨w2.heap.size, 0, none⟩ = some (.int .i64 o.n) from p7.cell 0)
  have f1 := zab (show w3.cell? ⟨w2.heap.size, 1, none⟩ = some (.bool false) from p7.cell 1)
  have f2 := zab (show w3.cell? ⟨w2.heap.size, 2, none⟩ = some (.slice A2 cm.length c2) from p7.cell 2)
  have j2 := zab (show w3.cell? ⟨w.heap.size + 1, 2, none⟩ = some (.int .i64 6) from p1.cell 2)
  have j6 := zab (show w3.cell? ⟨w.heap.size + 1, 6, none⟩ = some (.int .i64 av) from p1.cell 6)
  have j7 := zab (show w3.cell? ⟨w.heap.size + 1, 7, none⟩ = some (.int .i64 an) from p1.cell 7)
  have j8 := zab (show w3.cell? ⟨w.heap.size + 1, 8, none⟩ = some (.int .i64 bv) from p1.cell 8)
  have j9 := zab (show w3.cell? ⟨w.heap.size + 1, 9, none⟩ = some (.int .i64 bn) from p1.cell 9)
  refine zac 10 [Sp.val (.pointer (some ⟨w.heap.size + 1, 2, none⟩)), Sp.val (.int .i64 6), Sp.val (.agg #[o.n, false, .slice A2 cm.length c2]), Sp.val (.pointer (some ⟨w.heap.size + 1, 6, none⟩)), Sp.val (.agg #[av, an]), Sp.val (.agg #[r.lo, r.hi, r.hl, r.hh]), Sp.val (.agg #[o.n, false, .slice A2 cm.length c2]), Sp.val (.pointer (some ⟨w.heap.size + 1, 8, none⟩)), Sp.val (.agg #[bv, bn]), Sp.val (.agg #[s.lo, s.hi, s.hl, s.hh])] (by kernel_rfl) (by kernel_rfl) ?_
  iterate 5 (refine fe_t (fun _ _ => ?_))
  refine zaf.callFV (by rfl) (fun W hW hf => ⟨96, #[.agg #[o.n, false, .slice A2 cm.length c2], .agg #[av, an]], by go_simp, H1.out (by first | rfl | trivial) A2 c2 W ((sx.later (Ext.trans (Below.refl _ _).drew hW) (Nat.le_trans hB a0.size)).rd (Nat.le_trans (Nat.le_trans hB a0.size) (Ext.trans (Below.refl _ _).drew hW : Below w3.heap.size w3 W).size))⟩) (fun _ _ => ?_)
  refine fe_p ?_
  iterate 3 (refine fe_t (fun _ _ => ?_))
  refine zaf.callFV (by rfl) (fun W hW hf => ⟨96, #[.agg #[o.n, false, .slice A2 cm.length c2], .agg #[bv, bn]], by go_simp, H2.out (by first | rfl | trivial) A2 c2 W ((sx.later (Ext.trans (Below.refl _ _).drew hW) (Nat.le_trans hB a0.size)).rd (Nat.le_trans (Nat.le_trans hB a0.size) (Ext.trans (Below.refl _ _).drew hW : Below w3.heap.size w3 W).size))⟩) (fun _ _ => ?_)
  refine fe_p ?_
  refine zaf.tail (fun W2 hW hf hd => ?_)
  replace hW : Below w3.heap.size w3 W2 := Ext.trans (Below.refl _ _).drew hW
  replace a0 := bup a0 hW
  clear hf hd hW f0 f1 f2 j2 j6 j7 j8 j9
  go_wp2_with fail
  (with_reducible refine (HF.out W2).mono ?_)
  rintro e9 w9 ⟨rfl, c9⟩
  go_wp2
  go_ret
  exact ⟨by cases Q <;> rfl, bup a0 c9⟩
theorem zlW (o : O) (fr te dst arr op av an bv bn sz : Int) (hbv : bv < o.n) (ib : I64 bn) (hk : check o = 0) (hav : av < o.n) (ian : I64 an) (C : O) (hC : C = closeO o) (A : Option Addr) (cap : Nat) (w : World) (hx : Rd w w.heap.size A o.m) (hm : o.m.length ≤ 17592186044416) :
  Calls Tryz.prog 45 #[.agg #[o.n, o.e, .slice A o.m.length cap], .agg #[fr, te, .int .i64 7, dst, arr, op, av, an, bv, bn], sz] w fun e w' => e = .returned (.bool (C.e || fitsK 7 (opdR (2 * C.n).toNat C.m av an) (opdR (2 * C.n).toNat C.m bv bn))) ∧ Below w.heap.size w w' := by
 have okc : OkO o.n C := hC ▸ (⟨rfl, hk⟩ : OkO o.n o).close
 have HC := hid (fun W (h : Rd W W.heap.size A o.m) => (show Calls Tryz.prog 95 #[.agg #[o.n, o.e, .slice A o.m.length cap]] W (zcx W C) from by rw [hC]; exact zbi o A cap W h hm hk))
 clear hC hk
 have hn := okc.n_
 obtain ⟨CN, Ce, cm⟩ := C
 dsimp only at hn
 subst hn
 have b4 : Ce = false → ∃ N : Nat, (2 * o.n).toNat = N ∧ (N : Int) = 2 * o.n ∧ N ≤ 128 ∧ Cells N cm ∧ cm.length ≤ 17592186044416 := by
  intro he
  subst he
  obtain ⟨n0, n1, _, _⟩ := zas okc.ok
  dsimp only at n0 n1
  exact ⟨(2 * o.n).toNat, rfl, by omega, by omega, zaz (by omega) okc.ok, OkO.small okc⟩
 have H1 := hid (fun (he : Ce = false) A2 c2 W (h : Rd W W.heap.size A2 cm) => (show Calls Tryz.prog 96 #[.agg #[o.n, false, .slice A2 cm.length c2], .agg #[av, an]] W (zam (opdR (2 * o.n).toNat cm av an).val W) from by
  obtain ⟨N, hNt, hN, hn, b9, c7⟩ := b4 he
  rw [hNt]
  exact zaB o.n cm N av an A2 c2 W hN hn b9 hav h))
 have H2 := hid (fun (he : Ce = false) A2 c2 W (h : Rd W W.heap.size A2 cm) => (show Calls Tryz.prog 96 #[.agg #[o.n, false, .slice A2 cm.length c2], .agg #[bv, bn]] W (zam (opdR (2 * o.n).toNat cm bv bn).val W) from by
  obtain ⟨N, hNt, hN, hn, b9, c7⟩ := b4 he
  rw [hNt]
  exact zaB o.n cm N bv bn A2 c2 W hN hn b9 hbv h))
 have I1 := zao (2 * o.n).toNat cm av an ian
 have I2 := zao (2 * o.n).toNat cm bv bn ib
 dsimp only
 generalize opdR (2 * o.n).toNat cm av an = r at *
 generalize opdR (2 * o.n).toNat cm bv bn = s at *
 clear okc b4 hav hbv ib ian
 have HF := hid (fun W => zbV 7 r s I1 I2 W)
 clear I1 I2
 generalize fitsK 7 r s = Q at *
 rw [Rg.val_eq] at H1 H2 HF
 rw [Rg.val_eq] at HF
 have hB : w.heap.size ≤ w.heap.size := Nat.le_refl _
 obtain ⟨p0, p1, a0, c8⟩ := zal w #[o.n, o.e, .slice A o.m.length cap] #[fr, te, .int .i64 7, dst, arr, op, av, an, bv, bn] 24 44
 clear c8
 replace hx := hx.up a0
 go_enter Tryz.func45, Tryz.ntmps45
 have c1 := zaa p0
 have a9 := zae p1
 go_wp2_with fail
 clear c1 a9
 generalize (w.alloc (Obj.cells #[o.n, o.e, .slice A o.m.length cap] 24)).alloc (Obj.cells #[fr, te, .int .i64 7, dst, arr, op, av, an, bv, bn] 44) = w1 at *
 have hB2 := a0.size
 (with_reducible refine (HC.out w1 hx).mono ?_)
 rintro c5 w2 ⟨A2, c2, s2, rfl, own, a1⟩
 clear HC hx p0
 replace p1 := p1.later a1
 replace a0 := bup a0 a1
 clear a1
 dsimp only at own
 have sx := Sx.of_own own hB2
 clear own hB2
 cases Ce with
 | true =>
  have k0 := zae p1
  obtain ⟨p7, b3, -⟩ := zak w2 #[o.n, true, .slice A2 cm.length c2] 24
  replace p1 := p1.later b3
  replace sx := sx.later b3 (Nat.le_trans hB a0.size)
  replace a0 := bup a0 b3
  have b8 := zaa p7
  have a9 := zae p1
  go_wp2
  go_ret
  exact ⟨rfl, a0⟩
 | false =>
  have k0 := zae p1
  obtain ⟨p7, b3, -⟩ := zak w2 #[o.n, false, .slice A2 cm.length c2] 24
  replace p1 := p1.later b3
  replace sx := sx.later b3 (Nat.le_trans hB a0.size)
  replace a0 := bup a0 b3
  have b8 := zaa p7
  have a9 := zae p1
  go_upto_region 24 with fail
  clear b8 a9
  clear k0
  generalize w2.alloc (Obj.cells #[o.n, false, .slice A2 cm.length c2] 24) = w3 at *
  have f0 := zab (show w3.cell? ⟨w2.heap.size, 0, none⟩ = some (.int .i64 o.n) from p7.cell 0)
  have f1 := zab (show w3.cell? ⟨w2.heap.size, 1, none⟩ = some (.bool false) from p7.cell 1)
  have f2 := zab (show w3.cell? ⟨w2.heap.size, 2, none⟩ = some (.slice A2 cm.length c2) from p7.cell 2)
  have j2 := zab (show w3.cell? ⟨w.heap.size + 1, 2, none⟩ = some (.int .i64 7) from p1.cell 2)
  have j6 := zab (show w3.cell? ⟨w.heap.size + 1, 6, none⟩ = some (.int .i64 av) from p1.cell 6)
  have j7 := zab (show w3.cell? ⟨w.heap.size + 1, 7, none⟩ = some (.int .i64 an) from p1.cell 7)
  have j8 := zab (show w3.cell? ⟨w.heap.size + 1, 8, none⟩ = some (.int .i64 bv) from p1.cell 8)
  have j9 := zab (show w3.cell? ⟨w.heap.size + 1, 9, none⟩ = some (.int .i64 bn) from p1.cell 9)
  refine zac 10 [Sp.val (.pointer (some ⟨w.heap.size + 1, 2, none⟩)), Sp.val (.int .i64 7), Sp.val (.agg #[o.n, false, .slice A2 cm.length c2]), Sp.val (.pointer (some ⟨w.heap.size + 1, 6, none⟩)), Sp.val (.agg #[av, an]), Sp.val (.agg #[r.lo, r.hi, r.hl, r.hh]), Sp.val (.agg #[o.n, false, .slice A2 cm.length c2]), Sp.val (.pointer (some ⟨w.heap.size + 1, 8, none⟩)), Sp.val (.agg #[bv, bn]), Sp.val (.agg #[s.lo, s.hi, s.hl, s.hh])] (by kernel_rfl) (by kernel_rfl) ?_
  iterate 5 (refine fe_t (fun _ _ => ?_))
  refine zaf.callFV (by rfl) (fun W hW hf => ⟨96, #[.agg #[o.n, false, .slice A2 cm.length c2], .agg #[av, an]], by go_simp, H1.out (by first | rfl | trivial) A2 c2 W ((sx.later (Ext.trans (Below.refl _ _).drew hW) (Nat.le_trans hB a0.size)).rd (Nat.le_trans (Nat.le_trans hB a0.size) (Ext.trans (Below.refl _ _).drew hW : Below w3.heap.size w3 W).size))⟩) (fun _ _ => ?_)
  refine fe_p ?_
  iterate 3 (refine fe_t (fun _ _ => ?_))
  refine zaf.callFV (by rfl) (fun W hW hf => ⟨96, #[.agg #[o.n, false, .slice A2 cm.length c2], .agg #[bv, bn]], by go_simp, H2.out (by first | rfl | trivial) A2 c2 W ((sx.later (Ext.trans (Below.refl _ _).drew hW) (Nat.le_trans hB a0.size)).rd (Nat.le_trans (Nat.le_trans hB a0.size) (Ext.trans (Below.refl _ _).drew hW : Below w3.heap.size w3 W).size))⟩) (fun _ _ => ?_)
  refine fe_p ?_
  refine zaf.tail (fun W2 hW hf hd => ?_)
  replace hW : Below w3.heap.size w3 W2 := Ext.trans (Below.refl _ _).drew hW
  replace a0 := bup a0 hW
  clear hf hd hW f0 f1 f2 j2 j6 j7 j8 j9
  go_wp2_with fail
  (with_reducible refine (HF.out W2).mono ?_)
  rintro e9 w9 ⟨rfl, c9⟩
  go_wp2
  go_ret
  exact ⟨by cases Q <;> rfl, bup a0 c9⟩
theorem zl4 (o : O) (fr te dst arr op av an bv bn sz : Int) (hbv : bv < o.n) (ib : I64 bn) (hk : check o = 0) (hav : av < o.n) (ian : I64 an) (C : O) (hC : C = closeO o) (A : Option Addr) (cap : Nat) (w : World) (hx : Rd w w.heap.size A o.m) (hm : o.m.length ≤ 17592186044416) :
  Calls Tryz.prog 45 #[.agg #[o.n, o.e, .slice A o.m.length cap], .agg #[fr, te, .int .i64 8, dst, arr, op, av, an, bv, bn], sz] w fun e w' => e = .returned (.bool (C.e || fitsK 8 (opdR (2 * C.n).toNat C.m av an) (opdR (2 * C.n).toNat C.m bv bn))) ∧ Below w.heap.size w w' := by
 have okc : OkO o.n C := hC ▸ (⟨rfl, hk⟩ : OkO o.n o).close
 have HC := hid (fun W (h : Rd W W.heap.size A o.m) => (show Calls Tryz.prog 95 #[.agg #[o.n, o.e, .slice A o.m.length cap]] W (zcx W C) from by rw [hC]; exact zbi o A cap W h hm hk))
 clear hC hk
 have hn := okc.n_
 obtain ⟨CN, Ce, cm⟩ := C
 dsimp only at hn
 subst hn
 have b4 : Ce = false → ∃ N : Nat, (2 * o.n).toNat = N ∧ (N : Int) = 2 * o.n ∧ N ≤ 128 ∧ Cells N cm ∧ cm.length ≤ 17592186044416 := by
  intro he
  subst he
  obtain ⟨n0, n1, _, _⟩ := zas okc.ok
  dsimp only at n0 n1
  exact ⟨(2 * o.n).toNat, rfl, by omega, by omega, zaz (by omega) okc.ok, OkO.small okc⟩
 have H1 := hid (fun (he : Ce = false) A2 c2 W (h : Rd W W.heap.size A2 cm) => (show Calls Tryz.prog 96 #[.agg #[o.n, false, .slice A2 cm.length c2], .agg #[av, an]] W (zam (opdR (2 * o.n).toNat cm av an).val W) from by
  obtain ⟨N, hNt, hN, hn, b9, c7⟩ := b4 he
  rw [hNt]
  exact zaB o.n cm N av an A2 c2 W hN hn b9 hav h))
 have H2 := hid (fun (he : Ce = false) A2 c2 W (h : Rd W W.heap.size A2 cm) => (show Calls Tryz.prog 96 #[.agg #[o.n, false, .slice A2 cm.length c2], .agg #[bv, bn]] W (zam (opdR (2 * o.n).toNat cm bv bn).val W) from by
  obtain ⟨N, hNt, hN, hn, b9, c7⟩ := b4 he
  rw [hNt]
  exact zaB o.n cm N bv bn A2 c2 W hN hn b9 hbv h))
 have I1 := zao (2 * o.n).toNat cm av an ian
 have I2 := zao (2 * o.n).toNat cm bv bn ib
 dsimp only
 generalize opdR (2 * o.n).toNat cm av an = r at *
 generalize opdR (2 * o.n).toNat cm bv bn = s at *
 clear okc b4 hav hbv ib ian
 have HF := hid (fun W => zbV 8 r s I1 I2 W)
 clear I1 I2
 generalize fitsK 8 r s = Q at *
 rw [Rg.val_eq] at H1 H2 HF
 rw [Rg.val_eq] at HF
 have hB : w.heap.size ≤ w.heap.size := Nat.le_refl _
 obtain ⟨p0, p1, a0, c8⟩ := zal w #[o.n, o.e, .slice A o.m.length cap] #[fr, te, .int .i64 8, dst, arr, op, av, an, bv, bn] 24 44
 clear c8
 replace hx := hx.up a0
 go_enter Tryz.func45, Tryz.ntmps45
 have c1 := zaa p0
 have a9 := zae p1
 go_wp2_with fail
 clear c1 a9
 generalize (w.alloc (Obj.cells #[o.n, o.e, .slice A o.m.length cap] 24)).alloc (Obj.cells #[fr, te, .int .i64 8, dst, arr, op, av, an, bv, bn] 44) = w1 at *
 have hB2 := a0.size
 (with_reducible refine (HC.out w1 hx).mono ?_)
 rintro c5 w2 ⟨A2, c2, s2, rfl, own, a1⟩
 clear HC hx p0
 replace p1 := p1.later a1
 replace a0 := bup a0 a1
 clear a1
 dsimp only at own
 have sx := Sx.of_own own hB2
 clear own hB2
 cases Ce with
 | true =>
  have k0 := zae p1
  obtain ⟨p7, b3, -⟩ := zak w2 #[o.n, true, .slice A2 cm.length c2] 24
  replace p1 := p1.later b3
  replace sx := sx.later b3 (Nat.le_trans hB a0.size)
  replace a0 := bup a0 b3
  have b8 := zaa p7
  have a9 := zae p1
  go_wp2
  go_ret
  exact ⟨rfl, a0⟩
 | false =>
  have k0 := zae p1
  obtain ⟨p7, b3, -⟩ := zak w2 #[o.n, false, .slice A2 cm.length c2] 24
  replace p1 := p1.later b3
  replace sx := sx.later b3 (Nat.le_trans hB a0.size)
  replace a0 := bup a0 b3
  have b8 := zaa p7
  have a9 := zae p1
  go_upto_region 24 with fail
  clear b8 a9
  clear k0
  generalize w2.alloc (Obj.cells #[o.n, false, .slice A2 cm.length c2] 24) = w3 at *
  have f0 := zab (show w3.cell? ⟨w2.heap.size, 0, none⟩ = some (.int .i64 o.n) from p7.cell 0)
  have f1 := zab (show w3.cell? ⟨w2.heap.size, 1, none⟩ = some (.bool false) from p7.cell 1)
  have f2 := zab (show w3.cell? ⟨w2.heap.size, 2, none⟩ = some (.slice A2 cm.length c2) from p7.cell 2)
  have j2 := zab (show w3.cell? ⟨w.heap.size + 1, 2, none⟩ = some (.int .i64 8) from p1.cell 2)
  have j6 := zab (show w3.cell? ⟨w.heap.size + 1, 6, none⟩ = some (.int .i64 av) from p1.cell 6)
  have j7 := zab (show w3.cell? ⟨w.heap.size + 1, 7, none⟩ = some (.int .i64 an) from p1.cell 7)
  have j8 := zab (show w3.cell? ⟨w.heap.size + 1, 8, none⟩ = some (.int .i64 bv) from p1.cell 8)
  have j9 := zab (show w3.cell? ⟨w.heap.size + 1, 9, none⟩ = some (.int .i64 bn) from p1.cell 9)
  refine zac 10 [Sp.val (.pointer (some ⟨w.heap.size + 1, 2, none⟩)), Sp.val (.int .i64 8), Sp.val (.agg #[o.n, false, .slice A2 cm.length c2]), Sp.val (.pointer (some ⟨w.heap.size + 1, 6, none⟩)), Sp.val (.agg #[av, an]), Sp.val (.agg #[r.lo, r.hi, r.hl, r.hh]), Sp.val (.agg #[o.n, false, .slice A2 cm.length c2]), Sp.val (.pointer (some ⟨w.heap.size + 1, 8, none⟩)), Sp.val (.agg #[bv, bn]), Sp.val (.agg #[s.lo, s.hi, s.hl, s.hh])] (by kernel_rfl) (by kernel_rfl) ?_
  iterate 5 (refine fe_t (fun _ _ => ?_))
  refine zaf.callFV (by rfl) (fun W hW hf => ⟨96, #[.agg #[o.n, false, .slice A2 cm.length c2], .agg #[av, an]], by go_simp, H1.out (by first | rfl | trivial) A2 c2 W ((sx.later (Ext.trans (Below.refl _ _).drew hW) (Nat.le_trans hB a0.size)).rd (Nat.le_trans (Nat.le_trans hB a0.size) (Ext.trans (Below.refl _ _).drew hW : Below w3.heap.size w3 W).size))⟩) (fun _ _ => ?_)
  refine fe_p ?_
  iterate 3 (refine fe_t (fun _ _ => ?_))
  refine zaf.callFV (by rfl) (fun W hW hf => ⟨96, #[.agg #[o.n, false, .slice A2 cm.length c2], .agg #[bv, bn]], by go_simp, H2.out (by first | rfl | trivial) A2 c2 W ((sx.later (Ext.trans (Below.refl _ _).drew hW) (Nat.le_trans hB a0.size)).rd (Nat.le_trans (Nat.le_trans hB a0.size) (Ext.trans (Below.refl _ _).drew hW : Below w3.heap.size w3 W).size))⟩) (fun _ _ => ?_)
  refine fe_p ?_
  refine zaf.tail (fun W2 hW hf hd => ?_)
  replace hW : Below w3.heap.size w3 W2 := Ext.trans (Below.refl _ _).drew hW
  replace a0 := bup a0 hW
  clear hf hd hW f0 f1 f2 j2 j6 j7 j8 j9
  go_wp2_with fail
  (with_reducible refine (HF.out W2).mono ?_)
  rintro e9 w9 ⟨rfl, c9⟩
  go_wp2
  go_ret
  exact ⟨by cases Q <;> rfl, bup a0 c9⟩
theorem zl6 (o : O) (fr te dst arr op av an bv bn sz : Int) (hbv : bv < o.n) (ib : I64 bn) (hk : check o = 0) (hav : av < o.n) (ian : I64 an) (C : O) (hC : C = closeO o) (A : Option Addr) (cap : Nat) (w : World) (hx : Rd w w.heap.size A o.m) (hm : o.m.length ≤ 17592186044416) :
  Calls Tryz.prog 45 #[.agg #[o.n, o.e, .slice A o.m.length cap], .agg #[fr, te, .int .i64 9, dst, arr, op, av, an, bv, bn], sz] w fun e w' => e = .returned (.bool (C.e || true)) ∧ Below w.heap.size w w' := by
 have okc : OkO o.n C := hC ▸ (⟨rfl, hk⟩ : OkO o.n o).close
 have HC := hid (fun W (h : Rd W W.heap.size A o.m) => (show Calls Tryz.prog 95 #[.agg #[o.n, o.e, .slice A o.m.length cap]] W (zcx W C) from by rw [hC]; exact zbi o A cap W h hm hk))
 clear hC hk
 have hn := okc.n_
 obtain ⟨CN, Ce, cm⟩ := C
 dsimp only at hn
 subst hn
 have b4 : Ce = false → ∃ N : Nat, (2 * o.n).toNat = N ∧ (N : Int) = 2 * o.n ∧ N ≤ 128 ∧ Cells N cm ∧ cm.length ≤ 17592186044416 := by
  intro he
  subst he
  obtain ⟨n0, n1, _, _⟩ := zas okc.ok
  dsimp only at n0 n1
  exact ⟨(2 * o.n).toNat, rfl, by omega, by omega, zaz (by omega) okc.ok, OkO.small okc⟩
 have H1 := hid (fun (he : Ce = false) A2 c2 W (h : Rd W W.heap.size A2 cm) => (show Calls Tryz.prog 96 #[.agg #[o.n, false, .slice A2 cm.length c2], .agg #[av, an]] W (zam (opdR (2 * o.n).toNat cm av an).val W) from by
  obtain ⟨N, hNt, hN, hn, b9, c7⟩ := b4 he
  rw [hNt]
  exact zaB o.n cm N av an A2 c2 W hN hn b9 hav h))
 have H2 := hid (fun (he : Ce = false) A2 c2 W (h : Rd W W.heap.size A2 cm) => (show Calls Tryz.prog 96 #[.agg #[o.n, false, .slice A2 cm.length c2], .agg #[bv, bn]] W (zam (opdR (2 * o.n).toNat cm bv bn).val W) from by
  obtain ⟨N, hNt, hN, hn, b9, c7⟩ := b4 he
  rw [hNt]
  exact zaB o.n cm N bv bn A2 c2 W hN hn b9 hbv h))
 have I1 := zao (2 * o.n).toNat cm av an ian
 have I2 := zao (2 * o.n).toNat cm bv bn ib
 dsimp only
 generalize opdR (2 * o.n).toNat cm av an = r at *
 generalize opdR (2 * o.n).toNat cm bv bn = s at *
 clear okc b4 hav hbv ib ian
 clear I1 I2 H1 H2
 have hB : w.heap.size ≤ w.heap.size := Nat.le_refl _
 obtain ⟨p0, p1, a0, c8⟩ := zal w #[o.n, o.e, .slice A o.m.length cap] #[fr, te, .int .i64 9, dst, arr, op, av, an, bv, bn] 24 44
 clear c8
 replace hx := hx.up a0
 go_enter Tryz.func45, Tryz.ntmps45
 have c1 := zaa p0
 have a9 := zae p1
 go_wp2_with fail
 clear c1 a9
 generalize (w.alloc (Obj.cells #[o.n, o.e, .slice A o.m.length cap] 24)).alloc (Obj.cells #[fr, te, .int .i64 9, dst, arr, op, av, an, bv, bn] 44) = w1 at *
 have hB2 := a0.size
 (with_reducible refine (HC.out w1 hx).mono ?_)
 rintro c5 w2 ⟨A2, c2, s2, rfl, own, a1⟩
 clear HC hx p0
 replace p1 := p1.later a1
 replace a0 := bup a0 a1
 clear a1
 dsimp only at own
 have sx := Sx.of_own own hB2
 clear own hB2
 cases Ce with
 | true =>
  have k0 := zae p1
  obtain ⟨p7, b3, -⟩ := zak w2 #[o.n, true, .slice A2 cm.length c2] 24
  replace p1 := p1.later b3
  replace sx := sx.later b3 (Nat.le_trans hB a0.size)
  replace a0 := bup a0 b3
  have b8 := zaa p7
  have a9 := zae p1
  go_wp2
  go_ret
  exact ⟨rfl, a0⟩
 | false =>
  have k0 := zae p1
  obtain ⟨p7, b3, -⟩ := zak w2 #[o.n, false, .slice A2 cm.length c2] 24
  replace p1 := p1.later b3
  replace sx := sx.later b3 (Nat.le_trans hB a0.size)
  replace a0 := bup a0 b3
  have b8 := zaa p7
  have a9 := zae p1
  go_wp2
  go_ret
  exact ⟨rfl, a0⟩
theorem zk7 (o : O) (fr te dst arr op av an bv bn sz : Int) (hbv : bv < o.n) (ib : I64 bn) (hk : check o = 0) (hav : av < o.n) (ian : I64 an) (C : O) (hC : C = closeO o) (A : Option Addr) (cap : Nat) (w : World) (hx : Rd w w.heap.size A o.m) (hm : o.m.length ≤ 17592186044416) :
  Calls Tryz.prog 45 #[.agg #[o.n, o.e, .slice A o.m.length cap], .agg #[fr, te, .int .i64 10, dst, arr, op, av, an, bv, bn], sz] w fun e w' => e = .returned (.bool (C.e || placeB (opdR (2 * C.n).toNat C.m av an) sz)) ∧ Below w.heap.size w w' := by
 have okc : OkO o.n C := hC ▸ (⟨rfl, hk⟩ : OkO o.n o).close
 have HC := hid (fun W (h : Rd W W.heap.size A o.m) => (show Calls Tryz.prog 95 #[.agg #[o.n, o.e, .slice A o.m.length cap]] W (zcx W C) from by rw [hC]; exact zbi o A cap W h hm hk))
 clear hC hk
 have hn := okc.n_
 obtain ⟨CN, Ce, cm⟩ := C
 dsimp only at hn
 subst hn
 have b4 : Ce = false → ∃ N : Nat, (2 * o.n).toNat = N ∧ (N : Int) = 2 * o.n ∧ N ≤ 128 ∧ Cells N cm ∧ cm.length ≤ 17592186044416 := by
  intro he
  subst he
  obtain ⟨n0, n1, _, _⟩ := zas okc.ok
  dsimp only at n0 n1
  exact ⟨(2 * o.n).toNat, rfl, by omega, by omega, zaz (by omega) okc.ok, OkO.small okc⟩
 have H1 := hid (fun (he : Ce = false) A2 c2 W (h : Rd W W.heap.size A2 cm) => (show Calls Tryz.prog 96 #[.agg #[o.n, false, .slice A2 cm.length c2], .agg #[av, an]] W (zam (opdR (2 * o.n).toNat cm av an).val W) from by
  obtain ⟨N, hNt, hN, hn, b9, c7⟩ := b4 he
  rw [hNt]
  exact zaB o.n cm N av an A2 c2 W hN hn b9 hav h))
 have H2 := hid (fun (he : Ce = false) A2 c2 W (h : Rd W W.heap.size A2 cm) => (show Calls Tryz.prog 96 #[.agg #[o.n, false, .slice A2 cm.length c2], .agg #[bv, bn]] W (zam (opdR (2 * o.n).toNat cm bv bn).val W) from by
  obtain ⟨N, hNt, hN, hn, b9, c7⟩ := b4 he
  rw [hNt]
  exact zaB o.n cm N bv bn A2 c2 W hN hn b9 hbv h))
 have I1 := zao (2 * o.n).toNat cm av an ian
 have I2 := zao (2 * o.n).toNat cm bv bn ib
 dsimp only
 generalize opdR (2 * o.n).toNat cm av an = r at *
 generalize opdR (2 * o.n).toNat cm bv bn = s at *
 clear okc b4 hav hbv ib ian
 have HQ : Hid (placeB r sz = (((r.hl && r.hh) && decide (0 ≤ r.lo)) && decide (r.hi < sz))) := hid rfl
 generalize placeB r sz = Q at *
 clear I1 I2
 rw [Rg.val_eq] at H1
 have hB : w.heap.size ≤ w.heap.size := Nat.le_refl _
 obtain ⟨p0, p1, a0, c8⟩ := zal w #[o.n, o.e, .slice A o.m.length cap] #[fr, te, .int .i64 10, dst, arr, op, av, an, bv, bn] 24 44
 clear c8
 replace hx := hx.up a0
 go_enter Tryz.func45, Tryz.ntmps45
 have c1 := zaa p0
 have a9 := zae p1
 go_wp2_with fail
 clear c1 a9
 generalize (w.alloc (Obj.cells #[o.n, o.e, .slice A o.m.length cap] 24)).alloc (Obj.cells #[fr, te, .int .i64 10, dst, arr, op, av, an, bv, bn] 44) = w1 at *
 have hB2 := a0.size
 (with_reducible refine (HC.out w1 hx).mono ?_)
 rintro c5 w2 ⟨A2, c2, s2, rfl, own, a1⟩
 clear HC hx p0
 replace p1 := p1.later a1
 replace a0 := bup a0 a1
 clear a1
 dsimp only at own
 have sx := Sx.of_own own hB2
 clear own hB2
 cases Ce with
 | true =>
  have k0 := zae p1
  obtain ⟨p7, b3, -⟩ := zak w2 #[o.n, true, .slice A2 cm.length c2] 24
  replace p1 := p1.later b3
  replace sx := sx.later b3 (Nat.le_trans hB a0.size)
  replace a0 := bup a0 b3
  have b8 := zaa p7
  have a9 := zae p1
  go_wp2
  go_ret
  exact ⟨rfl, a0⟩
 | false =>
  have k0 := zae p1
  obtain ⟨p7, b3, -⟩ := zak w2 #[o.n, false, .slice A2 cm.length c2] 24
  replace p1 := p1.later b3
  replace sx := sx.later b3 (Nat.le_trans hB a0.size)
  replace a0 := bup a0 b3
  have b8 := zaa p7
  have a9 := zae p1
  go_wp2_with fail
  clear b8 a9
  clear k0
  generalize w2.alloc (Obj.cells #[o.n, false, .slice A2 cm.length c2] 24) = w3 at *
  (with_reducible refine (H1.out (by first | rfl | trivial) A2 c2 w3 (sx.rd a0.size)).mono ?_)
  rintro d0 w4 ⟨rfl, c6⟩
  clear sx H1 p1
  replace p7 := p7.later c6
  replace a0 := bup a0 c6
  clear c6
  have hQ := HQ.out
  clear HQ
  obtain ⟨lo, hi, hl, hh⟩ := r
  dsimp only at *
  obtain ⟨p9, b3, -⟩ := zak w4 #[lo, hi, hl, hh] 49
  replace p7 := p7.later b3
  replace a0 := bup a0 b3
  have x0 := zag p9
  cases hl <;> cases hh <;> cases t8 : decide (0 ≤ lo) <;> cases t9 : decide (hi < sz)
  all_goals
   rw [t8, t9] at hQ
   subst hQ
   go_wp2
   go_ret
   exact ⟨rfl, a0⟩
theorem zlC (o : O) (fr te dst arr op av an bv bn sz : Int) (hbv : bv < o.n) (ib : I64 bn) (hk : check o = 0) (hav : av < o.n) (ian : I64 an) (C : O) (hC : C = closeO o) (A : Option Addr) (cap : Nat) (w : World) (hx : Rd w w.heap.size A o.m) (hm : o.m.length ≤ 17592186044416) :
  Calls Tryz.prog 45 #[.agg #[o.n, o.e, .slice A o.m.length cap], .agg #[fr, te, .int .i64 11, dst, arr, op, av, an, bv, bn], sz] w fun e w' => e = .returned (.bool (C.e || placeB (opdR (2 * C.n).toNat C.m av an) sz)) ∧ Below w.heap.size w w' := by
 have okc : OkO o.n C := hC ▸ (⟨rfl, hk⟩ : OkO o.n o).close
 have HC := hid (fun W (h : Rd W W.heap.size A o.m) => (show Calls Tryz.prog 95 #[.agg #[o.n, o.e, .slice A o.m.length cap]] W (zcx W C) from by rw [hC]; exact zbi o A cap W h hm hk))
 clear hC hk
 have hn := okc.n_
 obtain ⟨CN, Ce, cm⟩ := C
 dsimp only at hn
 subst hn
 have b4 : Ce = false → ∃ N : Nat, (2 * o.n).toNat = N ∧ (N : Int) = 2 * o.n ∧ N ≤ 128 ∧ Cells N cm ∧ cm.length ≤ 17592186044416 := by
  intro he
  subst he
  obtain ⟨n0, n1, _, _⟩ := zas okc.ok
  dsimp only at n0 n1
  exact ⟨(2 * o.n).toNat, rfl, by omega, by omega, zaz (by omega) okc.ok, OkO.small okc⟩
 have H1 := hid (fun (he : Ce = false) A2 c2 W (h : Rd W W.heap.size A2 cm) => (show Calls Tryz.prog 96 #[.agg #[o.n, false, .slice A2 cm.length c2], .agg #[av, an]] W (zam (opdR (2 * o.n).toNat cm av an).val W) from by
  obtain ⟨N, hNt, hN, hn, b9, c7⟩ := b4 he
  rw [hNt]
  exact zaB o.n cm N av an A2 c2 W hN hn b9 hav h))
 have H2 := hid (fun (he : Ce = false) A2 c2 W (h : Rd W W.heap.size A2 cm) => (show Calls Tryz.prog 96 #[.agg #[o.n, false, .slice A2 cm.length c2], .agg #[bv, bn]] W (zam (opdR (2 * o.n).toNat cm bv bn).val W) from by
  obtain ⟨N, hNt, hN, hn, b9, c7⟩ := b4 he
  rw [hNt]
  exact zaB o.n cm N bv bn A2 c2 W hN hn b9 hbv h))
 have I1 := zao (2 * o.n).toNat cm av an ian
 have I2 := zao (2 * o.n).toNat cm bv bn ib
 dsimp only
 generalize opdR (2 * o.n).toNat cm av an = r at *
 generalize opdR (2 * o.n).toNat cm bv bn = s at *
 clear okc b4 hav hbv ib ian
 have HQ : Hid (placeB r sz = (((r.hl && r.hh) && decide (0 ≤ r.lo)) && decide (r.hi < sz))) := hid rfl
 generalize placeB r sz = Q at *
 clear I1 I2
 rw [Rg.val_eq] at H1
 have hB : w.heap.size ≤ w.heap.size := Nat.le_refl _
 obtain ⟨p0, p1, a0, c8⟩ := zal w #[o.n, o.e, .slice A o.m.length cap] #[fr, te, .int .i64 11, dst, arr, op, av, an, bv, bn] 24 44
 clear c8
 replace hx := hx.up a0
 go_enter Tryz.func45, Tryz.ntmps45
 have c1 := zaa p0
 have a9 := zae p1
 go_wp2_with fail
 clear c1 a9
 generalize (w.alloc (Obj.cells #[o.n, o.e, .slice A o.m.length cap] 24)).alloc (Obj.cells #[fr, te, .int .i64 11, dst, arr, op, av, an, bv, bn] 44) = w1 at *
 have hB2 := a0.size
 (with_reducible refine (HC.out w1 hx).mono ?_)
 rintro c5 w2 ⟨A2, c2, s2, rfl, own, a1⟩
 clear HC hx p0
 replace p1 := p1.later a1
 replace a0 := bup a0 a1
 clear a1
 dsimp only at own
 have sx := Sx.of_own own hB2
 clear own hB2
 cases Ce with
 | true =>
  have k0 := zae p1
  obtain ⟨p7, b3, -⟩ := zak w2 #[o.n, true, .slice A2 cm.length c2] 24
  replace p1 := p1.later b3
  replace sx := sx.later b3 (Nat.le_trans hB a0.size)
  replace a0 := bup a0 b3
  have b8 := zaa p7
  have a9 := zae p1
  go_wp2
  go_ret
  exact ⟨rfl, a0⟩
 | false =>
  have k0 := zae p1
  obtain ⟨p7, b3, -⟩ := zak w2 #[o.n, false, .slice A2 cm.length c2] 24
  replace p1 := p1.later b3
  replace sx := sx.later b3 (Nat.le_trans hB a0.size)
  replace a0 := bup a0 b3
  have b8 := zaa p7
  have a9 := zae p1
  go_wp2_with fail
  clear b8 a9
  clear k0
  generalize w2.alloc (Obj.cells #[o.n, false, .slice A2 cm.length c2] 24) = w3 at *
  (with_reducible refine (H1.out (by first | rfl | trivial) A2 c2 w3 (sx.rd a0.size)).mono ?_)
  rintro d0 w4 ⟨rfl, c6⟩
  clear sx H1 p1
  replace p7 := p7.later c6
  replace a0 := bup a0 c6
  clear c6
  have hQ := HQ.out
  clear HQ
  obtain ⟨lo, hi, hl, hh⟩ := r
  dsimp only at *
  obtain ⟨p9, b3, -⟩ := zak w4 #[lo, hi, hl, hh] 49
  replace p7 := p7.later b3
  replace a0 := bup a0 b3
  have x0 := zag p9
  cases hl <;> cases hh <;> cases t8 : decide (0 ≤ lo) <;> cases t9 : decide (hi < sz)
  all_goals
   rw [t8, t9] at hQ
   subst hQ
   go_wp2
   go_ret
   exact ⟨rfl, a0⟩
theorem zk3 (o : O) (fr te dst arr op av an bv bn sz : Int) (hbv : bv < o.n) (ib : I64 bn) (hk : check o = 0) (hav : av < o.n) (ian : I64 an) (C : O) (hC : C = closeO o) (A : Option Addr) (cap : Nat) (w : World) (hx : Rd w w.heap.size A o.m) (hm : o.m.length ≤ 17592186044416) :
  Calls Tryz.prog 45 #[.agg #[o.n, o.e, .slice A o.m.length cap], .agg #[fr, te, .int .i64 12, dst, arr, op, av, an, bv, bn], sz] w fun e w' => e = .returned (.bool (C.e || true)) ∧ Below w.heap.size w w' := by
 have okc : OkO o.n C := hC ▸ (⟨rfl, hk⟩ : OkO o.n o).close
 have HC := hid (fun W (h : Rd W W.heap.size A o.m) => (show Calls Tryz.prog 95 #[.agg #[o.n, o.e, .slice A o.m.length cap]] W (zcx W C) from by rw [hC]; exact zbi o A cap W h hm hk))
 clear hC hk
 have hn := okc.n_
 obtain ⟨CN, Ce, cm⟩ := C
 dsimp only at hn
 subst hn
 have b4 : Ce = false → ∃ N : Nat, (2 * o.n).toNat = N ∧ (N : Int) = 2 * o.n ∧ N ≤ 128 ∧ Cells N cm ∧ cm.length ≤ 17592186044416 := by
  intro he
  subst he
  obtain ⟨n0, n1, _, _⟩ := zas okc.ok
  dsimp only at n0 n1
  exact ⟨(2 * o.n).toNat, rfl, by omega, by omega, zaz (by omega) okc.ok, OkO.small okc⟩
 have H1 := hid (fun (he : Ce = false) A2 c2 W (h : Rd W W.heap.size A2 cm) => (show Calls Tryz.prog 96 #[.agg #[o.n, false, .slice A2 cm.length c2], .agg #[av, an]] W (zam (opdR (2 * o.n).toNat cm av an).val W) from by
  obtain ⟨N, hNt, hN, hn, b9, c7⟩ := b4 he
  rw [hNt]
  exact zaB o.n cm N av an A2 c2 W hN hn b9 hav h))
 have H2 := hid (fun (he : Ce = false) A2 c2 W (h : Rd W W.heap.size A2 cm) => (show Calls Tryz.prog 96 #[.agg #[o.n, false, .slice A2 cm.length c2], .agg #[bv, bn]] W (zam (opdR (2 * o.n).toNat cm bv bn).val W) from by
  obtain ⟨N, hNt, hN, hn, b9, c7⟩ := b4 he
  rw [hNt]
  exact zaB o.n cm N bv bn A2 c2 W hN hn b9 hbv h))
 have I1 := zao (2 * o.n).toNat cm av an ian
 have I2 := zao (2 * o.n).toNat cm bv bn ib
 dsimp only
 generalize opdR (2 * o.n).toNat cm av an = r at *
 generalize opdR (2 * o.n).toNat cm bv bn = s at *
 clear okc b4 hav hbv ib ian
 clear I1 I2 H1 H2
 have hB : w.heap.size ≤ w.heap.size := Nat.le_refl _
 obtain ⟨p0, p1, a0, c8⟩ := zal w #[o.n, o.e, .slice A o.m.length cap] #[fr, te, .int .i64 12, dst, arr, op, av, an, bv, bn] 24 44
 clear c8
 replace hx := hx.up a0
 go_enter Tryz.func45, Tryz.ntmps45
 have c1 := zaa p0
 have a9 := zae p1
 go_wp2_with fail
 clear c1 a9
 generalize (w.alloc (Obj.cells #[o.n, o.e, .slice A o.m.length cap] 24)).alloc (Obj.cells #[fr, te, .int .i64 12, dst, arr, op, av, an, bv, bn] 44) = w1 at *
 have hB2 := a0.size
 (with_reducible refine (HC.out w1 hx).mono ?_)
 rintro c5 w2 ⟨A2, c2, s2, rfl, own, a1⟩
 clear HC hx p0
 replace p1 := p1.later a1
 replace a0 := bup a0 a1
 clear a1
 dsimp only at own
 have sx := Sx.of_own own hB2
 clear own hB2
 cases Ce with
 | true =>
  have k0 := zae p1
  obtain ⟨p7, b3, -⟩ := zak w2 #[o.n, true, .slice A2 cm.length c2] 24
  replace p1 := p1.later b3
  replace sx := sx.later b3 (Nat.le_trans hB a0.size)
  replace a0 := bup a0 b3
  have b8 := zaa p7
  have a9 := zae p1
  go_wp2
  go_ret
  exact ⟨rfl, a0⟩
 | false =>
  have k0 := zae p1
  obtain ⟨p7, b3, -⟩ := zak w2 #[o.n, false, .slice A2 cm.length c2] 24
  replace p1 := p1.later b3
  replace sx := sx.later b3 (Nat.le_trans hB a0.size)
  replace a0 := bup a0 b3
  have b8 := zaa p7
  have a9 := zae p1
  go_wp2
  go_ret
  exact ⟨rfl, a0⟩
theorem zlp (o : O) (fr te dst arr op av an bv bn sz : Int) (hbv : bv < o.n) (ib : I64 bn) (hk : check o = 0) (hav : av < o.n) (ian : I64 an) (C : O) (hC : C = closeO o) (A : Option Addr) (cap : Nat) (w : World) (hx : Rd w w.heap.size A o.m) (hm : o.m.length ≤ 17592186044416) :
  Calls Tryz.prog 45 #[.agg #[o.n, o.e, .slice A o.m.length cap], .agg #[fr, te, .int .i64 13, dst, arr, op, av, an, bv, bn], sz] w fun e w' => e = .returned (.bool (C.e || true)) ∧ Below w.heap.size w w' := by
 have okc : OkO o.n C := hC ▸ (⟨rfl, hk⟩ : OkO o.n o).close
 have HC := hid (fun W (h : Rd W W.heap.size A o.m) => (show Calls Tryz.prog 95 #[.agg #[o.n, o.e, .slice A o.m.length cap]] W (zcx W C) from by rw [hC]; exact zbi o A cap W h hm hk))
 clear hC hk
 have hn := okc.n_
 obtain ⟨CN, Ce, cm⟩ := C
 dsimp only at hn
 subst hn
 have b4 : Ce = false → ∃ N : Nat, (2 * o.n).toNat = N ∧ (N : Int) = 2 * o.n ∧ N ≤ 128 ∧ Cells N cm ∧ cm.length ≤ 17592186044416 := by
  intro he
  subst he
  obtain ⟨n0, n1, _, _⟩ := zas okc.ok
  dsimp only at n0 n1
  exact ⟨(2 * o.n).toNat, rfl, by omega, by omega, zaz (by omega) okc.ok, OkO.small okc⟩
 have H1 := hid (fun (he : Ce = false) A2 c2 W (h : Rd W W.heap.size A2 cm) => (show Calls Tryz.prog 96 #[.agg #[o.n, false, .slice A2 cm.length c2], .agg #[av, an]] W (zam (opdR (2 * o.n).toNat cm av an).val W) from by
  obtain ⟨N, hNt, hN, hn, b9, c7⟩ := b4 he
  rw [hNt]
  exact zaB o.n cm N av an A2 c2 W hN hn b9 hav h))
 have H2 := hid (fun (he : Ce = false) A2 c2 W (h : Rd W W.heap.size A2 cm) => (show Calls Tryz.prog 96 #[.agg #[o.n, false, .slice A2 cm.length c2], .agg #[bv, bn]] W (zam (opdR (2 * o.n).toNat cm bv bn).val W) from by
  obtain ⟨N, hNt, hN, hn, b9, c7⟩ := b4 he
  rw [hNt]
  exact zaB o.n cm N bv bn A2 c2 W hN hn b9 hbv h))
 have I1 := zao (2 * o.n).toNat cm av an ian
 have I2 := zao (2 * o.n).toNat cm bv bn ib
 dsimp only
 generalize opdR (2 * o.n).toNat cm av an = r at *
 generalize opdR (2 * o.n).toNat cm bv bn = s at *
 clear okc b4 hav hbv ib ian
 clear I1 I2 H1 H2
 have hB : w.heap.size ≤ w.heap.size := Nat.le_refl _
 obtain ⟨p0, p1, a0, c8⟩ := zal w #[o.n, o.e, .slice A o.m.length cap] #[fr, te, .int .i64 13, dst, arr, op, av, an, bv, bn] 24 44
 clear c8
 replace hx := hx.up a0
 go_enter Tryz.func45, Tryz.ntmps45
 have c1 := zaa p0
 have a9 := zae p1
 go_wp2_with fail
 clear c1 a9
 generalize (w.alloc (Obj.cells #[o.n, o.e, .slice A o.m.length cap] 24)).alloc (Obj.cells #[fr, te, .int .i64 13, dst, arr, op, av, an, bv, bn] 44) = w1 at *
 have hB2 := a0.size
 (with_reducible refine (HC.out w1 hx).mono ?_)
 rintro c5 w2 ⟨A2, c2, s2, rfl, own, a1⟩
 clear HC hx p0
 replace p1 := p1.later a1
 replace a0 := bup a0 a1
 clear a1
 dsimp only at own
 have sx := Sx.of_own own hB2
 clear own hB2
 cases Ce with
 | true =>
  have k0 := zae p1
  obtain ⟨p7, b3, -⟩ := zak w2 #[o.n, true, .slice A2 cm.length c2] 24
  replace p1 := p1.later b3
  replace sx := sx.later b3 (Nat.le_trans hB a0.size)
  replace a0 := bup a0 b3
  have b8 := zaa p7
  have a9 := zae p1
  go_wp2
  go_ret
  exact ⟨rfl, a0⟩
 | false =>
  have k0 := zae p1
  obtain ⟨p7, b3, -⟩ := zak w2 #[o.n, false, .slice A2 cm.length c2] 24
  replace p1 := p1.later b3
  replace sx := sx.later b3 (Nat.le_trans hB a0.size)
  replace a0 := bup a0 b3
  have b8 := zaa p7
  have a9 := zae p1
  go_wp2
  go_ret
  exact ⟨rfl, a0⟩
theorem zk9 (o : O) (fr te dst arr op av an bv bn sz : Int) (hbv : bv < o.n) (ib : I64 bn) (hk : check o = 0) (hav : av < o.n) (ian : I64 an) (C : O) (hC : C = closeO o) (A : Option Addr) (cap : Nat) (w : World) (hx : Rd w w.heap.size A o.m) (hm : o.m.length ≤ 17592186044416) :
  Calls Tryz.prog 45 #[.agg #[o.n, o.e, .slice A o.m.length cap], .agg #[fr, te, .int .i64 14, dst, arr, op, av, an, bv, bn], sz] w fun e w' => e = .returned (.bool (C.e || false)) ∧ Below w.heap.size w w' := by
 have okc : OkO o.n C := hC ▸ (⟨rfl, hk⟩ : OkO o.n o).close
 have HC := hid (fun W (h : Rd W W.heap.size A o.m) => (show Calls Tryz.prog 95 #[.agg #[o.n, o.e, .slice A o.m.length cap]] W (zcx W C) from by rw [hC]; exact zbi o A cap W h hm hk))
 clear hC hk
 have hn := okc.n_
 obtain ⟨CN, Ce, cm⟩ := C
 dsimp only at hn
 subst hn
 have b4 : Ce = false → ∃ N : Nat, (2 * o.n).toNat = N ∧ (N : Int) = 2 * o.n ∧ N ≤ 128 ∧ Cells N cm ∧ cm.length ≤ 17592186044416 := by
  intro he
  subst he
  obtain ⟨n0, n1, _, _⟩ := zas okc.ok
  dsimp only at n0 n1
  exact ⟨(2 * o.n).toNat, rfl, by omega, by omega, zaz (by omega) okc.ok, OkO.small okc⟩
 have H1 := hid (fun (he : Ce = false) A2 c2 W (h : Rd W W.heap.size A2 cm) => (show Calls Tryz.prog 96 #[.agg #[o.n, false, .slice A2 cm.length c2], .agg #[av, an]] W (zam (opdR (2 * o.n).toNat cm av an).val W) from by
  obtain ⟨N, hNt, hN, hn, b9, c7⟩ := b4 he
  rw [hNt]
  exact zaB o.n cm N av an A2 c2 W hN hn b9 hav h))
 have H2 := hid (fun (he : Ce = false) A2 c2 W (h : Rd W W.heap.size A2 cm) => (show Calls Tryz.prog 96 #[.agg #[o.n, false, .slice A2 cm.length c2], .agg #[bv, bn]] W (zam (opdR (2 * o.n).toNat cm bv bn).val W) from by
  obtain ⟨N, hNt, hN, hn, b9, c7⟩ := b4 he
  rw [hNt]
  exact zaB o.n cm N bv bn A2 c2 W hN hn b9 hbv h))
 have I1 := zao (2 * o.n).toNat cm av an ian
 have I2 := zao (2 * o.n).toNat cm bv bn ib
 dsimp only
 generalize opdR (2 * o.n).toNat cm av an = r at *
 generalize opdR (2 * o.n).toNat cm bv bn = s at *
 clear okc b4 hav hbv ib ian
 clear I1 I2 H1 H2
 have hB : w.heap.size ≤ w.heap.size := Nat.le_refl _
 obtain ⟨p0, p1, a0, c8⟩ := zal w #[o.n, o.e, .slice A o.m.length cap] #[fr, te, .int .i64 14, dst, arr, op, av, an, bv, bn] 24 44
 clear c8
 replace hx := hx.up a0
 go_enter Tryz.func45, Tryz.ntmps45
 have c1 := zaa p0
 have a9 := zae p1
 go_wp2_with fail
 clear c1 a9
 generalize (w.alloc (Obj.cells #[o.n, o.e, .slice A o.m.length cap] 24)).alloc (Obj.cells #[fr, te, .int .i64 14, dst, arr, op, av, an, bv, bn] 44) = w1 at *
 have hB2 := a0.size
 (with_reducible refine (HC.out w1 hx).mono ?_)
 rintro c5 w2 ⟨A2, c2, s2, rfl, own, a1⟩
 clear HC hx p0
 replace p1 := p1.later a1
 replace a0 := bup a0 a1
 clear a1
 dsimp only at own
 have sx := Sx.of_own own hB2
 clear own hB2
 cases Ce with
 | true =>
  have k0 := zae p1
  obtain ⟨p7, b3, -⟩ := zak w2 #[o.n, true, .slice A2 cm.length c2] 24
  replace p1 := p1.later b3
  replace sx := sx.later b3 (Nat.le_trans hB a0.size)
  replace a0 := bup a0 b3
  have b8 := zaa p7
  have a9 := zae p1
  go_wp2
  go_ret
  exact ⟨rfl, a0⟩
 | false =>
  have k0 := zae p1
  obtain ⟨p7, b3, -⟩ := zak w2 #[o.n, false, .slice A2 cm.length c2] 24
  replace p1 := p1.later b3
  replace sx := sx.later b3 (Nat.le_trans hB a0.size)
  replace a0 := bup a0 b3
  have b8 := zaa p7
  have a9 := zae p1
  go_wp2
  go_ret
  exact ⟨rfl, a0⟩
end Go.Proofs.YtnmpgijiimglcaaGreat
