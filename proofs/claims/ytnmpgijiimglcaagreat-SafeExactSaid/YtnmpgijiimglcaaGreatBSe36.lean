import Derived.Test.YtnmpgijiimglcaaGreatBSe29
import Derived.Test.YtnmpgijiimglcaaGreatBSe31
import Derived.Test.YtnmpgijiimglcaaGreatBSe33
import Derived.Test.YtnmpgijiimglcaaGreatBSe34
namespace Go.Proofs.YtnmpgijiimglcaaGreat
open Go.RowKit
set_option maxRecDepth 100000
set_option maxHeartbeats 8000000
attribute [local go_sem ↓] Go.wp_at_zero Go.wp_at_succ
theorem zlO (o : O) (fr te dst arr op av an bv bn sz : Int) (hbv : bv < o.n) (ib : I64 bn) (hk : check o = 0) (hav : av < o.n) (ian : I64 an) (C : O) (hC : C = closeO o) (A : Option Addr) (cap : Nat) (w : World) (hx : Rd w w.heap.size A o.m) (hm : o.m.length ≤ 17592186044416) :
  Calls Tryz.prog 45 #[.agg #[o.n, o.e, .slice A o.m.length cap], .agg #[fr, te, .int .i64 4, dst, arr, op, av, an, bv, bn], sz] w fun e w' => e = .returned (.bool (C.e || ((decide (0 ≤ av) && decide (0 ≤ bv) && wholeB (sumR (2 * C.n).toNat C.m av.toNat bv.toNat)) || fitsK 4 (opdR (2 * C.n).toNat C.m av an) (opdR (2 * C.n).toNat C.m bv bn)))) ∧ Below w.heap.size w w' := by
 have okc : OkO o.n C := hC ▸ (⟨rfl, hk⟩ : OkO o.n o).close
 have HC := hid (fun W (h : Rd W W.heap.size A o.m) => (show Calls Tryz.prog 95 #[.agg #[o.n, o.e, .slice A o.m.length cap]] W (zcx W C) from by rw [hC]; exact zbi o A cap W h hm hk))
 clear hC hk
 have hn := okc.n_
 obtain ⟨CN, Ce, cm⟩ := C
 dsimp only at hn
 subst hn
 have c4 : Ce = false → ∃ N : Nat, (2 * o.n).toNat = N ∧ (N : Int) = 2 * o.n ∧ N ≤ 128 ∧ Cells N cm ∧ cm.length ≤ 17592186044416 := by
  intro he
  subst he
  obtain ⟨n0, n1, _, _⟩ := zas okc.ok
  dsimp only at n0 n1
  exact ⟨(2 * o.n).toNat, rfl, by omega, by omega, zaz (by omega) okc.ok, OkO.small okc⟩
 have H1 := hid (fun (he : Ce = false) A2 c2 W (h : Rd W W.heap.size A2 cm) => (show Calls Tryz.prog 96 #[.agg #[o.n, false, .slice A2 cm.length c2], .agg #[av, an]] W (zam (opdR (2 * o.n).toNat cm av an).val W) from by
  obtain ⟨N, hNt, hN, hn, c8, d0⟩ := c4 he
  rw [hNt]
  exact zaB o.n cm N av an A2 c2 W hN hn c8 hav h))
 have H2 := hid (fun (he : Ce = false) A2 c2 W (h : Rd W W.heap.size A2 cm) => (show Calls Tryz.prog 96 #[.agg #[o.n, false, .slice A2 cm.length c2], .agg #[bv, bn]] W (zam (opdR (2 * o.n).toNat cm bv bn).val W) from by
  obtain ⟨N, hNt, hN, hn, c8, d0⟩ := c4 he
  rw [hNt]
  exact zaB o.n cm N bv bn A2 c2 W hN hn c8 hbv h))
 have I1 := zao (2 * o.n).toNat cm av an ian
 have I2 := zao (2 * o.n).toNat cm bv bn ib
 have HS := hid (fun (he : Ce = false) (ha : 0 ≤ av) (hb : 0 ≤ bv) A2 c2 W (h : Rd W W.heap.size A2 cm) => (show Calls Tryz.prog 97 #[.agg #[o.n, false, .slice A2 cm.length c2], av, bv] W (zam (sumR (2 * o.n).toNat cm av.toNat bv.toNat).val W) from by
  obtain ⟨N, hNt, hN, hn, c8, d0⟩ := c4 he
  obtain ⟨u, rfl⟩ : ∃ u : Nat, av = (u : Int) := ⟨av.toNat, by omega⟩
  obtain ⟨v, rfl⟩ : ∃ v : Nat, bv = (v : Int) := ⟨bv.toNat, by omega⟩
  rw [hNt]
  exact zhc o.n cm N u v A2 c2 W hN hn c8 (by omega) (by omega) h))
 have HD := hid (fun (he : Ce = false) (ha : 0 ≤ av) (hb : 0 ≤ bv) A2 c2 W (h : Rd W W.heap.size A2 cm) => (show Calls Tryz.prog 98 #[.agg #[o.n, false, .slice A2 cm.length c2], av, bv] W (zam (diffR (2 * o.n).toNat cm av.toNat bv.toNat).val W) from by
  obtain ⟨N, hNt, hN, hn, c8, d0⟩ := c4 he
  obtain ⟨u, rfl⟩ : ∃ u : Nat, av = (u : Int) := ⟨av.toNat, by omega⟩
  obtain ⟨v, rfl⟩ : ∃ v : Nat, bv = (v : Int) := ⟨bv.toNat, by omega⟩
  rw [hNt]
  exact zgd o.n cm N u v A2 c2 W hN hn c8 (by omega) (by omega) h))
 dsimp only
 generalize sumR (2 * o.n).toNat cm av.toNat bv.toNat = q at *
 generalize diffR (2 * o.n).toNat cm av.toNat bv.toNat = d at *
 generalize opdR (2 * o.n).toNat cm av an = r at *
 generalize opdR (2 * o.n).toNat cm bv bn = s at *
 clear okc c4 hav hbv ib ian
 have HF := hid (fun W => zbV 4 r s I1 I2 W)
 clear I1 I2
 generalize fitsK 4 r s = Q at *
 rw [Rg.val_eq] at H1 H2 HF
 rw [Rg.val_eq] at HF
 rw [Rg.val_eq] at HS HD
 have d5 : Hid (wholeB q = (q.hl && q.hh)) := hid rfl
 generalize wholeB q = T at *
 have hB : w.heap.size ≤ w.heap.size := Nat.le_refl _
 obtain ⟨p0, p1, a0, d8⟩ := zal w #[o.n, o.e, .slice A o.m.length cap] #[fr, te, .int .i64 4, dst, arr, op, av, an, bv, bn] 24 44
 clear d8
 replace hx := hx.up a0
 go_enter Tryz.func45, Tryz.ntmps45
 have d1 := zaa p0
 have a8 := zae p1
 go_wp2_with fail
 clear d1 a8
 generalize (w.alloc (Obj.cells #[o.n, o.e, .slice A o.m.length cap] 24)).alloc (Obj.cells #[fr, te, .int .i64 4, dst, arr, op, av, an, bv, bn] 44) = w1 at *
 have hB2 := a0.size
 (with_reducible refine (HC.out w1 hx).mono ?_)
 rintro d6 w2 ⟨A2, c2, s2, rfl, own, c6⟩
 clear HC hx p0
 replace p1 := p1.later c6
 replace a0 := bup a0 c6
 clear c6
 dsimp only at own
 have sx := Sx.of_own own hB2
 clear own hB2
 cases Ce with
 | true =>
  have k0 := zae p1
  obtain ⟨p7, b6, -⟩ := zak w2 #[o.n, true, .slice A2 cm.length c2] 24
  replace p1 := p1.later b6
  replace sx := sx.later b6 (Nat.le_trans hB a0.size)
  replace a0 := bup a0 b6
  have b5 := zaa p7
  have a8 := zae p1
  go_wp2
  go_ret
  exact ⟨rfl, a0⟩
 | false =>
  by_cases hab : 0 ≤ av ∧ 0 ≤ bv
  ·have t1 : decide (0 ≤ av) = true := decide_eq_true hab.1
   have t2 : decide (0 ≤ bv) = true := decide_eq_true hab.2
   have d3 := hid hab
   clear hab
   have k0 := zae p1
   obtain ⟨p7, b6, -⟩ := zak w2 #[o.n, false, .slice A2 cm.length c2] 24
   replace p1 := p1.later b6
   replace sx := sx.later b6 (Nat.le_trans hB a0.size)
   replace a0 := bup a0 b6
   have b5 := zaa p7
   have a8 := zae p1
   go_wp2_with fail
   clear b5 a8
   clear k0
   generalize w2.alloc (Obj.cells #[o.n, false, .slice A2 cm.length c2] 24) = w3 at *
   (with_reducible refine (HS.out (by first | rfl | trivial) d3.out.1 d3.out.2 A2 c2 w3 (sx.rd a0.size)).mono ?_)
   rintro d7 w4 ⟨rfl, c3⟩
   replace p1 := p1.later c3
   replace p7 := p7.later c3
   replace sx := sx.later c3 (Nat.le_trans hB a0.size)
   replace a0 := bup a0 c3
   clear c3 HS
   have hT := d5.out
   clear d5
   cases T with
   | true =>
    obtain ⟨e0, e1, e2, e3⟩ := q
    dsimp only at *
    cases e2 <;> cases e3
    ·exact absurd hT (by decide)
    ·exact absurd hT (by decide)
    ·exact absurd hT (by decide)
    ·clear hT
     obtain ⟨p10, b6, -⟩ := zak w4 #[e0, e1, true, true] 49
     replace p1 := p1.later b6
     replace p7 := p7.later b6
     replace sx := sx.later b6 (Nat.le_trans hB a0.size)
     replace a0 := bup a0 b6
     have b5 := zaa p7
     have a8 := zae p1
     have b9 := zag p10
     go_wp2
     go_ret
     exact ⟨by rw [t1, t2]; rfl, a0⟩
   | false =>
    obtain ⟨e0, e1, e2, e3⟩ := q
    dsimp only at *
    cases e2 <;> cases e3
    ·clear hT
     obtain ⟨p10, b6, -⟩ := zak w4 #[e0, e1, false, false] 49
     replace p1 := p1.later b6
     replace p7 := p7.later b6
     replace sx := sx.later b6 (Nat.le_trans hB a0.size)
     replace a0 := bup a0 b6
     have b5 := zaa p7
     have a8 := zae p1
     have b9 := zag p10
     go_upto_region 24 with fail
     clear b5 a8 b9
     generalize w4.alloc (Obj.cells #[e0, e1, false, false] 49) = w5 at *
     have f0 := zab (show w5.cell? ⟨w2.heap.size, 0, none⟩ = some (.int .i64 o.n) from p7.cell 0)
     have f1 := zab (show w5.cell? ⟨w2.heap.size, 1, none⟩ = some (.bool false) from p7.cell 1)
     have f2 := zab (show w5.cell? ⟨w2.heap.size, 2, none⟩ = some (.slice A2 cm.length c2) from p7.cell 2)
     have j2 := zab (show w5.cell? ⟨w.heap.size + 1, 2, none⟩ = some (.int .i64 4) from p1.cell 2)
     have j6 := zab (show w5.cell? ⟨w.heap.size + 1, 6, none⟩ = some (.int .i64 av) from p1.cell 6)
     have j7 := zab (show w5.cell? ⟨w.heap.size + 1, 7, none⟩ = some (.int .i64 an) from p1.cell 7)
     have j8 := zab (show w5.cell? ⟨w.heap.size + 1, 8, none⟩ = some (.int .i64 bv) from p1.cell 8)
     have j9 := zab (show w5.cell? ⟨w.heap.size + 1, 9, none⟩ = some (.int .i64 bn) from p1.cell 9)
     refine zac 10 [Sp.val (.pointer (some ⟨w.heap.size + 1, 2, none⟩)), Sp.val (.int .i64 4), Sp.val (.agg #[o.n, false, .slice A2 cm.length c2]), Sp.val (.pointer (some ⟨w.heap.size + 1, 6, none⟩)), Sp.val (.agg #[av, an]), Sp.val (.agg #[r.lo, r.hi, r.hl, r.hh]), Sp.val (.agg #[o.n, false, .slice A2 cm.length c2]), Sp.val (.pointer (some ⟨w.heap.size + 1, 8, none⟩)), Sp.val (.agg #[bv, bn]), Sp.val (.agg #[s.lo, s.hi, s.hl, s.hh])] (by kernel_rfl) (by kernel_rfl) ?_
     iterate 5 (refine fe_t (fun _ _ => ?_))
     refine zaf.callFV (by rfl) (fun W hW hf => ⟨96, #[.agg #[o.n, false, .slice A2 cm.length c2], .agg #[av, an]], by go_simp, H1.out (by first | rfl | trivial) A2 c2 W ((sx.later (Ext.trans (Below.refl _ _).drew hW) (Nat.le_trans hB a0.size)).rd (Nat.le_trans (Nat.le_trans hB a0.size) (Ext.trans (Below.refl _ _).drew hW : Below w5.heap.size w5 W).size))⟩) (fun _ _ => ?_)
     refine fe_p ?_
     iterate 3 (refine fe_t (fun _ _ => ?_))
     refine zaf.callFV (by rfl) (fun W hW hf => ⟨96, #[.agg #[o.n, false, .slice A2 cm.length c2], .agg #[bv, bn]], by go_simp, H2.out (by first | rfl | trivial) A2 c2 W ((sx.later (Ext.trans (Below.refl _ _).drew hW) (Nat.le_trans hB a0.size)).rd (Nat.le_trans (Nat.le_trans hB a0.size) (Ext.trans (Below.refl _ _).drew hW : Below w5.heap.size w5 W).size))⟩) (fun _ _ => ?_)
     refine fe_p ?_
     refine zaf.tail (fun W2 hW hf hd => ?_)
     replace hW : Below w5.heap.size w5 W2 := Ext.trans (Below.refl _ _).drew hW
     replace a0 := bup a0 hW
     clear hf hd hW f0 f1 f2 j2 j6 j7 j8 j9
     go_wp2_with fail
     (with_reducible refine (HF.out W2).mono ?_)
     rintro e9 w9 ⟨rfl, c5⟩
     go_wp2
     go_ret
     exact ⟨by rw [t1, t2]; cases Q <;> rfl, bup a0 c5⟩
    ·clear hT
     obtain ⟨p10, b6, -⟩ := zak w4 #[e0, e1, false, true] 49
     replace p1 := p1.later b6
     replace p7 := p7.later b6
     replace sx := sx.later b6 (Nat.le_trans hB a0.size)
     replace a0 := bup a0 b6
     have b5 := zaa p7
     have a8 := zae p1
     have b9 := zag p10
     go_upto_region 24 with fail
     clear b5 a8 b9
     generalize w4.alloc (Obj.cells #[e0, e1, false, true] 49) = w5 at *
     have f0 := zab (show w5.cell? ⟨w2.heap.size, 0, none⟩ = some (.int .i64 o.n) from p7.cell 0)
     have f1 := zab (show w5.cell? ⟨w2.heap.size, 1, none⟩ = some (.bool false) from p7.cell 1)
     have f2 := zab (show w5.cell? ⟨w2.heap.size, 2, none⟩ = some (.slice A2 cm.length c2) from p7.cell 2)
     have j2 := zab (show w5.cell? ⟨w.heap.size + 1, 2, none⟩ = some (.int .i64 4) from p1.cell 2)
     have j6 := zab (show w5.cell? ⟨w.heap.size + 1, 6, none⟩ = some (.int .i64 av) from p1.cell 6)
     have j7 := zab (show w5.cell? ⟨w.heap.size + 1, 7, none⟩ = some (.int .i64 an) from p1.cell 7)
     have j8 := zab (show w5.cell? ⟨w.heap.size + 1, 8, none⟩ = some (.int .i64 bv) from p1.cell 8)
     have j9 := zab (show w5.cell? ⟨w.heap.size + 1, 9, none⟩ = some (.int .i64 bn) from p1.cell 9)
     refine zac 10 [Sp.val (.pointer (some ⟨w.heap.size + 1, 2, none⟩)), Sp.val (.int .i64 4), Sp.val (.agg #[o.n, false, .slice A2 cm.length c2]), Sp.val (.pointer (some ⟨w.heap.size + 1, 6, none⟩)), Sp.val (.agg #[av, an]), Sp.val (.agg #[r.lo, r.hi, r.hl, r.hh]), Sp.val (.agg #[o.n, false, .slice A2 cm.length c2]), Sp.val (.pointer (some ⟨w.heap.size + 1, 8, none⟩)), Sp.val (.agg #[bv, bn]), Sp.val (.agg #[s.lo, s.hi, s.hl, s.hh])] (by kernel_rfl) (by kernel_rfl) ?_
     iterate 5 (refine fe_t (fun _ _ => ?_))
     refine zaf.callFV (by rfl) (fun W hW hf => ⟨96, #[.agg #[o.n, false, .slice A2 cm.length c2], .agg #[av, an]], by go_simp, H1.out (by first | rfl | trivial) A2 c2 W ((sx.later (Ext.trans (Below.refl _ _).drew hW) (Nat.le_trans hB a0.size)).rd (Nat.le_trans (Nat.le_trans hB a0.size) (Ext.trans (Below.refl _ _).drew hW : Below w5.heap.size w5 W).size))⟩) (fun _ _ => ?_)
     refine fe_p ?_
     iterate 3 (refine fe_t (fun _ _ => ?_))
     refine zaf.callFV (by rfl) (fun W hW hf => ⟨96, #[.agg #[o.n, false, .slice A2 cm.length c2], .agg #[bv, bn]], by go_simp, H2.out (by first | rfl | trivial) A2 c2 W ((sx.later (Ext.trans (Below.refl _ _).drew hW) (Nat.le_trans hB a0.size)).rd (Nat.le_trans (Nat.le_trans hB a0.size) (Ext.trans (Below.refl _ _).drew hW : Below w5.heap.size w5 W).size))⟩) (fun _ _ => ?_)
     refine fe_p ?_
     refine zaf.tail (fun W2 hW hf hd => ?_)
     replace hW : Below w5.heap.size w5 W2 := Ext.trans (Below.refl _ _).drew hW
     replace a0 := bup a0 hW
     clear hf hd hW f0 f1 f2 j2 j6 j7 j8 j9
     go_wp2_with fail
     (with_reducible refine (HF.out W2).mono ?_)
     rintro e9 w9 ⟨rfl, c5⟩
     go_wp2
     go_ret
     exact ⟨by rw [t1, t2]; cases Q <;> rfl, bup a0 c5⟩
    ·clear hT
     obtain ⟨p10, b6, -⟩ := zak w4 #[e0, e1, true, false] 49
     replace p1 := p1.later b6
     replace p7 := p7.later b6
     replace sx := sx.later b6 (Nat.le_trans hB a0.size)
     replace a0 := bup a0 b6
     have b5 := zaa p7
     have a8 := zae p1
     have b9 := zag p10
     go_upto_region 24 with fail
     clear b5 a8 b9
     generalize w4.alloc (Obj.cells #[e0, e1, true, false] 49) = w5 at *
     have f0 := zab (show w5.cell? ⟨w2.heap.size, 0, none⟩ = some (.int .i64 o.n) from p7.cell 0)
     have f1 := zab (show w5.cell? ⟨w2.heap.size, 1, none⟩ = some (.bool false) from p7.cell 1)
     have f2 := zab (show w5.cell? ⟨w2.heap.size, 2, none⟩ = some (.slice A2 cm.length c2) from p7.cell 2)
     have j2 := zab (show w5.cell? ⟨w.heap.size + 1, 2, none⟩ = some (.int .i64 4) from p1.cell 2)
     have j6 := zab (show w5.cell? ⟨w.heap.size + 1, 6, none⟩ = some (.int .i64 av) from p1.cell 6)
     have j7 := zab (show w5.cell? ⟨w.heap.size + 1, 7, none⟩ = some (.int .i64 an) from p1.cell 7)
     have j8 := zab (show w5.cell? ⟨w.heap.size + 1, 8, none⟩ = some (.int .i64 bv) from p1.cell 8)
     have j9 := zab (show w5.cell? ⟨w.heap.size + 1, 9, none⟩ = some (.int .i64 bn) from p1.cell 9)
     refine zac 10 [Sp.val (.pointer (some ⟨w.heap.size + 1, 2, none⟩)), Sp.val (.int .i64 4), Sp.val (.agg #[o.n, false, .slice A2 cm.length c2]), Sp.val (.pointer (some ⟨w.heap.size + 1, 6, none⟩)), Sp.val (.agg #[av, an]), Sp.val (.agg #[r.lo, r.hi, r.hl, r.hh]), Sp.val (.agg #[o.n, false, .slice A2 cm.length c2]), Sp.val (.pointer (some ⟨w.heap.size + 1, 8, none⟩)), Sp.val (.agg #[bv, bn]), Sp.val (.agg #[s.lo, s.hi, s.hl, s.hh])] (by kernel_rfl) (by kernel_rfl) ?_
     iterate 5 (refine fe_t (fun _ _ => ?_))
     refine zaf.callFV (by rfl) (fun W hW hf => ⟨96, #[.agg #[o.n, false, .slice A2 cm.length c2], .agg #[av, an]], by go_simp, H1.out (by first | rfl | trivial) A2 c2 W ((sx.later (Ext.trans (Below.refl _ _).drew hW) (Nat.le_trans hB a0.size)).rd (Nat.le_trans (Nat.le_trans hB a0.size) (Ext.trans (Below.refl _ _).drew hW : Below w5.heap.size w5 W).size))⟩) (fun _ _ => ?_)
     refine fe_p ?_
     iterate 3 (refine fe_t (fun _ _ => ?_))
     refine zaf.callFV (by rfl) (fun W hW hf => ⟨96, #[.agg #[o.n, false, .slice A2 cm.length c2], .agg #[bv, bn]], by go_simp, H2.out (by first | rfl | trivial) A2 c2 W ((sx.later (Ext.trans (Below.refl _ _).drew hW) (Nat.le_trans hB a0.size)).rd (Nat.le_trans (Nat.le_trans hB a0.size) (Ext.trans (Below.refl _ _).drew hW : Below w5.heap.size w5 W).size))⟩) (fun _ _ => ?_)
     refine fe_p ?_
     refine zaf.tail (fun W2 hW hf hd => ?_)
     replace hW : Below w5.heap.size w5 W2 := Ext.trans (Below.refl _ _).drew hW
     replace a0 := bup a0 hW
     clear hf hd hW f0 f1 f2 j2 j6 j7 j8 j9
     go_wp2_with fail
     (with_reducible refine (HF.out W2).mono ?_)
     rintro e9 w9 ⟨rfl, c5⟩
     go_wp2
     go_ret
     exact ⟨by rw [t1, t2]; cases Q <;> rfl, bup a0 c5⟩
    ·exact absurd hT (by decide)
  ·clear HS HD d5
   have hr : (decide (0 ≤ av) && decide (0 ≤ bv)) = false := by rw [Bool.and_eq_false_iff, decide_eq_false_iff_not, decide_eq_false_iff_not]; omega
   have d9 := hid hr
   clear hr
   cases t1 : decide (0 ≤ av) <;> cases t2 : decide (0 ≤ bv)
   ·clear hab
    have k0 := zae p1
    obtain ⟨p7, b6, -⟩ := zak w2 #[o.n, false, .slice A2 cm.length c2] 24
    replace p1 := p1.later b6
    replace sx := sx.later b6 (Nat.le_trans hB a0.size)
    replace a0 := bup a0 b6
    have b5 := zaa p7
    have a8 := zae p1
    go_upto_region 24 with fail
    clear b5 a8
    clear k0
    generalize w2.alloc (Obj.cells #[o.n, false, .slice A2 cm.length c2] 24) = w3 at *
    have f0 := zab (show w3.cell? ⟨w2.heap.size, 0, none⟩ = some (.int .i64 o.n) from p7.cell 0)
    have f1 := zab (show w3.cell? ⟨w2.heap.size, 1, none⟩ = some (.bool false) from p7.cell 1)
    have f2 := zab (show w3.cell? ⟨w2.heap.size, 2, none⟩ = some (.slice A2 cm.length c2) from p7.cell 2)
    have j2 := zab (show w3.cell? ⟨w.heap.size + 1, 2, none⟩ = some (.int .i64 4) from p1.cell 2)
    have j6 := zab (show w3.cell? ⟨w.heap.size + 1, 6, none⟩ = some (.int .i64 av) from p1.cell 6)
    have j7 := zab (show w3.cell? ⟨w.heap.size + 1, 7, none⟩ = some (.int .i64 an) from p1.cell 7)
    have j8 := zab (show w3.cell? ⟨w.heap.size + 1, 8, none⟩ = some (.int .i64 bv) from p1.cell 8)
    have j9 := zab (show w3.cell? ⟨w.heap.size + 1, 9, none⟩ = some (.int .i64 bn) from p1.cell 9)
    refine zac 10 [Sp.val (.pointer (some ⟨w.heap.size + 1, 2, none⟩)), Sp.val (.int .i64 4), Sp.val (.agg #[o.n, false, .slice A2 cm.length c2]), Sp.val (.pointer (some ⟨w.heap.size + 1, 6, none⟩)), Sp.val (.agg #[av, an]), Sp.val (.agg #[r.lo, r.hi, r.hl, r.hh]), Sp.val (.agg #[o.n, false, .slice A2 cm.length c2]), Sp.val (.pointer (some ⟨w.heap.size + 1, 8, none⟩)), Sp.val (.agg #[bv, bn]), Sp.val (.agg #[s.lo, s.hi, s.hl, s.hh])] (by kernel_rfl) (by kernel_rfl) ?_
    iterate 5 (refine fe_t (fun _ _ => ?_))
    refine zaf.callFV (by rfl) (fun W hW hf => ⟨96, #[.agg #[o.n, false, .slice A2 cm.length c2], .agg #[av, an]], by go_simp, H1.out (by first | rfl | trivial) A2 c2 W ((sx.later (Ext.trans (Below.refl _ _).drew hW) (Nat.le_trans hB a0.size)).rd (Nat.le_trans (Nat.le_trans hB a0.size) (Ext.trans (Below.refl _ _).drew hW : Below w3.heap.size w3 W).size))⟩) (fun _ _ => ?_)
    refine fe_p ?_
    iterate 3 (refine fe_t (fun _ _ => ?_))
    refine zaf.callFV (by rfl) (fun W hW hf => ⟨96, #[.agg #[o.n, false, .slice A2 cm.length c2], .agg #[bv, bn]], by go_simp, H2.out (by first | rfl | trivial) A2 c2 W ((sx.later (Ext.trans (Below.refl _ _).drew hW) (Nat.le_trans hB a0.size)).rd (Nat.le_trans (Nat.le_trans hB a0.size) (Ext.trans (Below.refl _ _).drew hW : Below w3.heap.size w3 W).size))⟩) (fun _ _ => ?_)
    refine fe_p ?_
    refine zaf.tail (fun W2 hW hf hd => ?_)
    replace hW : Below w3.heap.size w3 W2 := Ext.trans (Below.refl _ _).drew hW
    replace a0 := bup a0 hW
    clear hf hd hW f0 f1 f2 j2 j6 j7 j8 j9
    go_wp2_with fail
    (with_reducible refine (HF.out W2).mono ?_)
    rintro e9 w9 ⟨rfl, c5⟩
    go_wp2
    go_ret
    exact ⟨by rw [t1, t2]; cases Q <;> cases T <;> rfl, bup a0 c5⟩
   ·clear hab
    have k0 := zae p1
    obtain ⟨p7, b6, -⟩ := zak w2 #[o.n, false, .slice A2 cm.length c2] 24
    replace p1 := p1.later b6
    replace sx := sx.later b6 (Nat.le_trans hB a0.size)
    replace a0 := bup a0 b6
    have b5 := zaa p7
    have a8 := zae p1
    go_upto_region 24 with fail
    clear b5 a8
    clear k0
    generalize w2.alloc (Obj.cells #[o.n, false, .slice A2 cm.length c2] 24) = w3 at *
    have f0 := zab (show w3.cell? ⟨w2.heap.size, 0, none⟩ = some (.int .i64 o.n) from p7.cell 0)
    have f1 := zab (show w3.cell? ⟨w2.heap.size, 1, none⟩ = some (.bool false) from p7.cell 1)
    have f2 := zab (show w3.cell? ⟨w2.heap.size, 2, none⟩ = some (.slice A2 cm.length c2) from p7.cell 2)
    have j2 := zab (show w3.cell? ⟨w.heap.size + 1, 2, none⟩ = some (.int .i64 4) from p1.cell 2)
    have j6 := zab (show w3.cell? ⟨w.heap.size + 1, 6, none⟩ = some (.int .i64 av) from p1.cell 6)
    have j7 := zab (show w3.cell? ⟨w.heap.size + 1, 7, none⟩ = some (.int .i64 an) from p1.cell 7)
    have j8 := zab (show w3.cell? ⟨w.heap.size + 1, 8, none⟩ = some (.int .i64 bv) from p1.cell 8)
    have j9 := zab (show w3.cell? ⟨w.heap.size + 1, 9, none⟩ = some (.int .i64 bn) from p1.cell 9)
    refine zac 10 [Sp.val (.pointer (some ⟨w.heap.size + 1, 2, none⟩)), Sp.val (.int .i64 4), Sp.val (.agg #[o.n, false, .slice A2 cm.length c2]), Sp.val (.pointer (some ⟨w.heap.size + 1, 6, none⟩)), Sp.val (.agg #[av, an]), Sp.val (.agg #[r.lo, r.hi, r.hl, r.hh]), Sp.val (.agg #[o.n, false, .slice A2 cm.length c2]), Sp.val (.pointer (some ⟨w.heap.size + 1, 8, none⟩)), Sp.val (.agg #[bv, bn]), Sp.val (.agg #[s.lo, s.hi, s.hl, s.hh])] (by kernel_rfl) (by kernel_rfl) ?_
    iterate 5 (refine fe_t (fun _ _ => ?_))
    refine zaf.callFV (by rfl) (fun W hW hf => ⟨96, #[.agg #[o.n, false, .slice A2 cm.length c2], .agg #[av, an]], by go_simp, H1.out (by first | rfl | trivial) A2 c2 W ((sx.later (Ext.trans (Below.refl _ _).drew hW) (Nat.le_trans hB a0.size)).rd (Nat.le_trans (Nat.le_trans hB a0.size) (Ext.trans (Below.refl _ _).drew hW : Below w3.heap.size w3 W).size))⟩) (fun _ _ => ?_)
    refine fe_p ?_
    iterate 3 (refine fe_t (fun _ _ => ?_))
    refine zaf.callFV (by rfl) (fun W hW hf => ⟨96, #[.agg #[o.n, false, .slice A2 cm.length c2], .agg #[bv, bn]], by go_simp, H2.out (by first | rfl | trivial) A2 c2 W ((sx.later (Ext.trans (Below.refl _ _).drew hW) (Nat.le_trans hB a0.size)).rd (Nat.le_trans (Nat.le_trans hB a0.size) (Ext.trans (Below.refl _ _).drew hW : Below w3.heap.size w3 W).size))⟩) (fun _ _ => ?_)
    refine fe_p ?_
    refine zaf.tail (fun W2 hW hf hd => ?_)
    replace hW : Below w3.heap.size w3 W2 := Ext.trans (Below.refl _ _).drew hW
    replace a0 := bup a0 hW
    clear hf hd hW f0 f1 f2 j2 j6 j7 j8 j9
    go_wp2_with fail
    (with_reducible refine (HF.out W2).mono ?_)
    rintro e9 w9 ⟨rfl, c5⟩
    go_wp2
    go_ret
    exact ⟨by rw [t1, t2]; cases Q <;> cases T <;> rfl, bup a0 c5⟩
   ·clear hab
    have k0 := zae p1
    obtain ⟨p7, b6, -⟩ := zak w2 #[o.n, false, .slice A2 cm.length c2] 24
    replace p1 := p1.later b6
    replace sx := sx.later b6 (Nat.le_trans hB a0.size)
    replace a0 := bup a0 b6
    have b5 := zaa p7
    have a8 := zae p1
    go_upto_region 24 with fail
    clear b5 a8
    clear k0
    generalize w2.alloc (Obj.cells #[o.n, false, .slice A2 cm.length c2] 24) = w3 at *
    have f0 := zab (show w3.cell? ⟨w2.heap.size, 0, none⟩ = some (.int .i64 o.n) from p7.cell 0)
    have f1 := zab (show w3.cell? ⟨w2.heap.size, 1, none⟩ = some (.bool false) from p7.cell 1)
    have f2 := zab (show w3.cell? ⟨w2.heap.size, 2, none⟩ = some (.slice A2 cm.length c2) from p7.cell 2)
    have j2 := zab (show w3.cell? ⟨w.heap.size + 1, 2, none⟩ = some (.int .i64 4) from p1.cell 2)
    have j6 := zab (show w3.cell? ⟨w.heap.size + 1, 6, none⟩ = some (.int .i64 av) from p1.cell 6)
    have j7 := zab (show w3.cell? ⟨w.heap.size + 1, 7, none⟩ = some (.int .i64 an) from p1.cell 7)
    have j8 := zab (show w3.cell? ⟨w.heap.size + 1, 8, none⟩ = some (.int .i64 bv) from p1.cell 8)
    have j9 := zab (show w3.cell? ⟨w.heap.size + 1, 9, none⟩ = some (.int .i64 bn) from p1.cell 9)
    refine zac 10 [Sp.val (.pointer (some ⟨w.heap.size + 1, 2, none⟩)), Sp.val (.int .i64 4), Sp.val (.agg #[o.n, false, .slice A2 cm.length c2]), Sp.val (.pointer (some ⟨w.heap.size + 1, 6, none⟩)), Sp.val (.agg #[av, an]), Sp.val (.agg #[r.lo, r.hi, r.hl, r.hh]), Sp.val (.agg #[o.n, false, .slice A2 cm.length c2]), Sp.val (.pointer (some ⟨w.heap.size + 1, 8, none⟩)), Sp.val (.agg #[bv, bn]), Sp.val (.agg #[s.lo, s.hi, s.hl, s.hh])] (by kernel_rfl) (by kernel_rfl) ?_
    iterate 5 (refine fe_t (fun _ _ => ?_))
    refine zaf.callFV (by rfl) (fun W hW hf => ⟨96, #[.agg #[o.n, false, .slice A2 cm.length c2], .agg #[av, an]], by go_simp, H1.out (by first | rfl | trivial) A2 c2 W ((sx.later (Ext.trans (Below.refl _ _).drew hW) (Nat.le_trans hB a0.size)).rd (Nat.le_trans (Nat.le_trans hB a0.size) (Ext.trans (Below.refl _ _).drew hW : Below w3.heap.size w3 W).size))⟩) (fun _ _ => ?_)
    refine fe_p ?_
    iterate 3 (refine fe_t (fun _ _ => ?_))
    refine zaf.callFV (by rfl) (fun W hW hf => ⟨96, #[.agg #[o.n, false, .slice A2 cm.length c2], .agg #[bv, bn]], by go_simp, H2.out (by first | rfl | trivial) A2 c2 W ((sx.later (Ext.trans (Below.refl _ _).drew hW) (Nat.le_trans hB a0.size)).rd (Nat.le_trans (Nat.le_trans hB a0.size) (Ext.trans (Below.refl _ _).drew hW : Below w3.heap.size w3 W).size))⟩) (fun _ _ => ?_)
    refine fe_p ?_
    refine zaf.tail (fun W2 hW hf hd => ?_)
    replace hW : Below w3.heap.size w3 W2 := Ext.trans (Below.refl _ _).drew hW
    replace a0 := bup a0 hW
    clear hf hd hW f0 f1 f2 j2 j6 j7 j8 j9
    go_wp2_with fail
    (with_reducible refine (HF.out W2).mono ?_)
    rintro e9 w9 ⟨rfl, c5⟩
    go_wp2
    go_ret
    exact ⟨by rw [t1, t2]; cases Q <;> cases T <;> rfl, bup a0 c5⟩
   ·exact absurd d9.out (by rw [t1, t2]; decide)
theorem zlY (o : O) (fr te dst arr op av an bv bn sz : Int) (hbv : bv < o.n) (ib : I64 bn) (hk : check o = 0) (hav : av < o.n) (ian : I64 an) (C : O) (hC : C = closeO o) (A : Option Addr) (cap : Nat) (w : World) (hx : Rd w w.heap.size A o.m) (hm : o.m.length ≤ 17592186044416) :
  Calls Tryz.prog 45 #[.agg #[o.n, o.e, .slice A o.m.length cap], .agg #[fr, te, .int .i64 5, dst, arr, op, av, an, bv, bn], sz] w fun e w' => e = .returned (.bool (C.e || ((decide (0 ≤ av) && decide (0 ≤ bv) && wholeB (diffR (2 * C.n).toNat C.m av.toNat bv.toNat)) || fitsK 5 (opdR (2 * C.n).toNat C.m av an) (opdR (2 * C.n).toNat C.m bv bn)))) ∧ Below w.heap.size w w' := by
 have okc : OkO o.n C := hC ▸ (⟨rfl, hk⟩ : OkO o.n o).close
 have HC := hid (fun W (h : Rd W W.heap.size A o.m) => (show Calls Tryz.prog 95 #[.agg #[o.n, o.e, .slice A o.m.length cap]] W (zcx W C) from by rw [hC]; exact zbi o A cap W h hm hk))
 clear hC hk
 have hn := okc.n_
 obtain ⟨CN, Ce, cm⟩ := C
 dsimp only at hn
 subst hn
 have c4 : Ce = false → ∃ N : Nat, (2 * o.n).toNat = N ∧ (N : Int) = 2 * o.n ∧ N ≤ 128 ∧ Cells N cm ∧ cm.length ≤ 17592186044416 := by
  intro he
  subst he
  obtain ⟨n0, n1, _, _⟩ := zas okc.ok
  dsimp only at n0 n1
  exact ⟨(2 * o.n).toNat, rfl, by omega, by omega, zaz (by omega) okc.ok, OkO.small okc⟩
 have H1 := hid (fun (he : Ce = false) A2 c2 W (h : Rd W W.heap.size A2 cm) => (show Calls Tryz.prog 96 #[.agg #[o.n, false, .slice A2 cm.length c2], .agg #[av, an]] W (zam (opdR (2 * o.n).toNat cm av an).val W) from by
  obtain ⟨N, hNt, hN, hn, c8, d0⟩ := c4 he
  rw [hNt]
  exact zaB o.n cm N av an A2 c2 W hN hn c8 hav h))
 have H2 := hid (fun (he : Ce = false) A2 c2 W (h : Rd W W.heap.size A2 cm) => (show Calls Tryz.prog 96 #[.agg #[o.n, false, .slice A2 cm.length c2], .agg #[bv, bn]] W (zam (opdR (2 * o.n).toNat cm bv bn).val W) from by
  obtain ⟨N, hNt, hN, hn, c8, d0⟩ := c4 he
  rw [hNt]
  exact zaB o.n cm N bv bn A2 c2 W hN hn c8 hbv h))
 have I1 := zao (2 * o.n).toNat cm av an ian
 have I2 := zao (2 * o.n).toNat cm bv bn ib
 have HS := hid (fun (he : Ce = false) (ha : 0 ≤ av) (hb : 0 ≤ bv) A2 c2 W (h : Rd W W.heap.size A2 cm) => (show Calls Tryz.prog 97 #[.agg #[o.n, false, .slice A2 cm.length c2], av, bv] W (zam (sumR (2 * o.n).toNat cm av.toNat bv.toNat).val W) from by
  obtain ⟨N, hNt, hN, hn, c8, d0⟩ := c4 he
  obtain ⟨u, rfl⟩ : ∃ u : Nat, av = (u : Int) := ⟨av.toNat, by omega⟩
  obtain ⟨v, rfl⟩ : ∃ v : Nat, bv = (v : Int) := ⟨bv.toNat, by omega⟩
  rw [hNt]
  exact zhc o.n cm N u v A2 c2 W hN hn c8 (by omega) (by omega) h))
 have HD := hid (fun (he : Ce = false) (ha : 0 ≤ av) (hb : 0 ≤ bv) A2 c2 W (h : Rd W W.heap.size A2 cm) => (show Calls Tryz.prog 98 #[.agg #[o.n, false, .slice A2 cm.length c2], av, bv] W (zam (diffR (2 * o.n).toNat cm av.toNat bv.toNat).val W) from by
  obtain ⟨N, hNt, hN, hn, c8, d0⟩ := c4 he
  obtain ⟨u, rfl⟩ : ∃ u : Nat, av = (u : Int) := ⟨av.toNat, by omega⟩
  obtain ⟨v, rfl⟩ : ∃ v : Nat, bv = (v : Int) := ⟨bv.toNat, by omega⟩
  rw [hNt]
  exact zgd o.n cm N u v A2 c2 W hN hn c8 (by omega) (by omega) h))
 dsimp only
 generalize sumR (2 * o.n).toNat cm av.toNat bv.toNat = q at *
 generalize diffR (2 * o.n).toNat cm av.toNat bv.toNat = d at *
 generalize opdR (2 * o.n).toNat cm av an = r at *
 generalize opdR (2 * o.n).toNat cm bv bn = s at *
 clear okc c4 hav hbv ib ian
 have HF := hid (fun W => zbV 5 r s I1 I2 W)
 clear I1 I2
 generalize fitsK 5 r s = Q at *
 rw [Rg.val_eq] at H1 H2 HF
 rw [Rg.val_eq] at HF
 rw [Rg.val_eq] at HS HD
 have d5 : Hid (wholeB d = (d.hl && d.hh)) := hid rfl
 generalize wholeB d = T at *
 have hB : w.heap.size ≤ w.heap.size := Nat.le_refl _
 obtain ⟨p0, p1, a0, d8⟩ := zal w #[o.n, o.e, .slice A o.m.length cap] #[fr, te, .int .i64 5, dst, arr, op, av, an, bv, bn] 24 44
 clear d8
 replace hx := hx.up a0
 go_enter Tryz.func45, Tryz.ntmps45
 have d1 := zaa p0
 have a8 := zae p1
 go_wp2_with fail
 clear d1 a8
 generalize (w.alloc (Obj.cells #[o.n, o.e, .slice A o.m.length cap] 24)).alloc (Obj.cells #[fr, te, .int .i64 5, dst, arr, op, av, an, bv, bn] 44) = w1 at *
 have hB2 := a0.size
 (with_reducible refine (HC.out w1 hx).mono ?_)
 rintro d6 w2 ⟨A2, c2, s2, rfl, own, c6⟩
 clear HC hx p0
 replace p1 := p1.later c6
 replace a0 := bup a0 c6
 clear c6
 dsimp only at own
 have sx := Sx.of_own own hB2
 clear own hB2
 cases Ce with
 | true =>
  have k0 := zae p1
  obtain ⟨p7, b6, -⟩ := zak w2 #[o.n, true, .slice A2 cm.length c2] 24
  replace p1 := p1.later b6
  replace sx := sx.later b6 (Nat.le_trans hB a0.size)
  replace a0 := bup a0 b6
  have b5 := zaa p7
  have a8 := zae p1
  go_wp2
  go_ret
  exact ⟨rfl, a0⟩
 | false =>
  by_cases hab : 0 ≤ av ∧ 0 ≤ bv
  ·have t1 : decide (0 ≤ av) = true := decide_eq_true hab.1
   have t2 : decide (0 ≤ bv) = true := decide_eq_true hab.2
   have d3 := hid hab
   clear hab
   have k0 := zae p1
   obtain ⟨p7, b6, -⟩ := zak w2 #[o.n, false, .slice A2 cm.length c2] 24
   replace p1 := p1.later b6
   replace sx := sx.later b6 (Nat.le_trans hB a0.size)
   replace a0 := bup a0 b6
   have b5 := zaa p7
   have a8 := zae p1
   go_wp2_with fail
   clear b5 a8
   clear k0
   generalize w2.alloc (Obj.cells #[o.n, false, .slice A2 cm.length c2] 24) = w3 at *
   (with_reducible refine (HS.out (by first | rfl | trivial) d3.out.1 d3.out.2 A2 c2 w3 (sx.rd a0.size)).mono ?_)
   rintro d7 w4 ⟨rfl, c3⟩
   replace p1 := p1.later c3
   replace p7 := p7.later c3
   replace sx := sx.later c3 (Nat.le_trans hB a0.size)
   replace a0 := bup a0 c3
   clear c3 HS
   have hg10 := a0.size
   have l7 := p7.lt
   have l1 := p1.lt
   obtain ⟨p10, b6, -⟩ := zak w4 #[q.lo, q.hi, q.hl, q.hh] 49
   replace p1 := p1.later b6
   replace p7 := p7.later b6
   replace sx := sx.later b6 (Nat.le_trans hB a0.size)
   replace a0 := bup a0 b6
   have b5 := zaa p7
   have a8 := zae p1
   have b9 := zag p10
   go_wp2_with fail
   clear b5 a8 b9
   generalize w4.alloc (Obj.cells #[q.lo, q.hi, q.hl, q.hh] 49) = w5 at *
   (with_reducible refine (HD.out (by first | rfl | trivial) d3.out.1 d3.out.2 A2 c2 w5 (sx.rd a0.size)).mono ?_)
   rintro e_w6 w6 ⟨rfl, c7⟩
   replace p1 := p1.later c7
   replace p7 := p7.later c7
   replace p10 := p10.later c7
   replace sx := sx.later c7 (Nat.le_trans hB a0.size)
   replace a0 := bup a0 c7
   clear c7 HD
   have l10 := p10.lt
   have hw0 := a0.size
   have hT := d5.out
   clear d5
   cases T with
   | true =>
    obtain ⟨e0, e1, e2, e3⟩ := d
    dsimp only at *
    cases e2 <;> cases e3
    ·exact absurd hT (by decide)
    ·exact absurd hT (by decide)
    ·exact absurd hT (by decide)
    ·clear hT
     have b5 := zaa p7
     have a8 := zae p1
     have b9 := zag p10
     have hb8 := a0.trans (zav (g := w4.heap.size) (v0 := .int .i64 e0) (v1 := .int .i64 e1) (v2 := .bool true) (v3 := .bool true) (by omega) a0.size)
     go_wp2
     go_ret
     exact ⟨by rw [t1, t2]; rfl, hb8⟩
   | false =>
    obtain ⟨e0, e1, e2, e3⟩ := d
    dsimp only at *
    cases e2 <;> cases e3
    ·clear hT
     have b5 := zaa p7
     have a8 := zae p1
     have b9 := zag p10
     go_upto_region 24 with fail
     clear b5 a8 b9
     replace sx := sx.far4 (g := w4.heap.size) (v0 := .int .i64 e0) (v1 := .int .i64 e1) (v2 := .bool false) (v3 := .bool false) (by omega) p10 (by decide)
     replace p7 := p7.far4 (g := w4.heap.size) (v0 := .int .i64 e0) (v1 := .int .i64 e1) (v2 := .bool false) (v3 := .bool false) (by omega)
     replace p1 := p1.far4 (g := w4.heap.size) (v0 := .int .i64 e0) (v1 := .int .i64 e1) (v2 := .bool false) (v3 := .bool false) (by omega)
     replace a0 := a0.trans (zav (W := w6) (g := w4.heap.size) (v0 := .int .i64 e0) (v1 := .int .i64 e1) (v2 := .bool false) (v3 := .bool false) (by omega) a0.size)
     clear p10
     generalize (((w6.setCell ⟨w4.heap.size, 0, none⟩ (.int .i64 e0)).setCell ⟨w4.heap.size, 1, none⟩ (.int .i64 e1)).setCell ⟨w4.heap.size, 2, none⟩ (.bool false)).setCell ⟨w4.heap.size, 3, none⟩ (.bool false) = w7 at *
     have f0 := zab (show w7.cell? ⟨w2.heap.size, 0, none⟩ = some (.int .i64 o.n) from p7.cell 0)
     have f1 := zab (show w7.cell? ⟨w2.heap.size, 1, none⟩ = some (.bool false) from p7.cell 1)
     have f2 := zab (show w7.cell? ⟨w2.heap.size, 2, none⟩ = some (.slice A2 cm.length c2) from p7.cell 2)
     have j2 := zab (show w7.cell? ⟨w.heap.size + 1, 2, none⟩ = some (.int .i64 5) from p1.cell 2)
     have j6 := zab (show w7.cell? ⟨w.heap.size + 1, 6, none⟩ = some (.int .i64 av) from p1.cell 6)
     have j7 := zab (show w7.cell? ⟨w.heap.size + 1, 7, none⟩ = some (.int .i64 an) from p1.cell 7)
     have j8 := zab (show w7.cell? ⟨w.heap.size + 1, 8, none⟩ = some (.int .i64 bv) from p1.cell 8)
     have j9 := zab (show w7.cell? ⟨w.heap.size + 1, 9, none⟩ = some (.int .i64 bn) from p1.cell 9)
     refine zac 10 [Sp.val (.pointer (some ⟨w.heap.size + 1, 2, none⟩)), Sp.val (.int .i64 5), Sp.val (.agg #[o.n, false, .slice A2 cm.length c2]), Sp.val (.pointer (some ⟨w.heap.size + 1, 6, none⟩)), Sp.val (.agg #[av, an]), Sp.val (.agg #[r.lo, r.hi, r.hl, r.hh]), Sp.val (.agg #[o.n, false, .slice A2 cm.length c2]), Sp.val (.pointer (some ⟨w.heap.size + 1, 8, none⟩)), Sp.val (.agg #[bv, bn]), Sp.val (.agg #[s.lo, s.hi, s.hl, s.hh])] (by kernel_rfl) (by kernel_rfl) ?_
     iterate 5 (refine fe_t (fun _ _ => ?_))
     refine zaf.callFV (by rfl) (fun W hW hf => ⟨96, #[.agg #[o.n, false, .slice A2 cm.length c2], .agg #[av, an]], by go_simp, H1.out (by first | rfl | trivial) A2 c2 W ((sx.later (Ext.trans (Below.refl _ _).drew hW) (Nat.le_trans hB a0.size)).rd (Nat.le_trans (Nat.le_trans hB a0.size) (Ext.trans (Below.refl _ _).drew hW : Below w7.heap.size w7 W).size))⟩) (fun _ _ => ?_)
     refine fe_p ?_
     iterate 3 (refine fe_t (fun _ _ => ?_))
     refine zaf.callFV (by rfl) (fun W hW hf => ⟨96, #[.agg #[o.n, false, .slice A2 cm.length c2], .agg #[bv, bn]], by go_simp, H2.out (by first | rfl | trivial) A2 c2 W ((sx.later (Ext.trans (Below.refl _ _).drew hW) (Nat.le_trans hB a0.size)).rd (Nat.le_trans (Nat.le_trans hB a0.size) (Ext.trans (Below.refl _ _).drew hW : Below w7.heap.size w7 W).size))⟩) (fun _ _ => ?_)
     refine fe_p ?_
     refine zaf.tail (fun W2 hW hf hd => ?_)
     replace hW : Below w7.heap.size w7 W2 := Ext.trans (Below.refl _ _).drew hW
     replace a0 := bup a0 hW
     clear hf hd hW f0 f1 f2 j2 j6 j7 j8 j9
     go_wp2_with fail
     (with_reducible refine (HF.out W2).mono ?_)
     rintro e9 w9 ⟨rfl, c5⟩
     go_wp2
     go_ret
     exact ⟨by rw [t1, t2]; cases Q <;> rfl, bup a0 c5⟩
    ·clear hT
     have b5 := zaa p7
     have a8 := zae p1
     have b9 := zag p10
     go_upto_region 24 with fail
     clear b5 a8 b9
     replace sx := sx.far4 (g := w4.heap.size) (v0 := .int .i64 e0) (v1 := .int .i64 e1) (v2 := .bool false) (v3 := .bool true) (by omega) p10 (by decide)
     replace p7 := p7.far4 (g := w4.heap.size) (v0 := .int .i64 e0) (v1 := .int .i64 e1) (v2 := .bool false) (v3 := .bool true) (by omega)
     replace p1 := p1.far4 (g := w4.heap.size) (v0 := .int .i64 e0) (v1 := .int .i64 e1) (v2 := .bool false) (v3 := .bool true) (by omega)
     replace a0 := a0.trans (zav (W := w6) (g := w4.heap.size) (v0 := .int .i64 e0) (v1 := .int .i64 e1) (v2 := .bool false) (v3 := .bool true) (by omega) a0.size)
     clear p10
     generalize (((w6.setCell ⟨w4.heap.size, 0, none⟩ (.int .i64 e0)).setCell ⟨w4.heap.size, 1, none⟩ (.int .i64 e1)).setCell ⟨w4.heap.size, 2, none⟩ (.bool false)).setCell ⟨w4.heap.size, 3, none⟩ (.bool true) = w7 at *
     have f0 := zab (show w7.cell? ⟨w2.heap.size, 0, none⟩ = some (.int .i64 o.n) from p7.cell 0)
     have f1 := zab (show w7.cell? ⟨w2.heap.size, 1, none⟩ = some (.bool false) from p7.cell 1)
     have f2 := zab (show w7.cell? ⟨w2.heap.size, 2, none⟩ = some (.slice A2 cm.length c2) from p7.cell 2)
     have j2 := zab (show w7.cell? ⟨w.heap.size + 1, 2, none⟩ = some (.int .i64 5) from p1.cell 2)
     have j6 := zab (show w7.cell? ⟨w.heap.size + 1, 6, none⟩ = some (.int .i64 av) from p1.cell 6)
     have j7 := zab (show w7.cell? ⟨w.heap.size + 1, 7, none⟩ = some (.int .i64 an) from p1.cell 7)
     have j8 := zab (show w7.cell? ⟨w.heap.size + 1, 8, none⟩ = some (.int .i64 bv) from p1.cell 8)
     have j9 := zab (show w7.cell? ⟨w.heap.size + 1, 9, none⟩ = some (.int .i64 bn) from p1.cell 9)
     refine zac 10 [Sp.val (.pointer (some ⟨w.heap.size + 1, 2, none⟩)), Sp.val (.int .i64 5), Sp.val (.agg #[o.n, false, .slice A2 cm.length c2]), Sp.val (.pointer (some ⟨w.heap.size + 1, 6, none⟩)), Sp.val (.agg #[av, an]), Sp.val (.agg #[r.lo, r.hi, r.hl, r.hh]), Sp.val (.agg #[o.n, false, .slice A2 cm.length c2]), Sp.val (.pointer (some ⟨w.heap.size + 1, 8, none⟩)), Sp.val (.agg #[bv, bn]), Sp.val (.agg #[s.lo, s.hi, s.hl, s.hh])] (by kernel_rfl) (by kernel_rfl) ?_
     iterate 5 (refine fe_t (fun _ _ => ?_))
     refine zaf.callFV (by rfl) (fun W hW hf => ⟨96, #[.agg #[o.n, false, .slice A2 cm.length c2], .agg #[av, an]], by go_simp, H1.out (by first | rfl | trivial) A2 c2 W ((sx.later (Ext.trans (Below.refl _ _).drew hW) (Nat.le_trans hB a0.size)).rd (Nat.le_trans (Nat.le_trans hB a0.size) (Ext.trans (Below.refl _ _).drew hW : Below w7.heap.size w7 W).size))⟩) (fun _ _ => ?_)
     refine fe_p ?_
     iterate 3 (refine fe_t (fun _ _ => ?_))
     refine zaf.callFV (by rfl) (fun W hW hf => ⟨96, #[.agg #[o.n, false, .slice A2 cm.length c2], .agg #[bv, bn]], by go_simp, H2.out (by first | rfl | trivial) A2 c2 W ((sx.later (Ext.trans (Below.refl _ _).drew hW) (Nat.le_trans hB a0.size)).rd (Nat.le_trans (Nat.le_trans hB a0.size) (Ext.trans (Below.refl _ _).drew hW : Below w7.heap.size w7 W).size))⟩) (fun _ _ => ?_)
     refine fe_p ?_
     refine zaf.tail (fun W2 hW hf hd => ?_)
     replace hW : Below w7.heap.size w7 W2 := Ext.trans (Below.refl _ _).drew hW
     replace a0 := bup a0 hW
     clear hf hd hW f0 f1 f2 j2 j6 j7 j8 j9
     go_wp2_with fail
     (with_reducible refine (HF.out W2).mono ?_)
     rintro e9 w9 ⟨rfl, c5⟩
     go_wp2
     go_ret
     exact ⟨by rw [t1, t2]; cases Q <;> rfl, bup a0 c5⟩
    ·clear hT
     have b5 := zaa p7
     have a8 := zae p1
     have b9 := zag p10
     go_upto_region 24 with fail
     clear b5 a8 b9
     replace sx := sx.far4 (g := w4.heap.size) (v0 := .int .i64 e0) (v1 := .int .i64 e1) (v2 := .bool true) (v3 := .bool false) (by omega) p10 (by decide)
     replace p7 := p7.far4 (g := w4.heap.size) (v0 := .int .i64 e0) (v1 := .int .i64 e1) (v2 := .bool true) (v3 := .bool false) (by omega)
     replace p1 := p1.far4 (g := w4.heap.size) (v0 := .int .i64 e0) (v1 := .int .i64 e1) (v2 := .bool true) (v3 := .bool false) (by omega)
     replace a0 := a0.trans (zav (W := w6) (g := w4.heap.size) (v0 := .int .i64 e0) (v1 := .int .i64 e1) (v2 := .bool true) (v3 := .bool false) (by omega) a0.size)
     clear p10
     generalize (((w6.setCell ⟨w4.heap.size, 0, none⟩ (.int .i64 e0)).setCell ⟨w4.heap.size, 1, none⟩ (.int .i64 e1)).setCell ⟨w4.heap.size, 2, none⟩ (.bool true)).setCell ⟨w4.heap.size, 3, none⟩ (.bool false) = w7 at *
     have f0 := zab (show w7.cell? ⟨w2.heap.size, 0, none⟩ = some (.int .i64 o.n) from p7.cell 0)
     have f1 := zab (show w7.cell? ⟨w2.heap.size, 1, none⟩ = some (.bool false) from p7.cell 1)
     have f2 := zab (show w7.cell? ⟨w2.heap.size, 2, none⟩ = some (.slice A2 cm.length c2) from p7.cell 2)
     have j2 := zab (show w7.cell? ⟨w.heap.size + 1, 2, none⟩ = some (.int .i64 5) from p1.cell 2)
     have j6 := zab (show w7.cell? ⟨w.heap.size + 1, 6, none⟩ = some (.int .i64 av) from p1.cell 6)
     have j7 := zab (show w7.cell? ⟨w.heap.size + 1, 7, none⟩ = some (.int .i64 an) from p1.cell 7)
     have j8 := zab (show w7.cell? ⟨w.heap.size + 1, 8, none⟩ = some (.int .i64 bv) from p1.cell 8)
     have j9 := zab (show w7.cell? ⟨w.heap.size + 1, 9, none⟩ = some (.int .i64 bn) from p1.cell 9)
     refine zac 10 [Sp.val (.pointer (some ⟨w.heap.size + 1, 2, none⟩)), Sp.val (.int .i64 5), Sp.val (.agg #[o.n, false, .slice A2 cm.length c2]), Sp.val (.pointer (some ⟨w.heap.size + 1, 6, none⟩)), Sp.val (.agg #[av, an]), Sp.val (.agg #[r.lo, r.hi, r.hl, r.hh]), Sp.val (.agg #[o.n, false, .slice A2 cm.length c2]), Sp.val (.pointer (some ⟨w.heap.size + 1, 8, none⟩)), Sp.val (.agg #[bv, bn]), Sp.val (.agg #[s.lo, s.hi, s.hl, s.hh])] (by kernel_rfl) (by kernel_rfl) ?_
     iterate 5 (refine fe_t (fun _ _ => ?_))
     refine zaf.callFV (by rfl) (fun W hW hf => ⟨96, #[.agg #[o.n, false, .slice A2 cm.length c2], .agg #[av, an]], by go_simp, H1.out (by first | rfl | trivial) A2 c2 W ((sx.later (Ext.trans (Below.refl _ _).drew hW) (Nat.le_trans hB a0.size)).rd (Nat.le_trans (Nat.le_trans hB a0.size) (Ext.trans (Below.refl _ _).drew hW : Below w7.heap.size w7 W).size))⟩) (fun _ _ => ?_)
     refine fe_p ?_
     iterate 3 (refine fe_t (fun _ _ => ?_))
     refine zaf.callFV (by rfl) (fun W hW hf => ⟨96, #[.agg #[o.n, false, .slice A2 cm.length c2], .agg #[bv, bn]], by go_simp, H2.out (by first | rfl | trivial) A2 c2 W ((sx.later (Ext.trans (Below.refl _ _).drew hW) (Nat.le_trans hB a0.size)).rd (Nat.le_trans (Nat.le_trans hB a0.size) (Ext.trans (Below.refl _ _).drew hW : Below w7.heap.size w7 W).size))⟩) (fun _ _ => ?_)
     refine fe_p ?_
     refine zaf.tail (fun W2 hW hf hd => ?_)
     replace hW : Below w7.heap.size w7 W2 := Ext.trans (Below.refl _ _).drew hW
     replace a0 := bup a0 hW
     clear hf hd hW f0 f1 f2 j2 j6 j7 j8 j9
     go_wp2_with fail
     (with_reducible refine (HF.out W2).mono ?_)
     rintro e9 w9 ⟨rfl, c5⟩
     go_wp2
     go_ret
     exact ⟨by rw [t1, t2]; cases Q <;> rfl, bup a0 c5⟩
    ·exact absurd hT (by decide)
  ·clear HS HD d5
   have hr : (decide (0 ≤ av) && decide (0 ≤ bv)) = false := by rw [Bool.and_eq_false_iff, decide_eq_false_iff_not, decide_eq_false_iff_not]; omega
   have d9 := hid hr
   clear hr
   cases t1 : decide (0 ≤ av) <;> cases t2 : decide (0 ≤ bv)
   ·clear hab
    have k0 := zae p1
    obtain ⟨p7, b6, -⟩ := zak w2 #[o.n, false, .slice A2 cm.length c2] 24
    replace p1 := p1.later b6
    replace sx := sx.later b6 (Nat.le_trans hB a0.size)
    replace a0 := bup a0 b6
    have b5 := zaa p7
    have a8 := zae p1
    go_upto_region 24 with fail
    clear b5 a8
    clear k0
    generalize w2.alloc (Obj.cells #[o.n, false, .slice A2 cm.length c2] 24) = w3 at *
    have f0 := zab (show w3.cell? ⟨w2.heap.size, 0, none⟩ = some (.int .i64 o.n) from p7.cell 0)
    have f1 := zab (show w3.cell? ⟨w2.heap.size, 1, none⟩ = some (.bool false) from p7.cell 1)
    have f2 := zab (show w3.cell? ⟨w2.heap.size, 2, none⟩ = some (.slice A2 cm.length c2) from p7.cell 2)
    have j2 := zab (show w3.cell? ⟨w.heap.size + 1, 2, none⟩ = some (.int .i64 5) from p1.cell 2)
    have j6 := zab (show w3.cell? ⟨w.heap.size + 1, 6, none⟩ = some (.int .i64 av) from p1.cell 6)
    have j7 := zab (show w3.cell? ⟨w.heap.size + 1, 7, none⟩ = some (.int .i64 an) from p1.cell 7)
    have j8 := zab (show w3.cell? ⟨w.heap.size + 1, 8, none⟩ = some (.int .i64 bv) from p1.cell 8)
    have j9 := zab (show w3.cell? ⟨w.heap.size + 1, 9, none⟩ = some (.int .i64 bn) from p1.cell 9)
    refine zac 10 [Sp.val (.pointer (some ⟨w.heap.size + 1, 2, none⟩)), Sp.val (.int .i64 5), Sp.val (.agg #[o.n, false, .slice A2 cm.length c2]), Sp.val (.pointer (some ⟨w.heap.size + 1, 6, none⟩)), Sp.val (.agg #[av, an]), Sp.val (.agg #[r.lo, r.hi, r.hl, r.hh]), Sp.val (.agg #[o.n, false, .slice A2 cm.length c2]), Sp.val (.pointer (some ⟨w.heap.size + 1, 8, none⟩)), Sp.val (.agg #[bv, bn]), Sp.val (.agg #[s.lo, s.hi, s.hl, s.hh])] (by kernel_rfl) (by kernel_rfl) ?_
    iterate 5 (refine fe_t (fun _ _ => ?_))
    refine zaf.callFV (by rfl) (fun W hW hf => ⟨96, #[.agg #[o.n, false, .slice A2 cm.length c2], .agg #[av, an]], by go_simp, H1.out (by first | rfl | trivial) A2 c2 W ((sx.later (Ext.trans (Below.refl _ _).drew hW) (Nat.le_trans hB a0.size)).rd (Nat.le_trans (Nat.le_trans hB a0.size) (Ext.trans (Below.refl _ _).drew hW : Below w3.heap.size w3 W).size))⟩) (fun _ _ => ?_)
    refine fe_p ?_
    iterate 3 (refine fe_t (fun _ _ => ?_))
    refine zaf.callFV (by rfl) (fun W hW hf => ⟨96, #[.agg #[o.n, false, .slice A2 cm.length c2], .agg #[bv, bn]], by go_simp, H2.out (by first | rfl | trivial) A2 c2 W ((sx.later (Ext.trans (Below.refl _ _).drew hW) (Nat.le_trans hB a0.size)).rd (Nat.le_trans (Nat.le_trans hB a0.size) (Ext.trans (Below.refl _ _).drew hW : Below w3.heap.size w3 W).size))⟩) (fun _ _ => ?_)
    refine fe_p ?_
    refine zaf.tail (fun W2 hW hf hd => ?_)
    replace hW : Below w3.heap.size w3 W2 := Ext.trans (Below.refl _ _).drew hW
    replace a0 := bup a0 hW
    clear hf hd hW f0 f1 f2 j2 j6 j7 j8 j9
    go_wp2_with fail
    (with_reducible refine (HF.out W2).mono ?_)
    rintro e9 w9 ⟨rfl, c5⟩
    go_wp2
    go_ret
    exact ⟨by rw [t1, t2]; cases Q <;> cases T <;> rfl, bup a0 c5⟩
   ·clear hab
    have k0 := zae p1
    obtain ⟨p7, b6, -⟩ := zak w2 #[o.n, false, .slice A2 cm.length c2] 24
    replace p1 := p1.later b6
    replace sx := sx.later b6 (Nat.le_trans hB a0.size)
    replace a0 := bup a0 b6
    have b5 := zaa p7
    have a8 := zae p1
    go_upto_region 24 with fail
    clear b5 a8
    clear k0
    generalize w2.alloc (Obj.cells #[o.n, false, .slice A2 cm.length c2] 24) = w3 at *
    have f0 := zab (show w3.cell? ⟨w2.heap.size, 0, none⟩ = some (.int .i64 o.n) from p7.cell 0)
    have f1 := zab (show w3.cell? ⟨w2.heap.size, 1, none⟩ = some (.bool false) from p7.cell 1)
    have f2 := zab (show w3.cell? ⟨w2.heap.size, 2, none⟩ = some (.slice A2 cm.length c2) from p7.cell 2)
    have j2 := zab (show w3.cell? ⟨w.heap.size + 1, 2, none⟩ = some (.int .i64 5) from p1.cell 2)
    have j6 := zab (show w3.cell? ⟨w.heap.size + 1, 6, none⟩ = some (.int .i64 av) from p1.cell 6)
    have j7 := zab (show w3.cell? ⟨w.heap.size + 1, 7, none⟩ = some (.int .i64 an) from p1.cell 7)
    have j8 := zab (show w3.cell? ⟨w.heap.size + 1, 8, none⟩ = some (.int .i64 bv) from p1.cell 8)
    have j9 := zab (show w3.cell? ⟨w.heap.size + 1, 9, none⟩ = some (.int .i64 bn) from p1.cell 9)
    refine zac 10 [Sp.val (.pointer (some ⟨w.heap.size + 1, 2, none⟩)), Sp.val (.int .i64 5), Sp.val (.agg #[o.n, false, .slice A2 cm.length c2]), Sp.val (.pointer (some ⟨w.heap.size + 1, 6, none⟩)), Sp.val (.agg #[av, an]), Sp.val (.agg #[r.lo, r.hi, r.hl, r.hh]), Sp.val (.agg #[o.n, false, .slice A2 cm.length c2]), Sp.val (.pointer (some ⟨w.heap.size + 1, 8, none⟩)), Sp.val (.agg #[bv, bn]), Sp.val (.agg #[s.lo, s.hi, s.hl, s.hh])] (by kernel_rfl) (by kernel_rfl) ?_
    iterate 5 (refine fe_t (fun _ _ => ?_))
    refine zaf.callFV (by rfl) (fun W hW hf => ⟨96, #[.agg #[o.n, false, .slice A2 cm.length c2], .agg #[av, an]], by go_simp, H1.out (by first | rfl | trivial) A2 c2 W ((sx.later (Ext.trans (Below.refl _ _).drew hW) (Nat.le_trans hB a0.size)).rd (Nat.le_trans (Nat.le_trans hB a0.size) (Ext.trans (Below.refl _ _).drew hW : Below w3.heap.size w3 W).size))⟩) (fun _ _ => ?_)
    refine fe_p ?_
    iterate 3 (refine fe_t (fun _ _ => ?_))
    refine zaf.callFV (by rfl) (fun W hW hf => ⟨96, #[.agg #[o.n, false, .slice A2 cm.length c2], .agg #[bv, bn]], by go_simp, H2.out (by first | rfl | trivial) A2 c2 W ((sx.later (Ext.trans (Below.refl _ _).drew hW) (Nat.le_trans hB a0.size)).rd (Nat.le_trans (Nat.le_trans hB a0.size) (Ext.trans (Below.refl _ _).drew hW : Below w3.heap.size w3 W).size))⟩) (fun _ _ => ?_)
    refine fe_p ?_
    refine zaf.tail (fun W2 hW hf hd => ?_)
    replace hW : Below w3.heap.size w3 W2 := Ext.trans (Below.refl _ _).drew hW
    replace a0 := bup a0 hW
    clear hf hd hW f0 f1 f2 j2 j6 j7 j8 j9
    go_wp2_with fail
    (with_reducible refine (HF.out W2).mono ?_)
    rintro e9 w9 ⟨rfl, c5⟩
    go_wp2
    go_ret
    exact ⟨by rw [t1, t2]; cases Q <;> cases T <;> rfl, bup a0 c5⟩
   ·clear hab
    have k0 := zae p1
    obtain ⟨p7, b6, -⟩ := zak w2 #[o.n, false, .slice A2 cm.length c2] 24
    replace p1 := p1.later b6
    replace sx := sx.later b6 (Nat.le_trans hB a0.size)
    replace a0 := bup a0 b6
    have b5 := zaa p7
    have a8 := zae p1
    go_upto_region 24 with fail
    clear b5 a8
    clear k0
    generalize w2.alloc (Obj.cells #[o.n, false, .slice A2 cm.length c2] 24) = w3 at *
    have f0 := zab (show w3.cell? ⟨w2.heap.size, 0, none⟩ = some (.int .i64 o.n) from p7.cell 0)
    have f1 := zab (show w3.cell? ⟨w2.heap.size, 1, none⟩ = some (.bool false) from p7.cell 1)
    have f2 := zab (show w3.cell? ⟨w2.heap.size, 2, none⟩ = some (.slice A2 cm.length c2) from p7.cell 2)
    have j2 := zab (show w3.cell? ⟨w.heap.size + 1, 2, none⟩ = some (.int .i64 5) from p1.cell 2)
    have j6 := zab (show w3.cell? ⟨w.heap.size + 1, 6, none⟩ = some (.int .i64 av) from p1.cell 6)
    have j7 := zab (show w3.cell? ⟨w.heap.size + 1, 7, none⟩ = some (.int .i64 an) from p1.cell 7)
    have j8 := zab (show w3.cell? ⟨w.heap.size + 1, 8, none⟩ = some (.int .i64 bv) from p1.cell 8)
    have j9 := zab (show w3.cell? ⟨w.heap.size + 1, 9, none⟩ = some (.int .i64 bn) from p1.cell 9)
    refine zac 10 [Sp.val (.pointer (some ⟨w.heap.size + 1, 2, none⟩)), Sp.val (.int .i64 5), Sp.val (.agg #[o.n, false, .slice A2 cm.length c2]), Sp.val (.pointer (some ⟨w.heap.size + 1, 6, none⟩)), Sp.val (.agg #[av, an]), Sp.val (.agg #[r.lo, r.hi, r.hl, r.hh]), Sp.val (.agg #[o.n, false, .slice A2 cm.length c2]), Sp.val (.pointer (some ⟨w.heap.size + 1, 8, none⟩)), Sp.val (.agg #[bv, bn]), Sp.val (.agg #[s.lo, s.hi, s.hl, s.hh])] (by kernel_rfl) (by kernel_rfl) ?_
    iterate 5 (refine fe_t (fun _ _ => ?_))
    refine zaf.callFV (by rfl) (fun W hW hf => ⟨96, #[.agg #[o.n, false, .slice A2 cm.length c2], .agg #[av, an]], by go_simp, H1.out (by first | rfl | trivial) A2 c2 W ((sx.later (Ext.trans (Below.refl _ _).drew hW) (Nat.le_trans hB a0.size)).rd (Nat.le_trans (Nat.le_trans hB a0.size) (Ext.trans (Below.refl _ _).drew hW : Below w3.heap.size w3 W).size))⟩) (fun _ _ => ?_)
    refine fe_p ?_
    iterate 3 (refine fe_t (fun _ _ => ?_))
    refine zaf.callFV (by rfl) (fun W hW hf => ⟨96, #[.agg #[o.n, false, .slice A2 cm.length c2], .agg #[bv, bn]], by go_simp, H2.out (by first | rfl | trivial) A2 c2 W ((sx.later (Ext.trans (Below.refl _ _).drew hW) (Nat.le_trans hB a0.size)).rd (Nat.le_trans (Nat.le_trans hB a0.size) (Ext.trans (Below.refl _ _).drew hW : Below w3.heap.size w3 W).size))⟩) (fun _ _ => ?_)
    refine fe_p ?_
    refine zaf.tail (fun W2 hW hf hd => ?_)
    replace hW : Below w3.heap.size w3 W2 := Ext.trans (Below.refl _ _).drew hW
    replace a0 := bup a0 hW
    clear hf hd hW f0 f1 f2 j2 j6 j7 j8 j9
    go_wp2_with fail
    (with_reducible refine (HF.out W2).mono ?_)
    rintro e9 w9 ⟨rfl, c5⟩
    go_wp2
    go_ret
    exact ⟨by rw [t1, t2]; cases Q <;> cases T <;> rfl, bup a0 c5⟩
   ·exact absurd d9.out (by rw [t1, t2]; decide)
end Go.Proofs.YtnmpgijiimglcaaGreat
