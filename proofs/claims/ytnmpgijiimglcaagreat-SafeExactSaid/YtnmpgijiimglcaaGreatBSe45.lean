import Derived.Test.YtnmpgijiimglcaaGreatBSe43
import Derived.Test.YtnmpgijiimglcaaGreatBSe44
import Derived.Test.YtnmpgijiimglcaaGreatBSe31
import Derived.Test.YtnmpgijiimglcaaGreatBSe23
import Derived.Test.YtnmpgijiimglcaaGreatBSe26
import Derived.Test.YtnmpgijiimglcaaGreatBSe24
namespace Go.Proofs.YtnmpgijiimglcaaGreat
open Go.RowKit
set_option maxRecDepth 100000
set_option maxHeartbeats 8000000
section
attribute [local go_sem ↓] Go.wp_at_zero Go.wp_at_succ
theorem zf7 (N : Nat) (m : List Int) (v n : Int) (hn : I64 n) : I64 (opdR N m v n).lo ∧ I64 (opdR N m v n).hi := by
 unfold opdR
 split
 ·exact zda _
 ·exact ⟨hn, hn⟩
theorem zjd {kd : Int} {a b : Rg} (ia : I64 a.lo) (ib : I64 b.lo) : I64 (kindR kd a b).lo := by
 have hz : I64 0 := by unfold I64; omega
 unfold kindR
 split
 ·unfold mulR
  split
  ·rename_i h
   simp only [Bool.and_eq_true, nearR, decide_eq_true_eq] at h
   have p1 := zdW h.1.1.1.2.1 h.1.1.1.2.2 h.1.2.2.1 h.1.2.2.2
   have p2 := zdW h.1.1.1.2.1 h.1.1.1.2.2 h.2.2.1 h.2.2.2
   have p3 := zdW h.1.1.2.2.1 h.1.1.2.2.2 h.1.2.2.1 h.1.2.2.2
   have p4 := zdW h.1.1.2.2.1 h.1.1.2.2.2 h.2.2.1 h.2.2.2
   show I64 (min (min (a.lo * b.lo) (a.lo * b.hi)) (min (a.hi * b.lo) (a.hi * b.hi)))
   unfold I64
   omega
  ·exact hz
 ·split
  ·unfold divR
   split
   ·exact hz
   ·rename_i hk
    show I64 (if a.hl then a.lo.tdiv (oneOf b) else 0)
    have hp := zet b
    split
    ·exact zep ia hk (by
      have : ¬ oneOf b = -1 := by omega
      simp [this])
    ·exact hz
  ·unfold remR
   split
   ·exact hz
   ·show I64 (if a.hl && decide (0 ≤ a.lo) then 0 else 1 - oneOf b)
    have hp := zet b
    have hi := zfA ib
    split
    ·exact hz
    ·unfold I64 at *; omega
theorem zcB (kd : Int) (N2 : FuncId) (F1 : Value) (HVA : Hid (∀ r s : Rg, I64 r.lo ∧ I64 r.hi → I64 s.lo → ∀ W, Calls Tryz.prog N2 #[r.val, s.val] W (zam (kindR kd r s).val W))) (hQ : ∀ a b W, Sem.run Tryz.prog (callFunc N2 #[a, b]) W = Result.ok (Next.enter N2 #[a, b]) W)
  (HRK : Hid (∀ W, Calls Tryz.prog 193 #[kd] W fun e w' => e = .returned (.agg #[F1, .func (.func N2) #[] #[]]) ∧ Below W.heap.size W w')) (n : Int) (m : List Int) (N : Nat) (hN : (N : Int) = 2 * n) (hn : N ≤ 128) (hc : Cells N m) (fr te arr op av an bv bn : Int) (d : Nat) (hd : (d : Int) < n) (hav : av < n) (hbv : bv < n) (ia : I64 an) (ib : I64 bn) (A : Option Addr) (cap : Nat) (w : World) (B : Nat) (hB : B ≤ w.heap.size) (sx : Sx w B A m) :
  Calls Tryz.prog 140 #[.agg #[n, false, .slice A m.length cap], .agg #[fr, te, kd, (d : Int), arr, op, av, an, bv, bn]] w (zar w B (productsO ⟨n, false, m⟩ kd d av an bv bn)) := by
 have okc : OkO n ⟨n, false, m⟩ := OkO.of_cells hN hn hc
 have hm : m.length ≤ 17592186044416 := OkO.small okc
 have hNt : (2 * n).toNat = N := by omega
 have H1 := hid (fun W (hW : B ≤ W.heap.size) (h : Sx W B A m) => zaA n m N av an A cap W hN hn hc hav (h.rd hW) hm)
 have H2 := hid (fun W (hW : B ≤ W.heap.size) (h : Sx W B A m) => zaA n m N bv bn A cap W hN hn hc hbv (h.rd hW) hm)
 have ir := zf7 N m av an ia
 have is_ := zf7 N m bv bn ib
 have HE : Hid (productsO ⟨n, false, m⟩ kd d av an bv bn = giveO ⟨n, false, m⟩ d (kindR kd (opdR N m av an) (opdR N m bv bn))) := hid (by rw [← hNt]; rfl)
 generalize productsO ⟨n, false, m⟩ kd d av an bv bn = R at *
 generalize opdR N m av an = r at *
 generalize opdR N m bv bn = s at *
 have iq := zjd (kd := kd) ir.1 is_.1
 have HV := hid (fun W => (show Calls Tryz.prog N2 #[r.val, s.val] W (zam (kindR kd r s).val W) from (HVA.out r s ir is_.1 W)))
 generalize kindR kd r s = q at *
 have HG := hid (fun W (hW : B ≤ W.heap.size) (h : Sx W B A m) => zds okc (cap := cap) hW h d hd q iq)
 rw [← HE.out] at HG
 clear HE iq ir is_ ia ib hav hbv hd hNt hm okc hc hn hN
 rw [Rg.val_eq] at H1 H2 HG HV
 rw [Rg.val_eq] at HV
 rw [Rg.val_eq] at HV
 obtain ⟨k5, e5, -, -⟩ := zal w #[n, false, .slice A m.length cap] #[fr, te, kd, (d : Int), arr, op, av, an, bv, bn] 24 44
 obtain ⟨k2, k3, k4, hbk, -⟩ := zaj w #[n, false, .slice A m.length cap] #[fr, te, kd, (d : Int), arr, op, av, an, bv, bn] #[.int .i64 0, false, .slice none 0 0] 24 44 24
 have u0 := zaa k2
 obtain ⟨p2, p3, p4, p5, a4, hsz⟩ := zax w #[n, false, .slice A m.length cap] #[fr, te, kd, (d : Int), arr, op, av, an, bv, bn] #[.int .i64 0, false, .slice none 0 0] #[n, false, .slice A m.length cap] 24 44 24 125
 replace sx := sx.later a4 hB
 clear hsz k5 e5 k2 k3 k4 hbk
 go_enter Tryz.func140, Tryz.ntmps140
 have b4 := zaa p2
 go_upto_region 2 with fail
 clear b4
 clear u0
 generalize (((w.alloc (Obj.cells #[n, false, .slice A m.length cap] 24)).alloc (Obj.cells #[fr, te, kd, (d : Int), arr, op, av, an, bv, bn] 44)).alloc (Obj.cells #[.int .i64 0, false, .slice none 0 0] 24)).alloc (Obj.cells #[n, false, .slice A m.length cap] 125) = w1 at *
 have f0 := zab (show w1.cell? ⟨w.heap.size + 1 + 1 + 1, 0, none⟩ = some (.int .i64 n) from p5.cell 0)
 have f1 := zab (show w1.cell? ⟨w.heap.size + 1 + 1 + 1, 1, none⟩ = some (.bool false) from p5.cell 1)
 have f2 := zab (show w1.cell? ⟨w.heap.size + 1 + 1 + 1, 2, none⟩ = some (.slice A m.length cap) from p5.cell 2)
 have j6 := zab (show w1.cell? ⟨w.heap.size + 1, 6, none⟩ = some (.int .i64 av) from p3.cell 6)
 have j7 := zab (show w1.cell? ⟨w.heap.size + 1, 7, none⟩ = some (.int .i64 an) from p3.cell 7)
 have j8 := zab (show w1.cell? ⟨w.heap.size + 1, 8, none⟩ = some (.int .i64 bv) from p3.cell 8)
 have j9 := zab (show w1.cell? ⟨w.heap.size + 1, 9, none⟩ = some (.int .i64 bn) from p3.cell 9)
 refine zac 10 [Sp.val (.agg #[n, false, .slice A m.length cap]), Sp.val (.pointer (some ⟨w.heap.size + 1, 6, none⟩)), Sp.val (.agg #[av, an]), Sp.val (.agg #[r.lo, r.hi, r.hl, r.hh]), Sp.val (.agg #[n, false, .slice A m.length cap]), Sp.val (.pointer (some ⟨w.heap.size + 1, 8, none⟩)), Sp.val (.agg #[bv, bn]), Sp.val (.agg #[s.lo, s.hi, s.hl, s.hh]), Sp.any (zat 49 #[.int .i64 0, .int .i64 0, false, false]), Sp.any (zat 49 #[.int .i64 0, .int .i64 0, false, false])] (by kernel_rfl) (by kernel_rfl) ?_
 (refine fe_t (fun _ _ => ?_))
 (refine fe_t (fun _ _ => ?_))
 (refine fe_t (fun _ _ => ?_))
 refine zaf.callFV (by rfl) (fun W hW hf => ⟨90, #[.agg #[n, false, .slice A m.length cap], .agg #[av, an]], by go_simp, H1.out W (Nat.le_trans (Nat.le_trans hB a4.size) (Ext.trans (Below.refl _ _).drew hW : Below w1.heap.size w1 W).size) (sx.later (Ext.trans (Below.refl _ _).drew hW) (Nat.le_trans hB a4.size))⟩) (fun _ _ => ?_)
 refine fe_p ?_
 (refine fe_t (fun _ _ => ?_))
 (refine fe_t (fun _ _ => ?_))
 (refine fe_t (fun _ _ => ?_))
 refine zaf.callFV (by rfl) (fun W hW hf => ⟨90, #[.agg #[n, false, .slice A m.length cap], .agg #[bv, bn]], by go_simp, H2.out W (Nat.le_trans (Nat.le_trans hB a4.size) (Ext.trans (Below.refl _ _).drew hW : Below w1.heap.size w1 W).size) (sx.later (Ext.trans (Below.refl _ _).drew hW) (Nat.le_trans hB a4.size))⟩) (fun _ _ => ?_)
 refine fe_p ?_
 refine zaf.step (by rfl) (fun W hW K hK => ?_) (fun v8 l8 h8 => ?_)
 ·go_simp
  exact hK _ _ (new1 _ _) ⟨rfl, Blk.new _ _ _, by simp⟩
 refine fe_p ?_
 refine zaf.step (by rfl) (fun W hW K hK => ?_) (fun v9 l9 h9 => ?_)
 ·go_simp
  exact hK _ _ (new1 _ _) ⟨rfl, Blk.new _ _ _, by simp⟩
 refine fe_p ?_
 refine zaf.tail (fun W hW hf hd2 => ?_)
 replace hW : Below w1.heap.size w1 W := Ext.trans (Below.refl _ _).drew hW
 obtain ⟨g8, rfl, k8, lo8, e8, e8'⟩ := zap (show Sp.fact w1.drew (Sp.any (zat 49 #[.int .i64 0, .int .i64 0, false, false])) v8 l8 h8 W from hf 8)
 obtain ⟨g9, rfl, k9, lo9, e9, e9'⟩ := zap (show Sp.fact w1.drew (Sp.any (zat 49 #[.int .i64 0, .int .i64 0, false, false])) v9 l9 h9 W from hf 9)
 have dd : h8 ≤ l9 ∨ h9 ≤ l8 := hd2 8 9 (by decide)
 have a9 : g8 ≠ g9 := by omega
 have hs8 : w1.heap.size ≤ g8 := lo8
 have hs9 : w1.heap.size ≤ g9 := lo9
 have l5 := p5.lt
 have hw := a4.size
 have l2 := p2.lt
 have l3 := p3.lt
 have l4 := p4.lt
 have np2g8 : g8 ≠ w.heap.size := by omega
 have np2g9 : g9 ≠ w.heap.size := by omega
 have np3g8 : g8 ≠ w.heap.size + 1 := by omega
 have np3g9 : g9 ≠ w.heap.size + 1 := by omega
 have np4g8 : g8 ≠ w.heap.size + 1 + 1 := by omega
 have np4g9 : g9 ≠ w.heap.size + 1 + 1 := by omega
 have l8 : w.heap.size ≤ g8 := by omega
 have l9_ : w.heap.size ≤ g9 := by omega
 clear hf hd2 H1 H2 e8 e8' e9 e9' dd hs8 hs9 lo8 lo9 l5 l2 l3 l4 p5 f0 f1 f2 j6 j7 j8 j9
 replace p2 := p2.later hW
 replace p3 := p3.later hW
 replace p4 := p4.later hW
 replace sx := sx.later hW (Nat.le_trans hB a4.size)
 replace a4 := bup a4 hW
 clear hW
 obtain ⟨q8, q9, a5, far⟩ := zbM k8 k9 a9 a4 (Nat.le_refl _) l8 l9_ (.int .i64 r.lo) (.int .i64 r.hi) (.bool r.hl) (.bool r.hh) (.int .i64 s.lo) (.int .i64 s.hi) (.bool s.hl) (.bool s.hh)
 have rp2 := far _ _ _ p2 np2g8 np2g9
 have rp3 := far _ _ _ p3 np3g8 np3g9
 have rp4 := far _ _ _ p4 np4g8 np4g9
 clear far
 have a6 := (sx.far4 (g := g8) (v0 := .int .i64 r.lo) (v1 := .int .i64 r.hi) (v2 := .bool r.hl) (v3 := .bool r.hh) (Nat.le_trans hB l8) k8 (by decide)).far4 (g := g9) (v0 := .int .i64 s.lo) (v1 := .int .i64 s.hi) (v2 := .bool s.hl) (v3 := .bool s.hh) (Nat.le_trans hB l9_) (k9.far4 a9) (by decide)
 have mne := Ne.symm a9
 have x0 := zag k8
 have y0 := zag k9
 go_upto_region 3 with fail
 clear x0 y0 k8 k9 p2 p3 p4 sx a4
 generalize (((((((W.setCell ⟨g8, 0, none⟩ (.int .i64 r.lo)).setCell ⟨g8, 1, none⟩ (.int .i64 r.hi)).setCell ⟨g8, 2, none⟩ (.bool r.hl)).setCell ⟨g8, 3, none⟩ (.bool r.hh)).setCell ⟨g9, 0, none⟩ (.int .i64 s.lo)).setCell ⟨g9, 1, none⟩ (.int .i64 s.hi)).setCell ⟨g9, 2, none⟩ (.bool s.hl)).setCell ⟨g9, 3, none⟩ (.bool s.hh) = w5 at *
 have f0 := zab (show w5.cell? ⟨w.heap.size, 0, none⟩ = some (.int .i64 n) from rp2.cell 0)
 have f1 := zab (show w5.cell? ⟨w.heap.size, 1, none⟩ = some (.bool false) from rp2.cell 1)
 have f2 := zab (show w5.cell? ⟨w.heap.size, 2, none⟩ = some (.slice A m.length cap) from rp2.cell 2)
 have j2 := zab (show w5.cell? ⟨w.heap.size + 1, 2, none⟩ = some (.int .i64 kd) from rp3.cell 2)
 have j3 := zab (show w5.cell? ⟨w.heap.size + 1, 3, none⟩ = some (.int .i64 (d : Int)) from rp3.cell 3)
 have a0 := zab (show w5.cell? ⟨g8, 0, none⟩ = some (.int .i64 r.lo) from q8.cell 0)
 have b0 := zab (show w5.cell? ⟨g9, 0, none⟩ = some (.int .i64 s.lo) from q9.cell 0)
 have a1 := zab (show w5.cell? ⟨g8, 1, none⟩ = some (.int .i64 r.hi) from q8.cell 1)
 have b1 := zab (show w5.cell? ⟨g9, 1, none⟩ = some (.int .i64 s.hi) from q9.cell 1)
 have a2 := zab (show w5.cell? ⟨g8, 2, none⟩ = some (.bool r.hl) from q8.cell 2)
 have b2 := zab (show w5.cell? ⟨g9, 2, none⟩ = some (.bool s.hl) from q9.cell 2)
 have a3 := zab (show w5.cell? ⟨g8, 3, none⟩ = some (.bool r.hh) from q8.cell 3)
 have b3 := zab (show w5.cell? ⟨g9, 3, none⟩ = some (.bool s.hh) from q9.cell 3)
 refine zac 10 [Sp.val (.agg #[n, false, .slice A m.length cap]), Sp.val (.pointer (some ⟨w.heap.size + 1, 3, none⟩)), Sp.val (.int .i64 (d : Int)), Sp.val (.pointer (some ⟨w.heap.size + 1, 2, none⟩)), Sp.val (.int .i64 kd), Sp.val (.agg #[F1, .func (.func N2) #[] #[]]), Sp.val (.func (.func N2) #[] #[]), Sp.val (.agg #[r.lo, r.hi, r.hl, r.hh]), Sp.val (.agg #[s.lo, s.hi, s.hl, s.hh]), Sp.val (.agg #[q.lo, q.hi, q.hl, q.hh])] (by kernel_rfl) (by kernel_rfl) ?_
 iterate 5 (refine fe_t (fun _ _ => ?_))
 refine zaf.callFV (by rfl) (fun W hW hf => ⟨193, #[kd], by go_simp, HRK.out W⟩) (fun _ _ => ?_)
 refine fe_p ?_
 refine zaf.take (by rfl) (fun W hW R hR => ?_) (fun _ _ => ?_)
 ·go_simp
  rw [zjc]
  (try go_simp)
  exact hR
 refine fe_p ?_
 iterate 2 (refine fe_t (fun _ _ => ?_))
 refine zaf.callFV (by rfl) (fun W hW hf => ⟨N2, #[.agg #[r.lo, r.hi, r.hl, r.hh], .agg #[s.lo, s.hi, s.hl, s.hh]], by (try go_simp); (try exact hQ _ _ W), HV.out W⟩) (fun _ _ => ?_)
 refine fe_p ?_
 refine zaf.tail (fun W2 hW hf hd2 => ?_)
 replace hW : Below w5.heap.size w5 W2 := Ext.trans (Below.refl _ _).drew hW
 clear hf hd2 HRK HV f0 f1 f2 j2 j3 a0 a1 a2 a3 b0 b1 b2 b3 q8 q9 rp2 rp3
 replace a6 := a6.later hW (Nat.le_trans hB a5.size)
 replace rp4 := rp4.later hW
 replace a5 := bup a5 hW
 clear hW
 go_wp2_with fail
 (with_reducible refine (HG.out W2 (Nat.le_trans hB a5.size) a6).mono ?_)
 rintro e6 w6 ⟨A1, c1, rfl, s1, b6⟩
 replace rp4 := rp4.later b6
 replace a5 := bup a5 b6
 clear b6 HG a6
 have x0 := zaa rp4
 go_wp2
 clear x0
 have z9 := rp4.set3 (v0 := .int .i64 R.n) (v1 := .bool R.e) (v2 := .slice A1 R.m.length c1)
 have hbz := a5.trans (zah (W := w6) (g := w.heap.size + 1 + 1) (v0 := .int .i64 R.n) (v1 := .bool R.e) (v2 := .slice A1 R.m.length c1) (by omega) a5.size)
 have s2 := s1.far3 (g := w.heap.size + 1 + 1) (v0 := .int .i64 R.n) (v1 := .bool R.e) (v2 := .slice A1 R.m.length c1) (by omega) rp4 (by decide)
 obtain ⟨z0, z1, z2, fz⟩ := zaa z9
 refine bodyPost_ret (v := .agg #[.int .i64 R.n, .bool R.e, .slice A1 R.m.length c1]) (by simp [results, Tryz.results140, go_sem, z0, z1, z2]) rfl ⟨A1, c1, rfl, s2, hbz⟩
theorem zdQ (n : Int) (m : List Int) (N : Nat) (hN : (N : Int) = 2 * n) (hn : N ≤ 128) (hc : Cells N m) (fr te arr op av an bv bn : Int) (d : Nat) (hd : (d : Int) < n) (hav : av < n) (hbv : bv < n) (ia : I64 an) (ib : I64 bn) (A : Option Addr) (cap : Nat) (w : World) (B : Nat) (hB : B ≤ w.heap.size) (sx : Sx w B A m) :
  Calls Tryz.prog 140 #[.agg #[n, false, .slice A m.length cap], .agg #[fr, te, .int .i64 6, (d : Int), arr, op, av, an, bv, bn]] w (zar w B (productsO ⟨n, false, m⟩ 6 d av an bv bn)) :=
 zcB 6 231 (.func (.func 230) #[] #[]) (hid fun r s ir is_ W => zjt r s W) (fun a b W => by go_simp) (hid zeR) n m N hN hn hc fr te arr op av an bv bn d hd hav hbv ia ib A cap w B hB sx
theorem zdZ (n : Int) (m : List Int) (N : Nat) (hN : (N : Int) = 2 * n) (hn : N ≤ 128) (hc : Cells N m) (fr te arr op av an bv bn : Int) (d : Nat) (hd : (d : Int) < n) (hav : av < n) (hbv : bv < n) (ia : I64 an) (ib : I64 bn) (A : Option Addr) (cap : Nat) (w : World) (B : Nat) (hB : B ≤ w.heap.size) (sx : Sx w B A m) :
  Calls Tryz.prog 140 #[.agg #[n, false, .slice A m.length cap], .agg #[fr, te, .int .i64 7, (d : Int), arr, op, av, an, bv, bn]] w (zar w B (productsO ⟨n, false, m⟩ 7 d av an bv bn)) :=
 zcB 7 233 (.func (.func 232) #[] #[]) (hid fun r s ir is_ W => zjR r s ir is_ W) (fun a b W => by go_simp) (hid zeY) n m N hN hn hc fr te arr op av an bv bn d hd hav hbv ia ib A cap w B hB sx
theorem zdV (n : Int) (m : List Int) (N : Nat) (hN : (N : Int) = 2 * n) (hn : N ≤ 128) (hc : Cells N m) (fr te arr op av an bv bn : Int) (d : Nat) (hd : (d : Int) < n) (hav : av < n) (hbv : bv < n) (ia : I64 an) (ib : I64 bn) (A : Option Addr) (cap : Nat) (w : World) (B : Nat) (hB : B ≤ w.heap.size) (sx : Sx w B A m) :
  Calls Tryz.prog 140 #[.agg #[n, false, .slice A m.length cap], .agg #[fr, te, .int .i64 8, (d : Int), arr, op, av, an, bv, bn]] w (zar w B (productsO ⟨n, false, m⟩ 8 d av an bv bn)) :=
 zcB 8 235 (.func (.func 234) #[] #[]) (hid fun r s ir is_ W => zjW r s is_ W) (fun a b W => by go_simp) (hid zfe) n m N hN hn hc fr te arr op av an bv bn d hd hav hbv ia ib A cap w B hB sx
end
section
attribute [local go_sem ↓] Go.wp_at_zero Go.wp_at_succ
theorem zg0 (o : O) (ok : check o = 0) (d j : Nat) (hd : (d : Int) < o.n) (hj : (j : Int) < 2 * o.n) (A : Option Addr) (cap : Nat) (w : World) (hx : Rd w w.heap.size A o.m) (hm : o.m.length ≤ 17592186044416) :
  Calls Tryz.prog 134 #[.agg #[o.n, o.e, .slice A o.m.length cap], (d : Int), (j : Int)] w (zbh w (linkO o (2 * d) j 0)) := by
 have okF : OkO o.n (forgetO o d) := OkO.forget ⟨rfl, ok⟩ d
 have okP : OkO o.n (withO (forgetO o d) (2 * d) j 0) := okF.with_ (by omega) hj _
 have okQ : OkO o.n (withO (withO (forgetO o d) (2 * d) j 0) j (2 * d) 0) := okP.with_ hj (by omega) _
 have d3 := OkO.small okF
 have e3 := OkO.small okP
 have d9 := OkO.small okQ
 have HF := hid (fun W (h : Rd W W.heap.size A o.m) => zbE o ok d hd A cap W h hm)
 have HG := hid (show linkO o (2 * d) j 0 = closeO (withO (withO (forgetO o d) (2 * d) j 0) j (2 * d) 0) by unfold linkO; rw [show 2 * d / 2 = d by omega]; try rfl)
 generalize linkO o (2 * d) j 0 = G at *
 have c6 := hid (fun A c W h => zaN o.n (forgetO o d) okF (2 * d) j (by omega) hj 0 A c W h d3)
 generalize forgetO o d = F at *
 have c9 := hid (fun A c W h => zaN o.n (withO F (2 * d) j 0) okP j (2 * d) hj (by omega) 0 A c W h e3)
 generalize withO F (2 * d) j 0 = P at *
 have c7 := hid (fun A c W h => zaT (withO P j (2 * d) 0) okQ.ok A c W h d9)
 rw [← HG.out] at c7
 generalize withO P j (2 * d) 0 = Q at *
 have HP := hid (fun W => (zaJ d (by have := okF.rng; omega) W : Calls Tryz.prog 135 #[(d : Int)] W (zc0 ((2 * d : Nat) : Int) W)))
 have e2 : ((2 * d : Nat) : Int) = 2 * (d : Int) := by simp
 rw [e2] at HP c6 c9
 clear HG okF okP okQ
 obtain ⟨p0, p1, a1, b9⟩ := zal w #[o.n, o.e, .slice A o.m.length cap] #[.int .i64 0, false, .slice none 0 0] 24 24
 replace hx := hx.up a1
 have d7 := hid b9
 clear b9
 have b5 := zaa p0
 go_enter Tryz.func134, Tryz.ntmps134
 go_wp2_with fail
 clear b5
 generalize (w.alloc (Obj.cells #[o.n, o.e, .slice A o.m.length cap] 24)).alloc (Obj.cells #[.int .i64 0, false, .slice none 0 0] 24) = w1 at *
 (with_reducible refine (HF.out w1 hx).mono ?_)
 rintro b8 w2 ⟨A1, c1, rfl, a5, a0⟩
 replace p0 := p0.later a0
 replace p1 := p1.later a0
 replace hx := hx.up a0
 replace a1 := bup a1 a0
 clear hx
 go_wp2_with fail
 (with_reducible refine (HP.out w2).mono ?_)
 rintro e1 w3 ⟨rfl, rfl⟩
 go_wp2_with fail
 (with_reducible refine (c6.out A1 c1 w2 a5.rd).mono ?_)
 rintro e_w4 w4 ⟨A2, c2, rfl, a2, b1⟩
 replace p0 := p0.later b1
 replace p1 := p1.later b1
 replace a1 := bup a1 b1
 clear a5
 have hg2 : w.heap.size + 2 ≤ w4.heap.size := by have := a1.size; have := p1.lt; omega
 have hw2 := a1.size
 have rd2 := a2.rd
 clear a2
 obtain ⟨p2, d1, -⟩ := zak w4 #[P.n, P.e, .slice A2 P.m.length c2] 24
 replace p0 := p0.later d1
 replace p1 := p1.later d1
 replace rd2 := rd2.up d1
 replace a1 := bup a1 d1
 go_upto_region 2 with fail
 generalize w4.alloc (Obj.cells #[P.n, P.e, .slice A2 P.m.length c2] 24) = w5 at *
 have f0 := zab (show w5.cell? ⟨w4.heap.size, 0, none⟩ = some (.int .i64 P.n) from p2.cell 0)
 have f1 := zab (show w5.cell? ⟨w4.heap.size, 1, none⟩ = some (.bool P.e) from p2.cell 1)
 have f2 := zab (show w5.cell? ⟨w4.heap.size, 2, none⟩ = some (.slice A2 P.m.length c2) from p2.cell 2)
 refine zac 4 [Sp.val (.agg #[P.n, P.e, .slice A2 P.m.length c2]), Sp.val (.int .i64 (j : Int)), Sp.val (.int .i64 (d : Int)), Sp.val (.int .i64 (2 * (d : Int)))] (by kernel_rfl) (by kernel_rfl) ?_
 (refine fe_t (fun _ _ => ?_))
 (refine fe_t (fun _ _ => ?_))
 (refine fe_t (fun _ _ => ?_))
 refine zaf.callFV (by rfl) (fun W hW hf => ⟨135, #[(d : Int)], by go_simp, (HP.out W).mono fun e w2 ⟨he, hw⟩ => ⟨he, hw ▸ Ext.refl W⟩⟩) (fun _ _ => ?_)
 refine fe_p ?_
 refine zaf.tail (fun W hW hf hd => ?_)
 replace hW : Below w5.heap.size w5 W := Ext.trans (Below.refl _ _).drew hW
 clear hf hd f0 f1 f2
 replace p0 := p0.later hW
 replace p1 := p1.later hW
 replace p2 := p2.later hW
 replace rd2 := rd2.up hW
 replace a1 := bup a1 hW
 go_wp2_with fail
 (with_reducible refine (c9.out A2 c2 W rd2).mono ?_)
 rintro e_w6 w6 ⟨A3, c3, rfl, b2, a3⟩
 have rd3 := b2.rd
 clear b2
 replace p0 := p0.later a3
 replace p1 := p1.later a3
 replace p2 := p2.later a3
 replace rd2 := rd2.up a3
 replace a1 := bup a1 a3
 clear rd2
 go_wp2_with fail
 have c5 := a1.size
 (with_reducible refine (c7.out A3 c3 w6 rd3).mono ?_)
 rintro e_w7 w7 ⟨A4, c4, rfl, b3, a4⟩
 replace p0 := p0.later a4
 replace p1 := p1.later a4
 replace p2 := p2.later a4
 replace rd3 := rd3.up a4
 replace a1 := bup a1 a4
 have a7 := zaa p1
 go_wp2
 clear a7
 have o9 := b3.far3 (g := w.heap.size + 1) (v0 := .int .i64 G.n) (v1 := .bool G.e) (v2 := .slice A4 G.m.length c4) (zan b3 p1 (by decide))
 have q9 := p1.set3 (v0 := .int .i64 G.n) (v1 := .bool G.e) (v2 := .slice A4 G.m.length c4)
 have c0 := a1.trans (zah (W := w7) (g := w.heap.size + 1) (v0 := .int .i64 G.n) (v1 := .bool G.e) (v2 := .slice A4 G.m.length c4) (by omega) a1.size)
 obtain ⟨z0, z1, z2, fz⟩ := zaa q9
 refine bodyPost_ret (v := .agg #[G.n, G.e, .slice A4 G.m.length c4]) (by simp [results, Tryz.results134, go_sem, z0, z1, z2]) rfl ?_
 exact ⟨_, _, rfl, o9.less c5, c0⟩
theorem zgK (o : O) (ok : check o = 0) (d y : Nat) (hd : (d : Int) < o.n) (hy : (y : Int) < o.n) (hne : y ≠ d) (k : Int) (hk : -2305843009213693952 ≤ k ∧ k ≤ 2305843009213693952) (A : Option Addr) (cap : Nat) (w : World) (hx : Rd w w.heap.size A o.m) (hm : o.m.length ≤ 17592186044416) :
  Calls Tryz.prog 197 #[.agg #[o.n, o.e, .slice A o.m.length cap], (d : Int), (y : Int), k] w (zbh w (linkO o (2 * d) (2 * y) k)) := by
 obtain ⟨j, e0⟩ : ∃ j, j = 2 * y := ⟨_, rfl⟩
 have hj : (j : Int) < 2 * o.n := by omega
 rw [← e0]
 have okF : OkO o.n (forgetO o d) := OkO.forget ⟨rfl, ok⟩ d
 have okP : OkO o.n (withO (forgetO o d) (2 * d) j k) := okF.with_ (by omega) hj _
 have okQ : OkO o.n (withO (withO (forgetO o d) (2 * d) j k) j (2 * d) (-k)) := okP.with_ hj (by omega) _
 have d3 := OkO.small okF
 have e3 := OkO.small okP
 have d9 := OkO.small okQ
 have HF := hid (fun W (h : Rd W W.heap.size A o.m) => zbE o ok d hd A cap W h hm)
 have HG := hid (show linkO o (2 * d) j k = closeO (withO (withO (forgetO o d) (2 * d) j k) j (2 * d) (-k)) by unfold linkO; rw [show 2 * d / 2 = d by omega]; try rfl)
 generalize linkO o (2 * d) j k = G at *
 have c6 := hid (fun A c W h => zaN o.n (forgetO o d) okF (2 * d) j (by omega) hj k A c W h d3)
 generalize forgetO o d = F at *
 have c9 := hid (fun A c W h => zaN o.n (withO F (2 * d) j k) okP j (2 * d) hj (by omega) (-k) A c W h e3)
 generalize withO F (2 * d) j k = P at *
 have c7 := hid (fun A c W h => zaT (withO P j (2 * d) (-k)) okQ.ok A c W h d9)
 rw [← HG.out] at c7
 generalize withO P j (2 * d) (-k) = Q at *
 have HP := hid (fun W => (zaJ d (by have := okF.rng; omega) W : Calls Tryz.prog 135 #[(d : Int)] W (zc0 ((2 * d : Nat) : Int) W)))
 have e2 : ((2 * d : Nat) : Int) = 2 * (d : Int) := by simp
 rw [e2] at HP c6 c9
 have HM0 := hid okF.rng
 clear HG okF okP okQ
 have d4 := hid (fun W => (zaJ y (by have := HM0.out; omega) W : Calls Tryz.prog 135 #[(y : Int)] W (zc0 ((2 * y : Nat) : Int) W)))
 rw [← e0] at d4
 have t1 : decide (2305843009213693952 < k) = false := by rw [decide_eq_false_iff_not]; omega
 have t2 : decide (k < -2305843009213693952) = false := by rw [decide_eq_false_iff_not]; omega
 have t3 : ((y : Int) != (d : Int)) = true := by simp; omega
 have hw : wrap64 (-k) = -k := IntWalk.wrap64_in _ (by omega)
 clear e0 hne
 obtain ⟨p0, p3, p1, a1, b9⟩ := zaj w #[o.n, o.e, .slice A o.m.length cap] #[(d : Int)] #[.int .i64 0, false, .slice none 0 0] 24 3 24
 replace hx := hx.up a1
 have d7 := hid b9
 clear b9
 have pd := p3.cell 0
 go_enter Tryz.func197, Tryz.ntmps197
 go_upto_region 4 with fail
 clear pd
 generalize ((w.alloc (Obj.cells #[o.n, o.e, .slice A o.m.length cap] 24)).alloc (Obj.cells #[(d : Int)] 3)).alloc (Obj.cells #[.int .i64 0, false, .slice none 0 0] 24) = w1 at *
 have f0 := zab (show w1.cell? ⟨w.heap.size, 0, none⟩ = some (.int .i64 o.n) from p0.cell 0)
 have f1 := zab (show w1.cell? ⟨w.heap.size, 1, none⟩ = some (.bool o.e) from p0.cell 1)
 have f2 := zab (show w1.cell? ⟨w.heap.size, 2, none⟩ = some (.slice A o.m.length cap) from p0.cell 2)
 have j0 := zab (show w1.cell? ⟨w.heap.size + 1, 0, none⟩ = some (.int .i64 (d : Int)) from p3.cell 0)
 refine zac 10 [Sp.val (.agg #[o.n, o.e, .slice A o.m.length cap]), Sp.val (.int .i64 (d : Int)), Sp.any (zfJ F), Sp.val (.int .i64 (d : Int)), Sp.val (.int .i64 (2 * (d : Int))), Sp.val (.int .i64 (y : Int)), Sp.val (.int .i64 (j : Int)), Sp.val (.int .i64 k), Sp.any (zfJ P), Sp.any (zat 24 #[.int .i64 0, false, .slice none 0 0])] (by kernel_rfl) (by kernel_rfl) ?_
 (refine fe_t (fun _ _ => ?_))
 (refine fe_t (fun _ _ => ?_))
 refine zaf.call 132 #[.agg #[o.n, o.e, .slice A o.m.length cap], (d : Int)] (by rfl) (fun W hW => by go_simp) (fun W hW => (HF.out W (hx.up (Ext.trans (Below.refl _ _).drew hW))).mono fun _ _ ⟨A1, c1, he, ho, hb⟩ => ⟨_, he, hb, A1, c1, rfl, ho⟩) (fun v2 l2 h2 => ?_)
 refine fe_p ?_
 (refine fe_t (fun _ _ => ?_))
 refine zaf.callFV (by rfl) (fun W hW hf => ⟨135, #[(d : Int)], by go_simp, (HP.out W).mono fun e w2 ⟨he, hw⟩ => ⟨he, hw ▸ Ext.refl W⟩⟩) (fun _ _ => ?_)
 refine fe_p ?_
 (refine fe_t (fun _ _ => ?_))
 refine zaf.callFV (by rfl) (fun W hW hf => ⟨135, #[(y : Int)], by go_simp, (d4.out W).mono fun e w2 ⟨he, hw⟩ => ⟨he, hw ▸ Ext.refl W⟩⟩) (fun _ _ => ?_)
 refine fe_p ?_
 (refine fe_t (fun _ _ => ?_))
 refine zaf.callG (by rfl) (fun W hW hf => ?_) (fun v8 l8 h8 => ?_)
 ·obtain ⟨A1, c1, rfl, o1, _, _, _⟩ := zeH (show Sp.fact w1.drew (Sp.any (zfJ F)) v2 l2 h2 W from hf 2 (by kernel_rfl))
  exact ⟨186, #[.agg #[F.n, F.e, .slice A1 F.m.length c1], .int .i64 (2 * (d : Int)), .int .i64 (j : Int), k], by go_simp, (c6.out A1 c1 W o1.rd).mono fun _ _ ⟨A1, c1, he, ho, hb⟩ => ⟨_, he, hb, A1, c1, rfl, ho⟩⟩
 refine fe_p ?_
 refine zaf.step (by rfl) (fun W hW K hK => ?_) (fun v9 l9 h9 => ?_)
 ·go_simp
  exact hK _ _ (new1 _ _) ⟨rfl, Blk.new _ _ _, by simp⟩
 refine fe_p ?_
 refine zaf.tail (fun W hW hf hd => ?_)
 replace hW : Below w1.heap.size w1 W := Ext.trans (Below.refl _ _).drew hW
 obtain ⟨A2, c2, rfl, a2, c8, -, -⟩ := zeH (show Sp.fact w1.drew (Sp.any (zfJ P)) v8 l8 h8 W from hf 8)
 obtain ⟨g2, rfl, k2, lo2, -, -⟩ := zap (show Sp.fact w1.drew (Sp.any (zat 24 #[.int .i64 0, false, .slice none 0 0])) v9 l9 h9 W from hf 9)
 replace lo2 : w1.heap.size ≤ g2 := lo2
 replace a2 : Own W w.heap.size A2 c2 P.m := a2.less (by have := d7.out; have h5 : w1.heap.size ≤ l8 := c8; omega)
 have hW0 := d7.out
 clear hf hd f0 f1 f2 j0 HF c6 c8 hx
 replace p0 := p0.later hW
 replace p3 := p3.later hW
 replace p1 := p1.later hW
 replace a1 := bup a1 hW
 clear hW
 have d8 := zaa k2
 go_upto_region 5 with fail
 clear d8
 have d0 := zan a2 k2 (by decide)
 replace a2 := a2.far3 (g := g2) (v0 := .int .i64 P.n) (v1 := .bool P.e) (v2 := .slice A2 P.m.length c2) d0
 replace p0 := p0.far3 (g := g2) (v0 := .int .i64 P.n) (v1 := .bool P.e) (v2 := .slice A2 P.m.length c2) (by omega)
 replace p3 := p3.far3 (g := g2) (v0 := .int .i64 P.n) (v1 := .bool P.e) (v2 := .slice A2 P.m.length c2) (by omega)
 replace p1 := p1.far3 (g := g2) (v0 := .int .i64 P.n) (v1 := .bool P.e) (v2 := .slice A2 P.m.length c2) (by omega)
 replace a1 := a1.trans (zah (W := W) (g := g2) (v0 := .int .i64 P.n) (v1 := .bool P.e) (v2 := .slice A2 P.m.length c2) (by omega) a1.size)
 replace k2 := k2.set3 (v0 := .int .i64 P.n) (v1 := .bool P.e) (v2 := .slice A2 P.m.length c2)
 generalize ((W.setCell ⟨g2, 0, none⟩ (.int .i64 P.n)).setCell ⟨g2, 1, none⟩ (.bool P.e)).setCell ⟨g2, 2, none⟩ (.slice A2 P.m.length c2) = w4 at *
 have rd2 := a2.rd
 clear a2 d0
 have f0 := zab (show w4.cell? ⟨g2, 0, none⟩ = some (.int .i64 P.n) from k2.cell 0)
 have f1 := zab (show w4.cell? ⟨g2, 1, none⟩ = some (.bool P.e) from k2.cell 1)
 have f2 := zab (show w4.cell? ⟨g2, 2, none⟩ = some (.slice A2 P.m.length c2) from k2.cell 2)
 have j0 := zab (show w4.cell? ⟨w.heap.size + 1, 0, none⟩ = some (.int .i64 (d : Int)) from p3.cell 0)
 refine zac 7 [Sp.val (.agg #[P.n, P.e, .slice A2 P.m.length c2]), Sp.val (.int .i64 (y : Int)), Sp.val (.int .i64 (j : Int)), Sp.val (.int .i64 (d : Int)), Sp.val (.int .i64 (2 * (d : Int))), Sp.val (.int .i64 k), Sp.val (.int .i64 (-k))] (by kernel_rfl) (by kernel_rfl) ?_
 (refine fe_t (fun _ _ => ?_))
 (refine fe_t (fun _ _ => ?_))
 refine zaf.callFV (by rfl) (fun W hW hf => ⟨135, #[(y : Int)], by go_simp, (d4.out W).mono fun e w2 ⟨he, hw⟩ => ⟨he, hw ▸ Ext.refl W⟩⟩) (fun _ _ => ?_)
 refine fe_p ?_
 (refine fe_t (fun _ _ => ?_))
 refine zaf.callFV (by rfl) (fun W hW hf => ⟨135, #[(d : Int)], by go_simp, (HP.out W).mono fun e w2 ⟨he, hw⟩ => ⟨he, hw ▸ Ext.refl W⟩⟩) (fun _ _ => ?_)
 refine fe_p ?_
 (refine fe_t (fun _ _ => ?_))
 (refine fe_t (fun _ _ => ?_))
 clear p0 k2
 refine zaf.tail (fun W hW hf hd => ?_)
 replace hW : Below w4.heap.size w4 W := Ext.trans (Below.refl _ _).drew hW
 clear hf hd f0 f1 f2 j0
 replace p3 := p3.later hW
 replace p1 := p1.later hW
 replace rd2 := rd2.up hW
 replace a1 := bup a1 hW
 go_wp2_with fail
 (with_reducible refine (c9.out A2 c2 W rd2).mono ?_)
 rintro b8 w2 ⟨A3, c3, rfl, b2, a0⟩
 have rd3 := b2.rd
 clear b2
 replace p3 := p3.later a0
 replace p1 := p1.later a0
 replace rd2 := rd2.up a0
 replace a1 := bup a1 a0
 clear rd2
 go_wp2_with fail
 have c5 := a1.size
 (with_reducible refine (c7.out A3 c3 w2 rd3).mono ?_)
 rintro e1 w3 ⟨A4, c4, rfl, b3, b0⟩
 replace p3 := p3.later b0
 replace p1 := p1.later b0
 replace rd3 := rd3.up b0
 replace a1 := bup a1 b0
 have a7 := zaa p1
 go_wp2
 clear a7
 have o9 := b3.far3 (g := w.heap.size + 2) (v0 := .int .i64 G.n) (v1 := .bool G.e) (v2 := .slice A4 G.m.length c4) (zan b3 p1 (by decide))
 have q9 := p1.set3 (v0 := .int .i64 G.n) (v1 := .bool G.e) (v2 := .slice A4 G.m.length c4)
 have c0 := a1.trans (zah (W := w3) (g := w.heap.size + 1 + 1) (v0 := .int .i64 G.n) (v1 := .bool G.e) (v2 := .slice A4 G.m.length c4) (by omega) a1.size)
 obtain ⟨z0, z1, z2, fz⟩ := zaa q9
 refine bodyPost_ret (v := .agg #[G.n, G.e, .slice A4 G.m.length c4]) (by simp [results, Tryz.results197, go_sem, z0, z1, z2]) rfl ?_
 exact ⟨_, _, rfl, o9.less c5, c0⟩
theorem zgM (o : O) (ok : check o = 0) (d : Nat) (hd : (d : Int) < o.n) (y k : Int) (hk : k < -2305843009213693952 ∨ 2305843009213693952 < k) (A : Option Addr) (cap : Nat) (w : World) (hx : Rd w w.heap.size A o.m) (hm : o.m.length ≤ 17592186044416) :
  Calls Tryz.prog 197 #[.agg #[o.n, o.e, .slice A o.m.length cap], (d : Int), y, k] w (zbh w (forgetO o d)) := by
 have HF := hid (fun W (h : Rd W W.heap.size A o.m) => zbE o ok d hd A cap W h hm)
 generalize forgetO o d = F at *
 have HH := hid hk
 clear hk
 obtain ⟨p0, p3, p1, a1, b9⟩ := zaj w #[o.n, o.e, .slice A o.m.length cap] #[(d : Int)] #[.int .i64 0, false, .slice none 0 0] 24 3 24
 replace hx := hx.up a1
 clear b9
 have pd := p3.cell 0
 have b5 := zaa p0
 by_cases t1 : 2305843009213693952 < k
 ·have t3 : decide (2305843009213693952 < k) = true := decide_eq_true t1
  clear t1
  go_enter Tryz.func197, Tryz.ntmps197
  go_wp2_with fail
  clear pd
  clear b5
  generalize ((w.alloc (Obj.cells #[o.n, o.e, .slice A o.m.length cap] 24)).alloc (Obj.cells #[(d : Int)] 3)).alloc (Obj.cells #[.int .i64 0, false, .slice none 0 0] 24) = w1 at *
  have d6 := a1.size
  (with_reducible refine (HF.out w1 hx).mono ?_)
  rintro b8 w2 ⟨A1, c1, rfl, a5, a0⟩
  replace p0 := p0.later a0
  replace p3 := p3.later a0
  replace p1 := p1.later a0
  replace hx := hx.up a0
  replace a1 := bup a1 a0
  have a7 := zaa p1
  go_wp2
  clear a7
  have o9 := a5.far3 (g := w.heap.size + 2) (v0 := .int .i64 F.n) (v1 := .bool F.e) (v2 := .slice A1 F.m.length c1) (zan a5 p1 (by decide))
  have q9 := p1.set3 (v0 := .int .i64 F.n) (v1 := .bool F.e) (v2 := .slice A1 F.m.length c1)
  have c0 := a1.trans (zah (W := w2) (g := w.heap.size + 1 + 1) (v0 := .int .i64 F.n) (v1 := .bool F.e) (v2 := .slice A1 F.m.length c1) (by omega) a1.size)
  obtain ⟨z0, z1, z2, fz⟩ := zaa q9
  refine bodyPost_ret (v := .agg #[F.n, F.e, .slice A1 F.m.length c1]) (by simp [results, Tryz.results197, go_sem, z0, z1, z2]) rfl ?_
  exact ⟨_, _, rfl, o9.less d6, c0⟩
 ·have t3 : decide (2305843009213693952 < k) = false := decide_eq_false t1
  have t4 : decide (k < -2305843009213693952) = true := by rw [decide_eq_true_eq]; have := HH.out; omega
  clear t1
  go_enter Tryz.func197, Tryz.ntmps197
  go_wp2_with fail
  clear pd
  clear b5
  generalize ((w.alloc (Obj.cells #[o.n, o.e, .slice A o.m.length cap] 24)).alloc (Obj.cells #[(d : Int)] 3)).alloc (Obj.cells #[.int .i64 0, false, .slice none 0 0] 24) = w1 at *
  have d6 := a1.size
  (with_reducible refine (HF.out w1 hx).mono ?_)
  rintro b8 w2 ⟨A1, c1, rfl, a5, a0⟩
  replace p0 := p0.later a0
  replace p3 := p3.later a0
  replace p1 := p1.later a0
  replace hx := hx.up a0
  replace a1 := bup a1 a0
  have a7 := zaa p1
  go_wp2
  clear a7
  have o9 := a5.far3 (g := w.heap.size + 2) (v0 := .int .i64 F.n) (v1 := .bool F.e) (v2 := .slice A1 F.m.length c1) (zan a5 p1 (by decide))
  have q9 := p1.set3 (v0 := .int .i64 F.n) (v1 := .bool F.e) (v2 := .slice A1 F.m.length c1)
  have c0 := a1.trans (zah (W := w2) (g := w.heap.size + 1 + 1) (v0 := .int .i64 F.n) (v1 := .bool F.e) (v2 := .slice A1 F.m.length c1) (by omega) a1.size)
  obtain ⟨z0, z1, z2, fz⟩ := zaa q9
  refine bodyPost_ret (v := .agg #[F.n, F.e, .slice A1 F.m.length c1]) (by simp [results, Tryz.results197, go_sem, z0, z1, z2]) rfl ?_
  exact ⟨_, _, rfl, o9.less d6, c0⟩
end
end Go.Proofs.YtnmpgijiimglcaaGreat
