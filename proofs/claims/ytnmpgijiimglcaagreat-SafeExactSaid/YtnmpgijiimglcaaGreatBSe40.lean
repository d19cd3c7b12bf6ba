import Derived.Test.YtnmpgijiimglcaaGreatBSe27
import Derived.Test.YtnmpgijiimglcaaGreatBSe17
namespace Go.Proofs.YtnmpgijiimglcaaGreat
open Go.RowKit
set_option maxRecDepth 100000
set_option maxHeartbeats 8000000
attribute [local go_sem ↓] Go.wp_at_zero Go.wp_at_succ
theorem zkD (n : Int) (cm : List Int) (N : Nat) (hN : (N : Int) = 2 * n) (hn : N ≤ 128) (hc : Cells N cm) (d u w : Nat) (hd : (d : Int) < n) (hu : (u : Int) < n) (hw : (w : Int) < n) (A : Option Addr) (cap : Nat) (w0 : World) (B : Nat) (hB : B ≤ w0.heap.size) (sx : Sx w0 B A cm) :
  Calls Tryz.prog 195 #[.agg #[n, false, .slice A cm.length cap], .int .i64 (d : Int), .int .i64 (u : Int), .int .i64 (w : Int), false] w0 (zar w0 B (sumsO ⟨n, false, cm⟩ d u w false)) := by
 have okc : OkO n ⟨n, false, cm⟩ := OkO.of_cells hN hn hc
 have hm : cm.length ≤ 17592186044416 := OkO.small okc
 have hNt : (2 * n).toNat = N := by omega
 have HP := hid (fun W (hW : B ≤ W.heap.size) (h : Sx W B A cm) => zdL n cm N u A cap W hN hn hc (by omega) (h.rd hW) hm)
 have HQ := hid (fun W (hW : B ≤ W.heap.size) (h : Sx W B A cm) => zdL n cm N w A cap W hN hn hc (by omega) (h.rd hW) hm)
 have HR := hid (fun W (hW : B ≤ W.heap.size) (h : Sx W B A cm) => zhk n cm N u w A cap W hN hn hc (by omega) (by omega) (h.rd hW) hm)
 have ip : I64 (varR N cm u).lo ∧ I64 (varR N cm u).hi := zda u
 have iq : I64 (varR N cm w).lo ∧ I64 (varR N cm w).hi := zda w
 have HPL := hid (fun W => zaJ w (by omega) W)
 have f6 := hid (fun W => zaJ d (by omega) W)
 have HPU := hid (fun W => zaJ u (by omega) W)
 have ir : I64 (sumR N cm u w).lo := (zdY (hc.b (show 2 * u < N by omega) (show 2 * w + 1 < N by omega)) (hc.b (show 2 * u + 1 < N by omega) (show 2 * w < N by omega))).1
 have HF := hid (fun W (hW : B ≤ W.heap.size) (h : Sx W B A cm) => zcm okc (cap := cap) hW h d hd)
 have okF : OkO n (forgetO ⟨n, false, cm⟩ d) := OkO.forget okc d
 have HG := hid (fun A1 c1 W (hW : B ≤ W.heap.size) (h : Sx W B A1 (forgetO ⟨n, false, cm⟩ d).m) => zeO okF (cap := c1) hW h d hd (sumR N cm u w) ir)
 have okD : OkO n (rangedO (forgetO ⟨n, false, cm⟩ d) d (sumR N cm u w)) := okF.ranged hd _
 have HA : Hid (sumsO ⟨n, false, cm⟩ d u w false = closeO (if u ≠ w ∧ u ≠ d then pairO (if u ≠ w ∧ w ≠ d then pairO (rangedO (forgetO ⟨n, false, cm⟩ d) d (sumR N cm u w)) (2 * d) (2 * w) (varR N cm u) else rangedO (forgetO ⟨n, false, cm⟩ d) d (sumR N cm u w)) (2 * d) (2 * u) (varR N cm w) else (if u ≠ w ∧ w ≠ d then pairO (rangedO (forgetO ⟨n, false, cm⟩ d) d (sumR N cm u w)) (2 * d) (2 * w) (varR N cm u) else rangedO (forgetO ⟨n, false, cm⟩ d) d (sumR N cm u w)))) := hid (by rw [← hNt]; rfl)
 generalize sumsO ⟨n, false, cm⟩ d u w false = R at *
 generalize forgetO ⟨n, false, cm⟩ d = F at *
 generalize rangedO F d (sumR N cm u w) = D at *
 have HC0 := hid (fun A1 c1 W (hW : B ≤ W.heap.size) (h : Sx W B A1 D.m) => zbv okD (cap := c1) hW h)
 have e4 := hid (fun A1 c1 W (hW : B ≤ W.heap.size) (h : Sx W B A1 D.m) => zdc okD (cap := c1) hW h (2 * d) (2 * w) (by omega) (by omega) (varR N cm u) ip.1)
 have ok1 : OkO n (pairO D (2 * d) (2 * w) (varR N cm u)) := okD.pair (by omega) (by omega) _
 have HC1 := hid (fun A1 c1 W (hW : B ≤ W.heap.size) (h : Sx W B A1 (pairO D (2 * d) (2 * w) (varR N cm u)).m) => zbv ok1 (cap := c1) hW h)
 have f3 := hid (fun A1 c1 W (hW : B ≤ W.heap.size) (h : Sx W B A1 D.m) => zdc okD (cap := c1) hW h (2 * d) (2 * u) (by omega) (by omega) (varR N cm w) iq.1)
 have ok2 : OkO n (pairO D (2 * d) (2 * u) (varR N cm w)) := okD.pair (by omega) (by omega) _
 have HC2 := hid (fun A1 c1 W (hW : B ≤ W.heap.size) (h : Sx W B A1 (pairO D (2 * d) (2 * u) (varR N cm w)).m) => zbv ok2 (cap := c1) hW h)
 have e9 := hid (fun A1 c1 W (hW : B ≤ W.heap.size) (h : Sx W B A1 (pairO D (2 * d) (2 * w) (varR N cm u)).m) => zdc ok1 (cap := c1) hW h (2 * d) (2 * u) (by omega) (by omega) (varR N cm w) iq.1)
 have ok3 : OkO n (pairO (pairO D (2 * d) (2 * w) (varR N cm u)) (2 * d) (2 * u) (varR N cm w)) := ok1.pair (by omega) (by omega) _
 have HC3 := hid (fun A1 c1 W (hW : B ≤ W.heap.size) (h : Sx W B A1 (pairO (pairO D (2 * d) (2 * w) (varR N cm u)) (2 * d) (2 * u) (varR N cm w)).m) => zbv ok3 (cap := c1) hW h)
 clear okc okF okD ok1 ok2 ok3 ip iq ir hm hNt hN hn hc hd hu hw
 generalize e3 : pairO (pairO D (2 * d) (2 * w) (varR N cm u)) (2 * d) (2 * u) (varR N cm w) = D3 at *
 generalize e2 : pairO D (2 * d) (2 * u) (varR N cm w) = D2 at *
 generalize pairO D (2 * d) (2 * w) (varR N cm u) = D1 at *
 have E2 := hid e2
 have E3 := hid e3
 clear e2 e3
 have c1 : ((2 * d : Nat) : Int) = 2 * (d : Int) := by omega
 have c2 : ((2 * u : Nat) : Int) = 2 * (u : Int) := by omega
 have c3 : ((2 * w : Nat) : Int) = 2 * (w : Int) := by omega
 have c4 : ((2 * w + 1 : Nat) : Int) = 2 * (w : Int) + 1 := by omega
 rw [c1] at e4 f3 e9
 rw [c2] at f3 e9
 (try rw [c4] at e4)
 (try rw [c3] at e4)
 clear c1 c2 c3 c4
 generalize sumR N cm u w = r at *
 generalize varR N cm u = p at *
 generalize varR N cm w = q at *
 (try rw [Rg.val_eq] at HP)
 (try rw [Rg.val_eq] at HQ)
 (try rw [Rg.val_eq] at HR)
 (try rw [Rg.val_eq] at HG)
 (try rw [Rg.val_eq] at e4)
 (try rw [Rg.val_eq] at f3)
 (try rw [Rg.val_eq] at e9)
 obtain ⟨k5, -, -, -⟩ := zal w0 #[n, false, .slice A cm.length cap] #[.int .i64 0, false, .slice none 0 0] 24 24
 have k0 := zaa k5
 obtain ⟨p5, p10, p11, a0, hsz⟩ := zaj w0 #[n, false, .slice A cm.length cap] #[.int .i64 0, false, .slice none 0 0] #[n, false, .slice A cm.length cap] 24 24 125
 replace sx := sx.later a0 hB
 clear hsz k5
 go_enter Tryz.func195, Tryz.ntmps195
 have b8 := zaa p5
 go_upto_region 2 with fail
 clear b8
 clear k0
 generalize ((w0.alloc (Obj.cells #[n, false, .slice A cm.length cap] 24)).alloc (Obj.cells #[.int .i64 0, false, .slice none 0 0] 24)).alloc (Obj.cells #[n, false, .slice A cm.length cap] 125) = w1 at *
 have f0 := zab (show w1.cell? ⟨w0.heap.size + 1 + 1, 0, none⟩ = some (.int .i64 n) from p11.cell 0)
 have f1 := zab (show w1.cell? ⟨w0.heap.size + 1 + 1, 1, none⟩ = some (.bool false) from p11.cell 1)
 have f2 := zab (show w1.cell? ⟨w0.heap.size + 1 + 1, 2, none⟩ = some (.slice A cm.length cap) from p11.cell 2)
 refine zac 13 [Sp.val (.agg #[n, false, .slice A cm.length cap]), Sp.val (.int .i64 (u : Int)), Sp.val (.agg #[p.lo, p.hi, p.hl, p.hh]), Sp.val (.agg #[n, false, .slice A cm.length cap]), Sp.val (.int .i64 (w : Int)), Sp.val (.agg #[.int .i64 q.lo, .int .i64 q.hi, .bool q.hl, .bool q.hh]), Sp.val (.agg #[n, false, .slice A cm.length cap]), Sp.val (.int .i64 (u : Int)), Sp.val (.int .i64 (w : Int)), Sp.val (.agg #[r.lo, r.hi, r.hl, r.hh]), Sp.any (zat 49 #[.int .i64 0, .int .i64 0, false, false]), Sp.any (zat 49 #[.int .i64 0, .int .i64 0, false, false]), Sp.any (zat 49 #[.int .i64 0, .int .i64 0, false, false])] (by kernel_rfl) (by kernel_rfl) ?_
 (refine fe_t (fun _ _ => ?_))
 (refine fe_t (fun _ _ => ?_))
 refine zaf.callFV (by rfl) (fun W hW hf => ⟨171, #[.agg #[n, false, .slice A cm.length cap], .int .i64 (u : Int)], by go_simp, HP.out W (Nat.le_trans (Nat.le_trans hB a0.size) (Ext.trans (Below.refl _ _).drew hW : Below w1.heap.size w1 W).size) (sx.later (Ext.trans (Below.refl _ _).drew hW) (Nat.le_trans hB a0.size))⟩) (fun _ _ => ?_)
 refine fe_p ?_
 (refine fe_t (fun _ _ => ?_))
 (refine fe_t (fun _ _ => ?_))
 refine zaf.callFV (by rfl) (fun W hW hf => ⟨171, #[.agg #[n, false, .slice A cm.length cap], .int .i64 (w : Int)], by go_simp, HQ.out W (Nat.le_trans (Nat.le_trans hB a0.size) (Ext.trans (Below.refl _ _).drew hW : Below w1.heap.size w1 W).size) (sx.later (Ext.trans (Below.refl _ _).drew hW) (Nat.le_trans hB a0.size))⟩) (fun _ _ => ?_)
 refine fe_p ?_
 (refine fe_t (fun _ _ => ?_))
 (refine fe_t (fun _ _ => ?_))
 (refine fe_t (fun _ _ => ?_))
 refine zaf.callFV (by rfl) (fun W hW hf => ⟨93, #[.agg #[n, false, .slice A cm.length cap], .int .i64 (u : Int), .int .i64 (w : Int)], by go_simp, HR.out W (Nat.le_trans (Nat.le_trans hB a0.size) (Ext.trans (Below.refl _ _).drew hW : Below w1.heap.size w1 W).size) (sx.later (Ext.trans (Below.refl _ _).drew hW) (Nat.le_trans hB a0.size))⟩) (fun _ _ => ?_)
 refine fe_p ?_
 refine zaf.step (by rfl) (fun W hW K hK => ?_) (fun v10 l10 h10 => ?_)
 ·go_simp
  exact hK _ _ (new1 _ _) ⟨rfl, Blk.new _ _ _, by simp⟩
 refine fe_p ?_
 refine zaf.step (by rfl) (fun W hW K hK => ?_) (fun v11 l11 h11 => ?_)
 ·go_simp
  exact hK _ _ (new1 _ _) ⟨rfl, Blk.new _ _ _, by simp⟩
 refine fe_p ?_
 refine zaf.step (by rfl) (fun W hW K hK => ?_) (fun v12 l12 h12 => ?_)
 ·go_simp
  exact hK _ _ (new1 _ _) ⟨rfl, Blk.new _ _ _, by simp⟩
 refine fe_p ?_
 refine zaf.tail (fun W hW hf hd2 => ?_)
 replace hW : Below w1.heap.size w1 W := Ext.trans (Below.refl _ _).drew hW
 obtain ⟨g10, rfl, k10, lo10, e10, e10'⟩ := zap (show Sp.fact w1.drew (Sp.any (zat 49 #[.int .i64 0, .int .i64 0, false, false])) v10 l10 h10 W from hf 10)
 obtain ⟨g11, rfl, k11, lo11, e11, e11'⟩ := zap (show Sp.fact w1.drew (Sp.any (zat 49 #[.int .i64 0, .int .i64 0, false, false])) v11 l11 h11 W from hf 11)
 obtain ⟨g12, rfl, k12, lo12, e12, e12'⟩ := zap (show Sp.fact w1.drew (Sp.any (zat 49 #[.int .i64 0, .int .i64 0, false, false])) v12 l12 h12 W from hf 12)
 have d1 : h10 ≤ l11 ∨ h11 ≤ l10 := hd2 10 11 (by decide)
 have d2 : h10 ≤ l12 ∨ h12 ≤ l10 := hd2 10 12 (by decide)
 have d3 : h11 ≤ l12 ∨ h12 ≤ l11 := hd2 11 12 (by decide)
 have n1 : g10 ≠ g11 := by omega
 have n2 : g10 ≠ g12 := by omega
 have n3 : g11 ≠ g12 := by omega
 have f7 : w1.heap.size ≤ g10 := lo10
 have f9 : w1.heap.size ≤ g11 := lo11
 have f5 : w1.heap.size ≤ g12 := lo12
 have l11 := p11.lt
 have m10 : w0.heap.size + 2 < g10 := by omega
 have m11 : w0.heap.size + 2 < g11 := by omega
 have m12 : w0.heap.size + 2 < g12 := by omega
 clear hf hd2 d1 d2 d3 f7 f9 f5 lo10 lo11 lo12 e10 e10' e11 e11' e12 e12' l11 HP HQ HR f0 f1 f2
 replace p5 := p5.later hW
 replace p10 := p10.later hW
 replace p11 := p11.later hW
 replace sx := sx.later hW (Nat.le_trans hB a0.size)
 replace a0 := bup a0 hW
 clear hW
 have n1' := Ne.symm n1
 have n2' := Ne.symm n2
 have n3' := Ne.symm n3
 have d0 := zag k10
 have b2 := zag k11
 have b7 := zag k12
 have b8 := zaa p5
 have e7 := zaa p11
 go_wp2_with fail
 clear d0 b2 b7 b8 e7
 replace sx := sx.far4 (g := g10) (v0 := .int .i64 p.lo) (v1 := .int .i64 p.hi) (v2 := .bool p.hl) (v3 := .bool p.hh) (by omega) k10 (by decide)
 replace p5 := p5.far4 (g := g10) (v0 := .int .i64 p.lo) (v1 := .int .i64 p.hi) (v2 := .bool p.hl) (v3 := .bool p.hh) (by omega)
 replace p10 := p10.far4 (g := g10) (v0 := .int .i64 p.lo) (v1 := .int .i64 p.hi) (v2 := .bool p.hl) (v3 := .bool p.hh) (by omega)
 replace p11 := p11.far4 (g := g10) (v0 := .int .i64 p.lo) (v1 := .int .i64 p.hi) (v2 := .bool p.hl) (v3 := .bool p.hh) (by omega)
 replace k11 := k11.far4 (g := g10) (v0 := .int .i64 p.lo) (v1 := .int .i64 p.hi) (v2 := .bool p.hl) (v3 := .bool p.hh) (by omega)
 replace k12 := k12.far4 (g := g10) (v0 := .int .i64 p.lo) (v1 := .int .i64 p.hi) (v2 := .bool p.hl) (v3 := .bool p.hh) (by omega)
 replace k10 := k10.set4 (v0 := .int .i64 p.lo) (v1 := .int .i64 p.hi) (v2 := .bool p.hl) (v3 := .bool p.hh)
 replace a0 := a0.trans (zav (W := W) (g := g10) (v0 := .int .i64 p.lo) (v1 := .int .i64 p.hi) (v2 := .bool p.hl) (v3 := .bool p.hh) (by omega) a0.size)
 generalize (((W.setCell ⟨g10, 0, none⟩ (.int .i64 p.lo)).setCell ⟨g10, 1, none⟩ (.int .i64 p.hi)).setCell ⟨g10, 2, none⟩ (.bool p.hl)).setCell ⟨g10, 3, none⟩ (.bool p.hh) = w2 at *
 replace sx := sx.far4 (g := g11) (v0 := .int .i64 q.lo) (v1 := .int .i64 q.hi) (v2 := .bool q.hl) (v3 := .bool q.hh) (by omega) k11 (by decide)
 replace p5 := p5.far4 (g := g11) (v0 := .int .i64 q.lo) (v1 := .int .i64 q.hi) (v2 := .bool q.hl) (v3 := .bool q.hh) (by omega)
 replace p10 := p10.far4 (g := g11) (v0 := .int .i64 q.lo) (v1 := .int .i64 q.hi) (v2 := .bool q.hl) (v3 := .bool q.hh) (by omega)
 replace p11 := p11.far4 (g := g11) (v0 := .int .i64 q.lo) (v1 := .int .i64 q.hi) (v2 := .bool q.hl) (v3 := .bool q.hh) (by omega)
 replace k10 := k10.far4 (g := g11) (v0 := .int .i64 q.lo) (v1 := .int .i64 q.hi) (v2 := .bool q.hl) (v3 := .bool q.hh) (by omega)
 replace k12 := k12.far4 (g := g11) (v0 := .int .i64 q.lo) (v1 := .int .i64 q.hi) (v2 := .bool q.hl) (v3 := .bool q.hh) (by omega)
 replace k11 := k11.set4 (v0 := .int .i64 q.lo) (v1 := .int .i64 q.hi) (v2 := .bool q.hl) (v3 := .bool q.hh)
 replace a0 := a0.trans (zav (W := w2) (g := g11) (v0 := .int .i64 q.lo) (v1 := .int .i64 q.hi) (v2 := .bool q.hl) (v3 := .bool q.hh) (by omega) a0.size)
 generalize (((w2.setCell ⟨g11, 0, none⟩ (.int .i64 q.lo)).setCell ⟨g11, 1, none⟩ (.int .i64 q.hi)).setCell ⟨g11, 2, none⟩ (.bool q.hl)).setCell ⟨g11, 3, none⟩ (.bool q.hh) = w3 at *
 replace sx := sx.far4 (g := g12) (v0 := .int .i64 r.lo) (v1 := .int .i64 r.hi) (v2 := .bool r.hl) (v3 := .bool r.hh) (by omega) k12 (by decide)
 replace p5 := p5.far4 (g := g12) (v0 := .int .i64 r.lo) (v1 := .int .i64 r.hi) (v2 := .bool r.hl) (v3 := .bool r.hh) (by omega)
 replace p10 := p10.far4 (g := g12) (v0 := .int .i64 r.lo) (v1 := .int .i64 r.hi) (v2 := .bool r.hl) (v3 := .bool r.hh) (by omega)
 replace p11 := p11.far4 (g := g12) (v0 := .int .i64 r.lo) (v1 := .int .i64 r.hi) (v2 := .bool r.hl) (v3 := .bool r.hh) (by omega)
 replace k10 := k10.far4 (g := g12) (v0 := .int .i64 r.lo) (v1 := .int .i64 r.hi) (v2 := .bool r.hl) (v3 := .bool r.hh) (by omega)
 replace k11 := k11.far4 (g := g12) (v0 := .int .i64 r.lo) (v1 := .int .i64 r.hi) (v2 := .bool r.hl) (v3 := .bool r.hh) (by omega)
 replace k12 := k12.set4 (v0 := .int .i64 r.lo) (v1 := .int .i64 r.hi) (v2 := .bool r.hl) (v3 := .bool r.hh)
 replace a0 := a0.trans (zav (W := w3) (g := g12) (v0 := .int .i64 r.lo) (v1 := .int .i64 r.hi) (v2 := .bool r.hl) (v3 := .bool r.hh) (by omega) a0.size)
 generalize (((w3.setCell ⟨g12, 0, none⟩ (.int .i64 r.lo)).setCell ⟨g12, 1, none⟩ (.int .i64 r.hi)).setCell ⟨g12, 2, none⟩ (.bool r.hl)).setCell ⟨g12, 3, none⟩ (.bool r.hh) = w4 at *
 (with_reducible refine (HPL.out w4).mono ?_)
 rintro e_a w_a ⟨rfl, rfl⟩
 clear HPL
 have b8 := zaa p5
 have b7 := zag k12
 go_upto_region 7 with fail
 clear b8 b7
 have f0 := zab (show w4.cell? ⟨w0.heap.size, 0, none⟩ = some (.int .i64 n) from p5.cell 0)
 have f1 := zab (show w4.cell? ⟨w0.heap.size, 1, none⟩ = some (.bool false) from p5.cell 1)
 have f2 := zab (show w4.cell? ⟨w0.heap.size, 2, none⟩ = some (.slice A cm.length cap) from p5.cell 2)
 have j0 := zab (show w4.cell? ⟨g12, 0, none⟩ = some (.int .i64 r.lo) from k12.cell 0)
 have j1 := zab (show w4.cell? ⟨g12, 1, none⟩ = some (.int .i64 r.hi) from k12.cell 1)
 have j2 := zab (show w4.cell? ⟨g12, 2, none⟩ = some (.bool r.hl) from k12.cell 2)
 have j3 := zab (show w4.cell? ⟨g12, 3, none⟩ = some (.bool r.hh) from k12.cell 3)
 refine zac 7 [Sp.val (.agg #[n, false, .slice A cm.length cap]), Sp.val (.int .i64 (d : Int)), Sp.any (zd4 B F), Sp.val (.int .i64 (d : Int)), Sp.val (.agg #[r.lo, r.hi, r.hl, r.hh]), Sp.any (zd4 B D), Sp.any (zat 24 #[.int .i64 0, false, .slice none 0 0])] (by kernel_rfl) (by kernel_rfl) ?_
 (refine fe_t (fun _ _ => ?_))
 (refine fe_t (fun _ _ => ?_))
 refine zaf.call 132 #[.agg #[n, false, .slice A cm.length cap], .int .i64 (d : Int)] (by rfl) (fun W hW => by go_simp) (fun W hW => (HF.out W (Nat.le_trans (Nat.le_trans hB a0.size) (Ext.trans (Below.refl _ _).drew hW : Below w4.heap.size w4 W).size) (sx.later (Ext.trans (Below.refl _ _).drew hW) (Nat.le_trans hB a0.size))).mono fun _ _ q => q.out (Nat.le_trans (Nat.le_trans hB a0.size) (Ext.trans (Below.refl _ _).drew hW : Below w4.heap.size w4 W).size)) (fun v2 l2 h2 => ?_)
 refine fe_p ?_
 (refine fe_t (fun _ _ => ?_))
 (refine fe_t (fun _ _ => ?_))
 refine zaf.callG (by rfl) (fun W hW hf => ?_) (fun v5 l5 h5 => ?_)
 ·obtain ⟨A8, c8, rfl, s8⟩ := zdp (show Sp.fact w4.drew (Sp.any (zd4 B F)) v2 l2 h2 W from hf 2 (by kernel_rfl))
  have hBW := (Nat.le_trans (Nat.le_trans hB a0.size) (Ext.trans (Below.refl _ _).drew hW : Below w4.heap.size w4 W).size)
  exact ⟨152, #[.agg #[F.n, F.e, .slice A8 F.m.length c8], .int .i64 (d : Int), .agg #[r.lo, r.hi, r.hl, r.hh]], by go_simp, (HG.out A8 c8 W hBW s8).mono fun _ _ q => q.out hBW⟩
 refine fe_p ?_
 refine zaf.step (by rfl) (fun W hW K hK => ?_) (fun v6 l6 h6 => ?_)
 ·go_simp
  exact hK _ _ (new1 _ _) ⟨rfl, Blk.new _ _ _, by simp⟩
 refine fe_p ?_
 refine zaf.tail (fun W7 hW hf hd2 => ?_)
 replace hW : Below w4.heap.size w4 W7 := Ext.trans (Below.refl _ _).drew hW
 obtain ⟨A1, c1, rfl, sd⟩ := zdp (show Sp.fact w4.drew (Sp.any (zd4 B D)) v5 l5 h5 W7 from hf 5)
 obtain ⟨g16, rfl, k16, lo16, e16, e16'⟩ := zap (show Sp.fact w4.drew (Sp.any (zat 24 #[.int .i64 0, false, .slice none 0 0])) v6 l6 h6 W7 from hf 6)
 have f8 : w4.heap.size ≤ g16 := lo16
 have lk10 := k10.lt
 have lk11 := k11.lt
 have lk12 := k12.lt
 have n16 : g16 ≠ g10 ∧ g16 ≠ g11 ∧ g16 ≠ g12 ∧ w0.heap.size + 2 < g16 := by omega
 obtain ⟨n16a, n16b, n16c, m16⟩ := n16
 clear hf hd2 HF HG lo16 e16 e16' f8 lk10 lk11 lk12 f0 f1 f2 j0 j1 j2 j3
 clear k12
 clear p11
 clear p5 sx
 replace p10 := p10.later hW
 replace k10 := k10.later hW
 replace k11 := k11.later hW
 replace a0 := bup a0 hW
 clear hW
 by_cases huw : u = w
 ·have t1 : ((u : Int) != (w : Int)) = false := by rw [bne_eq_false_iff_eq]; omega
  have hR : R = closeO D := by rw [HA.out]; simp [huw]
  rw [← hR] at HC0
  clear HA hR
  clear huw
  have a3 := zaa k16
  go_wp2_with fail
  clear a3
  replace sd := sd.far3 (g := g16) (v0 := .int .i64 D.n) (v1 := .bool D.e) (v2 := .slice A1 D.m.length c1) (by omega) k16 (by decide)
  replace p10 := p10.far3 (g := g16) (v0 := .int .i64 D.n) (v1 := .bool D.e) (v2 := .slice A1 D.m.length c1) (by omega)
  replace k10 := k10.far3 (g := g16) (v0 := .int .i64 D.n) (v1 := .bool D.e) (v2 := .slice A1 D.m.length c1) (by omega)
  replace k11 := k11.far3 (g := g16) (v0 := .int .i64 D.n) (v1 := .bool D.e) (v2 := .slice A1 D.m.length c1) (by omega)
  replace k16 := k16.set3 (v0 := .int .i64 D.n) (v1 := .bool D.e) (v2 := .slice A1 D.m.length c1)
  replace a0 := a0.trans (zah (W := W7) (g := g16) (v0 := .int .i64 D.n) (v1 := .bool D.e) (v2 := .slice A1 D.m.length c1) (by omega) a0.size)
  generalize ((W7.setCell ⟨g16, 0, none⟩ (.int .i64 D.n)).setCell ⟨g16, 1, none⟩ (.bool D.e)).setCell ⟨g16, 2, none⟩ (.slice A1 D.m.length c1) = w5 at *
  (with_reducible refine (HC0.out A1 c1 w5 (Nat.le_trans hB a0.size) sd).mono ?_)
  rintro e_z w_z ⟨A9, c9, rfl, s9, a1⟩
  replace p10 := p10.later a1
  replace k10 := k10.later a1
  replace k11 := k11.later a1
  replace k16 := k16.later a1
  replace a0 := bup a0 a1
  have b1 := zaa p10
  go_wp2
  clear b1
  have q9 := p10.set3 (v0 := .int .i64 R.n) (v1 := .bool R.e) (v2 := .slice A9 R.m.length c9)
  have e1 := a0.trans (zah (W := w_z) (g := w0.heap.size + 1) (v0 := .int .i64 R.n) (v1 := .bool R.e) (v2 := .slice A9 R.m.length c9) (by omega) a0.size)
  have s10 := s9.far3 (g := w0.heap.size + 1) (v0 := .int .i64 R.n) (v1 := .bool R.e) (v2 := .slice A9 R.m.length c9) (by omega) p10 (by decide)
  obtain ⟨z0, z1, z2, fz⟩ := zaa q9
  refine bodyPost_ret (v := .agg #[R.n, R.e, .slice A9 R.m.length c9]) (by simp [results, Tryz.results195, go_sem, z0, z1, z2]) rfl ⟨A9, c9, rfl, s10, e1⟩
 ·have t1 : ((u : Int) != (w : Int)) = true := by rw [bne_iff_ne]; omega
  by_cases hwd : w = d
  ·have t2 : ((w : Int) != (d : Int)) = false := by rw [bne_eq_false_iff_eq]; omega
   have e0 : u ≠ d := by omega
   have t3 : ((u : Int) != (d : Int)) = true := by rw [bne_iff_ne]; omega
   have hR : R = closeO D2 := by rw [HA.out]; simp [hwd, e0, E2.out]
   rw [← hR] at HC2
   clear HA hR
   clear huw hwd e0
   have a3 := zaa k16
   have b2 := zag k11
   go_upto_region 12 with fail
   clear a3 b2
   replace sd := sd.far3 (g := g16) (v0 := .int .i64 D.n) (v1 := .bool D.e) (v2 := .slice A1 D.m.length c1) (by omega) k16 (by decide)
   replace p10 := p10.far3 (g := g16) (v0 := .int .i64 D.n) (v1 := .bool D.e) (v2 := .slice A1 D.m.length c1) (by omega)
   replace k10 := k10.far3 (g := g16) (v0 := .int .i64 D.n) (v1 := .bool D.e) (v2 := .slice A1 D.m.length c1) (by omega)
   replace k11 := k11.far3 (g := g16) (v0 := .int .i64 D.n) (v1 := .bool D.e) (v2 := .slice A1 D.m.length c1) (by omega)
   replace k16 := k16.set3 (v0 := .int .i64 D.n) (v1 := .bool D.e) (v2 := .slice A1 D.m.length c1)
   replace a0 := a0.trans (zah (W := W7) (g := g16) (v0 := .int .i64 D.n) (v1 := .bool D.e) (v2 := .slice A1 D.m.length c1) (by omega) a0.size)
   generalize ((W7.setCell ⟨g16, 0, none⟩ (.int .i64 D.n)).setCell ⟨g16, 1, none⟩ (.bool D.e)).setCell ⟨g16, 2, none⟩ (.slice A1 D.m.length c1) = w5 at *
   have f0 := zab (show w5.cell? ⟨g16, 0, none⟩ = some (.int .i64 D.n) from k16.cell 0)
   have f1 := zab (show w5.cell? ⟨g16, 1, none⟩ = some (.bool D.e) from k16.cell 1)
   have f2 := zab (show w5.cell? ⟨g16, 2, none⟩ = some (.slice A1 D.m.length c1) from k16.cell 2)
   have j0 := zab (show w5.cell? ⟨g11, 0, none⟩ = some (.int .i64 q.lo) from k11.cell 0)
   have j1 := zab (show w5.cell? ⟨g11, 1, none⟩ = some (.int .i64 q.hi) from k11.cell 1)
   have j2 := zab (show w5.cell? ⟨g11, 2, none⟩ = some (.bool q.hl) from k11.cell 2)
   have j3 := zab (show w5.cell? ⟨g11, 3, none⟩ = some (.bool q.hh) from k11.cell 3)
   refine zac 6 [Sp.val (.agg #[D.n, D.e, .slice A1 D.m.length c1]), Sp.val (.int .i64 (d : Int)), Sp.val (.int .i64 ((2 * d : Nat) : Int)), Sp.val (.int .i64 (u : Int)), Sp.val (.int .i64 ((2 * u : Nat) : Int)), Sp.val (.agg #[.int .i64 q.lo, .int .i64 q.hi, .bool q.hl, .bool q.hh])] (by kernel_rfl) (by kernel_rfl) ?_
   (refine fe_t (fun _ _ => ?_))
   (refine fe_t (fun _ _ => ?_))
   refine zaf.callFV (by rfl) (fun W hW hf => ⟨135, #[.int .i64 (d : Int)], by go_simp, (f6.out W).mono fun _ _ ⟨he, hw⟩ => ⟨he, hw ▸ Below.refl _ _⟩⟩) (fun _ _ => ?_)
   refine fe_p ?_
   (refine fe_t (fun _ _ => ?_))
   refine zaf.callFV (by rfl) (fun W hW hf => ⟨135, #[.int .i64 (u : Int)], by go_simp, (HPU.out W).mono fun _ _ ⟨he, hw⟩ => ⟨he, hw ▸ Below.refl _ _⟩⟩) (fun _ _ => ?_)
   refine fe_p ?_
   (refine fe_t (fun _ _ => ?_))
   refine zaf.tail (fun V6 hW hf hd2 => ?_)
   replace hW : Below w5.heap.size w5 V6 := Ext.trans (Below.refl _ _).drew hW
   clear hf hd2 f0 f1 f2 j0 j1 j2 j3
   replace p10 := p10.later hW
   replace k10 := k10.later hW
   replace k11 := k11.later hW
   replace k16 := k16.later hW
   replace sd := sd.later hW (Nat.le_trans hB a0.size)
   replace a0 := bup a0 hW
   clear hW
   go_wp2_with fail
   (with_reducible refine (f3.out A1 c1 V6 (Nat.le_trans hB a0.size) sd).mono ?_)
   rintro f4 w7 ⟨A2, c_A2, rfl, s_A2, a2⟩
   clear sd
   replace p10 := p10.later a2
   replace k10 := k10.later a2
   replace k11 := k11.later a2
   replace k16 := k16.later a2
   replace a0 := bup a0 a2
   clear a2
   have a3 := zaa k16
   go_wp2_with fail
   clear a3
   replace s_A2 := s_A2.far3 (g := g16) (v0 := .int .i64 D2.n) (v1 := .bool D2.e) (v2 := .slice A2 D2.m.length c_A2) (by omega) k16 (by decide)
   replace p10 := p10.far3 (g := g16) (v0 := .int .i64 D2.n) (v1 := .bool D2.e) (v2 := .slice A2 D2.m.length c_A2) (by omega)
   replace k10 := k10.far3 (g := g16) (v0 := .int .i64 D2.n) (v1 := .bool D2.e) (v2 := .slice A2 D2.m.length c_A2) (by omega)
   replace k11 := k11.far3 (g := g16) (v0 := .int .i64 D2.n) (v1 := .bool D2.e) (v2 := .slice A2 D2.m.length c_A2) (by omega)
   replace k16 := k16.set3 (v0 := .int .i64 D2.n) (v1 := .bool D2.e) (v2 := .slice A2 D2.m.length c_A2)
   replace a0 := a0.trans (zah (W := w7) (g := g16) (v0 := .int .i64 D2.n) (v1 := .bool D2.e) (v2 := .slice A2 D2.m.length c_A2) (by omega) a0.size)
   generalize ((w7.setCell ⟨g16, 0, none⟩ (.int .i64 D2.n)).setCell ⟨g16, 1, none⟩ (.bool D2.e)).setCell ⟨g16, 2, none⟩ (.slice A2 D2.m.length c_A2) = w8 at *
   (with_reducible refine (HC2.out A2 c_A2 w8 (Nat.le_trans hB a0.size) s_A2).mono ?_)
   rintro e_z w_z ⟨A9, c9, rfl, s9, a1⟩
   replace p10 := p10.later a1
   replace k10 := k10.later a1
   replace k11 := k11.later a1
   replace k16 := k16.later a1
   replace a0 := bup a0 a1
   have b1 := zaa p10
   go_wp2
   clear b1
   have q9 := p10.set3 (v0 := .int .i64 R.n) (v1 := .bool R.e) (v2 := .slice A9 R.m.length c9)
   have e1 := a0.trans (zah (W := w_z) (g := w0.heap.size + 1) (v0 := .int .i64 R.n) (v1 := .bool R.e) (v2 := .slice A9 R.m.length c9) (by omega) a0.size)
   have s10 := s9.far3 (g := w0.heap.size + 1) (v0 := .int .i64 R.n) (v1 := .bool R.e) (v2 := .slice A9 R.m.length c9) (by omega) p10 (by decide)
   obtain ⟨z0, z1, z2, fz⟩ := zaa q9
   refine bodyPost_ret (v := .agg #[R.n, R.e, .slice A9 R.m.length c9]) (by simp [results, Tryz.results195, go_sem, z0, z1, z2]) rfl ⟨A9, c9, rfl, s10, e1⟩
  ·have t2 : ((w : Int) != (d : Int)) = true := by rw [bne_iff_ne]; omega
   have a3 := zaa k16
   have d0 := zag k10
   go_upto_region 10 with fail
   clear a3 d0
   replace sd := sd.far3 (g := g16) (v0 := .int .i64 D.n) (v1 := .bool D.e) (v2 := .slice A1 D.m.length c1) (by omega) k16 (by decide)
   replace p10 := p10.far3 (g := g16) (v0 := .int .i64 D.n) (v1 := .bool D.e) (v2 := .slice A1 D.m.length c1) (by omega)
   replace k10 := k10.far3 (g := g16) (v0 := .int .i64 D.n) (v1 := .bool D.e) (v2 := .slice A1 D.m.length c1) (by omega)
   replace k11 := k11.far3 (g := g16) (v0 := .int .i64 D.n) (v1 := .bool D.e) (v2 := .slice A1 D.m.length c1) (by omega)
   replace k16 := k16.set3 (v0 := .int .i64 D.n) (v1 := .bool D.e) (v2 := .slice A1 D.m.length c1)
   replace a0 := a0.trans (zah (W := W7) (g := g16) (v0 := .int .i64 D.n) (v1 := .bool D.e) (v2 := .slice A1 D.m.length c1) (by omega) a0.size)
   generalize ((W7.setCell ⟨g16, 0, none⟩ (.int .i64 D.n)).setCell ⟨g16, 1, none⟩ (.bool D.e)).setCell ⟨g16, 2, none⟩ (.slice A1 D.m.length c1) = w5 at *
   have f0 := zab (show w5.cell? ⟨g16, 0, none⟩ = some (.int .i64 D.n) from k16.cell 0)
   have f1 := zab (show w5.cell? ⟨g16, 1, none⟩ = some (.bool D.e) from k16.cell 1)
   have f2 := zab (show w5.cell? ⟨g16, 2, none⟩ = some (.slice A1 D.m.length c1) from k16.cell 2)
   have j0 := zab (show w5.cell? ⟨g10, 0, none⟩ = some (.int .i64 p.lo) from k10.cell 0)
   have j1 := zab (show w5.cell? ⟨g10, 1, none⟩ = some (.int .i64 p.hi) from k10.cell 1)
   have j2 := zab (show w5.cell? ⟨g10, 2, none⟩ = some (.bool p.hl) from k10.cell 2)
   have j3 := zab (show w5.cell? ⟨g10, 3, none⟩ = some (.bool p.hh) from k10.cell 3)
   refine zac 5 [Sp.val (.agg #[D.n, D.e, .slice A1 D.m.length c1]), Sp.val (.int .i64 (d : Int)), Sp.val (.int .i64 ((2 * d : Nat) : Int)), Sp.val (.int .i64 (2 * (w : Int))), Sp.val (.agg #[p.lo, p.hi, p.hl, p.hh])] (by kernel_rfl) (by kernel_rfl) ?_
   (refine fe_t (fun _ _ => ?_))
   (refine fe_t (fun _ _ => ?_))
   refine zaf.callFV (by rfl) (fun W hW hf => ⟨135, #[.int .i64 (d : Int)], by go_simp, (f6.out W).mono fun _ _ ⟨he, hw⟩ => ⟨he, hw ▸ Below.refl _ _⟩⟩) (fun _ _ => ?_)
   refine fe_p ?_
   (refine fe_t (fun _ _ => ?_))
   (refine fe_t (fun _ _ => ?_))
   refine zaf.tail (fun V6 hW hf hd2 => ?_)
   replace hW : Below w5.heap.size w5 V6 := Ext.trans (Below.refl _ _).drew hW
   clear hf hd2 f0 f1 f2 j0 j1 j2 j3
   replace p10 := p10.later hW
   replace k10 := k10.later hW
   replace k11 := k11.later hW
   replace k16 := k16.later hW
   replace sd := sd.later hW (Nat.le_trans hB a0.size)
   replace a0 := bup a0 hW
   clear hW
   go_wp2_with fail
   (with_reducible refine (e4.out A1 c1 V6 (Nat.le_trans hB a0.size) sd).mono ?_)
   rintro f4 w7 ⟨A2, c_A2, rfl, s_A2, a2⟩
   clear sd
   replace p10 := p10.later a2
   replace k10 := k10.later a2
   replace k11 := k11.later a2
   replace k16 := k16.later a2
   replace a0 := bup a0 a2
   clear a2
   by_cases e0 : u = d
   ·have t3 : ((u : Int) != (d : Int)) = false := by rw [bne_eq_false_iff_eq]; omega
    have hR : R = closeO D1 := by rw [HA.out]; simp [hwd, e0, Ne.symm hwd]
    rw [← hR] at HC1
    clear HA hR
    clear huw hwd e0
    have a3 := zaa k16
    go_wp2_with fail
    clear a3
    replace s_A2 := s_A2.far3 (g := g16) (v0 := .int .i64 D1.n) (v1 := .bool D1.e) (v2 := .slice A2 D1.m.length c_A2) (by omega) k16 (by decide)
    replace p10 := p10.far3 (g := g16) (v0 := .int .i64 D1.n) (v1 := .bool D1.e) (v2 := .slice A2 D1.m.length c_A2) (by omega)
    replace k10 := k10.far3 (g := g16) (v0 := .int .i64 D1.n) (v1 := .bool D1.e) (v2 := .slice A2 D1.m.length c_A2) (by omega)
    replace k11 := k11.far3 (g := g16) (v0 := .int .i64 D1.n) (v1 := .bool D1.e) (v2 := .slice A2 D1.m.length c_A2) (by omega)
    replace k16 := k16.set3 (v0 := .int .i64 D1.n) (v1 := .bool D1.e) (v2 := .slice A2 D1.m.length c_A2)
    replace a0 := a0.trans (zah (W := w7) (g := g16) (v0 := .int .i64 D1.n) (v1 := .bool D1.e) (v2 := .slice A2 D1.m.length c_A2) (by omega) a0.size)
    generalize ((w7.setCell ⟨g16, 0, none⟩ (.int .i64 D1.n)).setCell ⟨g16, 1, none⟩ (.bool D1.e)).setCell ⟨g16, 2, none⟩ (.slice A2 D1.m.length c_A2) = w8 at *
    (with_reducible refine (HC1.out A2 c_A2 w8 (Nat.le_trans hB a0.size) s_A2).mono ?_)
    rintro e_z w_z ⟨A9, c9, rfl, s9, a1⟩
    replace p10 := p10.later a1
    replace k10 := k10.later a1
    replace k11 := k11.later a1
    replace k16 := k16.later a1
    replace a0 := bup a0 a1
    have b1 := zaa p10
    go_wp2
    clear b1
    have q9 := p10.set3 (v0 := .int .i64 R.n) (v1 := .bool R.e) (v2 := .slice A9 R.m.length c9)
    have e1 := a0.trans (zah (W := w_z) (g := w0.heap.size + 1) (v0 := .int .i64 R.n) (v1 := .bool R.e) (v2 := .slice A9 R.m.length c9) (by omega) a0.size)
    have s10 := s9.far3 (g := w0.heap.size + 1) (v0 := .int .i64 R.n) (v1 := .bool R.e) (v2 := .slice A9 R.m.length c9) (by omega) p10 (by decide)
    obtain ⟨z0, z1, z2, fz⟩ := zaa q9
    refine bodyPost_ret (v := .agg #[R.n, R.e, .slice A9 R.m.length c9]) (by simp [results, Tryz.results195, go_sem, z0, z1, z2]) rfl ⟨A9, c9, rfl, s10, e1⟩
   ·have t3 : ((u : Int) != (d : Int)) = true := by rw [bne_iff_ne]; omega
    have hR : R = closeO D3 := by rw [HA.out]; simp [huw, hwd, e0, E3.out]
    rw [← hR] at HC3
    clear HA hR
    clear huw hwd e0
    have a3 := zaa k16
    have b2 := zag k11
    go_upto_region 12 with fail
    clear a3 b2
    replace s_A2 := s_A2.far3 (g := g16) (v0 := .int .i64 D1.n) (v1 := .bool D1.e) (v2 := .slice A2 D1.m.length c_A2) (by omega) k16 (by decide)
    replace p10 := p10.far3 (g := g16) (v0 := .int .i64 D1.n) (v1 := .bool D1.e) (v2 := .slice A2 D1.m.length c_A2) (by omega)
    replace k10 := k10.far3 (g := g16) (v0 := .int .i64 D1.n) (v1 := .bool D1.e) (v2 := .slice A2 D1.m.length c_A2) (by omega)
    replace k11 := k11.far3 (g := g16) (v0 := .int .i64 D1.n) (v1 := .bool D1.e) (v2 := .slice A2 D1.m.length c_A2) (by omega)
    replace k16 := k16.set3 (v0 := .int .i64 D1.n) (v1 := .bool D1.e) (v2 := .slice A2 D1.m.length c_A2)
    replace a0 := a0.trans (zah (W := w7) (g := g16) (v0 := .int .i64 D1.n) (v1 := .bool D1.e) (v2 := .slice A2 D1.m.length c_A2) (by omega) a0.size)
    generalize ((w7.setCell ⟨g16, 0, none⟩ (.int .i64 D1.n)).setCell ⟨g16, 1, none⟩ (.bool D1.e)).setCell ⟨g16, 2, none⟩ (.slice A2 D1.m.length c_A2) = w8 at *
    have f0 := zab (show w8.cell? ⟨g16, 0, none⟩ = some (.int .i64 D1.n) from k16.cell 0)
    have f1 := zab (show w8.cell? ⟨g16, 1, none⟩ = some (.bool D1.e) from k16.cell 1)
    have f2 := zab (show w8.cell? ⟨g16, 2, none⟩ = some (.slice A2 D1.m.length c_A2) from k16.cell 2)
    have j0 := zab (show w8.cell? ⟨g11, 0, none⟩ = some (.int .i64 q.lo) from k11.cell 0)
    have j1 := zab (show w8.cell? ⟨g11, 1, none⟩ = some (.int .i64 q.hi) from k11.cell 1)
    have j2 := zab (show w8.cell? ⟨g11, 2, none⟩ = some (.bool q.hl) from k11.cell 2)
    have j3 := zab (show w8.cell? ⟨g11, 3, none⟩ = some (.bool q.hh) from k11.cell 3)
    refine zac 6 [Sp.val (.agg #[D1.n, D1.e, .slice A2 D1.m.length c_A2]), Sp.val (.int .i64 (d : Int)), Sp.val (.int .i64 ((2 * d : Nat) : Int)), Sp.val (.int .i64 (u : Int)), Sp.val (.int .i64 ((2 * u : Nat) : Int)), Sp.val (.agg #[.int .i64 q.lo, .int .i64 q.hi, .bool q.hl, .bool q.hh])] (by kernel_rfl) (by kernel_rfl) ?_
    (refine fe_t (fun _ _ => ?_))
    (refine fe_t (fun _ _ => ?_))
    refine zaf.callFV (by rfl) (fun W hW hf => ⟨135, #[.int .i64 (d : Int)], by go_simp, (f6.out W).mono fun _ _ ⟨he, hw⟩ => ⟨he, hw ▸ Below.refl _ _⟩⟩) (fun _ _ => ?_)
    refine fe_p ?_
    (refine fe_t (fun _ _ => ?_))
    refine zaf.callFV (by rfl) (fun W hW hf => ⟨135, #[.int .i64 (u : Int)], by go_simp, (HPU.out W).mono fun _ _ ⟨he, hw⟩ => ⟨he, hw ▸ Below.refl _ _⟩⟩) (fun _ _ => ?_)
    refine fe_p ?_
    (refine fe_t (fun _ _ => ?_))
    refine zaf.tail (fun V9 hW hf hd2 => ?_)
    replace hW : Below w8.heap.size w8 V9 := Ext.trans (Below.refl _ _).drew hW
    clear hf hd2 f0 f1 f2 j0 j1 j2 j3
    replace p10 := p10.later hW
    replace k10 := k10.later hW
    replace k11 := k11.later hW
    replace k16 := k16.later hW
    replace s_A2 := s_A2.later hW (Nat.le_trans hB a0.size)
    replace a0 := bup a0 hW
    clear hW
    go_wp2_with fail
    (with_reducible refine (e9.out A2 c_A2 V9 (Nat.le_trans hB a0.size) s_A2).mono ?_)
    rintro e_w10 w10 ⟨A3, c_A3, rfl, s_A3, a7⟩
    clear s_A2
    replace p10 := p10.later a7
    replace k10 := k10.later a7
    replace k11 := k11.later a7
    replace k16 := k16.later a7
    replace a0 := bup a0 a7
    clear a7
    have a3 := zaa k16
    go_wp2_with fail
    clear a3
    replace s_A3 := s_A3.far3 (g := g16) (v0 := .int .i64 D3.n) (v1 := .bool D3.e) (v2 := .slice A3 D3.m.length c_A3) (by omega) k16 (by decide)
    replace p10 := p10.far3 (g := g16) (v0 := .int .i64 D3.n) (v1 := .bool D3.e) (v2 := .slice A3 D3.m.length c_A3) (by omega)
    replace k10 := k10.far3 (g := g16) (v0 := .int .i64 D3.n) (v1 := .bool D3.e) (v2 := .slice A3 D3.m.length c_A3) (by omega)
    replace k11 := k11.far3 (g := g16) (v0 := .int .i64 D3.n) (v1 := .bool D3.e) (v2 := .slice A3 D3.m.length c_A3) (by omega)
    replace k16 := k16.set3 (v0 := .int .i64 D3.n) (v1 := .bool D3.e) (v2 := .slice A3 D3.m.length c_A3)
    replace a0 := a0.trans (zah (W := w10) (g := g16) (v0 := .int .i64 D3.n) (v1 := .bool D3.e) (v2 := .slice A3 D3.m.length c_A3) (by omega) a0.size)
    generalize ((w10.setCell ⟨g16, 0, none⟩ (.int .i64 D3.n)).setCell ⟨g16, 1, none⟩ (.bool D3.e)).setCell ⟨g16, 2, none⟩ (.slice A3 D3.m.length c_A3) = w11 at *
    (with_reducible refine (HC3.out A3 c_A3 w11 (Nat.le_trans hB a0.size) s_A3).mono ?_)
    rintro e_z w_z ⟨A9, c9, rfl, s9, a1⟩
    replace p10 := p10.later a1
    replace k10 := k10.later a1
    replace k11 := k11.later a1
    replace k16 := k16.later a1
    replace a0 := bup a0 a1
    have b1 := zaa p10
    go_wp2
    clear b1
    have q9 := p10.set3 (v0 := .int .i64 R.n) (v1 := .bool R.e) (v2 := .slice A9 R.m.length c9)
    have e1 := a0.trans (zah (W := w_z) (g := w0.heap.size + 1) (v0 := .int .i64 R.n) (v1 := .bool R.e) (v2 := .slice A9 R.m.length c9) (by omega) a0.size)
    have s10 := s9.far3 (g := w0.heap.size + 1) (v0 := .int .i64 R.n) (v1 := .bool R.e) (v2 := .slice A9 R.m.length c9) (by omega) p10 (by decide)
    obtain ⟨z0, z1, z2, fz⟩ := zaa q9
    refine bodyPost_ret (v := .agg #[R.n, R.e, .slice A9 R.m.length c9]) (by simp [results, Tryz.results195, go_sem, z0, z1, z2]) rfl ⟨A9, c9, rfl, s10, e1⟩
end Go.Proofs.YtnmpgijiimglcaaGreat
