import Derived.Test.YtnmpgijiimglcaaGreatBTl16
import Derived.Test.YtnmpgijiimglcaaGreatBTl21
import Derived.Test.YtnmpgijiimglcaaGreatBTl23
import Derived.Test.YtnmpgijiimglcaaGreatBTl37
import Derived.Test.YtnmpgijiimglcaaGreatBTl38
import Derived.Test.YtnmpgijiimglcaaGreatBTl39
import Derived.Test.YtnmpgijiimglcaaGreatBTl26
namespace Go.Proofs.YtnmpgijiimglcaaGreat
section
open Go.RowKit
set_option maxRecDepth 100000
set_option maxHeartbeats 8000000
attribute [local go_sem ↓] Go.wp_at_zero Go.wp_at_succ
theorem operand_num (n : Int) (e : Bool) (L : Nat) (av an : Int) (A : Option Addr) (cap : Nat) (w : World) (hv : av < 0) :
  Calls Tryz.prog 90 #[.agg #[n, e, .slice A L cap], .agg #[av, an]] w (BelVal (.agg #[an, an, true, true]) w) := by
 have H1 := hid (fun W => endat_ok an W)
 have H2 := hid (fun W => endto_tt an an W)
 have t1 : decide (0 ≤ av) = false := by rw [decide_eq_false_iff_not]; omega
 clear hv
 obtain ⟨p0, p1, p2, a0, a3⟩ := new_three w #[n, e, .slice A L cap] #[av, an] #[.int .i64 0, .int .i64 0, false, false] 125 26 49
 clear a3 p0
 go_enter Tryz.func90, Tryz.ntmps90
 obtain ⟨x0, x1, fx⟩ := opbox p1
 go_upto_region 3 with fail
 clear x0 x1 fx
 generalize ((w.alloc (Obj.cells #[n, e, .slice A L cap] 125)).alloc (Obj.cells #[av, an] 26)).alloc (Obj.cells #[.int .i64 0, .int .i64 0, false, false] 49) = w1 at *
 have f1 := laterE (show w1.cell? ⟨w.heap.size + 1, 1, none⟩ = some (.int .i64 an) from p1.cell 1)
 refine wp_region_flowE 5 [Sp.val (.pointer (some ⟨w.heap.size + 1, 1, none⟩)), Sp.val (.int .i64 an), Sp.val (.agg #[an, true]), Sp.val (.pointer (some ⟨w.heap.size + 1, 1, none⟩)), Sp.val (.int .i64 an)] (by kernel_rfl) (by kernel_rfl) ?_
 (refine fe_t (fun _ _ => ?_))
 (refine fe_t (fun _ _ => ?_))
 refine FlowE.callFV (by rfl) (fun W hW hf => ⟨172, #[an], by go_simp, H1.out W⟩) (fun _ _ => ?_)
 refine fe_p ?_
 (refine fe_t (fun _ _ => ?_))
 (refine fe_t (fun _ _ => ?_))
 refine FlowE.tail (fun W hW hf hd => ?_)
 replace hW : Below w1.heap.size w1 W := Ext.trans (Below.refl _ _).drew hW
 replace p2 := p2.later hW
 replace a0 := bup a0 hW
 clear hW hf hd f1 p1
 go_wp2_with fail
 (with_reducible refine (H1.out _).mono ?_)
 rintro e2 w2 ⟨rfl, a2⟩
 replace p2 := p2.later a2
 replace a0 := bup a0 a2
 clear a2 H1
 go_wp2_with fail
 (with_reducible refine (H2.out _).mono ?_)
 rintro e3 w3 ⟨rfl, a1⟩
 replace p2 := p2.later a1
 replace a0 := bup a0 a1
 clear a1 H2
 obtain ⟨z0, z1, z2, z3, fz⟩ := rgbox p2
 go_wp2
 clear z0 z1 z2 z3 fz
 have q := (((p2.set_ 0 (.int .i64 an)).set_ 1 (.int .i64 an)).set_ 2 (.bool true)).set_ 3 (.bool true)
 obtain ⟨z0, z1, z2, z3, fz⟩ := rgbox (show Blk _ _ _ #[an, an, true, true] from q)
 refine bodyPost_ret (v := .agg #[an, an, true, true]) (by simp [results, Tryz.results90, go_sem, z0, z1, z2, z3]) rfl (And.intro rfl ?_)
 refine a0.trans ?_
 have := a0.size
 repeat (first | exact Below.refl _ _ | refine Below.setCell ?_ (by simp; try omega) _ | refine Below.alloc ?_ (by simp; try omega) _)
theorem operand_var (n : Int) (m : List Int) (N v : Nat) (an : Int) (A : Option Addr) (cap : Nat) (w : World) (hN : (N : Int) = 2 * n) (hn : N ≤ 128) (hc : Cells N m) (hv : 2 * v + 1 < N) (hx : Rd w w.heap.size A m) (hm : m.length ≤ 17592186044416) :
  Calls Tryz.prog 90 #[.agg #[n, false, .slice A m.length cap], .agg #[(v : Int), an]] w (BelVal (varR N m v).val w) := by
 have HV := hid (fun W (h : Rd W W.heap.size A m) => var_ok n m N v A cap W hN hn hc hv h hm)
 obtain ⟨r, hr⟩ : ∃ r, r = varR N m v := ⟨_, rfl⟩
 rw [← hr] at HV ⊢
 clear hr hN hn hc hv hm
 obtain ⟨r0, r1, r2, r3⟩ := r
 unfold Rg.val at *
 dsimp only at *
 have t1 : decide (0 ≤ (v : Int)) = true := by rw [decide_eq_true_eq]; omega
 obtain ⟨p0, p1, p2, a0, a3⟩ := new_three w #[n, false, .slice A m.length cap] #[(v : Int), an] #[.int .i64 0, .int .i64 0, false, false] 125 26 49
 replace hx := hx.up a0
 clear a3
 go_enter Tryz.func90, Tryz.ntmps90
 obtain ⟨x0, x1, fx⟩ := opbox p1
 obtain ⟨y0, y1, y2, fy⟩ := octbox p0
 go_wp2_with fail
 clear x0 x1 fx y0 y1 y2 fy p0 p1
 generalize ((w.alloc (Obj.cells #[n, false, .slice A m.length cap] 125)).alloc (Obj.cells #[(v : Int), an] 26)).alloc (Obj.cells #[.int .i64 0, .int .i64 0, false, false] 49) = w1 at *
 (with_reducible refine (HV.out w1 hx).mono ?_)
 rintro e3 w3 ⟨rfl, a1⟩
 replace p2 := p2.later a1
 replace a0 := bup a0 a1
 clear a1 HV hx
 obtain ⟨z0, z1, z2, z3, fz⟩ := rgbox p2
 go_wp2
 clear z0 z1 z2 z3 fz
 have q := (((p2.set_ 0 (.int .i64 r0)).set_ 1 (.int .i64 r1)).set_ 2 (.bool r2)).set_ 3 (.bool r3)
 obtain ⟨z0, z1, z2, z3, fz⟩ := rgbox (show Blk _ _ _ #[r0, r1, r2, r3] from q)
 refine bodyPost_ret (v := .agg #[r0, r1, r2, r3]) (by simp [results, Tryz.results90, go_sem, z0, z1, z2, z3]) rfl (And.intro rfl ?_)
 refine a0.trans ?_
 have := a0.size
 repeat (first | exact Below.refl _ _ | refine Below.setCell ?_ (by simp; try omega) _ | refine Below.alloc ?_ (by simp; try omega) _)
theorem operand_ok (n : Int) (m : List Int) (N : Nat) (av an : Int) (A : Option Addr) (cap : Nat) (w : World) (hN : (N : Int) = 2 * n) (hn : N ≤ 128) (hc : Cells N m) (hv : av < n) (hx : Rd w w.heap.size A m) (hm : m.length ≤ 17592186044416) :
  Calls Tryz.prog 90 #[.agg #[n, false, .slice A m.length cap], .agg #[av, an]] w (BelVal (opdR N m av an).val w) := by
 unfold opdR
 by_cases h : 0 ≤ av
 ·rw [if_pos h]
  obtain ⟨v, rfl⟩ : ∃ v : Nat, av = (v : Int) := ⟨av.toNat, by omega⟩
  exact operand_var n m N v an A cap w hN hn hc (by omega) hx hm
 ·rw [if_neg h]
  exact operand_num n false m.length av an A cap w (by omega)
end
section
open Go.RowKit
set_option maxRecDepth 100000
set_option maxHeartbeats 8000000
attribute [local go_sem ↓] Go.wp_at_zero Go.wp_at_succ
theorem opd_i64L (N : Nat) (m : List Int) (v n : Int) (hn : I64 n) : I64 (opdR N m v n).lo ∧ I64 (opdR N m v n).hi := by
 unfold opdR
 split
 ·exact var_i64 _
 ·exact ⟨hn, hn⟩
theorem kindR_lo {kd : Int} {a b : Rg} (ia : I64 a.lo) (ib : I64 b.lo) : I64 (kindR kd a b).lo := by
 have hz : I64 0 := by unfold I64; omega
 unfold kindR
 split
 ·unfold mulR
  split
  ·rename_i h
   simp only [Bool.and_eq_true, nearR, decide_eq_true_eq] at h
   have p1 := mul_box h.1.1.1.2.1 h.1.1.1.2.2 h.1.2.2.1 h.1.2.2.2
   have p2 := mul_box h.1.1.1.2.1 h.1.1.1.2.2 h.2.2.1 h.2.2.2
   have p3 := mul_box h.1.1.2.2.1 h.1.1.2.2.2 h.1.2.2.1 h.1.2.2.2
   have p4 := mul_box h.1.1.2.2.1 h.1.1.2.2.2 h.2.2.1 h.2.2.2
   show I64 (min (min (a.lo * b.lo) (a.lo * b.hi)) (min (a.hi * b.lo) (a.hi * b.hi)))
   unfold I64
   omega
  ·exact hz
 ·split
  ·unfold divR
   split
   ·exact hz
   ·rename_i hk
    show I64 (if a.hl then a.lo.tdiv (oneOf b) else 0)
    have hp := one_pos b
    split
    ·exact tdiv_in ia hk (by
      have : ¬ oneOf b = -1 := by omega
      simp [this])
    ·exact hz
  ·unfold remR
   split
   ·exact hz
   ·show I64 (if a.hl && decide (0 ≤ a.lo) then 0 else 1 - oneOf b)
    have hp := one_pos b
    have hi := one_i64 ib
    split
    ·exact hz
    ·unfold I64 at *; omega
theorem tproducts_k (kd : Int) (N2 : FuncId) (F1 : Value) (HVA : Hid (∀ r s : Rg, I64 r.lo ∧ I64 r.hi → I64 s.lo → ∀ W, Calls Tryz.prog N2 #[r.val, s.val] W (BelVal (kindR kd r s).val W))) (hQ : ∀ a b W, Sem.run Tryz.prog (callFunc N2 #[a, b]) W = Result.ok (Next.enter N2 #[a, b]) W)
  (HRK : Hid (∀ W, Calls Tryz.prog 193 #[kd] W fun e w' => e = .returned (.agg #[F1, .func (.func N2) #[] #[]]) ∧ Below W.heap.size W w')) (n : Int) (m : List Int) (N : Nat) (hN : (N : Int) = 2 * n) (hn : N ≤ 128) (hc : Cells N m) (fr te arr op av an bv bn : Int) (d : Nat) (hd : (d : Int) < n) (hav : av < n) (hbv : bv < n) (ia : I64 an) (ib : I64 bn) (A : Option Addr) (cap : Nat) (w : World) (B : Nat) (hB : B ≤ w.heap.size) (sx : Sx w B A m) :
  Calls Tryz.prog 140 #[.agg #[n, false, .slice A m.length cap], .agg #[fr, te, kd, (d : Int), arr, op, av, an, bv, bn]] w (SxRes w B (productsO ⟨n, false, m⟩ kd d av an bv bn)) := by
 have okc : OkO n ⟨n, false, m⟩ := OkO.of_cells hN hn hc
 have hm : m.length ≤ 17592186044416 := OkO.small okc
 have hNt : (2 * n).toNat = N := by omega
 have H1 := hid (fun W (hW : B ≤ W.heap.size) (h : Sx W B A m) => operand_ok n m N av an A cap W hN hn hc hav (h.rd hW) hm)
 have H2 := hid (fun W (hW : B ≤ W.heap.size) (h : Sx W B A m) => operand_ok n m N bv bn A cap W hN hn hc hbv (h.rd hW) hm)
 have ir := opd_i64L N m av an ia
 have is_ := opd_i64L N m bv bn ib
 have HE : Hid (productsO ⟨n, false, m⟩ kd d av an bv bn = giveO ⟨n, false, m⟩ d (kindR kd (opdR N m av an) (opdR N m bv bn))) := hid (by rw [← hNt]; rfl)
 generalize productsO ⟨n, false, m⟩ kd d av an bv bn = R at *
 generalize opdR N m av an = r at *
 generalize opdR N m bv bn = s at *
 have iq := kindR_lo (kd := kd) ir.1 is_.1
 have HV := hid (fun W => (show Calls Tryz.prog N2 #[r.val, s.val] W (BelVal (kindR kd r s).val W) from (HVA.out r s ir is_.1 W)))
 generalize kindR kd r s = q at *
 have HG := hid (fun W (hW : B ≤ W.heap.size) (h : Sx W B A m) => gives_sx okc (cap := cap) hW h d hd q iq)
 rw [← HE.out] at HG
 clear HE iq ir is_ ia ib hav hbv hd hNt hm okc hc hn hN
 rw [Rg.val_eq] at H1 H2 HG HV
 rw [Rg.val_eq] at HV
 rw [Rg.val_eq] at HV
 obtain ⟨k5, e5, -, -⟩ := new_two w #[n, false, .slice A m.length cap] #[fr, te, kd, (d : Int), arr, op, av, an, bv, bn] 24 44
 obtain ⟨k2, k3, k4, hbk, -⟩ := new_three w #[n, false, .slice A m.length cap] #[fr, te, kd, (d : Int), arr, op, av, an, bv, bn] #[.int .i64 0, false, .slice none 0 0] 24 44 24
 obtain ⟨u0, u1, u2, fu⟩ := octbox k2
 obtain ⟨p2, p3, p4, p5, a4, hsz⟩ := new_four w #[n, false, .slice A m.length cap] #[fr, te, kd, (d : Int), arr, op, av, an, bv, bn] #[.int .i64 0, false, .slice none 0 0] #[n, false, .slice A m.length cap] 24 44 24 125
 replace sx := sx.later a4 hB
 clear hsz k5 e5 k2 k3 k4 hbk
 go_enter Tryz.func140, Tryz.ntmps140
 obtain ⟨a9, a7, b5, b6⟩ := octbox p2
 go_upto_region 2 with fail
 clear a9 a7 b5 b6
 clear u0 u1 u2 fu
 generalize (((w.alloc (Obj.cells #[n, false, .slice A m.length cap] 24)).alloc (Obj.cells #[fr, te, kd, (d : Int), arr, op, av, an, bv, bn] 44)).alloc (Obj.cells #[.int .i64 0, false, .slice none 0 0] 24)).alloc (Obj.cells #[n, false, .slice A m.length cap] 125) = w1 at *
 have f0 := laterE (show w1.cell? ⟨w.heap.size + 1 + 1 + 1, 0, none⟩ = some (.int .i64 n) from p5.cell 0)
 have f1 := laterE (show w1.cell? ⟨w.heap.size + 1 + 1 + 1, 1, none⟩ = some (.bool false) from p5.cell 1)
 have f2 := laterE (show w1.cell? ⟨w.heap.size + 1 + 1 + 1, 2, none⟩ = some (.slice A m.length cap) from p5.cell 2)
 have j6 := laterE (show w1.cell? ⟨w.heap.size + 1, 6, none⟩ = some (.int .i64 av) from p3.cell 6)
 have j7 := laterE (show w1.cell? ⟨w.heap.size + 1, 7, none⟩ = some (.int .i64 an) from p3.cell 7)
 have j8 := laterE (show w1.cell? ⟨w.heap.size + 1, 8, none⟩ = some (.int .i64 bv) from p3.cell 8)
 have j9 := laterE (show w1.cell? ⟨w.heap.size + 1, 9, none⟩ = some (.int .i64 bn) from p3.cell 9)
 refine wp_region_flowE 10 [Sp.val (.agg #[n, false, .slice A m.length cap]), Sp.val (.pointer (some ⟨w.heap.size + 1, 6, none⟩)), Sp.val (.agg #[av, an]), Sp.val (.agg #[r.lo, r.hi, r.hl, r.hh]), Sp.val (.agg #[n, false, .slice A m.length cap]), Sp.val (.pointer (some ⟨w.heap.size + 1, 8, none⟩)), Sp.val (.agg #[bv, bn]), Sp.val (.agg #[s.lo, s.hi, s.hl, s.hh]), Sp.any (IsBox 49 #[.int .i64 0, .int .i64 0, false, false]), Sp.any (IsBox 49 #[.int .i64 0, .int .i64 0, false, false])] (by kernel_rfl) (by kernel_rfl) ?_
 (refine fe_t (fun _ _ => ?_))
 (refine fe_t (fun _ _ => ?_))
 (refine fe_t (fun _ _ => ?_))
 refine FlowE.callFV (by rfl) (fun W hW hf => ⟨90, #[.agg #[n, false, .slice A m.length cap], .agg #[av, an]], by go_simp, H1.out W (Nat.le_trans (Nat.le_trans hB a4.size) (Ext.trans (Below.refl _ _).drew hW : Below w1.heap.size w1 W).size) (sx.later (Ext.trans (Below.refl _ _).drew hW) (Nat.le_trans hB a4.size))⟩) (fun _ _ => ?_)
 refine fe_p ?_
 (refine fe_t (fun _ _ => ?_))
 (refine fe_t (fun _ _ => ?_))
 (refine fe_t (fun _ _ => ?_))
 refine FlowE.callFV (by rfl) (fun W hW hf => ⟨90, #[.agg #[n, false, .slice A m.length cap], .agg #[bv, bn]], by go_simp, H2.out W (Nat.le_trans (Nat.le_trans hB a4.size) (Ext.trans (Below.refl _ _).drew hW : Below w1.heap.size w1 W).size) (sx.later (Ext.trans (Below.refl _ _).drew hW) (Nat.le_trans hB a4.size))⟩) (fun _ _ => ?_)
 refine fe_p ?_
 refine FlowE.step (by rfl) (fun W hW K hK => ?_) (fun v8 l8 h8 => ?_)
 ·go_simp
  exact hK _ _ (new1 _ _) ⟨rfl, Blk.new _ _ _, by simp⟩
 refine fe_p ?_
 refine FlowE.step (by rfl) (fun W hW K hK => ?_) (fun v9 l9 h9 => ?_)
 ·go_simp
  exact hK _ _ (new1 _ _) ⟨rfl, Blk.new _ _ _, by simp⟩
 refine fe_p ?_
 refine FlowE.tail (fun W hW hf hd2 => ?_)
 replace hW : Below w1.heap.size w1 W := Ext.trans (Below.refl _ _).drew hW
 obtain ⟨g8, rfl, k8, lo8, e8, e8'⟩ := fact_box (show Sp.fact w1.drew (Sp.any (IsBox 49 #[.int .i64 0, .int .i64 0, false, false])) v8 l8 h8 W from hf 8)
 obtain ⟨g9, rfl, k9, lo9, e9, e9'⟩ := fact_box (show Sp.fact w1.drew (Sp.any (IsBox 49 #[.int .i64 0, .int .i64 0, false, false])) v9 l9 h9 W from hf 9)
 have dd : h8 ≤ l9 ∨ h9 ≤ l8 := hd2 8 9 (by decide)
 have b4 : g8 ≠ g9 := by omega
 have hs8 : w1.heap.size ≤ g8 := lo8
 have hs9 : w1.heap.size ≤ g9 := lo9
 have l5 := p5.lt
 have hw := a4.size
 have l2 := p2.lt
 have l3 := p3.lt
 have l4 := p4.lt
 have np2g8 : g8 ≠ w.heap.size := by omega
 have np2g9 : g9 ≠ w.heap.size := by omega
 have np3g8 : g8 ≠ w.heap.size + 1 := by omega
 have np3g9 : g9 ≠ w.heap.size + 1 := by omega
 have np4g8 : g8 ≠ w.heap.size + 1 + 1 := by omega
 have np4g9 : g9 ≠ w.heap.size + 1 + 1 := by omega
 have l8 : w.heap.size ≤ g8 := by omega
 have l9_ : w.heap.size ≤ g9 := by omega
 clear hf hd2 H1 H2 e8 e8' e9 e9' dd hs8 hs9 lo8 lo9 l5 l2 l3 l4 p5 f0 f1 f2 j6 j7 j8 j9
 replace p2 := p2.later hW
 replace p3 := p3.later hW
 replace p4 := p4.later hW
 replace sx := sx.later hW (Nat.le_trans hB a4.size)
 replace a4 := bup a4 hW
 clear hW
 obtain ⟨q8, q9, a5, far⟩ := two_sets k8 k9 b4 a4 (Nat.le_refl _) l8 l9_ (.int .i64 r.lo) (.int .i64 r.hi) (.bool r.hl) (.bool r.hh) (.int .i64 s.lo) (.int .i64 s.hi) (.bool s.hl) (.bool s.hh)
 have rp2 := far _ _ _ p2 np2g8 np2g9
 have rp3 := far _ _ _ p3 np3g8 np3g9
 have rp4 := far _ _ _ p4 np4g8 np4g9
 clear far
 have a6 := (sx.far4 (g := g8) (v0 := .int .i64 r.lo) (v1 := .int .i64 r.hi) (v2 := .bool r.hl) (v3 := .bool r.hh) (Nat.le_trans hB l8) k8 (by decide)).far4 (g := g9) (v0 := .int .i64 s.lo) (v1 := .int .i64 s.hi) (v2 := .bool s.hl) (v3 := .bool s.hh) (Nat.le_trans hB l9_) (k9.far4 b4) (by decide)
 have mne := Ne.symm b4
 obtain ⟨x0, x1, x2, x3, fx⟩ := rgbox k8
 obtain ⟨y0, y1, y2, y3, fy⟩ := rgbox k9
 go_upto_region 3 with fail
 clear x0 x1 x2 x3 fx y0 y1 y2 y3 fy k8 k9 p2 p3 p4 sx a4
 generalize (((((((W.setCell ⟨g8, 0, none⟩ (.int .i64 r.lo)).setCell ⟨g8, 1, none⟩ (.int .i64 r.hi)).setCell ⟨g8, 2, none⟩ (.bool r.hl)).setCell ⟨g8, 3, none⟩ (.bool r.hh)).setCell ⟨g9, 0, none⟩ (.int .i64 s.lo)).setCell ⟨g9, 1, none⟩ (.int .i64 s.hi)).setCell ⟨g9, 2, none⟩ (.bool s.hl)).setCell ⟨g9, 3, none⟩ (.bool s.hh) = w5 at *
 have f0 := laterE (show w5.cell? ⟨w.heap.size, 0, none⟩ = some (.int .i64 n) from rp2.cell 0)
 have f1 := laterE (show w5.cell? ⟨w.heap.size, 1, none⟩ = some (.bool false) from rp2.cell 1)
 have f2 := laterE (show w5.cell? ⟨w.heap.size, 2, none⟩ = some (.slice A m.length cap) from rp2.cell 2)
 have j2 := laterE (show w5.cell? ⟨w.heap.size + 1, 2, none⟩ = some (.int .i64 kd) from rp3.cell 2)
 have j3 := laterE (show w5.cell? ⟨w.heap.size + 1, 3, none⟩ = some (.int .i64 (d : Int)) from rp3.cell 3)
 have a0 := laterE (show w5.cell? ⟨g8, 0, none⟩ = some (.int .i64 r.lo) from q8.cell 0)
 have b0 := laterE (show w5.cell? ⟨g9, 0, none⟩ = some (.int .i64 s.lo) from q9.cell 0)
 have a1 := laterE (show w5.cell? ⟨g8, 1, none⟩ = some (.int .i64 r.hi) from q8.cell 1)
 have b1 := laterE (show w5.cell? ⟨g9, 1, none⟩ = some (.int .i64 s.hi) from q9.cell 1)
 have a2 := laterE (show w5.cell? ⟨g8, 2, none⟩ = some (.bool r.hl) from q8.cell 2)
 have b2 := laterE (show w5.cell? ⟨g9, 2, none⟩ = some (.bool s.hl) from q9.cell 2)
 have a3 := laterE (show w5.cell? ⟨g8, 3, none⟩ = some (.bool r.hh) from q8.cell 3)
 have b3 := laterE (show w5.cell? ⟨g9, 3, none⟩ = some (.bool s.hh) from q9.cell 3)
 refine wp_region_flowE 10 [Sp.val (.agg #[n, false, .slice A m.length cap]), Sp.val (.pointer (some ⟨w.heap.size + 1, 3, none⟩)), Sp.val (.int .i64 (d : Int)), Sp.val (.pointer (some ⟨w.heap.size + 1, 2, none⟩)), Sp.val (.int .i64 kd), Sp.val (.agg #[F1, .func (.func N2) #[] #[]]), Sp.val (.func (.func N2) #[] #[]), Sp.val (.agg #[r.lo, r.hi, r.hl, r.hh]), Sp.val (.agg #[s.lo, s.hi, s.hl, s.hh]), Sp.val (.agg #[q.lo, q.hi, q.hl, q.hh])] (by kernel_rfl) (by kernel_rfl) ?_
 iterate 5 (refine fe_t (fun _ _ => ?_))
 refine FlowE.callFV (by rfl) (fun W hW hf => ⟨193, #[kd], by go_simp, HRK.out W⟩) (fun _ _ => ?_)
 refine fe_p ?_
 refine FlowE.take (by rfl) (fun W hW R hR => ?_) (fun _ _ => ?_)
 ·go_simp
  rw [rfield_1]
  (try go_simp)
  exact hR
 refine fe_p ?_
 iterate 2 (refine fe_t (fun _ _ => ?_))
 refine FlowE.callFV (by rfl) (fun W hW hf => ⟨N2, #[.agg #[r.lo, r.hi, r.hl, r.hh], .agg #[s.lo, s.hi, s.hl, s.hh]], by (try go_simp); (try exact hQ _ _ W), HV.out W⟩) (fun _ _ => ?_)
 refine fe_p ?_
 refine FlowE.tail (fun W2 hW hf hd2 => ?_)
 replace hW : Below w5.heap.size w5 W2 := Ext.trans (Below.refl _ _).drew hW
 clear hf hd2 HRK HV f0 f1 f2 j2 j3 a0 a1 a2 a3 b0 b1 b2 b3 q8 q9 rp2 rp3
 replace a6 := a6.later hW (Nat.le_trans hB a5.size)
 replace rp4 := rp4.later hW
 replace a5 := bup a5 hW
 clear hW
 go_wp2_with fail
 (with_reducible refine (HG.out W2 (Nat.le_trans hB a5.size) a6).mono ?_)
 rintro e6 w6 ⟨A1, c1, rfl, s1, a8⟩
 replace rp4 := rp4.later a8
 replace a5 := bup a5 a8
 clear a8 HG a6
 obtain ⟨x0, x1, x2, fx⟩ := octbox rp4
 go_wp2
 clear x0 x1 x2 fx
 have z9 := rp4.set3 (v0 := .int .i64 R.n) (v1 := .bool R.e) (v2 := .slice A1 R.m.length c1)
 have hbz := a5.trans (below3 (W := w6) (g := w.heap.size + 1 + 1) (v0 := .int .i64 R.n) (v1 := .bool R.e) (v2 := .slice A1 R.m.length c1) (by omega) a5.size)
 have s2 := s1.far3 (g := w.heap.size + 1 + 1) (v0 := .int .i64 R.n) (v1 := .bool R.e) (v2 := .slice A1 R.m.length c1) (by omega) rp4 (by decide)
 obtain ⟨z0, z1, z2, fz⟩ := octbox z9
 refine bodyPost_ret (v := .agg #[.int .i64 R.n, .bool R.e, .slice A1 R.m.length c1]) (by simp [results, Tryz.results140, go_sem, z0, z1, z2]) rfl ⟨A1, c1, rfl, s2, hbz⟩
theorem tproducts_6 (n : Int) (m : List Int) (N : Nat) (hN : (N : Int) = 2 * n) (hn : N ≤ 128) (hc : Cells N m) (fr te arr op av an bv bn : Int) (d : Nat) (hd : (d : Int) < n) (hav : av < n) (hbv : bv < n) (ia : I64 an) (ib : I64 bn) (A : Option Addr) (cap : Nat) (w : World) (B : Nat) (hB : B ≤ w.heap.size) (sx : Sx w B A m) :
  Calls Tryz.prog 140 #[.agg #[n, false, .slice A m.length cap], .agg #[fr, te, .int .i64 6, (d : Int), arr, op, av, an, bv, bn]] w (SxRes w B (productsO ⟨n, false, m⟩ 6 d av an bv bn)) :=
 tproducts_k 6 231 (.func (.func 230) #[] #[]) (hid fun r s ir is_ W => span_mul r s W) (fun a b W => by go_simp) (hid reckons_6) n m N hN hn hc fr te arr op av an bv bn d hd hav hbv ia ib A cap w B hB sx
theorem tproducts_7 (n : Int) (m : List Int) (N : Nat) (hN : (N : Int) = 2 * n) (hn : N ≤ 128) (hc : Cells N m) (fr te arr op av an bv bn : Int) (d : Nat) (hd : (d : Int) < n) (hav : av < n) (hbv : bv < n) (ia : I64 an) (ib : I64 bn) (A : Option Addr) (cap : Nat) (w : World) (B : Nat) (hB : B ≤ w.heap.size) (sx : Sx w B A m) :
  Calls Tryz.prog 140 #[.agg #[n, false, .slice A m.length cap], .agg #[fr, te, .int .i64 7, (d : Int), arr, op, av, an, bv, bn]] w (SxRes w B (productsO ⟨n, false, m⟩ 7 d av an bv bn)) :=
 tproducts_k 7 233 (.func (.func 232) #[] #[]) (hid fun r s ir is_ W => span_div r s ir is_ W) (fun a b W => by go_simp) (hid reckons_7) n m N hN hn hc fr te arr op av an bv bn d hd hav hbv ia ib A cap w B hB sx
theorem tproducts_8 (n : Int) (m : List Int) (N : Nat) (hN : (N : Int) = 2 * n) (hn : N ≤ 128) (hc : Cells N m) (fr te arr op av an bv bn : Int) (d : Nat) (hd : (d : Int) < n) (hav : av < n) (hbv : bv < n) (ia : I64 an) (ib : I64 bn) (A : Option Addr) (cap : Nat) (w : World) (B : Nat) (hB : B ≤ w.heap.size) (sx : Sx w B A m) :
  Calls Tryz.prog 140 #[.agg #[n, false, .slice A m.length cap], .agg #[fr, te, .int .i64 8, (d : Int), arr, op, av, an, bv, bn]] w (SxRes w B (productsO ⟨n, false, m⟩ 8 d av an bv bn)) :=
 tproducts_k 8 235 (.func (.func 234) #[] #[]) (hid fun r s ir is_ W => span_rem r s is_ W) (fun a b W => by go_simp) (hid reckons_8) n m N hN hn hc fr te arr op av an bv bn d hd hav hbv ia ib A cap w B hB sx
end
end Go.Proofs.YtnmpgijiimglcaaGreat
