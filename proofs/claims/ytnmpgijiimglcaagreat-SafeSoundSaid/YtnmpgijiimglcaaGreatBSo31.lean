import Derived.Test.YtnmpgijiimglcaaGreatBSo13
import Derived.Test.YtnmpgijiimglcaaGreatBSo18
import Derived.Test.YtnmpgijiimglcaaGreatBSo19
import Derived.Test.YtnmpgijiimglcaaGreatBSo30
import Derived.Test.YtnmpgijiimglcaaGreatBSo20
namespace Go.Proofs.YtnmpgijiimglcaaGreat
section
open Go.RowKit
set_option maxRecDepth 100000
set_option maxHeartbeats 8000000
attribute [local go_sem ↓] Go.wp_at_zero Go.wp_at_succ
theorem operand_num (n : Int) (e : Bool) (L : Nat) (av an : Int) (A : Option Addr) (cap : Nat) (w : World) (hv : av < 0) :
  Calls Tryz.prog 90 #[.agg #[n, e, .slice A L cap], .agg #[av, an]] w (BelVal (.agg #[an, an, true, true]) w) := by
 have H1 := hid (fun W => endat_ok an W)
 have H2 := hid (fun W => endto_tt an an W)
 have t1 : decide (0 ≤ av) = false := by rw [decide_eq_false_iff_not]; omega
 clear hv
 obtain ⟨p0, p1, p2, a0, a2⟩ := new_three w #[n, e, .slice A L cap] #[av, an] #[.int .i64 0, .int .i64 0, false, false] 125 26 49
 clear a2 p0
 go_enter Tryz.func90, Tryz.ntmps90
 obtain ⟨x0, x1, fx⟩ := opbox p1
 go_upto_region 3 with fail
 clear x0 x1 fx
 generalize ((w.alloc (Obj.cells #[n, e, .slice A L cap] 125)).alloc (Obj.cells #[av, an] 26)).alloc (Obj.cells #[.int .i64 0, .int .i64 0, false, false] 49) = w1 at *
 have f1 := laterE (show w1.cell? ⟨w.heap.size + 1, 1, none⟩ = some (.int .i64 an) from p1.cell 1)
 refine wp_region_flowE 5 [Sp.val (.pointer (some ⟨w.heap.size + 1, 1, none⟩)), Sp.val (.int .i64 an), Sp.val (.agg #[an, true]), Sp.val (.pointer (some ⟨w.heap.size + 1, 1, none⟩)), Sp.val (.int .i64 an)] (by kernel_rfl) (by kernel_rfl) ?_
 (refine fe_t (fun _ _ => ?_))
 (refine fe_t (fun _ _ => ?_))
 refine FlowE.callFV (by rfl) (fun W hW hf => ⟨172, #[an], by go_simp, H1.out W⟩) (fun _ _ => ?_)
 refine fe_p ?_
 (refine fe_t (fun _ _ => ?_))
 (refine fe_t (fun _ _ => ?_))
 refine FlowE.tail (fun W hW hf hd => ?_)
 replace hW : Below w1.heap.size w1 W := Ext.trans (Below.refl _ _).drew hW
 replace p2 := p2.later hW
 replace a0 := bup a0 hW
 clear hW hf hd f1 p1
 go_wp2_with fail
 (with_reducible refine (H1.out _).mono ?_)
 rintro e2 w2 ⟨rfl, a3⟩
 replace p2 := p2.later a3
 replace a0 := bup a0 a3
 clear a3 H1
 go_wp2_with fail
 (with_reducible refine (H2.out _).mono ?_)
 rintro e3 w3 ⟨rfl, a1⟩
 replace p2 := p2.later a1
 replace a0 := bup a0 a1
 clear a1 H2
 obtain ⟨z0, z1, z2, z3, fz⟩ := rgbox p2
 go_wp2
 clear z0 z1 z2 z3 fz
 have q := (((p2.set_ 0 (.int .i64 an)).set_ 1 (.int .i64 an)).set_ 2 (.bool true)).set_ 3 (.bool true)
 obtain ⟨z0, z1, z2, z3, fz⟩ := rgbox (show Blk _ _ _ #[an, an, true, true] from q)
 refine bodyPost_ret (v := .agg #[an, an, true, true]) (by simp [results, Tryz.results90, go_sem, z0, z1, z2, z3]) rfl (And.intro rfl ?_)
 refine a0.trans ?_
 have := a0.size
 repeat (first | exact Below.refl _ _ | refine Below.setCell ?_ (by simp; try omega) _ | refine Below.alloc ?_ (by simp; try omega) _)
theorem operand_var (n : Int) (m : List Int) (N v : Nat) (an : Int) (A : Option Addr) (cap : Nat) (w : World) (hN : (N : Int) = 2 * n) (hn : N ≤ 128) (hc : Cells N m) (hv : 2 * v + 1 < N) (hx : Rd w w.heap.size A m) (hm : m.length ≤ 17592186044416) :
  Calls Tryz.prog 90 #[.agg #[n, false, .slice A m.length cap], .agg #[(v : Int), an]] w (BelVal (varR N m v).val w) := by
 have HV := hid (fun W (h : Rd W W.heap.size A m) => var_ok n m N v A cap W hN hn hc hv h hm)
 obtain ⟨r, hr⟩ : ∃ r, r = varR N m v := ⟨_, rfl⟩
 rw [← hr] at HV ⊢
 clear hr hN hn hc hv hm
 obtain ⟨r0, r1, r2, r3⟩ := r
 unfold Rg.val at *
 dsimp only at *
 have t1 : decide (0 ≤ (v : Int)) = true := by rw [decide_eq_true_eq]; omega
 obtain ⟨p0, p1, p2, a0, a2⟩ := new_three w #[n, false, .slice A m.length cap] #[(v : Int), an] #[.int .i64 0, .int .i64 0, false, false] 125 26 49
 replace hx := hx.up a0
 clear a2
 go_enter Tryz.func90, Tryz.ntmps90
 obtain ⟨x0, x1, fx⟩ := opbox p1
 obtain ⟨y0, y1, y2, fy⟩ := octbox p0
 go_wp2_with fail
 clear x0 x1 fx y0 y1 y2 fy p0 p1
 generalize ((w.alloc (Obj.cells #[n, false, .slice A m.length cap] 125)).alloc (Obj.cells #[(v : Int), an] 26)).alloc (Obj.cells #[.int .i64 0, .int .i64 0, false, false] 49) = w1 at *
 (with_reducible refine (HV.out w1 hx).mono ?_)
 rintro e3 w3 ⟨rfl, a1⟩
 replace p2 := p2.later a1
 replace a0 := bup a0 a1
 clear a1 HV hx
 obtain ⟨z0, z1, z2, z3, fz⟩ := rgbox p2
 go_wp2
 clear z0 z1 z2 z3 fz
 have q := (((p2.set_ 0 (.int .i64 r0)).set_ 1 (.int .i64 r1)).set_ 2 (.bool r2)).set_ 3 (.bool r3)
 obtain ⟨z0, z1, z2, z3, fz⟩ := rgbox (show Blk _ _ _ #[r0, r1, r2, r3] from q)
 refine bodyPost_ret (v := .agg #[r0, r1, r2, r3]) (by simp [results, Tryz.results90, go_sem, z0, z1, z2, z3]) rfl (And.intro rfl ?_)
 refine a0.trans ?_
 have := a0.size
 repeat (first | exact Below.refl _ _ | refine Below.setCell ?_ (by simp; try omega) _ | refine Below.alloc ?_ (by simp; try omega) _)
theorem operand_ok (n : Int) (m : List Int) (N : Nat) (av an : Int) (A : Option Addr) (cap : Nat) (w : World) (hN : (N : Int) = 2 * n) (hn : N ≤ 128) (hc : Cells N m) (hv : av < n) (hx : Rd w w.heap.size A m) (hm : m.length ≤ 17592186044416) :
  Calls Tryz.prog 90 #[.agg #[n, false, .slice A m.length cap], .agg #[av, an]] w (BelVal (opdR N m av an).val w) := by
 unfold opdR
 by_cases h : 0 ≤ av
 ·rw [if_pos h]
  obtain ⟨v, rfl⟩ : ∃ v : Nat, av = (v : Int) := ⟨av.toNat, by omega⟩
  exact operand_var n m N v an A cap w hN hn hc (by omega) hx hm
 ·rw [if_neg h]
  exact operand_num n false m.length av an A cap w (by omega)
end
section
open Go.RowKit
set_option maxRecDepth 100000
set_option maxHeartbeats 8000000
attribute [local go_sem ↓] Go.wp_at_zero Go.wp_at_succ
theorem sfits_add (a b c d : Int) (ia : I64 a) (ib : I64 b) (ic : I64 c) (id : I64 d) (g cp : Nat) (w : World) (hg : Blk w g 135 #[a, b, c, d]) :
  Calls Tryz.prog 100 #[.func (.func 101) #[] #[], .slice (some ⟨g, 0, none⟩) 2 cp] w fun e w' => e = .returned (.bool (decide ((addW a b).2 = 0) && decide ((addW c d).2 = 0))) ∧ Below w.heap.size w w' := by
 have H1 := hid (fun W => nadd_any a b W ia ib)
 have H2 := hid (fun W => nadd_any c d W ic id)
 generalize addW a b = p at *
 generalize addW c d = q at *
 obtain ⟨p1, p2⟩ := p
 obtain ⟨q1, q2⟩ := q
 unfold PairRes pairV at H1 H2
 dsimp only at *
 obtain ⟨R, hR⟩ : ∃ R, R = (decide (p2 = 0) && decide (q2 = 0)) := ⟨_, rfl⟩
 rw [← hR]
 have HR := hid hR
 clear hR
 go_enter Tryz.func100, Tryz.ntmps100
 go_wp2
 go_loopw [11] (fun t wq => Below w.heap.size w wq ∧ (t = .int .i64 0 ∨ (t = .int .i64 1 ∧ p2 = 0) ∨ (t = .int .i64 2 ∧ p2 = 0 ∧ q2 = 0))) (fun t _ => 3 - (RowKit.intOf t).toNat)
 case atStart => exact ⟨Below.refl _ _, .inl rfl⟩
 case round =>
  obtain ⟨hb, rfl | ⟨rfl, h1⟩ | ⟨rfl, h1, h2⟩⟩ := hrel
  ·have k := hg.later hb
   have c0 : wr.cell? ⟨g, 0, none⟩ = some (.int .i64 a) := k.cell 0
   have c1 : wr.cell? ⟨g, 1, none⟩ = some (.int .i64 b) := k.cell 1
   have a0 := bup hb (new1 wr (Obj.cells #[a, b] 135))
   go_wp2_with fail
   clear c0 c1 k
   generalize wr.alloc (Obj.cells #[a, b] 135) = w2 at *
   (with_reducible refine (H1.out w2).mono ?_)
   rintro e3 w3 ⟨rfl, a2⟩
   subst w3
   by_cases h : p2 = 0
   ·have t1 : (p2 != 0) = false := by rw [h]; rfl
    have HH := hid h
    clear h
    go_wp2
    go_roundw
    case rel => exact ⟨a0, .inr (.inl ⟨by go_num, HH.out⟩)⟩
    case measure => simp [RowKit.intOf]
   ·have t1 : (p2 != 0) = true := by rw [bne_iff_ne]; exact h
    have HE : Hid (R = false) := hid (by rw [HR.out, decide_eq_false h]; rfl)
    clear h
    go_wp2
    go_ret
    exact ⟨by rw [HE.out]; rfl, a0⟩
  ·have k := hg.later hb
   have c0 : wr.cell? ⟨g, 2, none⟩ = some (.int .i64 c) := k.cell 2
   have c1 : wr.cell? ⟨g, 3, none⟩ = some (.int .i64 d) := k.cell 3
   have a0 := bup hb (new1 wr (Obj.cells #[c, d] 135))
   have a1 := hid h1
   clear h1
   go_wp2_with fail
   clear c0 c1 k
   generalize wr.alloc (Obj.cells #[c, d] 135) = w2 at *
   (with_reducible refine (H2.out w2).mono ?_)
   rintro e3 w3 ⟨rfl, a2⟩
   subst w3
   by_cases h : q2 = 0
   ·have t1 : (q2 != 0) = false := by rw [h]; rfl
    have HH := hid h
    clear h
    go_wp2
    go_roundw
    case rel => exact ⟨a0, .inr (.inr ⟨by go_num, a1.out, HH.out⟩)⟩
    case measure => simp [RowKit.intOf]
   ·have t1 : (q2 != 0) = true := by rw [bne_iff_ne]; exact h
    have HE : Hid (R = false) := hid (by rw [HR.out, decide_eq_false h, Bool.and_false])
    clear h
    go_wp2
    go_ret
    exact ⟨by rw [HE.out]; rfl, a0⟩
  ·have HE : Hid (R = true) := hid (by rw [HR.out, h1, h2]; rfl)
   clear h1 h2
   go_wp2
   go_ret
   exact ⟨by rw [HE.out]; rfl, hb⟩
theorem sfits_sub (a b c d : Int) (ia : I64 a) (ib : I64 b) (ic : I64 c) (id : I64 d) (g cp : Nat) (w : World) (hg : Blk w g 135 #[a, b, c, d]) :
  Calls Tryz.prog 100 #[.func (.func 102) #[] #[], .slice (some ⟨g, 0, none⟩) 2 cp] w fun e w' => e = .returned (.bool (decide ((subW a b).2 = 0) && decide ((subW c d).2 = 0))) ∧ Below w.heap.size w w' := by
 have H1 := hid (fun W => nsub_any a b W ia ib)
 have H2 := hid (fun W => nsub_any c d W ic id)
 generalize subW a b = p at *
 generalize subW c d = q at *
 obtain ⟨p1, p2⟩ := p
 obtain ⟨q1, q2⟩ := q
 unfold PairRes pairV at H1 H2
 dsimp only at *
 obtain ⟨R, hR⟩ : ∃ R, R = (decide (p2 = 0) && decide (q2 = 0)) := ⟨_, rfl⟩
 rw [← hR]
 have HR := hid hR
 clear hR
 go_enter Tryz.func100, Tryz.ntmps100
 go_wp2
 go_loopw [11] (fun t wq => Below w.heap.size w wq ∧ (t = .int .i64 0 ∨ (t = .int .i64 1 ∧ p2 = 0) ∨ (t = .int .i64 2 ∧ p2 = 0 ∧ q2 = 0))) (fun t _ => 3 - (RowKit.intOf t).toNat)
 case atStart => exact ⟨Below.refl _ _, .inl rfl⟩
 case round =>
  obtain ⟨hb, rfl | ⟨rfl, h1⟩ | ⟨rfl, h1, h2⟩⟩ := hrel
  ·have k := hg.later hb
   have c0 : wr.cell? ⟨g, 0, none⟩ = some (.int .i64 a) := k.cell 0
   have c1 : wr.cell? ⟨g, 1, none⟩ = some (.int .i64 b) := k.cell 1
   have a0 := bup hb (new1 wr (Obj.cells #[a, b] 135))
   go_wp2_with fail
   clear c0 c1 k
   generalize wr.alloc (Obj.cells #[a, b] 135) = w2 at *
   (with_reducible refine (H1.out w2).mono ?_)
   rintro e3 w3 ⟨rfl, a2⟩
   subst w3
   by_cases h : p2 = 0
   ·have t1 : (p2 != 0) = false := by rw [h]; rfl
    have HH := hid h
    clear h
    go_wp2
    go_roundw
    case rel => exact ⟨a0, .inr (.inl ⟨by go_num, HH.out⟩)⟩
    case measure => simp [RowKit.intOf]
   ·have t1 : (p2 != 0) = true := by rw [bne_iff_ne]; exact h
    have HE : Hid (R = false) := hid (by rw [HR.out, decide_eq_false h]; rfl)
    clear h
    go_wp2
    go_ret
    exact ⟨by rw [HE.out]; rfl, a0⟩
  ·have k := hg.later hb
   have c0 : wr.cell? ⟨g, 2, none⟩ = some (.int .i64 c) := k.cell 2
   have c1 : wr.cell? ⟨g, 3, none⟩ = some (.int .i64 d) := k.cell 3
   have a0 := bup hb (new1 wr (Obj.cells #[c, d] 135))
   have a1 := hid h1
   clear h1
   go_wp2_with fail
   clear c0 c1 k
   generalize wr.alloc (Obj.cells #[c, d] 135) = w2 at *
   (with_reducible refine (H2.out w2).mono ?_)
   rintro e3 w3 ⟨rfl, a2⟩
   subst w3
   by_cases h : q2 = 0
   ·have t1 : (q2 != 0) = false := by rw [h]; rfl
    have HH := hid h
    clear h
    go_wp2
    go_roundw
    case rel => exact ⟨a0, .inr (.inr ⟨by go_num, a1.out, HH.out⟩)⟩
    case measure => simp [RowKit.intOf]
   ·have t1 : (q2 != 0) = true := by rw [bne_iff_ne]; exact h
    have HE : Hid (R = false) := hid (by rw [HR.out, decide_eq_false h, Bool.and_false])
    clear h
    go_wp2
    go_ret
    exact ⟨by rw [HE.out]; rfl, a0⟩
  ·have HE : Hid (R = true) := hid (by rw [HR.out, h1, h2]; rfl)
   clear h1 h2
   go_wp2
   go_ret
   exact ⟨by rw [HE.out]; rfl, hb⟩
end
section
open Go.RowKit
set_option maxRecDepth 100000
set_option maxHeartbeats 8000000
attribute [local go_sem ↓] Go.wp_at_zero Go.wp_at_succ
theorem safefits_4 (r s : Rg) (ir : I64 (loR r) ∧ I64 (hiR r)) (is_ : I64 (loR s) ∧ I64 (hiR s)) (w : World) :
  Calls Tryz.prog 46 #[.int .i64 4, r.val, s.val] w fun e w' => e = .returned (.bool (!(decide (hiR r < loR r) || decide (hiR s < loR s)) && (decide ((addW (loR r) (loR s)).2 = 0) && decide ((addW (hiR r) (hiR s)).2 = 0)))) ∧ Below w.heap.size w w' := by
 have H1 := hid (fun W => sends_ok r W)
 have H2 := hid (fun W => sends_ok s W)
 rw [Rg.val_eq] at H1 H2
 rw [Rg.val_eq, Rg.val_eq]
 generalize loR r = a at *
 generalize hiR r = b at *
 generalize loR s = c at *
 generalize hiR s = d at *
 obtain ⟨R, hR⟩ : ∃ R, R = (!(decide (b < a) || decide (d < c)) && (decide ((addW a c).2 = 0) && decide ((addW b d).2 = 0))) := ⟨_, rfl⟩
 rw [← hR]
 have HR := hid hR
 clear hR
 obtain ⟨p0, p1, a0, a7⟩ := new_two w #[r.lo, r.hi, r.hl, r.hh] #[s.lo, s.hi, s.hl, s.hh] 49 49
 clear a7
 go_enter Tryz.func46, Tryz.ntmps46
 go_upto_region 1 with fail
 generalize (w.alloc (Obj.cells #[r.lo, r.hi, r.hl, r.hh] 49)).alloc (Obj.cells #[s.lo, s.hi, s.hl, s.hh] 49) = w1 at *
 have f0 := laterE (show w1.cell? ⟨w.heap.size, 0, none⟩ = some (.int .i64 r.lo) from p0.cell 0)
 have f1 := laterE (show w1.cell? ⟨w.heap.size, 1, none⟩ = some (.int .i64 r.hi) from p0.cell 1)
 have f2 := laterE (show w1.cell? ⟨w.heap.size, 2, none⟩ = some (.bool r.hl) from p0.cell 2)
 have f3 := laterE (show w1.cell? ⟨w.heap.size, 3, none⟩ = some (.bool r.hh) from p0.cell 3)
 have j0 := laterE (show w1.cell? ⟨w.heap.size + 1, 0, none⟩ = some (.int .i64 s.lo) from p1.cell 0)
 have j1 := laterE (show w1.cell? ⟨w.heap.size + 1, 1, none⟩ = some (.int .i64 s.hi) from p1.cell 1)
 have j2 := laterE (show w1.cell? ⟨w.heap.size + 1, 2, none⟩ = some (.bool s.hl) from p1.cell 2)
 have j3 := laterE (show w1.cell? ⟨w.heap.size + 1, 3, none⟩ = some (.bool s.hh) from p1.cell 3)
 refine wp_region_flowE 6 [Sp.val (.agg #[r.lo, r.hi, r.hl, r.hh]), Sp.val (.agg #[a, b]), Sp.val (.agg #[s.lo, s.hi, s.hl, s.hh]), Sp.val (.agg #[c, d]), Sp.any (IsBox 135 #[.int .i64 0, .int .i64 0]), Sp.any (IsBox 135 #[.int .i64 0, .int .i64 0])] (by kernel_rfl) (by kernel_rfl) ?_
 (refine fe_t (fun _ _ => ?_))
 refine FlowE.callFV (by rfl) (fun W hW hf => ⟨99, #[.agg #[r.lo, r.hi, r.hl, r.hh]], by go_simp, H1.out W⟩) (fun _ _ => ?_)
 refine fe_p ?_
 (refine fe_t (fun _ _ => ?_))
 refine FlowE.callFV (by rfl) (fun W hW hf => ⟨99, #[.agg #[s.lo, s.hi, s.hl, s.hh]], by go_simp, H2.out W⟩) (fun _ _ => ?_)
 refine fe_p ?_
 refine FlowE.step (by rfl) (fun W hW K hK => ?_) (fun v4 l4 h4 => ?_)
 ·go_simp
  exact hK _ _ (new1 _ _) ⟨rfl, Blk.new _ _ _, by simp⟩
 refine fe_p ?_
 refine FlowE.step (by rfl) (fun W hW K hK => ?_) (fun v5 l5 h5 => ?_)
 ·go_simp
  exact hK _ _ (new1 _ _) ⟨rfl, Blk.new _ _ _, by simp⟩
 refine fe_p ?_
 refine FlowE.tail (fun W hW hf hd => ?_)
 replace hW : Below w1.heap.size w1 W := Ext.trans (Below.refl _ _).drew hW
 obtain ⟨g4, rfl, k4, lo4, e4, e4'⟩ := fact_box (show Sp.fact w1.drew (Sp.any (IsBox 135 #[.int .i64 0, .int .i64 0])) v4 l4 h4 W from hf 4)
 obtain ⟨g5, rfl, k5, lo5, e5, e5'⟩ := fact_box (show Sp.fact w1.drew (Sp.any (IsBox 135 #[.int .i64 0, .int .i64 0])) v5 l5 h5 W from hf 5)
 have dd : h4 ≤ l5 ∨ h5 ≤ l4 := hd 4 5 (by decide)
 have a4 : g4 ≠ g5 := by omega
 clear hf hd f0 f1 f2 f3 j0 j1 j2 j3 H1 H2 e4 e4' e5 e5' dd p0 p1
 have hww := a0.size
 replace a0 := bup a0 hW
 have q4 := (k4.set2 (v0 := .int .i64 a) (v1 := .int .i64 b)).far2 (g := g5) (v0 := .int .i64 c) (v1 := .int .i64 d) (Ne.symm a4)
 have q5 := (k5.far2 (g := g4) (v0 := .int .i64 a) (v1 := .int .i64 b) a4).set2 (v0 := .int .i64 c) (v1 := .int .i64 d)
 have a8 : w1.heap.size ≤ g4 := lo4
 have a5 : w1.heap.size ≤ g5 := lo5
 have a2 := a0.trans (below2 (W := W) (g := g4) (v0 := .int .i64 a) (v1 := .int .i64 b) (by omega) a0.size)
 have a1 := a2.trans (below2 (g := g5) (v0 := .int .i64 c) (v1 := .int .i64 d) (by omega) a2.size)
 clear a2 a8 a5 lo4 lo5 hW
 obtain ⟨x0, x1, fx⟩ := opbox k4
 obtain ⟨y0, y1, fy⟩ := opbox k5
 cases t1 : decide (b < a) with
 | true =>
  have HE : Hid (R = false) := hid (by rw [HR.out, t1]; rfl)
  go_wp2; go_ret; exact ⟨by rw [HE.out]; rfl, a1⟩
 | false =>
  cases t2 : decide (d < c) with
  | true =>
   have HE : Hid (R = false) := hid (by rw [HR.out, t1, t2]; rfl)
   go_wp2; go_ret; exact ⟨by rw [HE.out]; rfl, a1⟩
  | false =>
   have HE : Hid (R = (decide ((addW a c).2 = 0) && decide ((addW b d).2 = 0))) := hid (by rw [HR.out, t1, t2]; rfl)
   go_wp2_with fail
   clear x0 x1 fx y0 y1 fy k4 k5 a0
   have a3 : ((((W.setCell ⟨g4, 0, none⟩ (.int .i64 a)).setCell ⟨g4, 1, none⟩ (.int .i64 b)).setCell ⟨g5, 0, none⟩ (.int .i64 c)).setCell ⟨g5, 1, none⟩ (.int .i64 d)).heap.size = W.heap.size := by simp
   generalize (((W.setCell ⟨g4, 0, none⟩ (.int .i64 a)).setCell ⟨g4, 1, none⟩ (.int .i64 b)).setCell ⟨g5, 0, none⟩ (.int .i64 c)).setCell ⟨g5, 1, none⟩ (.int .i64 d) = w5 at *
   rw [← a3]
   have a6 := bup a1 (new1 w5 (Obj.cells #[a, c, b, d] 135))
   have HX := hid (sfits_add a c b d ir.1 is_.1 ir.2 is_.2 w5.heap.size 2 (w5.alloc (Obj.cells #[a, c, b, d] 135)) (Blk.new w5 135 #[a, c, b, d]))
   (with_reducible refine HX.out.mono ?_)
   rintro e9 w9 ⟨rfl, a9⟩
   go_wp2; go_ret; exact ⟨by rw [HE.out]; rfl, bup a6 a9⟩
theorem safefits_5 (r s : Rg) (ir : I64 (loR r) ∧ I64 (hiR r)) (is_ : I64 (loR s) ∧ I64 (hiR s)) (w : World) :
  Calls Tryz.prog 46 #[.int .i64 5, r.val, s.val] w fun e w' => e = .returned (.bool (!(decide (hiR r < loR r) || decide (hiR s < loR s)) && (decide ((subW (loR r) (hiR s)).2 = 0) && decide ((subW (hiR r) (loR s)).2 = 0)))) ∧ Below w.heap.size w w' := by
 have H1 := hid (fun W => sends_ok r W)
 have H2 := hid (fun W => sends_ok s W)
 rw [Rg.val_eq] at H1 H2
 rw [Rg.val_eq, Rg.val_eq]
 generalize loR r = a at *
 generalize hiR r = b at *
 generalize loR s = c at *
 generalize hiR s = d at *
 obtain ⟨R, hR⟩ : ∃ R, R = (!(decide (b < a) || decide (d < c)) && (decide ((subW a d).2 = 0) && decide ((subW b c).2 = 0))) := ⟨_, rfl⟩
 rw [← hR]
 have HR := hid hR
 clear hR
 obtain ⟨p0, p1, a0, a7⟩ := new_two w #[r.lo, r.hi, r.hl, r.hh] #[s.lo, s.hi, s.hl, s.hh] 49 49
 clear a7
 go_enter Tryz.func46, Tryz.ntmps46
 go_upto_region 1 with fail
 generalize (w.alloc (Obj.cells #[r.lo, r.hi, r.hl, r.hh] 49)).alloc (Obj.cells #[s.lo, s.hi, s.hl, s.hh] 49) = w1 at *
 have f0 := laterE (show w1.cell? ⟨w.heap.size, 0, none⟩ = some (.int .i64 r.lo) from p0.cell 0)
 have f1 := laterE (show w1.cell? ⟨w.heap.size, 1, none⟩ = some (.int .i64 r.hi) from p0.cell 1)
 have f2 := laterE (show w1.cell? ⟨w.heap.size, 2, none⟩ = some (.bool r.hl) from p0.cell 2)
 have f3 := laterE (show w1.cell? ⟨w.heap.size, 3, none⟩ = some (.bool r.hh) from p0.cell 3)
 have j0 := laterE (show w1.cell? ⟨w.heap.size + 1, 0, none⟩ = some (.int .i64 s.lo) from p1.cell 0)
 have j1 := laterE (show w1.cell? ⟨w.heap.size + 1, 1, none⟩ = some (.int .i64 s.hi) from p1.cell 1)
 have j2 := laterE (show w1.cell? ⟨w.heap.size + 1, 2, none⟩ = some (.bool s.hl) from p1.cell 2)
 have j3 := laterE (show w1.cell? ⟨w.heap.size + 1, 3, none⟩ = some (.bool s.hh) from p1.cell 3)
 refine wp_region_flowE 6 [Sp.val (.agg #[r.lo, r.hi, r.hl, r.hh]), Sp.val (.agg #[a, b]), Sp.val (.agg #[s.lo, s.hi, s.hl, s.hh]), Sp.val (.agg #[c, d]), Sp.any (IsBox 135 #[.int .i64 0, .int .i64 0]), Sp.any (IsBox 135 #[.int .i64 0, .int .i64 0])] (by kernel_rfl) (by kernel_rfl) ?_
 (refine fe_t (fun _ _ => ?_))
 refine FlowE.callFV (by rfl) (fun W hW hf => ⟨99, #[.agg #[r.lo, r.hi, r.hl, r.hh]], by go_simp, H1.out W⟩) (fun _ _ => ?_)
 refine fe_p ?_
 (refine fe_t (fun _ _ => ?_))
 refine FlowE.callFV (by rfl) (fun W hW hf => ⟨99, #[.agg #[s.lo, s.hi, s.hl, s.hh]], by go_simp, H2.out W⟩) (fun _ _ => ?_)
 refine fe_p ?_
 refine FlowE.step (by rfl) (fun W hW K hK => ?_) (fun v4 l4 h4 => ?_)
 ·go_simp
  exact hK _ _ (new1 _ _) ⟨rfl, Blk.new _ _ _, by simp⟩
 refine fe_p ?_
 refine FlowE.step (by rfl) (fun W hW K hK => ?_) (fun v5 l5 h5 => ?_)
 ·go_simp
  exact hK _ _ (new1 _ _) ⟨rfl, Blk.new _ _ _, by simp⟩
 refine fe_p ?_
 refine FlowE.tail (fun W hW hf hd => ?_)
 replace hW : Below w1.heap.size w1 W := Ext.trans (Below.refl _ _).drew hW
 obtain ⟨g4, rfl, k4, lo4, e4, e4'⟩ := fact_box (show Sp.fact w1.drew (Sp.any (IsBox 135 #[.int .i64 0, .int .i64 0])) v4 l4 h4 W from hf 4)
 obtain ⟨g5, rfl, k5, lo5, e5, e5'⟩ := fact_box (show Sp.fact w1.drew (Sp.any (IsBox 135 #[.int .i64 0, .int .i64 0])) v5 l5 h5 W from hf 5)
 have dd : h4 ≤ l5 ∨ h5 ≤ l4 := hd 4 5 (by decide)
 have a4 : g4 ≠ g5 := by omega
 clear hf hd f0 f1 f2 f3 j0 j1 j2 j3 H1 H2 e4 e4' e5 e5' dd p0 p1
 have hww := a0.size
 replace a0 := bup a0 hW
 have q4 := (k4.set2 (v0 := .int .i64 a) (v1 := .int .i64 b)).far2 (g := g5) (v0 := .int .i64 c) (v1 := .int .i64 d) (Ne.symm a4)
 have q5 := (k5.far2 (g := g4) (v0 := .int .i64 a) (v1 := .int .i64 b) a4).set2 (v0 := .int .i64 c) (v1 := .int .i64 d)
 have a8 : w1.heap.size ≤ g4 := lo4
 have a5 : w1.heap.size ≤ g5 := lo5
 have a2 := a0.trans (below2 (W := W) (g := g4) (v0 := .int .i64 a) (v1 := .int .i64 b) (by omega) a0.size)
 have a1 := a2.trans (below2 (g := g5) (v0 := .int .i64 c) (v1 := .int .i64 d) (by omega) a2.size)
 clear a2 a8 a5 lo4 lo5 hW
 obtain ⟨x0, x1, fx⟩ := opbox k4
 obtain ⟨y0, y1, fy⟩ := opbox k5
 cases t1 : decide (b < a) with
 | true =>
  have HE : Hid (R = false) := hid (by rw [HR.out, t1]; rfl)
  go_wp2; go_ret; exact ⟨by rw [HE.out]; rfl, a1⟩
 | false =>
  cases t2 : decide (d < c) with
  | true =>
   have HE : Hid (R = false) := hid (by rw [HR.out, t1, t2]; rfl)
   go_wp2; go_ret; exact ⟨by rw [HE.out]; rfl, a1⟩
  | false =>
   have HE : Hid (R = (decide ((subW a d).2 = 0) && decide ((subW b c).2 = 0))) := hid (by rw [HR.out, t1, t2]; rfl)
   go_wp2_with fail
   clear x0 x1 fx y0 y1 fy k4 k5 a0
   have a3 : ((((W.setCell ⟨g4, 0, none⟩ (.int .i64 a)).setCell ⟨g4, 1, none⟩ (.int .i64 b)).setCell ⟨g5, 0, none⟩ (.int .i64 c)).setCell ⟨g5, 1, none⟩ (.int .i64 d)).heap.size = W.heap.size := by simp
   generalize (((W.setCell ⟨g4, 0, none⟩ (.int .i64 a)).setCell ⟨g4, 1, none⟩ (.int .i64 b)).setCell ⟨g5, 0, none⟩ (.int .i64 c)).setCell ⟨g5, 1, none⟩ (.int .i64 d) = w5 at *
   rw [← a3]
   have a6 := bup a1 (new1 w5 (Obj.cells #[a, d, b, c] 135))
   have HX := hid (sfits_sub a d b c ir.1 is_.2 ir.2 is_.1 w5.heap.size 2 (w5.alloc (Obj.cells #[a, d, b, c] 135)) (Blk.new w5 135 #[a, d, b, c]))
   (with_reducible refine HX.out.mono ?_)
   rintro e9 w9 ⟨rfl, a9⟩
   go_wp2; go_ret; exact ⟨by rw [HE.out]; rfl, bup a6 a9⟩
end
end Go.Proofs.YtnmpgijiimglcaaGreat
