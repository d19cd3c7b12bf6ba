import Derived.Test.YtnmpgijiimglcaaGreatBSe21
import Derived.Test.YtnmpgijiimglcaaGreatBSe27
import Derived.Test.YtnmpgijiimglcaaGreatBSe28
import Derived.Test.YtnmpgijiimglcaaGreatBSe17
import Derived.Test.YtnmpgijiimglcaaGreatBSe11
import Derived.Test.YtnmpgijiimglcaaGreatBSe26
import Derived.Test.YtnmpgijiimglcaaGreatBSe23
import Derived.Test.YtnmpgijiimglcaaGreatBSe15
import Derived.Shelf.Spec.BitsCarry
import Derived.Lib.EndianBits
import Derived.Test.YtnmpgijiimglcaaGreatBSe24
namespace Go.Proofs.YtnmpgijiimglcaaGreat
open Go.RowKit
set_option maxRecDepth 100000
set_option maxHeartbeats 8000000
section
attribute [local go_sem ↓] Go.wp_at_zero Go.wp_at_succ
theorem zfv (o : O) (A : Option Addr) (cap : Nat) (w : World) (hx : Rd w w.heap.size A o.m) (hm : o.m.length ≤ 17592186044416) (hk : check o = 0) :
  Calls Tryz.prog 44 #[.agg #[o.n, o.e, .slice A o.m.length cap]] w (zam (.bool (steadyB o)) w) := by
 obtain ⟨p0, a0, a5⟩ := zak w #[o.n, o.e, .slice A o.m.length cap] 24
 have hx0 := hx.up a0
 have HC1 := hid (fun W (h : Rd W W.heap.size A o.m) => zdK o A cap W h hm hk)
 have ok1 : OkO o.n (closeO o) := OkO.close ⟨rfl, hk⟩
 have ok2 := OkO.close ok1
 have hm1 := OkO.small ok1
 have hm2 := OkO.small ok2
 have HC2 := hid (fun A c W (h : Rd W W.heap.size A (closeO o).m) => zdK (closeO o) A c W h hm1 ok1.ok)
 have HE := hid (show steadyB o = eqO (closeO o) (closeO (closeO o)) from rfl)
 rw [HE.out]
 generalize closeO (closeO o) = q2 at *
 generalize closeO o = q1 at *
 clear a5 hx hk ok1 ok2 HE
 go_enter Tryz.func44, Tryz.ntmps44
 have x0 := zaa p0
 go_wp2_with fail
 clear x0
 generalize w.alloc (Obj.cells #[o.n, o.e, .slice A o.m.length cap] 24) = w0 at *
 (with_reducible refine (HC1.out w0 hx0).mono ?_)
 clear HC1
 rintro e1 w1 ⟨A1, c1, s1, rfl, a1, hb1⟩
 replace a0 := bup a0 hb1
 obtain ⟨p3, a2, -⟩ := zak w1 #[q1.n, q1.e, .slice A1 q1.m.length c1] 24
 replace a1 := a1.below a2
 replace a0 := bup a0 a2
 have x0 := zaa p3
 go_wp2_with fail
 clear x0 a2 hb1
 generalize w1.alloc (Obj.cells #[q1.n, q1.e, .slice A1 q1.m.length c1] 24) = w2 at *
 generalize w1.heap.size = g3 at *
 (with_reducible refine (HC2.out A1 c1 w2 a1.rd).mono ?_)
 clear HC2
 rintro e3 w3 ⟨A3, c3, s3, rfl, a3, a7⟩
 replace p3 := p3.later a7
 replace a1 := a1.below a7
 replace a0 := bup a0 a7
 obtain ⟨p6, a4, -⟩ := zak w3 #[q2.n, q2.e, .slice A3 q2.m.length c3] 24
 replace p3 := p3.later a4
 replace a1 := a1.below a4
 replace a3 := a3.below a4
 replace a0 := bup a0 a4
 have x0 := zaa p3
 have y0 := zaa p6
 go_wp2_with fail
 clear x0 y0 a4 a7
 generalize w3.alloc (Obj.cells #[q2.n, q2.e, .slice A3 q2.m.length c3] 24) = w4 at *
 (with_reducible refine (zk0 q1 q2 A1 A3 c1 c3 w4 a1.rd a3.rd hm1).mono ?_)
 rintro e5 w5 ⟨rfl, hb5⟩
 generalize eqO q1 q2 = b at *
 go_wp2
 go_ret
 exact ⟨rfl, bup a0 hb5⟩
theorem zaB (n : Int) (m : List Int) (N : Nat) (av an : Int) (A : Option Addr) (cap : Nat) (w : World) (hN : (N : Int) = 2 * n) (hn : N ≤ 128) (hc : Cells N m) (hv : av < n) (hx : Rd w w.heap.size A m) :
  Calls Tryz.prog 96 #[.agg #[n, false, .slice A m.length cap], .agg #[av, an]] w (zam (opdR N m av an).val w) := by
 obtain ⟨p2, p3, p4, a0, a5⟩ := zaj w #[n, false, .slice A m.length cap] #[av, an] #[.int .i64 0, .int .i64 0, false, false] 24 26 49
 replace hx := hx.up a0
 clear a5
 by_cases h : 0 ≤ av
 ·obtain ⟨v, rfl⟩ : ∃ v : Nat, av = (v : Int) := ⟨av.toNat, by omega⟩
  have HV := hid (fun W (h : Rd W W.heap.size A m) => zkY n m N v A cap W hN hn hc (by omega) h)
  rw [show opdR N m (v : Int) an = varR N m v from by unfold opdR; rw [if_pos h]; rfl]
  generalize varR N m v = r at *
  rw [Rg.val_eq] at HV ⊢
  have t1 : decide ((v : Int) < 0) = false := by rw [decide_eq_false_iff_not]; omega
  clear hN hn hc h hv
  go_enter Tryz.func96, Tryz.ntmps96
  have x0 := zaa p2
  obtain ⟨y0, y1, fy⟩ := zai p3
  go_wp2_with fail
  clear x0 y0 y1 fy
  generalize ((w.alloc (Obj.cells #[n, false, .slice A m.length cap] 24)).alloc (Obj.cells #[(v : Int), an] 26)).alloc (Obj.cells #[.int .i64 0, .int .i64 0, false, false] 49) = w1 at *
  (with_reducible refine (HV.out w1 hx).mono ?_)
  rintro e2 w2 ⟨rfl, a2⟩
  replace p4 := p4.later a2
  replace a0 := bup a0 a2
  obtain ⟨y0, y1, y2, y3, fy⟩ := zag p4
  go_wp2
  clear y0 y1 y2 y3 fy
  have q9 := p4.set4 (v0 := .int .i64 r.lo) (v1 := .int .i64 r.hi) (v2 := .bool r.hl) (v3 := .bool r.hh)
  have a6 := a0.trans (zav (W := w2) (g := w.heap.size + 1 + 1) (v0 := .int .i64 r.lo) (v1 := .int .i64 r.hi) (v2 := .bool r.hl) (v3 := .bool r.hh) (by omega) a0.size)
  obtain ⟨z0, z1, z2, z3, fz⟩ := zag q9
  refine bodyPost_ret (v := .agg #[r.lo, r.hi, r.hl, r.hh]) (by simp [results, Tryz.results96, go_sem, z0, z1, z2, z3]) rfl (And.intro rfl a6)
 ·have HV := hid (fun W => (show Calls Tryz.prog 70 #[an] W (zam (.agg #[an, an, true, true]) W) from zk1 an W))
  rw [show opdR N m av an = oneR an from by unfold opdR; rw [if_neg h]]
  rw [show (oneR an).val = .agg #[an, an, true, true] from rfl]
  have t1 : decide (av < 0) = true := by rw [decide_eq_true_eq]; omega
  clear hN hn hc h hv hx
  go_enter Tryz.func96, Tryz.ntmps96
  obtain ⟨y0, y1, fy⟩ := zai p3
  go_wp2_with fail
  clear y0 y1 fy
  generalize ((w.alloc (Obj.cells #[n, false, .slice A m.length cap] 24)).alloc (Obj.cells #[av, an] 26)).alloc (Obj.cells #[.int .i64 0, .int .i64 0, false, false] 49) = w1 at *
  (with_reducible refine (HV.out w1).mono ?_)
  rintro e2 w2 ⟨rfl, a2⟩
  replace p4 := p4.later a2
  replace a0 := bup a0 a2
  obtain ⟨y0, y1, y2, y3, fy⟩ := zag p4
  go_wp2
  clear y0 y1 y2 y3 fy
  have q9 := p4.set4 (v0 := .int .i64 an) (v1 := .int .i64 an) (v2 := .bool true) (v3 := .bool true)
  have a6 := a0.trans (zav (W := w2) (g := w.heap.size + 1 + 1) (v0 := .int .i64 an) (v1 := .int .i64 an) (v2 := .bool true) (v3 := .bool true) (by omega) a0.size)
  obtain ⟨z0, z1, z2, z3, fz⟩ := zag q9
  refine bodyPost_ret (v := .agg #[an, an, true, true]) (by simp [results, Tryz.results96, go_sem, z0, z1, z2, z3]) rfl (And.intro rfl a6)
theorem zfL (o : O) (fr te kd dst arr op av an bv bn : Int) (A : Option Addr) (L cap : Nat) (w : World) :
  Calls Tryz.prog 35 #[.agg #[o.n, o.e, .slice A L cap], .agg #[fr, te, kd, dst, arr, op, av, an, bv, bn]] w (zam (.bool (rightT o.n ⟨fr, te, kd, dst, arr, op, av, an, bv, bn⟩)) w) := by
 obtain ⟨p2, p3, a0, a5⟩ := zal w #[o.n, o.e, .slice A L cap] #[fr, te, kd, dst, arr, op, av, an, bv, bn] 24 44
 clear a5
 by_cases h : 0 ≤ arr
 ·have HR := hid (fun W => (show Calls Tryz.prog 79 #[.agg #[fr, te, kd, dst, .int .i64 0, op, av, an, bv, bn], o.n, .int .i64 1] W (fun r w' => r = .returned (.bool (rightE o.n 1 ⟨fr, te, kd, dst, 0, op, av, an, bv, bn⟩)) ∧ Below W.heap.size W w') from zd9 ⟨fr, te, kd, dst, 0, op, av, an, bv, bn⟩ o.n 1 W))
  rw [show rightT o.n ⟨fr, te, kd, dst, arr, op, av, an, bv, bn⟩ = rightE o.n 1 ⟨fr, te, kd, dst, 0, op, av, an, bv, bn⟩ from by unfold rightT; rw [if_pos h, if_pos h]]
  generalize rightE o.n 1 ⟨fr, te, kd, dst, 0, op, av, an, bv, bn⟩ = q at *
  have t1 : decide (0 ≤ arr) = true := decide_eq_true h
  clear h
  obtain ⟨-, -, a6, -⟩ := zal w #[o.n, o.e, .slice A L cap] #[fr, te, kd, dst, .int .i64 0, op, av, an, bv, bn] 24 44
  go_enter Tryz.func35, Tryz.ntmps35
  have x0 := zaa p2
  have y0 := zae p3
  go_wp2_with fail
  clear x0 y0
  (with_reducible refine (HR.out _).mono ?_)
  rintro e2 w2 ⟨rfl, a2⟩
  go_wp2
  go_ret
  exact ⟨rfl, bup a6 a2⟩
 ·have HR := hid (fun W => (show Calls Tryz.prog 79 #[.agg #[fr, te, kd, dst, arr, op, av, an, bv, bn], o.n, .int .i64 0] W (fun r w' => r = .returned (.bool (rightE o.n 0 ⟨fr, te, kd, dst, arr, op, av, an, bv, bn⟩)) ∧ Below W.heap.size W w') from zd9 ⟨fr, te, kd, dst, arr, op, av, an, bv, bn⟩ o.n 0 W))
  rw [show rightT o.n ⟨fr, te, kd, dst, arr, op, av, an, bv, bn⟩ = rightE o.n 0 ⟨fr, te, kd, dst, arr, op, av, an, bv, bn⟩ from by unfold rightT; rw [if_neg h, if_neg h]]
  generalize rightE o.n 0 ⟨fr, te, kd, dst, arr, op, av, an, bv, bn⟩ = q at *
  have t1 : decide (0 ≤ arr) = false := decide_eq_false h
  clear h
  go_enter Tryz.func35, Tryz.ntmps35
  have x0 := zaa p2
  have y0 := zae p3
  go_wp2_with fail
  clear x0 y0
  (with_reducible refine (HR.out _).mono ?_)
  rintro e2 w2 ⟨rfl, a2⟩
  go_wp2
  go_ret
  exact ⟨rfl, bup a0 a2⟩
end
section
attribute [local go_sem ↓] Go.wp_at_zero Go.wp_at_succ
theorem ziH (a b c d : Int) (ia : I64 a) (ib : I64 b) (ic : I64 c) (id : I64 d) (g cp : Nat) (w : World) (hg : Blk w g 135 #[a, b, c, d]) :
  Calls Tryz.prog 100 #[.func (.func 101) #[] #[], .slice (some ⟨g, 0, none⟩) 2 cp] w fun e w' => e = .returned (.bool (decide ((addW a b).2 = 0) && decide ((addW c d).2 = 0))) ∧ Below w.heap.size w w' := by
 have H1 := hid (fun W => zeI a b W ia ib)
 have H2 := hid (fun W => zeI c d W ic id)
 generalize addW a b = p at *
 generalize addW c d = q at *
 obtain ⟨p1, p2⟩ := p
 obtain ⟨q1, q2⟩ := q
 unfold zaE zce at H1 H2
 dsimp only at *
 obtain ⟨R, hR⟩ : ∃ R, R = (decide (p2 = 0) && decide (q2 = 0)) := ⟨_, rfl⟩
 rw [← hR]
 have HR := hid hR
 clear hR
 go_enter Tryz.func100, Tryz.ntmps100
 go_wp2
 go_loopw [11] (fun t wq => Below w.heap.size w wq ∧ (t = .int .i64 0 ∨ (t = .int .i64 1 ∧ p2 = 0) ∨ (t = .int .i64 2 ∧ p2 = 0 ∧ q2 = 0))) (fun t _ => 3 - (RowKit.intOf t).toNat)
 case atStart => exact ⟨Below.refl _ _, .inl rfl⟩
 case round =>
  obtain ⟨hb, rfl | ⟨rfl, h1⟩ | ⟨rfl, h1, h2⟩⟩ := hrel
  ·have k := hg.later hb
   have c0 : wr.cell? ⟨g, 0, none⟩ = some (.int .i64 a) := k.cell 0
   have c1 : wr.cell? ⟨g, 1, none⟩ = some (.int .i64 b) := k.cell 1
   have a0 := bup hb (new1 wr (Obj.cells #[a, b] 135))
   go_wp2_with fail
   clear c0 c1 k
   generalize wr.alloc (Obj.cells #[a, b] 135) = w2 at *
   (with_reducible refine (H1.out w2).mono ?_)
   rintro e3 w3 ⟨rfl, a1⟩
   subst w3
   by_cases h : p2 = 0
   ·have t1 : (p2 != 0) = false := by rw [h]; rfl
    have HH := hid h
    clear h
    go_wp2
    go_roundw
    case rel => exact ⟨a0, .inr (.inl ⟨by go_num, HH.out⟩)⟩
    case measure => simp [RowKit.intOf]
   ·have t1 : (p2 != 0) = true := by rw [bne_iff_ne]; exact h
    have HE : Hid (R = false) := hid (by rw [HR.out, decide_eq_false h]; rfl)
    clear h
    go_wp2
    go_ret
    exact ⟨by rw [HE.out]; rfl, a0⟩
  ·have k := hg.later hb
   have c0 : wr.cell? ⟨g, 2, none⟩ = some (.int .i64 c) := k.cell 2
   have c1 : wr.cell? ⟨g, 3, none⟩ = some (.int .i64 d) := k.cell 3
   have a0 := bup hb (new1 wr (Obj.cells #[c, d] 135))
   have a2 := hid h1
   clear h1
   go_wp2_with fail
   clear c0 c1 k
   generalize wr.alloc (Obj.cells #[c, d] 135) = w2 at *
   (with_reducible refine (H2.out w2).mono ?_)
   rintro e3 w3 ⟨rfl, a1⟩
   subst w3
   by_cases h : q2 = 0
   ·have t1 : (q2 != 0) = false := by rw [h]; rfl
    have HH := hid h
    clear h
    go_wp2
    go_roundw
    case rel => exact ⟨a0, .inr (.inr ⟨by go_num, a2.out, HH.out⟩)⟩
    case measure => simp [RowKit.intOf]
   ·have t1 : (q2 != 0) = true := by rw [bne_iff_ne]; exact h
    have HE : Hid (R = false) := hid (by rw [HR.out, decide_eq_false h, Bool.and_false])
    clear h
    go_wp2
    go_ret
    exact ⟨by rw [HE.out]; rfl, a0⟩
  ·have HE : Hid (R = true) := hid (by rw [HR.out, h1, h2]; rfl)
   clear h1 h2
   go_wp2
   go_ret
   exact ⟨by rw [HE.out]; rfl, hb⟩
theorem zhG (a b c d : Int) (ia : I64 a) (ib : I64 b) (ic : I64 c) (id : I64 d) (g cp : Nat) (w : World) (hg : Blk w g 135 #[a, b, c, d]) :
  Calls Tryz.prog 100 #[.func (.func 102) #[] #[], .slice (some ⟨g, 0, none⟩) 2 cp] w fun e w' => e = .returned (.bool (decide ((subW a b).2 = 0) && decide ((subW c d).2 = 0))) ∧ Below w.heap.size w w' := by
 have H1 := hid (fun W => zcl a b W ia ib)
 have H2 := hid (fun W => zcl c d W ic id)
 generalize subW a b = p at *
 generalize subW c d = q at *
 obtain ⟨p1, p2⟩ := p
 obtain ⟨q1, q2⟩ := q
 unfold zaE zce at H1 H2
 dsimp only at *
 obtain ⟨R, hR⟩ : ∃ R, R = (decide (p2 = 0) && decide (q2 = 0)) := ⟨_, rfl⟩
 rw [← hR]
 have HR := hid hR
 clear hR
 go_enter Tryz.func100, Tryz.ntmps100
 go_wp2
 go_loopw [11] (fun t wq => Below w.heap.size w wq ∧ (t = .int .i64 0 ∨ (t = .int .i64 1 ∧ p2 = 0) ∨ (t = .int .i64 2 ∧ p2 = 0 ∧ q2 = 0))) (fun t _ => 3 - (RowKit.intOf t).toNat)
 case atStart => exact ⟨Below.refl _ _, .inl rfl⟩
 case round =>
  obtain ⟨hb, rfl | ⟨rfl, h1⟩ | ⟨rfl, h1, h2⟩⟩ := hrel
  ·have k := hg.later hb
   have c0 : wr.cell? ⟨g, 0, none⟩ = some (.int .i64 a) := k.cell 0
   have c1 : wr.cell? ⟨g, 1, none⟩ = some (.int .i64 b) := k.cell 1
   have a0 := bup hb (new1 wr (Obj.cells #[a, b] 135))
   go_wp2_with fail
   clear c0 c1 k
   generalize wr.alloc (Obj.cells #[a, b] 135) = w2 at *
   (with_reducible refine (H1.out w2).mono ?_)
   rintro e3 w3 ⟨rfl, a1⟩
   subst w3
   by_cases h : p2 = 0
   ·have t1 : (p2 != 0) = false := by rw [h]; rfl
    have HH := hid h
    clear h
    go_wp2
    go_roundw
    case rel => exact ⟨a0, .inr (.inl ⟨by go_num, HH.out⟩)⟩
    case measure => simp [RowKit.intOf]
   ·have t1 : (p2 != 0) = true := by rw [bne_iff_ne]; exact h
    have HE : Hid (R = false) := hid (by rw [HR.out, decide_eq_false h]; rfl)
    clear h
    go_wp2
    go_ret
    exact ⟨by rw [HE.out]; rfl, a0⟩
  ·have k := hg.later hb
   have c0 : wr.cell? ⟨g, 2, none⟩ = some (.int .i64 c) := k.cell 2
   have c1 : wr.cell? ⟨g, 3, none⟩ = some (.int .i64 d) := k.cell 3
   have a0 := bup hb (new1 wr (Obj.cells #[c, d] 135))
   have a2 := hid h1
   clear h1
   go_wp2_with fail
   clear c0 c1 k
   generalize wr.alloc (Obj.cells #[c, d] 135) = w2 at *
   (with_reducible refine (H2.out w2).mono ?_)
   rintro e3 w3 ⟨rfl, a1⟩
   subst w3
   by_cases h : q2 = 0
   ·have t1 : (q2 != 0) = false := by rw [h]; rfl
    have HH := hid h
    clear h
    go_wp2
    go_roundw
    case rel => exact ⟨a0, .inr (.inr ⟨by go_num, a2.out, HH.out⟩)⟩
    case measure => simp [RowKit.intOf]
   ·have t1 : (q2 != 0) = true := by rw [bne_iff_ne]; exact h
    have HE : Hid (R = false) := hid (by rw [HR.out, decide_eq_false h, Bool.and_false])
    clear h
    go_wp2
    go_ret
    exact ⟨by rw [HE.out]; rfl, a0⟩
  ·have HE : Hid (R = true) := hid (by rw [HR.out, h1, h2]; rfl)
   clear h1 h2
   go_wp2
   go_ret
   exact ⟨by rw [HE.out]; rfl, hb⟩
end
section
attribute [local go_sem ↓] Go.wp_at_zero Go.wp_at_succ
theorem Blk.set2 {W : World} {g : Nat} {t : TypeId} {a0 a1 v0 v1 : Value} (h : Blk W g t #[a0, a1]) : Blk ((W.setCell ⟨g, 0, none⟩ v0).setCell ⟨g, 1, none⟩ v1) g t #[v0, v1] := by
 have := (h.set_ 0 v0).set_ 1 v1
 simpa using this
theorem zba {W : World} {B g : Nat} {v0 v1 : Value} (hg : B ≤ g) (_hB : B ≤ W.heap.size) : Below B W ((W.setCell ⟨g, 0, none⟩ v0).setCell ⟨g, 1, none⟩ v1) :=
 ((Below.refl B W).setCell (by simpa using hg) _).setCell (by simpa using hg) _
theorem Blk.far2 {W : World} {g q : Nat} {t : TypeId} {cs : Array Value} {v0 v1 : Value} (h : Blk W q t cs) (hne : g ≠ q) : Blk ((W.setCell ⟨g, 0, none⟩ v0).setCell ⟨g, 1, none⟩ v1) q t cs := (h.far (by simpa using hne) _).far (by simpa using hne) _
end
section
attribute [local go_sem ↓] Go.wp_at_zero Go.wp_at_succ
theorem zgy (r s : Rg) (_ir : I64 (loR r) ∧ I64 (hiR r)) (_is_ : I64 (loR s) ∧ I64 (hiR s)) (w : World) :
  Calls Tryz.prog 46 #[.int .i64 3, r.val, s.val] w fun e w' => e = .returned (.bool (!(decide (hiR r < loR r) || decide (hiR s < loR s)) && decide (-9223372036854775808 < loR r))) ∧ Below w.heap.size w w' := by
 have H1 := hid (fun W => za4 r W)
 have H2 := hid (fun W => za4 s W)
 rw [Rg.val_eq] at H1 H2
 rw [Rg.val_eq, Rg.val_eq]
 generalize loR r = a at *
 generalize hiR r = b at *
 generalize loR s = c at *
 generalize hiR s = d at *
 obtain ⟨R, hR⟩ : ∃ R, R = (!(decide (b < a) || decide (d < c)) && decide (-9223372036854775808 < a)) := ⟨_, rfl⟩
 rw [← hR]
 have HR := hid hR
 clear hR
 obtain ⟨p0, p1, a0, a5⟩ := zal w #[r.lo, r.hi, r.hl, r.hh] #[s.lo, s.hi, s.hl, s.hh] 49 49
 clear a5
 go_enter Tryz.func46, Tryz.ntmps46
 go_upto_region 1 with fail
 generalize (w.alloc (Obj.cells #[r.lo, r.hi, r.hl, r.hh] 49)).alloc (Obj.cells #[s.lo, s.hi, s.hl, s.hh] 49) = w1 at *
 have f0 := zab (show w1.cell? ⟨w.heap.size, 0, none⟩ = some (.int .i64 r.lo) from p0.cell 0)
 have f1 := zab (show w1.cell? ⟨w.heap.size, 1, none⟩ = some (.int .i64 r.hi) from p0.cell 1)
 have f2 := zab (show w1.cell? ⟨w.heap.size, 2, none⟩ = some (.bool r.hl) from p0.cell 2)
 have f3 := zab (show w1.cell? ⟨w.heap.size, 3, none⟩ = some (.bool r.hh) from p0.cell 3)
 have j0 := zab (show w1.cell? ⟨w.heap.size + 1, 0, none⟩ = some (.int .i64 s.lo) from p1.cell 0)
 have j1 := zab (show w1.cell? ⟨w.heap.size + 1, 1, none⟩ = some (.int .i64 s.hi) from p1.cell 1)
 have j2 := zab (show w1.cell? ⟨w.heap.size + 1, 2, none⟩ = some (.bool s.hl) from p1.cell 2)
 have j3 := zab (show w1.cell? ⟨w.heap.size + 1, 3, none⟩ = some (.bool s.hh) from p1.cell 3)
 refine zac 6 [Sp.val (.agg #[r.lo, r.hi, r.hl, r.hh]), Sp.val (.agg #[a, b]), Sp.val (.agg #[s.lo, s.hi, s.hl, s.hh]), Sp.val (.agg #[c, d]), Sp.any (zat 135 #[.int .i64 0, .int .i64 0]), Sp.any (zat 135 #[.int .i64 0, .int .i64 0])] (by kernel_rfl) (by kernel_rfl) ?_
 (refine fe_t (fun _ _ => ?_))
 refine zaf.callFV (by rfl) (fun W hW hf => ⟨99, #[.agg #[r.lo, r.hi, r.hl, r.hh]], by go_simp, H1.out W⟩) (fun _ _ => ?_)
 refine fe_p ?_
 (refine fe_t (fun _ _ => ?_))
 refine zaf.callFV (by rfl) (fun W hW hf => ⟨99, #[.agg #[s.lo, s.hi, s.hl, s.hh]], by go_simp, H2.out W⟩) (fun _ _ => ?_)
 refine fe_p ?_
 refine zaf.step (by rfl) (fun W hW K hK => ?_) (fun v4 l4 h4 => ?_)
 ·go_simp
  exact hK _ _ (new1 _ _) ⟨rfl, Blk.new _ _ _, by simp⟩
 refine fe_p ?_
 refine zaf.step (by rfl) (fun W hW K hK => ?_) (fun v5 l5 h5 => ?_)
 ·go_simp
  exact hK _ _ (new1 _ _) ⟨rfl, Blk.new _ _ _, by simp⟩
 refine fe_p ?_
 refine zaf.tail (fun W hW hf hd => ?_)
 replace hW : Below w1.heap.size w1 W := Ext.trans (Below.refl _ _).drew hW
 obtain ⟨g4, rfl, k4, lo4, e4, e4'⟩ := zap (show Sp.fact w1.drew (Sp.any (zat 135 #[.int .i64 0, .int .i64 0])) v4 l4 h4 W from hf 4)
 obtain ⟨g5, rfl, k5, lo5, e5, e5'⟩ := zap (show Sp.fact w1.drew (Sp.any (zat 135 #[.int .i64 0, .int .i64 0])) v5 l5 h5 W from hf 5)
 have dd : h4 ≤ l5 ∨ h5 ≤ l4 := hd 4 5 (by decide)
 have a3 : g4 ≠ g5 := by omega
 clear hf hd f0 f1 f2 f3 j0 j1 j2 j3 H1 H2 e4 e4' e5 e5' dd p0 p1
 have hww := a0.size
 replace a0 := bup a0 hW
 have q4 := (k4.set2 (v0 := .int .i64 a) (v1 := .int .i64 b)).far2 (g := g5) (v0 := .int .i64 c) (v1 := .int .i64 d) (Ne.symm a3)
 have q5 := (k5.far2 (g := g4) (v0 := .int .i64 a) (v1 := .int .i64 b) a3).set2 (v0 := .int .i64 c) (v1 := .int .i64 d)
 have a6 : w1.heap.size ≤ g4 := lo4
 have a4 : w1.heap.size ≤ g5 := lo5
 have a2 := a0.trans (zba (W := W) (g := g4) (v0 := .int .i64 a) (v1 := .int .i64 b) (by omega) a0.size)
 have a1 := a2.trans (zba (g := g5) (v0 := .int .i64 c) (v1 := .int .i64 d) (by omega) a2.size)
 clear a2 a6 a4 lo4 lo5 hW
 obtain ⟨x0, x1, fx⟩ := zai k4
 obtain ⟨y0, y1, fy⟩ := zai k5
 cases t1 : decide (b < a) with
 | true =>
  have HE : Hid (R = false) := hid (by rw [HR.out, t1]; rfl)
  go_wp2; go_ret; exact ⟨by rw [HE.out]; rfl, a1⟩
 | false =>
  cases t2 : decide (d < c) with
  | true =>
   have HE : Hid (R = false) := hid (by rw [HR.out, t1, t2]; rfl)
   go_wp2; go_ret; exact ⟨by rw [HE.out]; rfl, a1⟩
  | false =>
   have HE : Hid (R = decide (-9223372036854775808 < a)) := hid (by rw [HR.out, t1, t2]; rfl)
   go_wp2; go_ret; exact ⟨by rw [HE.out]; rfl, a1⟩
theorem zgz (kd : Int) (h3 : kd ≠ 3) (h4 : kd ≠ 4) (h5 : kd ≠ 5) (h6 : kd ≠ 6) (h7 : kd ≠ 7) (h8 : kd ≠ 8) (r s : Rg) (_ir : I64 (loR r) ∧ I64 (hiR r)) (_is_ : I64 (loR s) ∧ I64 (hiR s)) (w : World) :
  Calls Tryz.prog 46 #[kd, r.val, s.val] w fun e w' => e = .returned (.bool (!(decide (hiR r < loR r) || decide (hiR s < loR s)) && false)) ∧ Below w.heap.size w w' := by
 have t3' : (kd == 3) = false := by simp [h3]
 have t4' : (kd == 4) = false := by simp [h4]
 have t5' : (kd == 5) = false := by simp [h5]
 have t6' : (kd == 6) = false := by simp [h6]
 have t7' : (kd == 7) = false := by simp [h7]
 have t8' : (kd == 8) = false := by simp [h8]
 clear h3 h4 h5 h6 h7 h8
 have H1 := hid (fun W => za4 r W)
 have H2 := hid (fun W => za4 s W)
 rw [Rg.val_eq] at H1 H2
 rw [Rg.val_eq, Rg.val_eq]
 generalize loR r = a at *
 generalize hiR r = b at *
 generalize loR s = c at *
 generalize hiR s = d at *
 obtain ⟨R, hR⟩ : ∃ R, R = (!(decide (b < a) || decide (d < c)) && false) := ⟨_, rfl⟩
 rw [← hR]
 have HR := hid hR
 clear hR
 obtain ⟨p0, p1, a0, a5⟩ := zal w #[r.lo, r.hi, r.hl, r.hh] #[s.lo, s.hi, s.hl, s.hh] 49 49
 clear a5
 go_enter Tryz.func46, Tryz.ntmps46
 go_upto_region 1 with fail
 generalize (w.alloc (Obj.cells #[r.lo, r.hi, r.hl, r.hh] 49)).alloc (Obj.cells #[s.lo, s.hi, s.hl, s.hh] 49) = w1 at *
 have f0 := zab (show w1.cell? ⟨w.heap.size, 0, none⟩ = some (.int .i64 r.lo) from p0.cell 0)
 have f1 := zab (show w1.cell? ⟨w.heap.size, 1, none⟩ = some (.int .i64 r.hi) from p0.cell 1)
 have f2 := zab (show w1.cell? ⟨w.heap.size, 2, none⟩ = some (.bool r.hl) from p0.cell 2)
 have f3 := zab (show w1.cell? ⟨w.heap.size, 3, none⟩ = some (.bool r.hh) from p0.cell 3)
 have j0 := zab (show w1.cell? ⟨w.heap.size + 1, 0, none⟩ = some (.int .i64 s.lo) from p1.cell 0)
 have j1 := zab (show w1.cell? ⟨w.heap.size + 1, 1, none⟩ = some (.int .i64 s.hi) from p1.cell 1)
 have j2 := zab (show w1.cell? ⟨w.heap.size + 1, 2, none⟩ = some (.bool s.hl) from p1.cell 2)
 have j3 := zab (show w1.cell? ⟨w.heap.size + 1, 3, none⟩ = some (.bool s.hh) from p1.cell 3)
 refine zac 6 [Sp.val (.agg #[r.lo, r.hi, r.hl, r.hh]), Sp.val (.agg #[a, b]), Sp.val (.agg #[s.lo, s.hi, s.hl, s.hh]), Sp.val (.agg #[c, d]), Sp.any (zat 135 #[.int .i64 0, .int .i64 0]), Sp.any (zat 135 #[.int .i64 0, .int .i64 0])] (by kernel_rfl) (by kernel_rfl) ?_
 (refine fe_t (fun _ _ => ?_))
 refine zaf.callFV (by rfl) (fun W hW hf => ⟨99, #[.agg #[r.lo, r.hi, r.hl, r.hh]], by go_simp, H1.out W⟩) (fun _ _ => ?_)
 refine fe_p ?_
 (refine fe_t (fun _ _ => ?_))
 refine zaf.callFV (by rfl) (fun W hW hf => ⟨99, #[.agg #[s.lo, s.hi, s.hl, s.hh]], by go_simp, H2.out W⟩) (fun _ _ => ?_)
 refine fe_p ?_
 refine zaf.step (by rfl) (fun W hW K hK => ?_) (fun v4 l4 h4 => ?_)
 ·go_simp
  exact hK _ _ (new1 _ _) ⟨rfl, Blk.new _ _ _, by simp⟩
 refine fe_p ?_
 refine zaf.step (by rfl) (fun W hW K hK => ?_) (fun v5 l5 h5 => ?_)
 ·go_simp
  exact hK _ _ (new1 _ _) ⟨rfl, Blk.new _ _ _, by simp⟩
 refine fe_p ?_
 refine zaf.tail (fun W hW hf hd => ?_)
 replace hW : Below w1.heap.size w1 W := Ext.trans (Below.refl _ _).drew hW
 obtain ⟨g4, rfl, k4, lo4, e4, e4'⟩ := zap (show Sp.fact w1.drew (Sp.any (zat 135 #[.int .i64 0, .int .i64 0])) v4 l4 h4 W from hf 4)
 obtain ⟨g5, rfl, k5, lo5, e5, e5'⟩ := zap (show Sp.fact w1.drew (Sp.any (zat 135 #[.int .i64 0, .int .i64 0])) v5 l5 h5 W from hf 5)
 have dd : h4 ≤ l5 ∨ h5 ≤ l4 := hd 4 5 (by decide)
 have a3 : g4 ≠ g5 := by omega
 clear hf hd f0 f1 f2 f3 j0 j1 j2 j3 H1 H2 e4 e4' e5 e5' dd p0 p1
 have hww := a0.size
 replace a0 := bup a0 hW
 have q4 := (k4.set2 (v0 := .int .i64 a) (v1 := .int .i64 b)).far2 (g := g5) (v0 := .int .i64 c) (v1 := .int .i64 d) (Ne.symm a3)
 have q5 := (k5.far2 (g := g4) (v0 := .int .i64 a) (v1 := .int .i64 b) a3).set2 (v0 := .int .i64 c) (v1 := .int .i64 d)
 have a6 : w1.heap.size ≤ g4 := lo4
 have a4 : w1.heap.size ≤ g5 := lo5
 have a2 := a0.trans (zba (W := W) (g := g4) (v0 := .int .i64 a) (v1 := .int .i64 b) (by omega) a0.size)
 have a1 := a2.trans (zba (g := g5) (v0 := .int .i64 c) (v1 := .int .i64 d) (by omega) a2.size)
 clear a2 a6 a4 lo4 lo5 hW
 obtain ⟨x0, x1, fx⟩ := zai k4
 obtain ⟨y0, y1, fy⟩ := zai k5
 cases t1 : decide (b < a) with
 | true =>
  have HE : Hid (R = false) := hid (by rw [HR.out, t1]; rfl)
  go_wp2; go_ret; exact ⟨by rw [HE.out]; rfl, a1⟩
 | false =>
  cases t2 : decide (d < c) with
  | true =>
   have HE : Hid (R = false) := hid (by rw [HR.out, t1, t2]; rfl)
   go_wp2; go_ret; exact ⟨by rw [HE.out]; rfl, a1⟩
  | false =>
   have HE : Hid (R = false) := hid (by rw [HR.out, t1, t2]; rfl)
   go_wp2; go_ret; exact ⟨by rw [HE.out]; rfl, a1⟩
end
end Go.Proofs.YtnmpgijiimglcaaGreat
