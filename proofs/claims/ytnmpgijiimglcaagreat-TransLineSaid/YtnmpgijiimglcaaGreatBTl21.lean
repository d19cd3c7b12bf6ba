import Derived.Test.YtnmpgijiimglcaaGreatBTl20
import Derived.Test.YtnmpgijiimglcaaGreatBTl17
import Derived.Test.YtnmpgijiimglcaaGreatBTl06
import Derived.Shelf.SlIterI.Stops
import Derived.Test.YtnmpgijiimglcaaGreatRows
import Derived.Test.YtnmpgijiimglcaaGreatBTl00
import Derived.OrdersIn
import Derived.TacticsIn
import Derived.RangeFuncCalls
import Derived.RangeFuncNested
import Derived.RangeFuncKeeps
namespace Go.Proofs.YtnmpgijiimglcaaGreat
section
open Go.RowKit
set_option maxRecDepth 100000
set_option maxHeartbeats 8000000
attribute [local go_sem ↓] Go.wp_at_zero Go.wp_at_succ
def ErrSx (w : World) (B : Nat) (o : O) (er : Int) (e : Ending) (w' : World) : Prop := ∃ A1 c1, e = .returned (.tuple #[.agg #[o.n, o.e, .slice A1 o.m.length c1], er]) ∧ Sx w' B A1 o.m ∧ Below w.heap.size w w'
theorem holds_ok (n : Int) (e : Bool) (A : Option Addr) (L c : Nat) (av an : Int) (w : World) : Calls Tryz.prog 57 #[.agg #[n, e, .slice A L c], .agg #[av, an]] w fun e' w' => e' = .returned (.bool (decide (av < n))) ∧ Below w.heap.size w w' := by
 obtain ⟨p0, p1, a0, d0⟩ := new_two w #[n, e, .slice A L c] #[av, an] 24 26
 clear d0
 obtain ⟨x0, x1, x2, fx⟩ := octbox p0
 obtain ⟨y0, y1, fy⟩ := opbox p1
 cases t1 : decide (av < n)
 ·go_enter Tryz.func57, Tryz.ntmps57
  go_wp2
  go_ret
  exact ⟨rfl, a0⟩
 ·go_enter Tryz.func57, Tryz.ntmps57
  go_wp2
  go_ret
  exact ⟨rfl, a0⟩
theorem sx_nil (w : World) (B : Nat) : Sx w B none [] := .inr ⟨0, own_nil w B⟩
theorem tassume_any (o : O) (op av an bv bn : Int) (ia : I64 an) (ib : I64 bn) (A : Option Addr) (cap : Nat) (w : World) (hx : Rd w w.heap.size A o.m) (hm : o.m.length ≤ 17592186044416) (B : Nat) (hB : B ≤ w.heap.size) :
  Calls Tryz.prog 20 #[.agg #[o.n, o.e, .slice A o.m.length cap], op, .agg #[av, an], .agg #[bv, bn]] w (ErrSx w B (assumeAns o op av an bv bn) (assumeErr o op av bv)) := by
 have HE : Hid (assumeErr o op av bv = if check o ≠ 0 then check o else if 1 ≤ op ∧ op ≤ 6 ∧ av < o.n ∧ bv < o.n then 0 else 160) := hid rfl
 have HR : Hid (assumeAns o op av an bv bn = if assumeErr o op av bv = 0 then assumeO o op av an bv bn else ⟨0, false, []⟩) := hid rfl
 generalize assumeAns o op av an bv bn = R at *
 generalize assumeErr o op av bv = E at *
 have HCK := hid (fun W (h : Rd W W.heap.size A o.m) => check_any o A cap W h (by omega))
 have HK : Hid (∃ k, k = check o) := hid ⟨_, rfl⟩
 obtain ⟨k, hk⟩ := HK.out
 rw [← hk] at HCK HE
 clear HK
 obtain ⟨p0, p1, p2, p3, a0, d0⟩ := new_four w #[o.n, o.e, .slice A o.m.length cap] #[av, an] #[bv, bn] #[.int .i64 0, false, .slice none 0 0] 24 26 26 24
 replace hx := hx.up a0
 have HSZ := hid d0
 clear d0
 have HKK := hid hk
 clear hk
 obtain ⟨a8, b0, b2, a7⟩ := octbox p0
 obtain ⟨b7, b9, b8⟩ := opbox p1
 obtain ⟨a9, a6, b1⟩ := opbox p2
 go_enter Tryz.func20, Tryz.ntmps20
 go_wp2_with fail
 clear a8 b0 b2 a7 b7 b9 b8 a9 a6 b1
 generalize (((w.alloc (Obj.cells #[o.n, o.e, .slice A o.m.length cap] 24)).alloc (Obj.cells #[av, an] 26)).alloc (Obj.cells #[bv, bn] 26)).alloc (Obj.cells #[.int .i64 0, false, .slice none 0 0] 24) = w1 at *
 (with_reducible refine (HCK.out w1 hx).mono ?_)
 rintro e_w2 w2 ⟨rfl, b3⟩
 replace p0 := p0.later b3
 replace p1 := p1.later b3
 replace p2 := p2.later b3
 replace p3 := p3.later b3
 replace hx := hx.up b3
 replace a0 := bup a0 b3
 cases t1 : (k != 0)
 rotate_left
 ·have c9 : k ≠ 0 := by simpa using t1
  have e1 : E = k := by rw [HE.out, if_pos c9]
  have e2 : R = ⟨0, false, []⟩ := by rw [HR.out, e1, if_neg c9]
  subst e2
  clear HR HE c9
  subst e1
  obtain ⟨a2, a4, a1, a3⟩ := octbox p3
  go_wp2
  clear a2 a4 a1 a3
  have hBz := a0.size
  have q9 := p3.set3 (v0 := .int .i64 0) (v1 := .bool false) (v2 := .slice none 0 0)
  have c3 := a0.trans (below3 (W := w2) (g := w.heap.size + 1 + 1 + 1) (v0 := .int .i64 0) (v1 := .bool false) (v2 := .slice none 0 0) (by omega) a0.size)
  obtain ⟨z0, z1, z2, fz⟩ := octbox q9
  refine bodyPost_ret (v := .tuple #[.agg #[.int .i64 0, false, .slice none 0 0], E]) (by simp [results, Tryz.results20, go_sem, z0, z1, z2]) rfl ?_
  exact ⟨none, 0, rfl, sx_nil _ _, c3⟩
 ·have c9 : k = 0 := by simpa using t1
  subst c9
  have hck : check o = 0 := HKK.out.symm
  have c8 := hid hck
  clear hck t1
  replace HE : Hid (E = if 1 ≤ op ∧ op ≤ 6 ∧ av < o.n ∧ bv < o.n then 0 else 160) := hid (by rw [HE.out, if_neg (by simp)])
  by_cases h1 : op < 1
  ·have e1 : E = 160 := by rw [HE.out, if_neg (by omega)]
   have e2 : R = ⟨0, false, []⟩ := by rw [HR.out, e1, if_neg (by omega)]
   subst e2
   clear HR HE
   subst e1
   have t2 : decide (op < 1) = true := by rw [decide_eq_true_eq]; exact h1
   obtain ⟨a8, b0, b2, a7⟩ := octbox p0
   obtain ⟨b7, b9, b8⟩ := opbox p1
   obtain ⟨a9, a6, b1⟩ := opbox p2
   obtain ⟨a2, a4, a1, a3⟩ := octbox p3
   go_wp2
   clear a8 b0 b2 a7 b7 b9 b8 a9 a6 b1 a2 a4 a1 a3
   have hBz := a0.size
   have q9 := p3.set3 (v0 := .int .i64 0) (v1 := .bool false) (v2 := .slice none 0 0)
   have c3 := a0.trans (below3 (W := w2) (g := w.heap.size + 1 + 1 + 1) (v0 := .int .i64 0) (v1 := .bool false) (v2 := .slice none 0 0) (by omega) a0.size)
   obtain ⟨z0, z1, z2, fz⟩ := octbox q9
   refine bodyPost_ret (v := .tuple #[.agg #[.int .i64 0, false, .slice none 0 0], .int .i64 160]) (by simp [results, Tryz.results20, go_sem, z0, z1, z2]) rfl ?_
   exact ⟨none, 0, rfl, sx_nil _ _, c3⟩
  ·have t2 : decide (op < 1) = false := by rw [decide_eq_false_iff_not]; exact h1
   by_cases h2 : 6 < op
   ·have e1 : E = 160 := by rw [HE.out, if_neg (by omega)]
    have e2 : R = ⟨0, false, []⟩ := by rw [HR.out, e1, if_neg (by omega)]
    subst e2
    clear HR HE
    subst e1
    have t3 : decide (6 < op) = true := by rw [decide_eq_true_eq]; exact h2
    obtain ⟨a8, b0, b2, a7⟩ := octbox p0
    obtain ⟨b7, b9, b8⟩ := opbox p1
    obtain ⟨a9, a6, b1⟩ := opbox p2
    obtain ⟨a2, a4, a1, a3⟩ := octbox p3
    go_wp2
    clear a8 b0 b2 a7 b7 b9 b8 a9 a6 b1 a2 a4 a1 a3
    have hBz := a0.size
    have q9 := p3.set3 (v0 := .int .i64 0) (v1 := .bool false) (v2 := .slice none 0 0)
    have c3 := a0.trans (below3 (W := w2) (g := w.heap.size + 1 + 1 + 1) (v0 := .int .i64 0) (v1 := .bool false) (v2 := .slice none 0 0) (by omega) a0.size)
    obtain ⟨z0, z1, z2, fz⟩ := octbox q9
    refine bodyPost_ret (v := .tuple #[.agg #[.int .i64 0, false, .slice none 0 0], .int .i64 160]) (by simp [results, Tryz.results20, go_sem, z0, z1, z2]) rfl ?_
    exact ⟨none, 0, rfl, sx_nil _ _, c3⟩
   ·have t3 : decide (6 < op) = false := by rw [decide_eq_false_iff_not]; exact h2
    obtain ⟨a8, b0, b2, a7⟩ := octbox p0
    obtain ⟨b7, b9, b8⟩ := opbox p1
    obtain ⟨a9, a6, b1⟩ := opbox p2
    go_wp2_with fail
    clear a8 b0 b2 a7 b7 b9 b8 a9 a6 b1
    (with_reducible refine (holds_ok o.n o.e A o.m.length cap av an w2).mono ?_)
    rintro e_w3 w3 ⟨rfl, b6⟩
    replace p0 := p0.later b6
    replace p1 := p1.later b6
    replace p2 := p2.later b6
    replace p3 := p3.later b6
    replace hx := hx.up b6
    replace a0 := bup a0 b6
    by_cases h3 : av < o.n
    rotate_left
    ·have e1 : E = 160 := by rw [HE.out, if_neg (by omega)]
     have e2 : R = ⟨0, false, []⟩ := by rw [HR.out, e1, if_neg (by omega)]
     subst e2
     clear HR HE
     subst e1
     rw [show decide (av < o.n) = false by rw [decide_eq_false_iff_not]; exact h3]
     obtain ⟨a2, a4, a1, a3⟩ := octbox p3
     go_wp2
     clear a2 a4 a1 a3
     have hBz := a0.size
     have q9 := p3.set3 (v0 := .int .i64 0) (v1 := .bool false) (v2 := .slice none 0 0)
     have c3 := a0.trans (below3 (W := w3) (g := w.heap.size + 1 + 1 + 1) (v0 := .int .i64 0) (v1 := .bool false) (v2 := .slice none 0 0) (by omega) a0.size)
     obtain ⟨z0, z1, z2, fz⟩ := octbox q9
     refine bodyPost_ret (v := .tuple #[.agg #[.int .i64 0, false, .slice none 0 0], .int .i64 160]) (by simp [results, Tryz.results20, go_sem, z0, z1, z2]) rfl ?_
     exact ⟨none, 0, rfl, sx_nil _ _, c3⟩
    ·rw [show decide (av < o.n) = true by rw [decide_eq_true_eq]; exact h3]
     obtain ⟨a8, b0, b2, a7⟩ := octbox p0
     obtain ⟨a9, a6, b1⟩ := opbox p2
     go_wp2_with fail
     clear a8 b0 b2 a7 a9 a6 b1
     (with_reducible refine (holds_ok o.n o.e A o.m.length cap bv bn w3).mono ?_)
     rintro e_w4 w4 ⟨rfl, b4⟩
     replace p0 := p0.later b4
     replace p1 := p1.later b4
     replace p2 := p2.later b4
     replace p3 := p3.later b4
     replace hx := hx.up b4
     replace a0 := bup a0 b4
     by_cases h4 : bv < o.n
     rotate_left
     ·have e1 : E = 160 := by rw [HE.out, if_neg (by omega)]
      have e2 : R = ⟨0, false, []⟩ := by rw [HR.out, e1, if_neg (by omega)]
      subst e2
      clear HR HE
      subst e1
      rw [show decide (bv < o.n) = false by rw [decide_eq_false_iff_not]; exact h4]
      obtain ⟨a2, a4, a1, a3⟩ := octbox p3
      go_wp2
      clear a2 a4 a1 a3
      have hBz := a0.size
      have q9 := p3.set3 (v0 := .int .i64 0) (v1 := .bool false) (v2 := .slice none 0 0)
      have c3 := a0.trans (below3 (W := w4) (g := w.heap.size + 1 + 1 + 1) (v0 := .int .i64 0) (v1 := .bool false) (v2 := .slice none 0 0) (by omega) a0.size)
      obtain ⟨z0, z1, z2, fz⟩ := octbox q9
      refine bodyPost_ret (v := .tuple #[.agg #[.int .i64 0, false, .slice none 0 0], .int .i64 160]) (by simp [results, Tryz.results20, go_sem, z0, z1, z2]) rfl ?_
      exact ⟨none, 0, rfl, sx_nil _ _, c3⟩
     ·rw [show decide (bv < o.n) = true by rw [decide_eq_true_eq]; exact h4]
      have e1 : E = 0 := by rw [HE.out, if_pos (by omega)]
      replace HR : Hid (R = if (closeO o).e then closeO o else assumesO (closeO o) op av an bv bn) := hid (by rw [HR.out, e1, if_pos rfl]; rfl)
      clear HE
      subst e1
      have hop : 1 ≤ op ∧ op ≤ 6 := by omega
      have HOP := hid hop
      have HAB := hid (And.intro h3 h4)
      clear hop h1 h2 h3 h4 t2 t3
      obtain ⟨a8, b0, b2, a7⟩ := octbox p0
      go_wp2_with fail
      clear a8 b0 b2 a7
      have hle : w.heap.size ≤ w4.heap.size := a0.size
      have hBc := Nat.le_trans hB hle
      (with_reducible refine (tclosed_ok o c8.out A cap w4 hx hm).mono ?_)
      rintro e_w5 w5 ⟨Ac, cc, rfl, ownc, b5⟩
      have sxc := Sx.of_own ownc hBc
      replace p0 := p0.later b5
      replace p1 := p1.later b5
      replace p2 := p2.later b5
      replace p3 := p3.later b5
      replace hx := hx.up b5
      replace a0 := bup a0 b5
      have okc : OkO o.n (closeO o) := OkO.close ⟨rfl, c8.out⟩
      have d1 := OkO.small okc
      rcases okc.form with hE | ⟨N, cm, hN, hn, hE, hc⟩
      ·replace HR : Hid (R = emptyO o.n) := hid (by rw [HR.out, hE]; rfl)
       rw [hE] at sxc ⊢
       unfold emptyO at *
       dsimp only at *
       replace sxc : Sx w5 B Ac [] := sxc
       clear hE d1 okc
       simp only [List.length_nil]
       obtain ⟨p5, c0, -⟩ := new_one w5 #[o.n, true, .slice Ac 0 cc] 24
       replace p0 := p0.later c0
       replace p1 := p1.later c0
       replace p2 := p2.later c0
       replace p3 := p3.later c0
       replace sxc := sxc.later c0 (Nat.le_trans hB a0.size)
       replace hx := hx.up c0
       replace a0 := bup a0 c0
       obtain ⟨c7, c5, c4, c6⟩ := octbox p5
       obtain ⟨a2, a4, a1, a3⟩ := octbox p3
       go_wp2
       clear c7 c5 c4 c6 a2 a4 a1 a3
       generalize w5.alloc (Obj.cells #[o.n, true, .slice Ac 0 cc] 24) = w6 at *
       have hBz := a0.size
       have s9 := sxc.far3 (g := w.heap.size + 1 + 1 + 1) (v0 := .int .i64 o.n) (v1 := .bool true) (v2 := .slice Ac 0 cc) (by omega) p3 (by decide)
       rw [HR.out]
       have q9 := p3.set3 (v0 := .int .i64 o.n) (v1 := .bool true) (v2 := .slice Ac 0 cc)
       have c3 := a0.trans (below3 (W := w6) (g := w.heap.size + 1 + 1 + 1) (v0 := .int .i64 o.n) (v1 := .bool true) (v2 := .slice Ac 0 cc) (by omega) a0.size)
       obtain ⟨z0, z1, z2, fz⟩ := octbox q9
       refine bodyPost_ret (v := .tuple #[.agg #[o.n, true, .slice Ac 0 cc], .int .i64 0]) (by simp [results, Tryz.results20, go_sem, z0, z1, z2]) rfl ?_
       exact ⟨_, _, rfl, s9, c3⟩
      ·replace HR : Hid (R = assumesO ⟨o.n, false, cm⟩ op av an bv bn) := hid (by rw [HR.out, hE]; rfl)
       rw [hE] at sxc d1 ⊢
       dsimp only at *
       clear hE okc
       obtain ⟨u0, u1, u2, uf⟩ := octbox p3
       obtain ⟨p5, c0, -⟩ := new_one w5 #[o.n, false, .slice Ac cm.length cc] 24
       replace p0 := p0.later c0
       replace p1 := p1.later c0
       replace p2 := p2.later c0
       replace p3 := p3.later c0
       replace sxc := sxc.later c0 (Nat.le_trans hB a0.size)
       replace hx := hx.up c0
       replace a0 := bup a0 c0
       obtain ⟨c7, c5, c4, c6⟩ := octbox p5
       obtain ⟨b7, b9, b8⟩ := opbox p1
       obtain ⟨a9, a6, b1⟩ := opbox p2
       go_wp2_with fail
       clear u0 u1 u2 uf c7 c5 c4 c6 b7 b9 b8 a9 a6 b1
       generalize w5.alloc (Obj.cells #[o.n, false, .slice Ac cm.length cc] 24) = w6 at *
       have hBd := Nat.le_trans hB a0.size
       (with_reducible refine (assumes_ok o.n cm N hN hn hc op av an bv bn HOP.out HAB.out.1 HAB.out.2 ia ib Ac cc w6 B hBd sxc d1).mono ?_)
       rintro e_w7 w7 ⟨A2, c2, rfl, sx2, a5⟩
       replace p0 := p0.later a5
       replace p1 := p1.later a5
       replace p2 := p2.later a5
       replace p3 := p3.later a5
       replace p5 := p5.later a5
       replace sxc := sxc.later a5 (Nat.le_trans hB a0.size)
       replace hx := hx.up a5
       replace a0 := bup a0 a5
       rw [← HR.out] at sx2 ⊢
       obtain ⟨a2, a4, a1, a3⟩ := octbox p3
       go_wp2
       clear a2 a4 a1 a3
       have hBz := a0.size
       have s9 := sx2.far3 (g := w.heap.size + 1 + 1 + 1) (v0 := .int .i64 R.n) (v1 := .bool R.e) (v2 := .slice A2 R.m.length c2) (by omega) p3 (by decide)
       have q9 := p3.set3 (v0 := .int .i64 R.n) (v1 := .bool R.e) (v2 := .slice A2 R.m.length c2)
       have c3 := a0.trans (below3 (W := w7) (g := w.heap.size + 1 + 1 + 1) (v0 := .int .i64 R.n) (v1 := .bool R.e) (v2 := .slice A2 R.m.length c2) (by omega) a0.size)
       obtain ⟨z0, z1, z2, fz⟩ := octbox q9
       refine bodyPost_ret (v := .tuple #[.agg #[R.n, R.e, .slice A2 R.m.length c2], .int .i64 0]) (by simp [results, Tryz.results20, go_sem, z0, z1, z2]) rfl ?_
       exact ⟨_, _, rfl, s9, c3⟩
end
section

end
section
open Go.RowKit
set_option maxRecDepth 100000
set_option maxHeartbeats 8000000
section
variable {P : Program} {ops : Array Oper} {Q : Exit → Act → World → Prop} {w0 : World}
theorem FlowE.stepF {m k : Nat} {p : Value → World → World → Prop} {sl : List Sp} {o : Oper} {rest : List Oper} {a : Act} {fs : Nat → World → Prop} {iv : Nat → Nat × Nat} (hw : Region.wanted o (yielded ops a.tmps) = true)
  (h : ∀ w, Ext w0 w → (∀ i, reachB .any ops i ops.size k = true → fs i w) → ∀ K : Act → World → Prop, (∀ v w2, Ext w w2 → p v w w2 → K (a.put o.dst v) w2) → o.wp P a w K Never) (hr : ∀ v lo hi, FlowE P ops Q w0 m sl rest (k + 1) (a.put o.dst v) (upd fs k (Sp.fact w0 (Sp.any p) v lo hi)) (updI iv k (lo, hi))) :
  FlowE P ops Q w0 (m + 1) (Sp.any p :: sl) (o :: rest) k a fs iv := by
 unfold FlowE
 exact ⟨.inl ⟨hw, fun w hS hf K hK => h w hS hf K (fun v w2 hx hp => hK _ v w2 rfl hx hp)⟩, fun v lo hi _ => hr v lo hi⟩
end
end
section
open Go.RowKit
set_option maxRecDepth 100000
set_option maxHeartbeats 8000000
section
variable {P : Program} {ops : Array Oper} {Q : Exit → Act → World → Prop} {w0 : World}
theorem FlowE.callG {m k : Nat} {p : Value → World → World → Prop} {sl : List Sp} {o : Oper} {rest : List Oper} {a : Act} {fs : Nat → World → Prop} {iv : Nat → Nat × Nat} (hw : Region.wanted o (yielded ops a.tmps) = true)
  (h : ∀ w, Ext w0 w → (∀ i, reachB .any ops i ops.size k = true → fs i w) → ∃ f args, (execOp a.eval o).run P w = .ok (.enter f args) w ∧ Calls P f args w fun e w2 => ∃ v, e = .returned v ∧ Ext w w2 ∧ p v w w2) (hr : ∀ v lo hi, FlowE P ops Q w0 m sl rest (k + 1) (a.put o.dst v) (upd fs k (Sp.fact w0 (Sp.any p) v lo hi)) (updI iv k (lo, hi))) :
  FlowE P ops Q w0 (m + 1) (Sp.any p :: sl) (o :: rest) k a fs iv :=
 FlowE.stepF hw (fun w hS hf K hK => by
  obtain ⟨f, args, he, hc⟩ := h w hS hf
  unfold Oper.wp; rw [he]
  exact hc.mono fun e w2 ⟨v, he, h1, h2⟩ => by subst he; exact hK _ _ h1 h2) hr
theorem FlowE.callFV {m k : Nat} {x : Value} {sl : List Sp} {o : Oper} {rest : List Oper} {a : Act} {fs : Nat → World → Prop} {iv : Nat → Nat × Nat} (hw : Region.wanted o (yielded ops a.tmps) = true)
  (h : ∀ w, Ext w0 w → (∀ i, reachB .any ops i ops.size k = true → fs i w) → ∃ f args, (execOp a.eval o).run P w = .ok (.enter f args) w ∧ Calls P f args w fun e w2 => e = .returned x ∧ Ext w w2) (hr : ∀ lo hi, FlowE P ops Q w0 m sl rest (k + 1) (a.put o.dst x) (upd fs k (Sp.fact w0 (Sp.val x) x lo hi)) (updI iv k (lo, hi))) :
  FlowE P ops Q w0 (m + 1) (Sp.val x :: sl) (o :: rest) k a fs iv := by
 refine ⟨.inl ⟨hw, fun w1 h1 hf K hK => ?_⟩, fun v lo hi hfit => ?_⟩
 ·obtain ⟨f, args, he, hc⟩ := h w1 h1 hf
  unfold Oper.wp; rw [he]
  exact hc.mono fun e w2 ⟨he2, h2⟩ => by subst he2; exact hK _ x w2 rfl h2 rfl
 ·obtain rfl : v = x := hfit
  exact hr lo hi
theorem FlowE.skip {m k : Nat} {sl : List Sp} {o : Oper} {rest : List Oper} {a : Act} {fs : Nat → World → Prop} {iv : Nat → Nat × Nat} (hw : Region.wanted o (yielded ops a.tmps) = false)
  (hr : ∀ lo hi, FlowE P ops Q w0 m sl rest (k + 1) (a.put o.dst undef) (upd fs k (Sp.fact w0 (Sp.val undef) undef lo hi)) (updI iv k (lo, hi))) :
  FlowE P ops Q w0 (m + 1) (Sp.val undef :: sl) (o :: rest) k a fs iv :=
 ⟨.inr ⟨hw, rfl⟩, fun v lo hi hfit => by
  obtain rfl : v = undef := hfit
  exact hr lo hi⟩
end
def IsNew (t : TypeId) (cs : Array Value) (n : Nat) (v : Value) (_ wb : World) : Prop := ∃ g, v = .slice (some ⟨g, 0, none⟩) n n ∧ Blk wb g t cs
theorem fact_new {w0 W : World} {t : TypeId} {cs : Array Value} {n : Nat} {v : Value} {lo hi : Nat} (h : Sp.fact w0 (Sp.any (IsNew t cs n)) v lo hi W) : ∃ g, v = .slice (some ⟨g, 0, none⟩) n n ∧ Blk W g t cs := by
 obtain ⟨wa, wb, _, _, h3, _, _, g, e, k⟩ := h
 exact ⟨g, e, k.later h3⟩
end
section

end
section
set_option maxRecDepth 100000
set_option maxHeartbeats 8000000
def wideAt (ro : Option Nat) : Fence := { Fence.wide with round := ro }
@[simp, go_sem] theorem wideAt_round (ro : Option Nat) : (wideAt ro).round = ro := rfl
@[simp, go_sem] theorem wideAt_depth (ro : Option Nat) : (wideAt ro).depth = none := rfl
@[simp, go_sem] theorem wideAt_fn (ro : Option Nat) (f : FuncId) : (wideAt ro).fn f = True := rfl
section
variable {P : Program} {ops : Array Oper} {Q : Exit → Act → World → Prop} {S : World → Prop} {md : Region.Mode} {ro : Option Nat} {n : Nat}
theorem callsIn_at {f : FuncId} {args : Array Value} {w : World} {R : Ending → World → Prop} (h : Calls P f args w R) : CallsIn (wideAt ro) n P f args w R := (callsIn_wide (n := n)).2 h
theorem rowsIn_at {row : String} {args : Array Value} {w : World} {R : Value → World → Prop} (h : Rows P row args w R) : RowsIn (wideAt ro) n P row args w R := fun c cs _ => by
 obtain ⟨v, w', r, s⟩ := h c cs
 exact ⟨v, w', r, stepsIn_wide.2 s⟩
theorem wpIn_of_wp {o : Oper} {a : Act} {w : World} {K : Act → World → Prop} (hd : ∀ c, o.op ≠ .defer c) (h : o.wp P a w K Never) (hQ : ∀ e a w, Never e a w → Q e a w) : o.wpIn (wideAt ro) n P a w K Q := by
 refine ⟨fun _ _ => trivial, ?_⟩
 rw [Oper.semAt_eq _ _ _ hd]
 unfold Oper.wp at h
 generalize (execOp a.eval o).run P w = r at *
 cases r with
 | ok x w' =>
  cases x <;> simp only [Oper.upon, Oper.uponIn] at h ⊢ <;> try exact h
  case enter f args =>
   refine ⟨(fun k => by cases k), callsIn_at (h.mono fun e w'' he => ?_)⟩
   cases e with
   | returned u => exact he
   | panicked c => exact he.elim
   | outgrown => exact he.elim (fun _ h => h.elim (fun _ h => h.elim))
  case row row args => exact ⟨(fun k => by cases k), rowsIn_at h⟩
 | halt x w' =>
  cases x <;> simp only [Oper.upon, Oper.uponIn] at h ⊢
  case panic u => exact hQ _ _ _ h
def noDefer (ops : Array Oper) : Bool := (List.range ops.size).all fun i => match ops[i]? with
 | some o => (match o.op with | .defer _ => false | _ => true)
 | none => true
theorem noDefer_spec (h : noDefer ops = true) {i : Nat} {o : Oper} (hi : ops[i]? = some o) : ∀ c, o.op ≠ .defer c := by
 intro c hc
 have h1 := List.all_eq_true.1 h i (List.mem_range.2 (Array.getElem?_eq_some_iff.1 hi).1)
 simp [hi, hc] at h1
theorem wpAnyI_tail {m : Nat} (hf : ∀ i, i < ops.size → m ≤ i → Region.ready .any ops (pre ops.size i) = [i]) (hend : Region.ready .any ops (pre ops.size ops.size) = []) :
  ∀ (k' k : Nat) (l : List Oper), m ≤ k → k + k' = ops.size → (∀ j, l[j]? = ops[k + j]?) → ∀ (a : Act) (w : World), wpListIn (wideAt ro) n P ops Q l a w → Go.wpAnyIn (wideAt ro) n P .any ops Q k' (pre ops.size k) a w
 | 0, k, l, _, hn, hl, a, w, h => by
  have hk : k = ops.size := by omega
  subst hk
  have : l = [] := by
   cases l with
   | nil => rfl
   | cons o l => have := hl 0; simp at this
  subst this
  exact ⟨hend, h⟩
 | k' + 1, k, l, hmk, hn, hl, a, w, h => by
  have a0 : k < ops.size := by omega
  have hr := hf k a0 hmk
  cases l with
  | nil => have := hl 0; simp [Array.getElem?_eq_getElem a0] at this
  | cons o l =>
   have ho : ops[k]? = some o := by simpa using (hl 0).symm
   have hl' : ∀ j, l[j]? = ops[k + 1 + j]? := fun j => by have := hl (j + 1); simpa [Nat.add_assoc, Nat.add_comm 1 j] using this
   refine ⟨fun h0 => (by rw [hr] at h0; cases h0), fun i hi => ?_⟩
   rw [hr] at hi
   have hik : i = k := by simpa using hi
   subst hik
   rw [pre_set _ _ a0]
   unfold wpListIn at h
   unfold Go.wpOpIn
   simp only [ho]
   split
   ·rename_i hw
    rw [if_pos hw] at h
    exact Oper.wpIn_mono (fun a w => wpAnyI_tail hf hend k' (i + 1) l (by omega) (by omega) hl' a w) h
   ·rename_i hw
    rw [if_neg hw] at h
    exact ⟨h.1, wpAnyI_tail hf hend k' (i + 1) l (by omega) (by omega) hl' _ _ h.2⟩
end
end
section
set_option maxRecDepth 100000
set_option maxHeartbeats 8000000
open Go.RowKit Go.Maps Go.Sort Go.Shelf
theorem one_has {H : Type} (v : Int) (d : DataW H) (kl : Lit) : has (.map [(.int .i64 v, d)]) kl = (Lit.int .i64 v).sameKey kl := by simp [has]
theorem one_same {v x : Int} : (Lit.int .i64 v).sameKey (.int .i64 x) = decide (v = x) := by
 cases h : decide (v = x) with
 | true => have := of_decide_eq_true h; subst this; simp [Lit.sameKey]
 | false => have := of_decide_eq_false h; simp [Lit.sameKey, this]
theorem keys1_one {H : Type} (n : Nat) (hn : 1 ≤ n) (l Bm b nn : Nat) (v : Int) (d : DataW H) {R : Value → Option (DataW H × List MemPlace)} (J Jx : List Unit → World → Prop)
  (hY : ∀ pre x W, J pre W → pre.length < 1 → YieldAt (wideAt none) (n - 1) Tryz.prog l #[.int .i64 v] W fun e W' =>
   (e = .returned (.bool true) ∧ J (pre ++ [x]) W' ∧ KeepsWalks W W') ∨ (e = .returned (.bool false) ∧ Jx (pre ++ [x]) W'))
  (W : World) (hJ : AbidesFrom W.heap.size J) (hm : W.cell? ⟨Bm, 0, none⟩ = some (.map (some b))) (hown : W.ownsMap Tryz.prog 3 R b nn (.map [(.int .i64 v, d)])) (h0 : J [] W) :
  CallsIn (wideAt none) n Tryz.prog 252 #[.func (.yield l) #[] #[], .pointer (some ⟨Bm, 0, none⟩)] W fun e W' => (∃ v, e = .returned v) ∧
   ((∃ ss : List Unit, ss.length = 1 ∧ J ss W') ∨ (∃ pre : List Unit, pre.length = 1 ∧ Jx pre W')) := by
 have a0 : Tryz.prog.underlying 3 = some (.int .i64) := Tryz.underlying3
 refine callsIn_of_wp Tryz.func252 rfl trivial ?_ rfl
 simp only [Tryz.ntmps252, List.size_toArray, List.length_cons, List.length_nil, Nat.reduceAdd, Nat.reduceSub, Array.replicate_succ, Array.replicate_zero, List.push_toArray, List.append_toArray, List.nil_append, List.cons_append]
 gi_wp2_with (first
  | (gi_at_range; refine wpListIn_range_own _ rfl _ 221 rfl 3 220 (int_keyed a0) Tryz.underlying221 _ b nn _ rfl hown ?_; intro w0 a5 hg0 hs0)
  | gi_in)
 go_frame
 gi_loopw [3] (fun _ wr => ∃ (left : Lit → Bool) (cnt : Nat) (ss : List Unit), wr.ranges Tryz.prog 3 R b W.heap.size nn (.map [(.int .i64 v, d)]) left cnt ∧ ss.length + cnt ≤ 1 ∧ (cnt = 0 → ss.length = 1) ∧ (∀ x, left (.int .i64 x) = true → x = v) ∧ J ss wr)
  (fun _ wr => wr.rangeLeft b W.heap.size)
 case atStart =>
  refine ⟨_, _, [], a5, ?_, ?_, ?_, hJ [] W w0 none h0 hg0 (fun r e => by cases e)⟩
  ·simp [Maps.size]
  ·simp [Maps.size]
  ·intro x hx
   rw [one_has, one_same] at hx
   exact (of_decide_eq_true hx).symm
 case round =>
  obtain ⟨left, cnt, ss, a3, hcs, hc1, hl1, hJs⟩ := hrel
  gi_wp2_with (first
   | (gi_at_next; refine wpListIn_next_ranges _ rfl _ rfl 3 (int_keyed a0) R encZ id (fun key kl hk => by obtain ⟨x, hx, _⟩ := Maps.keyOf_i64 a0 hk; exact ⟨x, hx⟩) (fun v _ _ => ⟨v, rfl⟩) b W.heap.size nn _ _ _ rfl a3 ?_ ?_)
   | gi_in)
  ·intro hc0 hl0
   gi_wp2
   go_end0
   exact ⟨⟨_, rfl⟩, .inl ⟨ss, hc1 hc0, hJs⟩⟩
  ·intro x c kl yd yp w2 cnt2 a6 hlk hv hat a4 hlt hg2 hs2 hen
   obtain ⟨x', ex, rfl, _⟩ := Maps.keyOf_i64 a0 a6
   obtain rfl : x = x' := encZ_inj ex
   obtain rfl := hl1 x hlk
   have hJ2 : J ss w2 := hJ ss wr w2 (some W.heap.size) hJs hg2 (fun r e => by cases e; exact ⟨Nat.le_refl _, a3.iter_walk⟩)
   obtain ⟨fn, tmps, assign, body, hy, hR⟩ := hY ss () w2 hJ2 (by omega)
   clear hs2
   gi_wp2
   refine hR.mono ?_
   rintro e W3 (⟨rfl, hJ3, hk3⟩ | ⟨rfl, hJx3⟩)
   ·gi_wp2
    have a2 := a4.of_walks hk3
    go_roundw
    case rel => exact ⟨_, cnt2, ss ++ [()], a2, by simp; omega, fun _ => by rw [List.length_append]; show ss.length + 1 = 1; omega, fun y hy => by simp only [Bool.and_eq_true] at hy; exact hl1 y hy.1, hJ3⟩
    case measure => rw [a2.left_eq, a3.left_eq]; exact hlt
   ·gi_wp2
    refine bodyPost_ret (results_none rfl _ _ _) rfl ?_
    exact ⟨⟨_, rfl⟩, .inr ⟨ss ++ [()], by rw [List.length_append]; show ss.length + 1 = 1; omega, hJx3⟩⟩
theorem keys_one {H : Type} (n : Nat) (hn : 1 ≤ n) (Bm b nn : Nat) (v : Int) (d : DataW H) {R : Value → Option (DataW H × List MemPlace)} (w : World) (hBm : Bm < w.heap.size)
  (hm : w.cell? ⟨Bm, 0, none⟩ = some (.map (some b))) (hown : w.ownsMap Tryz.prog 3 R b nn (.map [(.int .i64 v, d)])) :
  SeqStopsK (wideAt none) n Tryz.prog 252 #[.pointer (some ⟨Bm, 0, none⟩)] (fun _ : Unit => #[.int .i64 v]) KeepsWalks (fun ss => ss.length = 1) (fun pre => pre.length = 1) 1 w := fun l J Jx W hW hJ _ hY h0 => by
 have a1 : W.ownsMap Tryz.prog 3 R b nn (.map [(.int .i64 v, d)]) := by
  have hbl := hown.lt
  obtain ⟨es, clock, hb, Ft, hs, hD⟩ := hown
  exact ⟨es, clock, (hW.block b hbl).trans hb, Ft, hs, hD⟩
 exact keys1_one n hn l Bm b nn v d J Jx hY W hJ ((hW.cell (p := ⟨Bm, 0, none⟩) hBm).trans hm) a1 h0
theorem mkeys_ok (b : Option Nat) (w : World) : Calls Tryz.prog 242 #[.map b] w fun e w' => e = .returned (.func (.func 252) #[] #[.pointer (some ⟨w.heap.size, 0, none⟩)]) ∧ w' = w.alloc (.cells #[.map b] 221) := by
 go_enter Tryz.func242, Tryz.ntmps242
 go_wp2
 go_ret
 exact ⟨rfl, rfl⟩
end
section
set_option maxRecDepth 100000
set_option maxHeartbeats 8000000
section
variable {P : Program} {ops : Array Oper} {Q : Exit → Act → World → Prop} {S : Bool → World → Prop} {S1 S2 : World → Prop} {md : Region.Mode} {j : Nat} {ro : Option Nat} {nf : Nat}
theorem StepM.wpOpIn {i : Nat} {o : Oper} {v : Value} {a : Act} (hi : ops[i]? = some o) (hd : ∀ c, o.op ≠ .defer c) (h : StepM P ops S1 S2 o v a) {K : Act → World → Prop} {w : World} (hS : S1 w)
  (hK : ∀ w2, S2 w2 → K (a.put o.dst v) w2) (hQ : ∀ e a w, Never e a w → Q e a w) : Go.wpOpIn (wideAt ro) nf P ops Q i K a w := by
 unfold Go.wpOpIn
 simp only [hi]
 rcases h with ⟨hw, h⟩ | ⟨hw, rfl, h⟩
 ·simp only [hw, if_true]
  exact wpIn_of_wp hd (h w hS K (fun a2 w2 e k => e ▸ hK w2 k)) hQ
 ·simp only [hw, Bool.false_eq_true, if_false]
  exact ⟨fun _ _ => trivial, hK w (h w hS)⟩
def AnyMI (ro : Option Nat) (nf : Nat) (P : Program) (md : Region.Mode) (ops : Array Oper) (Q : Exit → Act → World → Prop) (S : Bool → World → Prop) (j m : Nat) : Nat → Array Bool → Act → Prop
 | 0, listed, a => earlyDone m listed ∧ ∀ w, S (listed.getD j false) w → wpAnyIn (wideAt ro) nf P md ops Q 0 listed a w
 | fuel + 1, listed, a => (earlyDone m listed ∧ ∀ w, S (listed.getD j false) w → wpAnyIn (wideAt ro) nf P md ops Q (fuel + 1) listed a w) ∨
  (Region.ready md ops listed ≠ [] ∧ ∀ i ∈ Region.ready md ops listed, i < m ∧ ∃ o v, ops[i]? = some o ∧ StepB P md ops S j i o v a ∧ AnyMI ro nf P md ops Q S j m fuel (listed.setIfInBounds i true) (a.put o.dst v))
theorem AnyMI.wpAny (hnd : noDefer ops = true) (hQ : ∀ e a w, Never e a w → Q e a w) {m : Nat} : ∀ (fuel : Nat) (listed : Array Bool) (a : Act), closedL md ops listed → AnyMI ro nf P md ops Q S j m fuel listed a → ∀ w, S (listed.getD j false) w → Go.wpAnyIn (wideAt ro) nf P md ops Q fuel listed a w
 | 0, _, _, _, h, w, hS => h.2 w hS
 | fuel + 1, listed, a, hcl, h, w, hS => by
  rcases h with ⟨_, h⟩ | ⟨hne, h⟩
  ·exact h w hS
  ·refine ⟨fun h0 => absurd h0 hne, fun i hi => ?_⟩
   obtain ⟨_, o, v, ho, a6, a0⟩ := h i hi
   obtain ⟨g1, g2⟩ := ready_getD hi
   have hrc : reachB md ops i ops.size j = true → listed.getD j false = false := fun hr => by
    cases hj : listed.getD j false with
    | false => rfl
    | true =>
     have := reachB_spec hcl _ _ hr (fun oj a3 e he hb => hcl j oj a3 hj e he hb)
     rw [g2] at this; cases this
   refine (a6 _ (fun e => by rw [← e]; exact g2) hrc).wpOpIn ho (noDefer_spec hnd ho) hS (fun w2 hS2 => AnyMI.wpAny hnd hQ fuel _ _ (hcl.set hi) a0 w2 ?_) hQ
   rw [getD_mark g1]; exact hS2
theorem AnyMI.first (hsel : ∀ (j : Nat) (o : Oper) cs b, ops[j]? = some o → o.op ≠ .select cs b) {m : Nat} (htail : tailOk md ops m = true) {i : Nat} {oi : Oper} {v : Value} (hi : ops[i]? = some oi) (him : i < m) :
  ∀ (fuel : Nat) (listed : Array Bool) (a : Act), closedL md ops listed →
   (∀ j oj, ops[j]? = some oj → j ≠ i → listed.getD j true = false → (∀ e ∈ oj.after, Region.binds md e = true → e.on ≠ i) → oi.apart ops oj = true) →
   i ∈ Region.ready md ops listed → StepB P md ops S j i oi v a →
   AnyMI ro nf P md ops Q S j m fuel (listed.setIfInBounds i true) (a.put oi.dst v) → AnyMI ro nf P md ops Q S j m (fuel + 1) listed a := by
 intro fuel
 have early : ∀ (listed : Array Bool) (k : Nat), closedL md ops listed → i ∈ Region.ready md ops listed → k ∈ Region.ready md ops listed → k < m := by
  intro listed k hc hr hk
  rcases Nat.lt_or_ge k m with h | h
  ·exact h
  ·exfalso
   obtain ⟨_, oj, a3, a5⟩ := mem_ready.1 hk
   have hjs : k < ops.size := (Array.getElem?_eq_some_iff.1 a3).1
   have h1 := List.all_eq_true.1 htail k (List.mem_range.2 hjs)
   simp only [Bool.or_eq_true, decide_eq_true_eq] at h1
   have h2 := List.all_eq_true.1 (h1.resolve_left (by omega)) i (List.mem_range.2 him)
   have h3 := reachB_spec hc _ _ h2 (fun o ho e he hb => by rw [a3] at ho; injection ho with ho; subst ho; exact a5 e he hb)
   rw [(ready_getD hr).2] at h3; cases h3
 induction fuel with
 | zero =>
  intro listed a hc a1 hr hy H
  refine .inr ⟨fun h => (by rw [h] at hr; cases hr), fun k hk => ?_⟩
  by_cases hji : k = i
  ·subst hji; exact ⟨him, oi, v, hi, hy, H⟩
  ·exfalso
   have h1 := H.1 k (early listed k hc hr hk)
   rw [getD_set_ne false (Ne.symm hji), (ready_getD hk).2] at h1; cases h1
 | succ fuel ih =>
  intro listed a hc a1 hr hy H
  refine .inr ⟨fun h => (by rw [h] at hr; cases hr), fun k hk => ?_⟩
  by_cases hji : k = i
  ·subst hji; exact ⟨him, oi, v, hi, hy, H⟩
  ·have hjm := early listed k hc hr hk
   rcases H with ⟨hd, _⟩ | ⟨_, H⟩
   ·exfalso
    have h1 := hd k hjm
    rw [getD_set_ne false (Ne.symm hji), (ready_getD hk).2] at h1; cases h1
   ·obtain ⟨_, oj, u, a3, a6, a0⟩ := H k (ready_mono hk hji)
    obtain ⟨a7, oj', a4, a5⟩ := mem_ready.1 hk
    rw [a3] at a4; injection a4 with a4; subst a4
    have a9 : ∀ e ∈ oj.after, Region.binds md e = true → e.on ≠ i := fun e he hb heq => by
     have h1 := a5 e he hb
     rw [heq, (ready_getD hr).2] at h1; cases h1
    obtain ⟨h1, h2, h3⟩ := Oper.apart_spec (a1 k oj a3 hji a7 a9)
    refine ⟨hjm, oj, u, a3, fun b hb hb' => (a6 b hb hb').unputApart (hsel k oj · · a3) _ _ h1, ih _ _ (hc.set hk) ?_ (ready_mono hr (Ne.symm hji)) (fun b hb hb' => (hy b hb hb').putApart (hsel i oi · · hi) _ _ h3) ?_⟩
    ·intro k' ok a8 hki hun hno
     refine a1 k' ok a8 hki ?_ hno
     by_cases hjk : k = k'
     ·subst hjk; exact a7
     ·rw [getD_set_ne true hjk] at hun; exact hun
    ·rw [Array.setIfInBounds_comm _ _ hji, ← Act.put_comm a v u h2]
     exact a0
def FlowMI (ro : Option Nat) (nf : Nat) (P : Program) (ops : Array Oper) (Q : Exit → Act → World → Prop) (S : Bool → World → Prop) (j : Nat) : Nat → Nat → List Oper → Act → Prop
 | 0, _, l, a => ∀ w, S true w → wpListIn (wideAt ro) nf P ops Q l a w
 | _ + 1, _, [], a => ∀ w, S true w → Q .normal a w
 | m + 1, k, o :: rest, a => ∃ v, StepB P .any ops S j k o v a ∧ FlowMI ro nf P ops Q S j m (k + 1) rest (a.put o.dst v)
theorem FlowMI.anyMII {m0 : Nat} (hsel : ∀ (j : Nat) (o : Oper) cs b, ops[j]? = some o → o.op ≠ .select cs b) (htail : tailOk .any ops m0 = true) (hm0 : m0 ≤ ops.size) (hj : j < m0)
  (hr : ∀ i, i < m0 → i ∈ Region.ready .any ops (pre ops.size i)) (hfr : ∀ i, i < m0 → Region.free .any ops (pre ops.size i) i = true)
  (hf : ∀ i, i < ops.size → m0 ≤ i → Region.ready .any ops (pre ops.size i) = [i]) (hend : Region.ready .any ops (pre ops.size ops.size) = []) :
  ∀ (m k : Nat) (l : List Oper), k + m = m0 → closedL .any ops (pre ops.size k) → (∀ j, l[j]? = ops[k + j]?) → ∀ (a : Act), FlowMI ro nf P ops Q S j m k l a → AnyMI ro nf P .any ops Q S j m0 (ops.size - k) (pre ops.size k) a
 | 0, k, l, hk, _, hl, a, h => by
  have a8 : k = m0 := by omega
  subst a8
  have he : earlyDone k (pre ops.size k) := fun i hi => by rw [pre_getD _ _ _ _ (by omega) (by omega)]; simpa using hi
  have hjt : (pre ops.size k).getD j false = true := he j hj
  have h1 : ∀ w, S ((pre ops.size k).getD j false) w → Go.wpAnyIn (wideAt ro) nf P .any ops Q (ops.size - k) (pre ops.size k) a w := fun w hS => wpAnyI_tail hf hend _ _ l (Nat.le_refl _) (by omega) hl a w (h w (by rw [hjt] at hS; exact hS))
  generalize hn : ops.size - k = n at h1
  cases n with
  | zero => exact ⟨he, h1⟩
  | succ n => exact .inl ⟨he, h1⟩
 | m + 1, k, l, hk, hc, hl, a, h => by
  have b0 : k < ops.size := by omega
  cases l with
  | nil => have := hl 0; simp [Array.getElem?_eq_getElem b0] at this
  | cons o l =>
   have ho : ops[k]? = some o := by simpa using (hl 0).symm
   have hl' : ∀ j, l[j]? = ops[k + 1 + j]? := fun j => by have := hl (j + 1); simpa [Nat.add_assoc, Nat.add_comm 1 j] using this
   obtain ⟨v, a6, a0⟩ := h
   have hn : ops.size - k = (ops.size - (k + 1)) + 1 := by omega
   rw [hn]
   refine AnyMI.first hsel htail ho (by omega) _ _ _ hc (Region.free_spec ho (hfr k (by omega))) (hr k (by omega)) a6 ?_
   rw [pre_set _ _ b0]
   refine FlowMI.anyMII hsel htail hm0 hj hr hfr hf hend m (k + 1) l (by omega) ?_ hl' _ a0
   rw [← pre_set _ _ b0]
   exact hc.set (hr k (by omega))
theorem wpIn_region_flowMI {id : Nat} {l : List Oper} {a : Act} {w : World} (m j : Nat) (S : Bool → World → Prop) (hm : P.follows .mixedOrders = true) (hc : flowOk l.toArray m = true) (hnd : noDefer l.toArray = true) (hj : (j < m)) (hS : S false w.drew)
  (h : FlowMI ro nf P l.toArray Q S j m 0 l a) : (Code.region id l.toArray true).wpIn (wideAt ro) nf P Q a w := by
 simp only [flowOk, Bool.and_eq_true, decide_eq_true_eq, beq_iff_eq, List.all_eq_true, List.mem_range] at hc
 obtain ⟨⟨⟨⟨⟨c1, c2⟩, c3⟩, c4⟩, c5⟩, c6⟩ := hc
 have hQ : ∀ e a w, Never e a w → Q e a w := fun _ _ _ h => (h : False).elim
 refine wpIn_region_any hm ?_
 have hp : Array.replicate l.toArray.size false = pre l.toArray.size 0 := by simp [pre, ← List.toArray_replicate]
 rw [hp]
 have hr : ∀ i, i < m → i ∈ Region.ready .any l.toArray (pre l.toArray.size i) := fun i hi => by simpa using (c4 i hi).1
 refine AnyMI.wpAny hnd hQ _ _ _ ?_ (FlowMI.anyMII (m0 := m) (k := 0) (Region.noSelect_spec c1) c3 c2 hj hr (fun i hi => (c4 i hi).2) ?_ c6 m l (by omega) ?_ (by simp) a h) w.drew ?_
 rotate_left
 ·intro i hi hmi
  have := c5 (i - m) (by omega)
  rwa [show m + (i - m) = i by omega] at this
 ·intro k o _ hk
  exfalso
  rcases Nat.lt_or_ge k l.toArray.size with h' | h'
  ·rw [pre_getD _ _ _ _ (by omega) h'] at hk; simp at hk
  ·rw [Array.getD, dif_neg (by rw [pre_size _ _ (by omega)]; omega)] at hk; cases hk
 ·rw [pre_getD _ _ _ _ (by omega) (by omega)]; simpa using hS
 ·intro k o _ hk
  exfalso
  rcases Nat.lt_or_ge k l.toArray.size with h' | h'
  ·rw [pre_getD _ _ _ _ (by omega) h'] at hk; simp at hk
  ·rw [Array.getD, dif_neg (by rw [pre_size _ _ (by omega)]; omega)] at hk; cases hk
theorem FlowMI.quiet {m k : Nat} {o : Oper} {rest : List Oper} {a : Act} (v : Value) (hk : (k == j) = false) (hw : Region.wanted o (yielded ops a.tmps) = true) (h : ∀ w, AnyB S w → (execOp a.eval o).run P w = .ok (.value v) w) (hr : FlowMI ro nf P ops Q S j m (k + 1) rest (a.put o.dst v)) :
  FlowMI ro nf P ops Q S j (m + 1) k (o :: rest) a :=
 ⟨v, fun b _ _ => .inl ⟨hw, fun w hS K hK => by rw [hk, Bool.or_false] at hK; unfold Oper.wp; rw [h w ⟨b, hS⟩]; exact hK _ _ rfl hS⟩, hr⟩
theorem FlowMI.take {m k : Nat} {o : Oper} {rest : List Oper} {a : Act} (v : Value) (hk : (k == j) = false) (hw : Region.wanted o (yielded ops a.tmps) = true) (h : ∀ w, AnyB S w → ∀ R : Value → Prop, R v → Yl R w ((execOp a.eval o).run P w)) (hr : FlowMI ro nf P ops Q S j m (k + 1) rest (a.put o.dst v)) :
  FlowMI ro nf P ops Q S j (m + 1) k (o :: rest) a :=
 FlowMI.quiet v hk hw (fun w hS => by
  have h1 := h w hS (fun x => x = v) rfl
  generalize (execOp a.eval o).run P w = r at *
  cases r with
  | ok n w' =>
   cases n with
   | value x => obtain ⟨e1, e2⟩ := h1; subst e1; subst e2; rfl
   | _ => exact h1.elim
  | halt x w' => exact h1.elim) hr
theorem FlowMI.skip {m k : Nat} {o : Oper} {rest : List Oper} {a : Act} (hk : (k == j) = false) (hw : Region.wanted o (yielded ops a.tmps) = false) (hr : FlowMI ro nf P ops Q S j m (k + 1) rest (a.put o.dst undef)) :
  FlowMI ro nf P ops Q S j (m + 1) k (o :: rest) a :=
 ⟨undef, fun b _ _ => .inr ⟨hw, rfl, fun w hS => by rw [hk, Bool.or_false]; exact hS⟩, hr⟩
theorem FlowMI.mark {m k : Nat} {o : Oper} {rest : List Oper} {a : Act} (hk : (k == j) = true) (hd : o.dst = none) (hw : Region.wanted o (yielded ops a.tmps) = true)
  (h : ∀ w, S false w → ∀ R : World → Prop, (∀ w2, S true w2 → R w2) → YlM R ((execOp a.eval o).run P w)) (hr : FlowMI ro nf P ops Q S j m (k + 1) rest a) :
  FlowMI ro nf P ops Q S j (m + 1) k (o :: rest) a :=
 ⟨undef, fun b hb _ => .inl ⟨hw, fun w hS K hK => by
  obtain rfl := hb (by simpa using hk)
  rw [hk] at hK
  have h1 := h w hS (S true) (fun _ k => k)
  unfold Oper.wp
  generalize (execOp a.eval o).run P w = r at *
  cases r with
  | ok n w' =>
   cases n with
   | value x => exact hK _ _ (by rw [hd]; rfl) h1
   | skip => exact hK _ _ rfl h1
   | _ => exact h1.elim
  | halt x w' => exact h1.elim⟩, by rw [hd]; exact hr⟩
end
end
end Go.Proofs.YtnmpgijiimglcaaGreat
