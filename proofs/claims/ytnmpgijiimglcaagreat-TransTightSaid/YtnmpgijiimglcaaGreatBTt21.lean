import Derived.Test.YtnmpgijiimglcaaGreatBTt20
import Derived.Test.YtnmpgijiimglcaaGreatBTt17
import Derived.Test.YtnmpgijiimglcaaGreatBTt04
import Derived.Shelf.SlIterI.Stops
import Derived.Test.YtnmpgijiimglcaaGreatRows
import Derived.Test.YtnmpgijiimglcaaGreatBTt00
import Derived.OrdersIn
import Derived.TacticsIn
import Derived.RangeFuncCalls
import Derived.RangeFuncNested
import Derived.RangeFuncKeeps
namespace Go.Proofs.YtnmpgijiimglcaaGreat
set_option maxRecDepth 100000
set_option maxHeartbeats 8000000
section
open Go.RowKit
attribute [local go_sem ↓] Go.wp_at_zero Go.wp_at_succ
def zjc (w : World) (B : Nat) (o : O) (er : Int) (e : Ending) (w' : World) : Prop := ∃ A1 c1, e = .returned (.tuple #[.agg #[o.n, o.e, .slice A1 o.m.length c1], er]) ∧ Sx w' B A1 o.m ∧ Below w.heap.size w w'
theorem zid (n : Int) (e : Bool) (A : Option Addr) (L c : Nat) (av an : Int) (w : World) : Calls Tryz.prog 57 #[.agg #[n, e, .slice A L c], .agg #[av, an]] w fun e' w' => e' = .returned (.bool (decide (av < n))) ∧ Below w.heap.size w w' := by
 obtain ⟨p0, p1, a0, d0⟩ := zao w #[n, e, .slice A L c] #[av, an] 24 26
 clear d0
 have x0 := zaa p0
 obtain ⟨y0, y1, fy⟩ := zai p1
 cases t1 : decide (av < n)
 ·go_enter Tryz.func57, Tryz.ntmps57
  go_wp2
  go_ret
  exact ⟨rfl, a0⟩
 ·go_enter Tryz.func57, Tryz.ntmps57
  go_wp2
  go_ret
  exact ⟨rfl, a0⟩
theorem zeP (w : World) (B : Nat) : Sx w B none [] := .inr ⟨0, zca w B⟩
theorem zhT (o : O) (op av an bv bn : Int) (ia : I64 an) (ib : I64 bn) (A : Option Addr) (cap : Nat) (w : World) (hx : Rd w w.heap.size A o.m) (hm : o.m.length ≤ 17592186044416) (B : Nat) (hB : B ≤ w.heap.size) :
  Calls Tryz.prog 20 #[.agg #[o.n, o.e, .slice A o.m.length cap], op, .agg #[av, an], .agg #[bv, bn]] w (zjc w B (assumeAns o op av an bv bn) (assumeErr o op av bv)) := by
 have HE : Hid (assumeErr o op av bv = if check o ≠ 0 then check o else if 1 ≤ op ∧ op ≤ 6 ∧ av < o.n ∧ bv < o.n then 0 else 160) := hid rfl
 have HR : Hid (assumeAns o op av an bv bn = if assumeErr o op av bv = 0 then zkV o op av an bv bn else ⟨0, false, []⟩) := hid rfl
 generalize assumeAns o op av an bv bn = R at *
 generalize assumeErr o op av bv = E at *
 have HCK := hid (fun W (h : Rd W W.heap.size A o.m) => zbH o A cap W h (by omega))
 have HK : Hid (∃ k, k = check o) := hid ⟨_, rfl⟩
 obtain ⟨k, hk⟩ := HK.out
 rw [← hk] at HCK HE
 clear HK
 obtain ⟨p0, p1, p2, p3, a0, d0⟩ := zav w #[o.n, o.e, .slice A o.m.length cap] #[av, an] #[bv, bn] #[.int .i64 0, false, .slice none 0 0] 24 26 26 24
 replace hx := hx.up a0
 have HSZ := hid d0
 clear d0
 have HKK := hid hk
 clear hk
 have b1 := zaa p0
 obtain ⟨b7, b9, b8⟩ := zai p1
 obtain ⟨a8, a6, b2⟩ := zai p2
 go_enter Tryz.func20, Tryz.ntmps20
 go_wp2_with fail
 clear b1 b7 b9 b8 a8 a6 b2
 generalize (((w.alloc (Obj.cells #[o.n, o.e, .slice A o.m.length cap] 24)).alloc (Obj.cells #[av, an] 26)).alloc (Obj.cells #[bv, bn] 26)).alloc (Obj.cells #[.int .i64 0, false, .slice none 0 0] 24) = w1 at *
 (with_reducible refine (HCK.out w1 hx).mono ?_)
 rintro e_w2 w2 ⟨rfl, b4⟩
 replace p0 := p0.later b4
 replace p1 := p1.later b4
 replace p2 := p2.later b4
 replace p3 := p3.later b4
 replace hx := hx.up b4
 replace a0 := bup a0 b4
 cases t1 : (k != 0)
 rotate_left
 ·have c9 : k ≠ 0 := by simpa using t1
  have e1 : E = k := by rw [HE.out, if_pos c9]
  have e2 : R = ⟨0, false, []⟩ := by rw [HR.out, e1, if_neg c9]
  subst e2
  clear HR HE c9
  subst e1
  have a1 := zaa p3
  go_wp2
  clear a1
  have hBz := a0.size
  have q9 := p3.set3 (v0 := .int .i64 0) (v1 := .bool false) (v2 := .slice none 0 0)
  have c3 := a0.trans (zae (W := w2) (g := w.heap.size + 1 + 1 + 1) (v0 := .int .i64 0) (v1 := .bool false) (v2 := .slice none 0 0) (by omega) a0.size)
  obtain ⟨z0, z1, z2, fz⟩ := zaa q9
  refine bodyPost_ret (v := .tuple #[.agg #[.int .i64 0, false, .slice none 0 0], E]) (by simp [results, Tryz.results20, go_sem, z0, z1, z2]) rfl ?_
  exact ⟨none, 0, rfl, zeP _ _, c3⟩
 ·have c9 : k = 0 := by simpa using t1
  subst c9
  have hck : check o = 0 := HKK.out.symm
  have c8 := hid hck
  clear hck t1
  replace HE : Hid (E = if 1 ≤ op ∧ op ≤ 6 ∧ av < o.n ∧ bv < o.n then 0 else 160) := hid (by rw [HE.out, if_neg (by simp)])
  by_cases h1 : op < 1
  ·have e1 : E = 160 := by rw [HE.out, if_neg (by omega)]
   have e2 : R = ⟨0, false, []⟩ := by rw [HR.out, e1, if_neg (by omega)]
   subst e2
   clear HR HE
   subst e1
   have t2 : decide (op < 1) = true := by rw [decide_eq_true_eq]; exact h1
   have b1 := zaa p0
   obtain ⟨b7, b9, b8⟩ := zai p1
   obtain ⟨a8, a6, b2⟩ := zai p2
   have a1 := zaa p3
   go_wp2
   clear b1 b7 b9 b8 a8 a6 b2 a1
   have hBz := a0.size
   have q9 := p3.set3 (v0 := .int .i64 0) (v1 := .bool false) (v2 := .slice none 0 0)
   have c3 := a0.trans (zae (W := w2) (g := w.heap.size + 1 + 1 + 1) (v0 := .int .i64 0) (v1 := .bool false) (v2 := .slice none 0 0) (by omega) a0.size)
   obtain ⟨z0, z1, z2, fz⟩ := zaa q9
   refine bodyPost_ret (v := .tuple #[.agg #[.int .i64 0, false, .slice none 0 0], .int .i64 160]) (by simp [results, Tryz.results20, go_sem, z0, z1, z2]) rfl ?_
   exact ⟨none, 0, rfl, zeP _ _, c3⟩
  ·have t2 : decide (op < 1) = false := by rw [decide_eq_false_iff_not]; exact h1
   by_cases h2 : 6 < op
   ·have e1 : E = 160 := by rw [HE.out, if_neg (by omega)]
    have e2 : R = ⟨0, false, []⟩ := by rw [HR.out, e1, if_neg (by omega)]
    subst e2
    clear HR HE
    subst e1
    have t3 : decide (6 < op) = true := by rw [decide_eq_true_eq]; exact h2
    have b1 := zaa p0
    obtain ⟨b7, b9, b8⟩ := zai p1
    obtain ⟨a8, a6, b2⟩ := zai p2
    have a1 := zaa p3
    go_wp2
    clear b1 b7 b9 b8 a8 a6 b2 a1
    have hBz := a0.size
    have q9 := p3.set3 (v0 := .int .i64 0) (v1 := .bool false) (v2 := .slice none 0 0)
    have c3 := a0.trans (zae (W := w2) (g := w.heap.size + 1 + 1 + 1) (v0 := .int .i64 0) (v1 := .bool false) (v2 := .slice none 0 0) (by omega) a0.size)
    obtain ⟨z0, z1, z2, fz⟩ := zaa q9
    refine bodyPost_ret (v := .tuple #[.agg #[.int .i64 0, false, .slice none 0 0], .int .i64 160]) (by simp [results, Tryz.results20, go_sem, z0, z1, z2]) rfl ?_
    exact ⟨none, 0, rfl, zeP _ _, c3⟩
   ·have t3 : decide (6 < op) = false := by rw [decide_eq_false_iff_not]; exact h2
    have b1 := zaa p0
    obtain ⟨b7, b9, b8⟩ := zai p1
    obtain ⟨a8, a6, b2⟩ := zai p2
    go_wp2_with fail
    clear b1 b7 b9 b8 a8 a6 b2
    (with_reducible refine (zid o.n o.e A o.m.length cap av an w2).mono ?_)
    rintro e_w3 w3 ⟨rfl, b5⟩
    replace p0 := p0.later b5
    replace p1 := p1.later b5
    replace p2 := p2.later b5
    replace p3 := p3.later b5
    replace hx := hx.up b5
    replace a0 := bup a0 b5
    by_cases h3 : av < o.n
    rotate_left
    ·have e1 : E = 160 := by rw [HE.out, if_neg (by omega)]
     have e2 : R = ⟨0, false, []⟩ := by rw [HR.out, e1, if_neg (by omega)]
     subst e2
     clear HR HE
     subst e1
     rw [show decide (av < o.n) = false by rw [decide_eq_false_iff_not]; exact h3]
     have a1 := zaa p3
     go_wp2
     clear a1
     have hBz := a0.size
     have q9 := p3.set3 (v0 := .int .i64 0) (v1 := .bool false) (v2 := .slice none 0 0)
     have c3 := a0.trans (zae (W := w3) (g := w.heap.size + 1 + 1 + 1) (v0 := .int .i64 0) (v1 := .bool false) (v2 := .slice none 0 0) (by omega) a0.size)
     obtain ⟨z0, z1, z2, fz⟩ := zaa q9
     refine bodyPost_ret (v := .tuple #[.agg #[.int .i64 0, false, .slice none 0 0], .int .i64 160]) (by simp [results, Tryz.results20, go_sem, z0, z1, z2]) rfl ?_
     exact ⟨none, 0, rfl, zeP _ _, c3⟩
    ·rw [show decide (av < o.n) = true by rw [decide_eq_true_eq]; exact h3]
     have b1 := zaa p0
     obtain ⟨a8, a6, b2⟩ := zai p2
     go_wp2_with fail
     clear b1 a8 a6 b2
     (with_reducible refine (zid o.n o.e A o.m.length cap bv bn w3).mono ?_)
     rintro e_w4 w4 ⟨rfl, b3⟩
     replace p0 := p0.later b3
     replace p1 := p1.later b3
     replace p2 := p2.later b3
     replace p3 := p3.later b3
     replace hx := hx.up b3
     replace a0 := bup a0 b3
     by_cases h4 : bv < o.n
     rotate_left
     ·have e1 : E = 160 := by rw [HE.out, if_neg (by omega)]
      have e2 : R = ⟨0, false, []⟩ := by rw [HR.out, e1, if_neg (by omega)]
      subst e2
      clear HR HE
      subst e1
      rw [show decide (bv < o.n) = false by rw [decide_eq_false_iff_not]; exact h4]
      have a1 := zaa p3
      go_wp2
      clear a1
      have hBz := a0.size
      have q9 := p3.set3 (v0 := .int .i64 0) (v1 := .bool false) (v2 := .slice none 0 0)
      have c3 := a0.trans (zae (W := w4) (g := w.heap.size + 1 + 1 + 1) (v0 := .int .i64 0) (v1 := .bool false) (v2 := .slice none 0 0) (by omega) a0.size)
      obtain ⟨z0, z1, z2, fz⟩ := zaa q9
      refine bodyPost_ret (v := .tuple #[.agg #[.int .i64 0, false, .slice none 0 0], .int .i64 160]) (by simp [results, Tryz.results20, go_sem, z0, z1, z2]) rfl ?_
      exact ⟨none, 0, rfl, zeP _ _, c3⟩
     ·rw [show decide (bv < o.n) = true by rw [decide_eq_true_eq]; exact h4]
      have e1 : E = 0 := by rw [HE.out, if_pos (by omega)]
      replace HR : Hid (R = if (closeO o).e then closeO o else za2 (closeO o) op av an bv bn) := hid (by rw [HR.out, e1, if_pos rfl]; rfl)
      clear HE
      subst e1
      have hop : 1 ≤ op ∧ op ≤ 6 := by omega
      have HOP := hid hop
      have HAB := hid (And.intro h3 h4)
      clear hop h1 h2 h3 h4 t2 t3
      have b1 := zaa p0
      go_wp2_with fail
      clear b1
      have hle : w.heap.size ≤ w4.heap.size := a0.size
      have hBc := Nat.le_trans hB hle
      (with_reducible refine (zaN o c8.out A cap w4 hx hm).mono ?_)
      rintro e_w5 w5 ⟨Ac, cc, rfl, ownc, b6⟩
      have sxc := Sx.of_own ownc hBc
      replace p0 := p0.later b6
      replace p1 := p1.later b6
      replace p2 := p2.later b6
      replace p3 := p3.later b6
      replace hx := hx.up b6
      replace a0 := bup a0 b6
      have okc : OkO o.n (closeO o) := OkO.close ⟨rfl, c8.out⟩
      have d1 := OkO.small okc
      rcases okc.form with hE | ⟨N, cm, hN, hn, hE, hc⟩
      ·replace HR : Hid (R = emptyO o.n) := hid (by rw [HR.out, hE]; rfl)
       rw [hE] at sxc ⊢
       unfold emptyO at *
       dsimp only at *
       replace sxc : Sx w5 B Ac [] := sxc
       clear hE d1 okc
       simp only [List.length_nil]
       obtain ⟨p5, c0, -⟩ := zaw w5 #[o.n, true, .slice Ac 0 cc] 24
       replace p0 := p0.later c0
       replace p1 := p1.later c0
       replace p2 := p2.later c0
       replace p3 := p3.later c0
       replace sxc := sxc.later c0 (Nat.le_trans hB a0.size)
       replace hx := hx.up c0
       replace a0 := bup a0 c0
       have c6 := zaa p5
       have a1 := zaa p3
       go_wp2
       clear c6 a1
       generalize w5.alloc (Obj.cells #[o.n, true, .slice Ac 0 cc] 24) = w6 at *
       have hBz := a0.size
       have s9 := sxc.far3 (g := w.heap.size + 1 + 1 + 1) (v0 := .int .i64 o.n) (v1 := .bool true) (v2 := .slice Ac 0 cc) (by omega) p3 (by decide)
       rw [HR.out]
       have q9 := p3.set3 (v0 := .int .i64 o.n) (v1 := .bool true) (v2 := .slice Ac 0 cc)
       have c3 := a0.trans (zae (W := w6) (g := w.heap.size + 1 + 1 + 1) (v0 := .int .i64 o.n) (v1 := .bool true) (v2 := .slice Ac 0 cc) (by omega) a0.size)
       obtain ⟨z0, z1, z2, fz⟩ := zaa q9
       refine bodyPost_ret (v := .tuple #[.agg #[o.n, true, .slice Ac 0 cc], .int .i64 0]) (by simp [results, Tryz.results20, go_sem, z0, z1, z2]) rfl ?_
       exact ⟨_, _, rfl, s9, c3⟩
      ·replace HR : Hid (R = za2 ⟨o.n, false, cm⟩ op av an bv bn) := hid (by rw [HR.out, hE]; rfl)
       rw [hE] at sxc d1 ⊢
       dsimp only at *
       clear hE okc
       have u0 := zaa p3
       obtain ⟨p5, c0, -⟩ := zaw w5 #[o.n, false, .slice Ac cm.length cc] 24
       replace p0 := p0.later c0
       replace p1 := p1.later c0
       replace p2 := p2.later c0
       replace p3 := p3.later c0
       replace sxc := sxc.later c0 (Nat.le_trans hB a0.size)
       replace hx := hx.up c0
       replace a0 := bup a0 c0
       have c6 := zaa p5
       obtain ⟨b7, b9, b8⟩ := zai p1
       obtain ⟨a8, a6, b2⟩ := zai p2
       go_wp2_with fail
       clear u0 c6 b7 b9 b8 a8 a6 b2
       generalize w5.alloc (Obj.cells #[o.n, false, .slice Ac cm.length cc] 24) = w6 at *
       have hBd := Nat.le_trans hB a0.size
       (with_reducible refine (zfv o.n cm N hN hn hc op av an bv bn HOP.out HAB.out.1 HAB.out.2 ia ib Ac cc w6 B hBd sxc d1).mono ?_)
       rintro e_w7 w7 ⟨A2, c2, rfl, sx2, a5⟩
       replace p0 := p0.later a5
       replace p1 := p1.later a5
       replace p2 := p2.later a5
       replace p3 := p3.later a5
       replace p5 := p5.later a5
       replace sxc := sxc.later a5 (Nat.le_trans hB a0.size)
       replace hx := hx.up a5
       replace a0 := bup a0 a5
       rw [← HR.out] at sx2 ⊢
       have a1 := zaa p3
       go_wp2
       clear a1
       have hBz := a0.size
       have s9 := sx2.far3 (g := w.heap.size + 1 + 1 + 1) (v0 := .int .i64 R.n) (v1 := .bool R.e) (v2 := .slice A2 R.m.length c2) (by omega) p3 (by decide)
       have q9 := p3.set3 (v0 := .int .i64 R.n) (v1 := .bool R.e) (v2 := .slice A2 R.m.length c2)
       have c3 := a0.trans (zae (W := w7) (g := w.heap.size + 1 + 1 + 1) (v0 := .int .i64 R.n) (v1 := .bool R.e) (v2 := .slice A2 R.m.length c2) (by omega) a0.size)
       obtain ⟨z0, z1, z2, fz⟩ := zaa q9
       refine bodyPost_ret (v := .tuple #[.agg #[R.n, R.e, .slice A2 R.m.length c2], .int .i64 0]) (by simp [results, Tryz.results20, go_sem, z0, z1, z2]) rfl ?_
       exact ⟨_, _, rfl, s9, c3⟩
end
section

end
section
open Go.RowKit
section
variable {P : Program} {ops : Array Oper} {Q : Exit → Act → World → Prop} {w0 : World}
theorem zaf.stepF {m k : Nat} {p : Value → World → World → Prop} {sl : List Sp} {o : Oper} {rest : List Oper} {a : Act} {fs : Nat → World → Prop} {iv : Nat → Nat × Nat} (hw : Region.wanted o (yielded ops a.tmps) = true)
  (h : ∀ w, Ext w0 w → (∀ i, zbh .any ops i ops.size k = true → fs i w) → ∀ K : Act → World → Prop, (∀ v w2, Ext w w2 → p v w w2 → K (a.put o.dst v) w2) → o.wp P a w K zbN) (hr : ∀ v lo hi, zaf P ops Q w0 m sl rest (k + 1) (a.put o.dst v) (upd fs k (Sp.fact w0 (Sp.any p) v lo hi)) (updI iv k (lo, hi))) :
  zaf P ops Q w0 (m + 1) (Sp.any p :: sl) (o :: rest) k a fs iv := by
 unfold zaf
 exact ⟨.inl ⟨hw, fun w hS hf K hK => h w hS hf K (fun v w2 hx hp => hK _ v w2 rfl hx hp)⟩, fun v lo hi _ => hr v lo hi⟩
end
end
section
open Go.RowKit
section
variable {P : Program} {ops : Array Oper} {Q : Exit → Act → World → Prop} {w0 : World}
theorem zaf.callG {m k : Nat} {p : Value → World → World → Prop} {sl : List Sp} {o : Oper} {rest : List Oper} {a : Act} {fs : Nat → World → Prop} {iv : Nat → Nat × Nat} (hw : Region.wanted o (yielded ops a.tmps) = true)
  (h : ∀ w, Ext w0 w → (∀ i, zbh .any ops i ops.size k = true → fs i w) → ∃ f args, (execOp a.eval o).run P w = .ok (.enter f args) w ∧ Calls P f args w fun e w2 => ∃ v, e = .returned v ∧ Ext w w2 ∧ p v w w2) (hr : ∀ v lo hi, zaf P ops Q w0 m sl rest (k + 1) (a.put o.dst v) (upd fs k (Sp.fact w0 (Sp.any p) v lo hi)) (updI iv k (lo, hi))) :
  zaf P ops Q w0 (m + 1) (Sp.any p :: sl) (o :: rest) k a fs iv :=
 zaf.stepF hw (fun w hS hf K hK => by
  obtain ⟨f, args, he, hc⟩ := h w hS hf
  unfold Oper.wp; rw [he]
  exact hc.mono fun e w2 ⟨v, he, h1, h2⟩ => by subst he; exact hK _ _ h1 h2) hr
theorem zaf.callFV {m k : Nat} {x : Value} {sl : List Sp} {o : Oper} {rest : List Oper} {a : Act} {fs : Nat → World → Prop} {iv : Nat → Nat × Nat} (hw : Region.wanted o (yielded ops a.tmps) = true)
  (h : ∀ w, Ext w0 w → (∀ i, zbh .any ops i ops.size k = true → fs i w) → ∃ f args, (execOp a.eval o).run P w = .ok (.enter f args) w ∧ Calls P f args w fun e w2 => e = .returned x ∧ Ext w w2) (hr : ∀ lo hi, zaf P ops Q w0 m sl rest (k + 1) (a.put o.dst x) (upd fs k (Sp.fact w0 (Sp.val x) x lo hi)) (updI iv k (lo, hi))) :
  zaf P ops Q w0 (m + 1) (Sp.val x :: sl) (o :: rest) k a fs iv := by
 refine ⟨.inl ⟨hw, fun w1 h1 hf K hK => ?_⟩, fun v lo hi hfit => ?_⟩
 ·obtain ⟨f, args, he, hc⟩ := h w1 h1 hf
  unfold Oper.wp; rw [he]
  exact hc.mono fun e w2 ⟨he2, h2⟩ => by subst he2; exact hK _ x w2 rfl h2 rfl
 ·obtain rfl : v = x := hfit
  exact hr lo hi
theorem zaf.skip {m k : Nat} {sl : List Sp} {o : Oper} {rest : List Oper} {a : Act} {fs : Nat → World → Prop} {iv : Nat → Nat × Nat} (hw : Region.wanted o (yielded ops a.tmps) = false)
  (hr : ∀ lo hi, zaf P ops Q w0 m sl rest (k + 1) (a.put o.dst undef) (upd fs k (Sp.fact w0 (Sp.val undef) undef lo hi)) (updI iv k (lo, hi))) :
  zaf P ops Q w0 (m + 1) (Sp.val undef :: sl) (o :: rest) k a fs iv :=
 ⟨.inr ⟨hw, rfl⟩, fun v lo hi hfit => by
  obtain rfl : v = undef := hfit
  exact hr lo hi⟩
end
def znL (t : TypeId) (cs : Array Value) (n : Nat) (v : Value) (_ wb : World) : Prop := ∃ g, v = .slice (some ⟨g, 0, none⟩) n n ∧ Blk wb g t cs
theorem zlZ {w0 W : World} {t : TypeId} {cs : Array Value} {n : Nat} {v : Value} {lo hi : Nat} (h : Sp.fact w0 (Sp.any (znL t cs n)) v lo hi W) : ∃ g, v = .slice (some ⟨g, 0, none⟩) n n ∧ Blk W g t cs := by
 obtain ⟨wa, wb, _, _, h3, _, _, g, e, k⟩ := h
 exact ⟨g, e, k.later h3⟩
end
section

end
section
def zbk (ro : Option Nat) : Fence := { Fence.wide with round := ro }
@[simp, go_sem] theorem wideAt_round (ro : Option Nat) : (zbk ro).round = ro := rfl
@[simp, go_sem] theorem wideAt_depth (ro : Option Nat) : (zbk ro).depth = none := rfl
@[simp, go_sem] theorem wideAt_fn (ro : Option Nat) (f : FuncId) : (zbk ro).fn f = True := rfl
section
variable {P : Program} {ops : Array Oper} {Q : Exit → Act → World → Prop} {S : World → Prop} {md : Region.Mode} {ro : Option Nat} {n : Nat}
theorem zft {f : FuncId} {args : Array Value} {w : World} {R : Ending → World → Prop} (h : Calls P f args w R) : CallsIn (zbk ro) n P f args w R := (callsIn_wide (n := n)).2 h
theorem zjy {row : String} {args : Array Value} {w : World} {R : Value → World → Prop} (h : Rows P row args w R) : RowsIn (zbk ro) n P row args w R := fun c cs _ => by
 obtain ⟨v, w', r, s⟩ := h c cs
 exact ⟨v, w', r, stepsIn_wide.2 s⟩
theorem ziC {o : Oper} {a : Act} {w : World} {K : Act → World → Prop} (hd : ∀ c, o.op ≠ .defer c) (h : o.wp P a w K zbN) (hQ : ∀ e a w, zbN e a w → Q e a w) : o.wpIn (zbk ro) n P a w K Q := by
 refine ⟨fun _ _ => trivial, ?_⟩
 rw [Oper.semAt_eq _ _ _ hd]
 unfold Oper.wp at h
 generalize (execOp a.eval o).run P w = r at *
 cases r with
 | ok x w' =>
  cases x <;> simp only [Oper.upon, Oper.uponIn] at h ⊢ <;> try exact h
  case enter f args =>
   refine ⟨(fun k => by cases k), zft (h.mono fun e w'' he => ?_)⟩
   cases e with
   | returned u => exact he
   | panicked c => exact he.elim
   | outgrown => exact he.elim (fun _ h => h.elim (fun _ h => h.elim))
  case row row args => exact ⟨(fun k => by cases k), zjy h⟩
 | halt x w' =>
  cases x <;> simp only [Oper.upon, Oper.uponIn] at h ⊢
  case panic u => exact hQ _ _ _ h
def zhI (ops : Array Oper) : Bool := (List.range ops.size).all fun i => match ops[i]? with
 | some o => (match o.op with | .defer _ => false | _ => true)
 | none => true
theorem zgC (h : zhI ops = true) {i : Nat} {o : Oper} (hi : ops[i]? = some o) : ∀ c, o.op ≠ .defer c := by
 intro c hc
 have h1 := List.all_eq_true.1 h i (List.mem_range.2 (Array.getElem?_eq_some_iff.1 hi).1)
 simp [hi, hc] at h1
theorem zdg {m : Nat} (hf : ∀ i, i < ops.size → m ≤ i → Region.ready .any ops (pre ops.size i) = [i]) (hend : Region.ready .any ops (pre ops.size ops.size) = []) :
  ∀ (k' k : Nat) (l : List Oper), m ≤ k → k + k' = ops.size → (∀ j, l[j]? = ops[k + j]?) → ∀ (a : Act) (w : World), wpListIn (zbk ro) n P ops Q l a w → Go.wpAnyIn (zbk ro) n P .any ops Q k' (pre ops.size k) a w
 | 0, k, l, _, hn, hl, a, w, h => by
  have hk : k = ops.size := by omega
  subst hk
  have : l = [] := by
   cases l with
   | nil => rfl
   | cons o l => have := hl 0; simp at this
  subst this
  exact ⟨hend, h⟩
 | k' + 1, k, l, hmk, hn, hl, a, w, h => by
  have a0 : k < ops.size := by omega
  have hr := hf k a0 hmk
  cases l with
  | nil => have := hl 0; simp [Array.getElem?_eq_getElem a0] at this
  | cons o l =>
   have ho : ops[k]? = some o := by simpa using (hl 0).symm
   have hl' : ∀ j, l[j]? = ops[k + 1 + j]? := fun j => by have := hl (j + 1); simpa [Nat.add_assoc, Nat.add_comm 1 j] using this
   refine ⟨fun h0 => (by rw [hr] at h0; cases h0), fun i hi => ?_⟩
   rw [hr] at hi
   have hik : i = k := by simpa using hi
   subst hik
   rw [zbt _ _ a0]
   unfold wpListIn at h
   unfold Go.wpOpIn
   simp only [ho]
   split
   ·rename_i hw
    rw [if_pos hw] at h
    exact Oper.wpIn_mono (fun a w => zdg hf hend k' (i + 1) l (by omega) (by omega) hl' a w) h
   ·rename_i hw
    rw [if_neg hw] at h
    exact ⟨h.1, zdg hf hend k' (i + 1) l (by omega) (by omega) hl' _ _ h.2⟩
end
end
section
open Go.RowKit Go.Maps Go.Sort Go.Shelf
theorem znS {H : Type} (v : Int) (d : DataW H) (kl : Lit) : has (.map [(.int .i64 v, d)]) kl = (Lit.int .i64 v).sameKey kl := by simp [has]
theorem zlA {v x : Int} : (Lit.int .i64 v).sameKey (.int .i64 x) = decide (v = x) := by
 cases h : decide (v = x) with
 | true => have := of_decide_eq_true h; subst this; simp [Lit.sameKey]
 | false => have := of_decide_eq_false h; simp [Lit.sameKey, this]
theorem zjo {H : Type} (n : Nat) (hn : 1 ≤ n) (l Bm b nn : Nat) (v : Int) (d : DataW H) {R : Value → Option (DataW H × List MemPlace)} (J Jx : List Unit → World → Prop)
  (hY : ∀ pre x W, J pre W → pre.length < 1 → YieldAt (zbk none) (n - 1) Tryz.prog l #[.int .i64 v] W fun e W' =>
   (e = .returned (.bool true) ∧ J (pre ++ [x]) W' ∧ KeepsWalks W W') ∨ (e = .returned (.bool false) ∧ Jx (pre ++ [x]) W'))
  (W : World) (hJ : AbidesFrom W.heap.size J) (hm : W.cell? ⟨Bm, 0, none⟩ = some (.map (some b))) (hown : W.ownsMap Tryz.prog 3 R b nn (.map [(.int .i64 v, d)])) (h0 : J [] W) :
  CallsIn (zbk none) n Tryz.prog 252 #[.func (.yield l) #[] #[], .pointer (some ⟨Bm, 0, none⟩)] W fun e W' => (∃ v, e = .returned v) ∧
   ((∃ ss : List Unit, ss.length = 1 ∧ J ss W') ∨ (∃ pre : List Unit, pre.length = 1 ∧ Jx pre W')) := by
 have a0 : Tryz.prog.underlying 3 = some (.int .i64) := Tryz.underlying3
 refine callsIn_of_wp Tryz.func252 rfl trivial ?_ rfl
 simp only [Tryz.ntmps252, List.size_toArray, List.length_cons, List.length_nil, Nat.reduceAdd, Nat.reduceSub, Array.replicate_succ, Array.replicate_zero, List.push_toArray, List.append_toArray, List.nil_append, List.cons_append]
 gi_wp2_with (first
  | (gi_at_range; refine wpListIn_range_own _ rfl _ 221 rfl 3 220 (int_keyed a0) Tryz.underlying221 _ b nn _ rfl hown ?_; intro w0 a6 hg0 hs0)
  | gi_in)
 go_frame
 gi_loopw [3] (fun _ wr => ∃ (left : Lit → Bool) (cnt : Nat) (ss : List Unit), wr.ranges Tryz.prog 3 R b W.heap.size nn (.map [(.int .i64 v, d)]) left cnt ∧ ss.length + cnt ≤ 1 ∧ (cnt = 0 → ss.length = 1) ∧ (∀ x, left (.int .i64 x) = true → x = v) ∧ J ss wr)
  (fun _ wr => wr.rangeLeft b W.heap.size)
 case atStart =>
  refine ⟨_, _, [], a6, ?_, ?_, ?_, hJ [] W w0 none h0 hg0 (fun r e => by cases e)⟩
  ·simp [Maps.size]
  ·simp [Maps.size]
  ·intro x hx
   rw [znS, zlA] at hx
   exact (of_decide_eq_true hx).symm
 case round =>
  obtain ⟨left, cnt, ss, a3, hcs, hc1, hl1, hJs⟩ := hrel
  gi_wp2_with (first
   | (gi_at_next; refine wpListIn_next_ranges _ rfl _ rfl 3 (int_keyed a0) R encZ id (fun key kl hk => by obtain ⟨x, hx, _⟩ := Maps.keyOf_i64 a0 hk; exact ⟨x, hx⟩) (fun v _ _ => ⟨v, rfl⟩) b W.heap.size nn _ _ _ rfl a3 ?_ ?_)
   | gi_in)
  ·intro hc0 hl0
   gi_wp2
   go_end0
   exact ⟨⟨_, rfl⟩, .inl ⟨ss, hc1 hc0, hJs⟩⟩
  ·intro x c kl yd yp w2 cnt2 a4 hlk hv hat a5 hlt hg2 hs2 hen
   obtain ⟨x', ex, rfl, _⟩ := Maps.keyOf_i64 a0 a4
   obtain rfl : x = x' := encZ_inj ex
   obtain rfl := hl1 x hlk
   have hJ2 : J ss w2 := hJ ss wr w2 (some W.heap.size) hJs hg2 (fun r e => by cases e; exact ⟨Nat.le_refl _, a3.iter_walk⟩)
   obtain ⟨fn, tmps, assign, body, hy, hR⟩ := hY ss () w2 hJ2 (by omega)
   clear hs2
   gi_wp2
   refine hR.mono ?_
   rintro e W3 (⟨rfl, hJ3, hk3⟩ | ⟨rfl, hJx3⟩)
   ·gi_wp2
    have a1 := a5.of_walks hk3
    go_roundw
    case rel => exact ⟨_, cnt2, ss ++ [()], a1, by simp; omega, fun _ => by rw [List.length_append]; show ss.length + 1 = 1; omega, fun y hy => by simp only [Bool.and_eq_true] at hy; exact hl1 y hy.1, hJ3⟩
    case measure => rw [a1.left_eq, a3.left_eq]; exact hlt
   ·gi_wp2
    refine bodyPost_ret (results_none rfl _ _ _) rfl ?_
    exact ⟨⟨_, rfl⟩, .inr ⟨ss ++ [()], by rw [List.length_append]; show ss.length + 1 = 1; omega, hJx3⟩⟩
theorem zlB {H : Type} (n : Nat) (hn : 1 ≤ n) (Bm b nn : Nat) (v : Int) (d : DataW H) {R : Value → Option (DataW H × List MemPlace)} (w : World) (hBm : Bm < w.heap.size)
  (hm : w.cell? ⟨Bm, 0, none⟩ = some (.map (some b))) (hown : w.ownsMap Tryz.prog 3 R b nn (.map [(.int .i64 v, d)])) :
  SeqStopsK (zbk none) n Tryz.prog 252 #[.pointer (some ⟨Bm, 0, none⟩)] (fun _ : Unit => #[.int .i64 v]) KeepsWalks (fun ss => ss.length = 1) (fun pre => pre.length = 1) 1 w := fun l J Jx W hW hJ _ hY h0 => by
 have a2 : W.ownsMap Tryz.prog 3 R b nn (.map [(.int .i64 v, d)]) := by
  have hbl := hown.lt
  obtain ⟨es, clock, hb, Ft, hs, hD⟩ := hown
  exact ⟨es, clock, (hW.block b hbl).trans hb, Ft, hs, hD⟩
 exact zjo n hn l Bm b nn v d J Jx hY W hJ ((hW.cell (p := ⟨Bm, 0, none⟩) hBm).trans hm) a2 h0
theorem zlD (b : Option Nat) (w : World) : Calls Tryz.prog 242 #[.map b] w fun e w' => e = .returned (.func (.func 252) #[] #[.pointer (some ⟨w.heap.size, 0, none⟩)]) ∧ w' = w.alloc (.cells #[.map b] 221) := by
 go_enter Tryz.func242, Tryz.ntmps242
 go_wp2
 go_ret
 exact ⟨rfl, rfl⟩
end
end Go.Proofs.YtnmpgijiimglcaaGreat
