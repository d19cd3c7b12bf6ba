/-
  trans.Assume: what it answers.
  trans.shift's inner function: how far a side goes.
  trans.shift of a variable by itself: what it answers.
  The small functions on edges and operands (gnomon/cfg, gnomonref9): what each call answers.
  When an edge is right for trans, in the order of trans.right.
-/
import Derived.Test.YtnmpgijiimglcaaGreatAssumes
import Derived.Test.YtnmpgijiimglcaaGreatBUA11
import Derived.ChangeKeysEq
import Derived.Deep.DeepCutAuto
import Derived.Test.YtnmpgijiimglcaaGreatBUA19
import Derived.Test.YtnmpgijiimglcaaGreatBUA12
namespace Go.Proofs.YtnmpgijiimglcaaGreat
section
open Go.RowKit
attribute [local go_sem ↓] Go.wp_at_zero Go.wp_at_succ

/-- An octagon that reads so, and an error. -/
def ErrSx (w : World) (B : Nat) (o : O) (er : Int) (e : Ending) (w' : World) : Prop := ∃ A1 c1, e = .returned (.tuple #[.agg #[.int .i64 o.n, .bool o.e, .slice A1 o.m.length c1], .int .i64 er]) ∧ Sx w' B A1 o.m ∧ Below w.heap.size w w'
set_option maxHeartbeats 400000 in
theorem holds_ok (n : Int) (e : Bool) (A : Option Addr) (L c : Nat) (av an : Int) (w : World) : Calls Tryz.prog 57 #[.agg #[.int .i64 n, .bool e, .slice A L c], .agg #[.int .i64 av, .int .i64 an]] w fun e' w' => e' = .returned (.bool (decide (av < n))) ∧ Below w.heap.size w w' := by
  obtain ⟨p0, p1, hb0, hsz⟩ := new_two w #[.int .i64 n, .bool e, .slice A L c] #[.int .i64 av, .int .i64 an] 24 26
  clear hsz
  obtain ⟨x0, x1, x2, fx⟩ := octbox p0
  obtain ⟨y0, y1, fy⟩ := opbox p1
  cases t1 : decide (av < n)
  · go_enter Tryz.func57, Tryz.ntmps57
    go_wp2
    go_ret
    exact ⟨rfl, hb0⟩
  · go_enter Tryz.func57, Tryz.ntmps57
    go_wp2
    go_ret
    exact ⟨rfl, hb0⟩
theorem sx_nil (w : World) (B : Nat) : Sx w B none [] := .inr ⟨0, own_nil w B⟩

set_option maxRecDepth 8000 in
set_option maxHeartbeats 4000000 in
theorem tassume_any (o : O) (op av an bv bn : Int) (ia : I64 an) (ib : I64 bn) (A : Option Addr) (cap : Nat) (w : World) (hx : Rd w w.heap.size A o.m) (hm : o.m.length ≤ 17592186044416) (B : Nat) (hB : B ≤ w.heap.size) :
    Calls Tryz.prog 20 #[.agg #[.int .i64 o.n, .bool o.e, .slice A o.m.length cap], .int .i64 op, .agg #[.int .i64 av, .int .i64 an], .agg #[.int .i64 bv, .int .i64 bn]] w (ErrSx w B (assumeAns o op av an bv bn) (assumeErr o op av bv)) := by
  have HE : Hid (assumeErr o op av bv = if check o ≠ 0 then check o else if 1 ≤ op ∧ op ≤ 6 ∧ av < o.n ∧ bv < o.n then 0 else 160) := hid rfl
  have HR : Hid (assumeAns o op av an bv bn = if assumeErr o op av bv = 0 then assumeO o op av an bv bn else ⟨0, false, []⟩) := hid rfl
  generalize assumeAns o op av an bv bn = R at *
  generalize assumeErr o op av bv = E at *
  have HCK := hid (fun W (h : Rd W W.heap.size A o.m) => check_any o A cap W h (by omega))
  have HK : Hid (∃ k, k = check o) := hid ⟨_, rfl⟩
  obtain ⟨k, hk⟩ := HK.out
  rw [← hk] at HCK HE
  clear HK
  obtain ⟨p0, p1, p2, p3, hb0, hsz⟩ := new_four w #[.int .i64 o.n, .bool o.e, .slice A o.m.length cap] #[.int .i64 av, .int .i64 an] #[.int .i64 bv, .int .i64 bn] #[.int .i64 0, .bool false, .slice none 0 0] 24 26 26 24
  replace hx := hx.up hb0
  have HSZ := hid hsz
  clear hsz
  have HKK := hid hk
  clear hk
  obtain ⟨p0_0, p0_1, p0_2, p0_f⟩ := octbox p0
  obtain ⟨p1_0, p1_1, p1_f⟩ := opbox p1
  obtain ⟨p2_0, p2_1, p2_f⟩ := opbox p2
  go_enter Tryz.func20, Tryz.ntmps20
  go_wp2_with fail
  clear p0_0 p0_1 p0_2 p0_f p1_0 p1_1 p1_f p2_0 p2_1 p2_f
  generalize (((w.alloc (Obj.cells #[.int .i64 o.n, .bool o.e, .slice A o.m.length cap] 24)).alloc (Obj.cells #[.int .i64 av, .int .i64 an] 26)).alloc (Obj.cells #[.int .i64 bv, .int .i64 bn] 26)).alloc (Obj.cells #[.int .i64 0, .bool false, .slice none 0 0] 24) = w1 at *
  (with_reducible refine (HCK.out w1 hx).mono ?_)
  rintro e_w2 w2 ⟨rfl, hb_w2⟩
  replace p0 := p0.later hb_w2
  replace p1 := p1.later hb_w2
  replace p2 := p2.later hb_w2
  replace p3 := p3.later hb_w2
  replace hx := hx.up hb_w2
  replace hb0 := bup hb0 hb_w2
  cases t1 : (k != 0)
  rotate_left
  · have hk0 : k ≠ 0 := by simpa using t1
    have e1 : E = k := by rw [HE.out, if_pos hk0]
    have e2 : R = ⟨0, false, []⟩ := by rw [HR.out, e1, if_neg hk0]
    subst e2
    clear HR HE hk0
    subst e1
    obtain ⟨p3_0, p3_1, p3_2, p3_f⟩ := octbox p3
    go_wp2
    clear p3_0 p3_1 p3_2 p3_f
    have hBz := hb0.size
    have q9 := p3.set3 (v0 := .int .i64 0) (v1 := .bool false) (v2 := .slice none 0 0)
    have hb9 := hb0.trans (below3 (W := w2) (g := w.heap.size + 1 + 1 + 1) (v0 := .int .i64 0) (v1 := .bool false) (v2 := .slice none 0 0) (by omega) hb0.size)
    obtain ⟨z0, z1, z2, fz⟩ := octbox q9
    refine bodyPost_ret (v := .tuple #[.agg #[.int .i64 0, .bool false, .slice none 0 0], .int .i64 E]) (by simp [results, Tryz.results20, go_sem, z0, z1, z2]) rfl ?_
    exact ⟨none, 0, rfl, sx_nil _ _, hb9⟩
  · have hk0 : k = 0 := by simpa using t1
    subst hk0
    have hck : check o = 0 := HKK.out.symm
    have HCK0 := hid hck
    clear hck t1
    replace HE : Hid (E = if 1 ≤ op ∧ op ≤ 6 ∧ av < o.n ∧ bv < o.n then 0 else 160) := hid (by rw [HE.out, if_neg (by simp)])
    by_cases h1 : op < 1
    · have e1 : E = 160 := by rw [HE.out, if_neg (by omega)]
      have e2 : R = ⟨0, false, []⟩ := by rw [HR.out, e1, if_neg (by omega)]
      subst e2
      clear HR HE
      subst e1
      have t2 : decide (op < 1) = true := by rw [decide_eq_true_eq]; exact h1
      obtain ⟨p0_0, p0_1, p0_2, p0_f⟩ := octbox p0
      obtain ⟨p1_0, p1_1, p1_f⟩ := opbox p1
      obtain ⟨p2_0, p2_1, p2_f⟩ := opbox p2
      obtain ⟨p3_0, p3_1, p3_2, p3_f⟩ := octbox p3
      go_wp2
      clear p0_0 p0_1 p0_2 p0_f p1_0 p1_1 p1_f p2_0 p2_1 p2_f p3_0 p3_1 p3_2 p3_f
      have hBz := hb0.size
      have q9 := p3.set3 (v0 := .int .i64 0) (v1 := .bool false) (v2 := .slice none 0 0)
      have hb9 := hb0.trans (below3 (W := w2) (g := w.heap.size + 1 + 1 + 1) (v0 := .int .i64 0) (v1 := .bool false) (v2 := .slice none 0 0) (by omega) hb0.size)
      obtain ⟨z0, z1, z2, fz⟩ := octbox q9
      refine bodyPost_ret (v := .tuple #[.agg #[.int .i64 0, .bool false, .slice none 0 0], .int .i64 160]) (by simp [results, Tryz.results20, go_sem, z0, z1, z2]) rfl ?_
      exact ⟨none, 0, rfl, sx_nil _ _, hb9⟩
    · have t2 : decide (op < 1) = false := by rw [decide_eq_false_iff_not]; exact h1
      by_cases h2 : 6 < op
      · have e1 : E = 160 := by rw [HE.out, if_neg (by omega)]
        have e2 : R = ⟨0, false, []⟩ := by rw [HR.out, e1, if_neg (by omega)]
        subst e2
        clear HR HE
        subst e1
        have t3 : decide (6 < op) = true := by rw [decide_eq_true_eq]; exact h2
        obtain ⟨p0_0, p0_1, p0_2, p0_f⟩ := octbox p0
        obtain ⟨p1_0, p1_1, p1_f⟩ := opbox p1
        obtain ⟨p2_0, p2_1, p2_f⟩ := opbox p2
        obtain ⟨p3_0, p3_1, p3_2, p3_f⟩ := octbox p3
        go_wp2
        clear p0_0 p0_1 p0_2 p0_f p1_0 p1_1 p1_f p2_0 p2_1 p2_f p3_0 p3_1 p3_2 p3_f
        have hBz := hb0.size
        have q9 := p3.set3 (v0 := .int .i64 0) (v1 := .bool false) (v2 := .slice none 0 0)
        have hb9 := hb0.trans (below3 (W := w2) (g := w.heap.size + 1 + 1 + 1) (v0 := .int .i64 0) (v1 := .bool false) (v2 := .slice none 0 0) (by omega) hb0.size)
        obtain ⟨z0, z1, z2, fz⟩ := octbox q9
        refine bodyPost_ret (v := .tuple #[.agg #[.int .i64 0, .bool false, .slice none 0 0], .int .i64 160]) (by simp [results, Tryz.results20, go_sem, z0, z1, z2]) rfl ?_
        exact ⟨none, 0, rfl, sx_nil _ _, hb9⟩
      · have t3 : decide (6 < op) = false := by rw [decide_eq_false_iff_not]; exact h2
        obtain ⟨p0_0, p0_1, p0_2, p0_f⟩ := octbox p0
        obtain ⟨p1_0, p1_1, p1_f⟩ := opbox p1
        obtain ⟨p2_0, p2_1, p2_f⟩ := opbox p2
        go_wp2_with fail
        clear p0_0 p0_1 p0_2 p0_f p1_0 p1_1 p1_f p2_0 p2_1 p2_f
        (with_reducible refine (holds_ok o.n o.e A o.m.length cap av an w2).mono ?_)
        rintro e_w3 w3 ⟨rfl, hb_w3⟩
        replace p0 := p0.later hb_w3
        replace p1 := p1.later hb_w3
        replace p2 := p2.later hb_w3
        replace p3 := p3.later hb_w3
        replace hx := hx.up hb_w3
        replace hb0 := bup hb0 hb_w3
        by_cases h3 : av < o.n
        rotate_left
        · have e1 : E = 160 := by rw [HE.out, if_neg (by omega)]
          have e2 : R = ⟨0, false, []⟩ := by rw [HR.out, e1, if_neg (by omega)]
          subst e2
          clear HR HE
          subst e1
          rw [show decide (av < o.n) = false by rw [decide_eq_false_iff_not]; exact h3]
          obtain ⟨p3_0, p3_1, p3_2, p3_f⟩ := octbox p3
          go_wp2
          clear p3_0 p3_1 p3_2 p3_f
          have hBz := hb0.size
          have q9 := p3.set3 (v0 := .int .i64 0) (v1 := .bool false) (v2 := .slice none 0 0)
          have hb9 := hb0.trans (below3 (W := w3) (g := w.heap.size + 1 + 1 + 1) (v0 := .int .i64 0) (v1 := .bool false) (v2 := .slice none 0 0) (by omega) hb0.size)
          obtain ⟨z0, z1, z2, fz⟩ := octbox q9
          refine bodyPost_ret (v := .tuple #[.agg #[.int .i64 0, .bool false, .slice none 0 0], .int .i64 160]) (by simp [results, Tryz.results20, go_sem, z0, z1, z2]) rfl ?_
          exact ⟨none, 0, rfl, sx_nil _ _, hb9⟩
        · rw [show decide (av < o.n) = true by rw [decide_eq_true_eq]; exact h3]
          obtain ⟨p0_0, p0_1, p0_2, p0_f⟩ := octbox p0
          obtain ⟨p2_0, p2_1, p2_f⟩ := opbox p2
          go_wp2_with fail
          clear p0_0 p0_1 p0_2 p0_f p2_0 p2_1 p2_f
          (with_reducible refine (holds_ok o.n o.e A o.m.length cap bv bn w3).mono ?_)
          rintro e_w4 w4 ⟨rfl, hb_w4⟩
          replace p0 := p0.later hb_w4
          replace p1 := p1.later hb_w4
          replace p2 := p2.later hb_w4
          replace p3 := p3.later hb_w4
          replace hx := hx.up hb_w4
          replace hb0 := bup hb0 hb_w4
          by_cases h4 : bv < o.n
          rotate_left
          · have e1 : E = 160 := by rw [HE.out, if_neg (by omega)]
            have e2 : R = ⟨0, false, []⟩ := by rw [HR.out, e1, if_neg (by omega)]
            subst e2
            clear HR HE
            subst e1
            rw [show decide (bv < o.n) = false by rw [decide_eq_false_iff_not]; exact h4]
            obtain ⟨p3_0, p3_1, p3_2, p3_f⟩ := octbox p3
            go_wp2
            clear p3_0 p3_1 p3_2 p3_f
            have hBz := hb0.size
            have q9 := p3.set3 (v0 := .int .i64 0) (v1 := .bool false) (v2 := .slice none 0 0)
            have hb9 := hb0.trans (below3 (W := w4) (g := w.heap.size + 1 + 1 + 1) (v0 := .int .i64 0) (v1 := .bool false) (v2 := .slice none 0 0) (by omega) hb0.size)
            obtain ⟨z0, z1, z2, fz⟩ := octbox q9
            refine bodyPost_ret (v := .tuple #[.agg #[.int .i64 0, .bool false, .slice none 0 0], .int .i64 160]) (by simp [results, Tryz.results20, go_sem, z0, z1, z2]) rfl ?_
            exact ⟨none, 0, rfl, sx_nil _ _, hb9⟩
          · rw [show decide (bv < o.n) = true by rw [decide_eq_true_eq]; exact h4]
            have e1 : E = 0 := by rw [HE.out, if_pos (by omega)]
            replace HR : Hid (R = if (closeO o).e then closeO o else assumesO (closeO o) op av an bv bn) := hid (by rw [HR.out, e1, if_pos rfl]; rfl)
            clear HE
            subst e1
            have hop : 1 ≤ op ∧ op ≤ 6 := by omega
            have HOP := hid hop
            have HAB := hid (And.intro h3 h4)
            clear hop h1 h2 h3 h4 t2 t3
            obtain ⟨p0_0, p0_1, p0_2, p0_f⟩ := octbox p0
            go_wp2_with fail
            clear p0_0 p0_1 p0_2 p0_f
            have hle : w.heap.size ≤ w4.heap.size := hb0.size
            have hBc := Nat.le_trans hB hle
            (with_reducible refine (tclosed_ok o HCK0.out A cap w4 hx hm).mono ?_)
            rintro e_w5 w5 ⟨Ac, cc, rfl, ownc, hb_w5⟩
            have sxc := Sx.of_own ownc hBc
            replace p0 := p0.later hb_w5
            replace p1 := p1.later hb_w5
            replace p2 := p2.later hb_w5
            replace p3 := p3.later hb_w5
            replace hx := hx.up hb_w5
            replace hb0 := bup hb0 hb_w5
            have okc : OkO o.n (closeO o) := OkO.close ⟨rfl, HCK0.out⟩
            have hmc := OkO.small okc
            rcases okc.form with hE | ⟨N, cm, hN, hn, hE, hc⟩
            · replace HR : Hid (R = emptyO o.n) := hid (by rw [HR.out, hE]; rfl)
              rw [hE] at sxc ⊢
              unfold emptyO at *
              dsimp only at *
              replace sxc : Sx w5 B Ac [] := sxc
              clear hE hmc okc
              simp only [List.length_nil]
              obtain ⟨p5, hbn, -⟩ := new_one w5 #[.int .i64 o.n, .bool true, .slice Ac 0 cc] 24
              replace p0 := p0.later hbn
              replace p1 := p1.later hbn
              replace p2 := p2.later hbn
              replace p3 := p3.later hbn
              replace sxc := sxc.later hbn (Nat.le_trans hB hb0.size)
              replace hx := hx.up hbn
              replace hb0 := bup hb0 hbn
              obtain ⟨p5_0, p5_1, p5_2, p5_f⟩ := octbox p5
              obtain ⟨p3_0, p3_1, p3_2, p3_f⟩ := octbox p3
              go_wp2
              clear p5_0 p5_1 p5_2 p5_f p3_0 p3_1 p3_2 p3_f
              generalize w5.alloc (Obj.cells #[.int .i64 o.n, .bool true, .slice Ac 0 cc] 24) = w6 at *
              have hBz := hb0.size
              have s9 := sxc.far3 (g := w.heap.size + 1 + 1 + 1) (v0 := .int .i64 o.n) (v1 := .bool true) (v2 := .slice Ac 0 cc) (by omega) p3 (by decide)
              rw [HR.out]
              have q9 := p3.set3 (v0 := .int .i64 o.n) (v1 := .bool true) (v2 := .slice Ac 0 cc)
              have hb9 := hb0.trans (below3 (W := w6) (g := w.heap.size + 1 + 1 + 1) (v0 := .int .i64 o.n) (v1 := .bool true) (v2 := .slice Ac 0 cc) (by omega) hb0.size)
              obtain ⟨z0, z1, z2, fz⟩ := octbox q9
              refine bodyPost_ret (v := .tuple #[.agg #[.int .i64 o.n, .bool true, .slice Ac 0 cc], .int .i64 0]) (by simp [results, Tryz.results20, go_sem, z0, z1, z2]) rfl ?_
              exact ⟨_, _, rfl, s9, hb9⟩
            · replace HR : Hid (R = assumesO ⟨o.n, false, cm⟩ op av an bv bn) := hid (by rw [HR.out, hE]; rfl)
              rw [hE] at sxc hmc ⊢
              dsimp only at *
              clear hE okc
              obtain ⟨u0, u1, u2, uf⟩ := octbox p3
              obtain ⟨p5, hbn, -⟩ := new_one w5 #[.int .i64 o.n, .bool false, .slice Ac cm.length cc] 24
              replace p0 := p0.later hbn
              replace p1 := p1.later hbn
              replace p2 := p2.later hbn
              replace p3 := p3.later hbn
              replace sxc := sxc.later hbn (Nat.le_trans hB hb0.size)
              replace hx := hx.up hbn
              replace hb0 := bup hb0 hbn
              obtain ⟨p5_0, p5_1, p5_2, p5_f⟩ := octbox p5
              obtain ⟨p1_0, p1_1, p1_f⟩ := opbox p1
              obtain ⟨p2_0, p2_1, p2_f⟩ := opbox p2
              go_wp2_with fail
              clear u0 u1 u2 uf p5_0 p5_1 p5_2 p5_f p1_0 p1_1 p1_f p2_0 p2_1 p2_f
              generalize w5.alloc (Obj.cells #[.int .i64 o.n, .bool false, .slice Ac cm.length cc] 24) = w6 at *
              have hBd := Nat.le_trans hB hb0.size
              (with_reducible refine (assumes_ok o.n cm N hN hn hc op av an bv bn HOP.out HAB.out.1 HAB.out.2 ia ib Ac cc w6 B hBd sxc hmc).mono ?_)
              rintro e_w7 w7 ⟨A2, c2, rfl, sx2, hb_w7⟩
              replace p0 := p0.later hb_w7
              replace p1 := p1.later hb_w7
              replace p2 := p2.later hb_w7
              replace p3 := p3.later hb_w7
              replace p5 := p5.later hb_w7
              replace sxc := sxc.later hb_w7 (Nat.le_trans hB hb0.size)
              replace hx := hx.up hb_w7
              replace hb0 := bup hb0 hb_w7
              rw [← HR.out] at sx2 ⊢
              obtain ⟨p3_0, p3_1, p3_2, p3_f⟩ := octbox p3
              go_wp2
              clear p3_0 p3_1 p3_2 p3_f
              have hBz := hb0.size
              have s9 := sx2.far3 (g := w.heap.size + 1 + 1 + 1) (v0 := .int .i64 R.n) (v1 := .bool R.e) (v2 := .slice A2 R.m.length c2) (by omega) p3 (by decide)
              have q9 := p3.set3 (v0 := .int .i64 R.n) (v1 := .bool R.e) (v2 := .slice A2 R.m.length c2)
              have hb9 := hb0.trans (below3 (W := w7) (g := w.heap.size + 1 + 1 + 1) (v0 := .int .i64 R.n) (v1 := .bool R.e) (v2 := .slice A2 R.m.length c2) (by omega) hb0.size)
              obtain ⟨z0, z1, z2, fz⟩ := octbox q9
              refine bodyPost_ret (v := .tuple #[.agg #[.int .i64 R.n, .bool R.e, .slice A2 R.m.length c2], .int .i64 0]) (by simp [results, Tryz.results20, go_sem, z0, z1, z2]) rfl ?_
              exact ⟨_, _, rfl, s9, hb9⟩
end
section
open Go.RowKit
attribute [local go_sem ↓] Go.wp_at_zero Go.wp_at_succ

set_option maxRecDepth 8000 in
set_option maxHeartbeats 1000000 in
theorem by_ok (dst i : Nat) (k : Int) (g1 g2 : Nat) (w : World) (h1 : Blk w g1 3 #[.int .i64 (dst : Int)]) (h2 : Blk w g2 224 #[.int .i64 k, .int .i64 (-k)]) (hi : i ≤ 1000) :
    Calls Tryz.prog 238 #[.int .i64 (i : Int), .pointer (some ⟨g1, 0, none⟩), .pointer (some ⟨g2, 0, none⟩)] w fun e w' => e = .returned (.int .i64 (byK dst k i)) ∧ w' = w := by
  have x0 := h1.cell 0
  have y0 := h2.cell 0
  have y1 := h2.cell 1
  obtain ⟨q, hq⟩ : ∃ q : Nat, q = i / 2 := ⟨_, rfl⟩
  have e1 : (i : Int).tdiv 2 = (q : Int) := by rw [hq]; exact (Int.tdiv_eq_ediv_of_nonneg (by omega)).trans (by omega)
  have e2 : (i : Int) / 2 = (q : Int) := by rw [hq]; omega
  have hq2 : (q : Int) ≤ 1000 := by omega
  have e5 : ((i / 2 : Nat) : Int) = (q : Int) := by rw [hq]
  obtain ⟨r, hr⟩ : ∃ r : Nat, r = i % 2 := ⟨_, rfl⟩
  have HB : Hid (byK dst k i = if q = dst then (if r = 0 then k else -k) else 0) := hid (by unfold byK; rw [← hq, ← hr])
  have hr2 : r = 0 ∨ r = 1 := by omega
  have e3 : (i : Int).tmod 2 = (r : Int) := by rw [hr]; exact (Int.tmod_eq_emod_of_nonneg (by omega)).trans (by omega)
  have e4 : (i : Int) % 2 = (r : Int) := by rw [hr]; omega
  clear hq hr
  by_cases hd : q = dst
  · subst hd
    have t1 : ((q : Int) == (q : Int)) = true := by simp
    rcases hr2 with rfl | rfl
    · go_enter Tryz.func238, Tryz.ntmps238
      go_wp2
      go_ret
      exact ⟨by rw [HB.out]; simp, rfl⟩
    · go_enter Tryz.func238, Tryz.ntmps238
      go_wp2
      go_ret
      exact ⟨by rw [HB.out]; simp, rfl⟩
  · have t1 : ((q : Int) == (dst : Int)) = false := by rw [beq_eq_false_iff_ne]; omega
    go_enter Tryz.func238, Tryz.ntmps238
    have HD := hid hd
    clear hd
    go_wp2
    go_ret
    exact ⟨by rw [HB.out, if_neg HD.out]; rfl, rfl⟩
end
section
open Go.RowKit
attribute [local go_sem ↓] Go.wp_at_zero Go.wp_at_succ

/-- The first t cells by f, the others 0. -/
def fillT (f : Nat → Int) (L t : Nat) : List Int := (List.range t).map f ++ List.replicate (L - t) 0
theorem fillT_len (f : Nat → Int) {L t : Nat} (h : t ≤ L) : (fillT f L t).length = L := by unfold fillT; simp; omega
theorem fillT_succ (f : Nat → Int) {L t : Nat} (h : t < L) : (fillT f L t).set t (f t) = fillT f L (t + 1) := by
  unfold fillT
  rw [List.set_append_right _ _ (by simp), List.range_succ, List.map_append]
  simp only [List.length_map, List.length_range, Nat.sub_self, List.map_cons, List.map_nil, List.append_assoc, List.singleton_append]
  congr 1
  rw [show L - t = (L - (t + 1)) + 1 by omega, List.replicate_succ, List.set_cons_zero]
theorem fillT_all (f : Nat → Int) (L : Nat) : fillT f L L = (List.range L).map f := by unfold fillT; simp
def shiftC (N dst : Nat) (k : Int) (m : List Int) (p : Nat) : Int := if p / N ≠ p % N ∧ gI m (p : Int) ≠ 9223372036854775807 then plus (gI m (p : Int)) (byK dst k (p / N) - byK dst k (p % N)) else gI m (p : Int)
theorem shift_fill (N dst : Nat) (k : Int) (m : List Int) : fillT (shiftC N dst k m) m.length m.length = shiftM N dst k m := fillT_all _ _
theorem byK_le {dst i : Nat} {k : Int} (hk : -2305843009213693952 ≤ k ∧ k ≤ 2305843009213693952) : -2305843009213693952 ≤ byK dst k i ∧ byK dst k i ≤ 2305843009213693952 := by
  unfold byK; split
  · split <;> omega
  · omega

set_option maxRecDepth 8000 in
set_option maxHeartbeats 8000000 in
theorem tshift_self (n : Int) (m : List Int) (N : Nat) (hN : (N : Int) = 2 * n) (hn : N ≤ 128) (hc : Cells N m) (dst : Nat) (hd : (dst : Int) < n) (k : Int) (hk : -2305843009213693952 ≤ k ∧ k ≤ 2305843009213693952) (A : Option Addr) (cap : Nat) (w : World) (hx : Rd w w.heap.size A m) (hm : m.length ≤ 17592186044416) :
    Calls Tryz.prog 197 #[.agg #[.int .i64 n, .bool false, .slice A m.length cap], .int .i64 (dst : Int), .int .i64 (dst : Int), .int .i64 k] w (OctOwn w (closeO ⟨n, false, shiftM N dst k m⟩)) := by
  have okq : OkO n ⟨n, false, shiftM N dst k m⟩ := OkO.of_cells hN hn (shiftM_cells (by omega) hc)
  have HN := hid hN
  have HD := hid hd
  have hl := hc.len
  have HL := hid hl
  have hn0 : 0 ≤ 2 * n := by omega
  have hn1 : 2 * n ≤ 128 := by omega
  have hn2 : 0 ≤ n := by omega
  have t1 : decide (2305843009213693952 < k) = false := by rw [decide_eq_false_iff_not]; omega
  have t2 : decide (k < -2305843009213693952) = false := by rw [decide_eq_false_iff_not]; omega
  have t3 : ((dst : Int) != (dst : Int)) = false := by simp
  have hw : wrap64 (-k) = -k := IntWalk.wrap64_in _ (by omega)
  have HK := hid hk
  have hmk := run_make64 m.length hm
  have HSF := hid (shift_fill N dst k m)
  have HCC := hid hc
  clear hN hd hk hl hc
  obtain ⟨p0, p1, p2, hb3, -⟩ := new_three w #[.int .i64 n, .bool false, .slice A m.length cap] #[.int .i64 (dst : Int)] #[.int .i64 0, .bool false, .slice none 0 0] 24 3 24
  have pd := p1.cell 0
  go_enter Tryz.func197, Tryz.ntmps197
  go_upto_region 8 with fail
  clear pd hb3 p0 p1 p2 t1 t2 t3 hw
  obtain ⟨p0, p1, p2, p3, hb0, hsz⟩ := new_four w #[.int .i64 n, .bool false, .slice A m.length cap] #[.int .i64 (dst : Int)] #[.int .i64 0, .bool false, .slice none 0 0] #[.int .i64 k, .int .i64 (-k)] 24 3 24 224
  replace hx := hx.up hb0
  generalize (((w.alloc (Obj.cells #[.int .i64 n, .bool false, .slice A m.length cap] 24)).alloc (Obj.cells #[.int .i64 (dst : Int)] 3)).alloc (Obj.cells #[.int .i64 0, .bool false, .slice none 0 0] 24)).alloc (Obj.cells #[.int .i64 k, .int .i64 (-k)] 224) = w0 at *
  go_cut [12] (fun s12 W => ∃ gO gS : Nat, s12 = .pointer (some ⟨gO, 0, none⟩) ∧ w.heap.size + 4 ≤ gO ∧ gO ≠ gS ∧ Blk W gO 24 #[.int .i64 n, .bool false, .slice (some ⟨gS, 0, none⟩) m.length m.length] ∧ Own W (w.heap.size + 4) (some ⟨gS, 0, none⟩) m.length (List.replicate m.length 0) ∧ Below (w.heap.size + 4) w0 W)
  case first =>
    obtain ⟨x0, x1, x2, fx⟩ := octbox p0
    have hszd : w0.drew.heap.size = w.heap.size + 4 := hsz
    go_region_held3 (fun W => W.cell? ⟨w.heap.size, 0, none⟩ = some (.int .i64 n) ∧ W.cell? ⟨w.heap.size, 2, none⟩ = some (.slice A m.length cap)) (go_keep) (fail)
    all_goals (go_wp2_with fail; go_meet)
    · obtain ⟨q1, q2, q3⟩ := two_sl w0 hsz hm #[.int .i64 n, .bool false, .slice (some ⟨w.heap.size + 4, 0, none⟩) m.length m.length] 24
      exact ⟨_, _, rfl, by omega, by omega, q1, q2, q3⟩
    · obtain ⟨q1, q2, q3⟩ := two_ls w0 hsz hm #[.int .i64 n, .bool false, .slice (some ⟨w.heap.size + 4 + 1, 0, none⟩) m.length m.length] 24
      exact ⟨_, _, rfl, by omega, by omega, q1, q2, q3⟩
  case rest =>
    obtain ⟨gO, gS, rfl, hgO, hne, hblk, hown, hbc⟩ := hcut
    rename_i w1 _
    have p0' := p0.below hbc (by omega)
    obtain ⟨x0, x1, x2, fx⟩ := octbox p0'
    go_wp2
    clear x0 x1 x2 fx p0'
    have HSZ := hid hsz
    clear hsz
    go_loopw [63] (fun t wq => ∃ i : Nat, i ≤ N ∧ t = .int .i64 i ∧ Own wq (w.heap.size + 4) (some ⟨gS, 0, none⟩) m.length (fillT (shiftC N dst k m) m.length (i * N)) ∧ Blk wq gO 24 #[.int .i64 n, .bool false, .slice (some ⟨gS, 0, none⟩) m.length m.length] ∧ Below (w.heap.size + 4) w0 wq) (fun t _ => N - (intOf t).toNat)
    case atStart => exact ⟨0, by omega, rfl, by rw [Nat.zero_mul]; unfold fillT; simpa using hown, hblk, hbc⟩
    case round =>
      clear hown hblk hbc
      obtain ⟨i, hi, rfl, own, kO, hb⟩ := hrel
      have q0 := p0.below hb (by omega)
      obtain ⟨x0, x1, x2, fx⟩ := octbox q0
      by_cases hlt : i < N
      · have hlti : (i : Int) < 2 * n := by have := HN.out; omega
        go_wp2
        clear x0 x1 x2 fx q0
        have hsw : w.heap.size + 4 ≤ wr.heap.size := by have := hb.size; have := HSZ.out; omega
        go_loopw [69] (fun t wq => ∃ j : Nat, j ≤ N ∧ t = .int .i64 j ∧ Own wq (w.heap.size + 4) (some ⟨gS, 0, none⟩) m.length (fillT (shiftC N dst k m) m.length (i * N + j)) ∧ Blk wq gO 24 #[.int .i64 n, .bool false, .slice (some ⟨gS, 0, none⟩) m.length m.length] ∧ Below (w.heap.size + 4) w0 wq) (fun t _ => N - (intOf t).toNat)
        case atStart => exact ⟨0, by omega, rfl, own, kO, hb⟩
        case round =>
          clear own kO hb
          obtain ⟨j, hj, rfl, own, kO, hb⟩ := hrel
          by_cases hlt2 : j < N
          · have hltj : (j : Int) < 2 * n := by have := HN.out; omega
            have hpl : i * N + j < m.length := by
              rw [HL.out]
              have : (i + 1) * N ≤ N * N := Nat.mul_le_mul_right _ hlt
              rw [Nat.succ_mul] at this; omega
            obtain ⟨r, hre⟩ : ∃ r, r = i * N := ⟨_, rfl⟩
            have hm1 : 2 * n * (i : Int) = (r : Int) := by rw [hre, ← HN.out, Int.natCast_mul, Int.mul_comm]
            have hr1 : r ≤ 16384 := by rw [hre]; exact Nat.le_trans (Nat.mul_le_mul (Nat.le_of_lt hlt) (Nat.le_refl N)) (Nat.mul_le_mul hn hn)
            have hm2 : (r : Int) + (j : Int) = ((i * N + j : Nat) : Int) := by rw [hre]; simp
            have hkN : (i * N + j) / N = i ∧ (i * N + j) % N = j := ⟨at_div hlt2, at_mod hlt2⟩
            have HF : Hid (shiftC N dst k m (i * N + j) = if i ≠ j ∧ gI m ((i * N + j : Nat) : Int) ≠ 9223372036854775807 then plus (gI m ((i * N + j : Nat) : Int)) (byK dst k i - byK dst k j) else gI m ((i * N + j : Nat) : Int)) := hid (by unfold shiftC; rw [hkN.1, hkN.2])
            have hbk := HCC.out.bd i j hlt hlt2
            have HBD := hid hbk
            have hnext : i * N + (j + 1) = i * N + j + 1 := rfl
            clear hre hkN hbk
            generalize i * N + j = p at *
            have hp' : (p : Int) < (m.length : Int) := by omega
            have HP := hid (show (0 : Int) ≤ (p : Int) by omega)
            obtain ⟨u, hu⟩ : ∃ u, u = gI m (p : Int) := ⟨_, rfl⟩
            have HU := hid hu
            rw [← hu] at HF HBD
            clear hu
            have q0 := p0.below hb (by omega)
            have hx1 := (hx.below (hb.mono (by have := HSZ.out; omega))).at_ HP.out hp'
            obtain ⟨bA, oA, hA, hbA, cA⟩ := hx1
            have HA := hid hA
            rw [show ((p : Int)).toNat = p from rfl, ← HU.out] at cA
            subst hA
            clear HA
            obtain ⟨x0, x1, x2, fx⟩ := octbox q0
            obtain ⟨y0, y1, y2, fy⟩ := octbox kO
            clear x0 x1 fx y0 y1 fy
            have cx := (octbox q0).1
            go_upto_region 16 with fail
            clear cx
            have f1 := later x2
            have f2 := later y2
            have f3 := later cA
            clear x2 y2 cA
            refine wp_region_flow 8 (fun W => Below wr.heap.size wr W) (by kernel_rfl) (by kernel_rfl) (Below.refl _ _).drew ?_
            (repeat (first | (refine Flow.skip (by rfl) ?_; simp only [Act.put, List.setIfInBounds_toArray, List.set_cons_zero, List.set_cons_succ]) | (refine' Flow.take _ (by rfl) (fun W hW R hR => ?_) ?_; rotate_left; (go_simp; (try go_bits); with_reducible exact hR); simp only [Act.put, List.setIfInBounds_toArray, List.set_cons_zero, List.set_cons_succ])))
            intro w3 hb3
            have cA3 := f3 w3 hb3
            clear f1 f2 f3
            have hb4 := hb.trans (hb3.mono (by have := hb.size; have := HSZ.out; omega))
            replace kO := kO.later hb3
            replace own := own.below hb3
            have q0 := p0.below hb4 (by omega)
            have own2 := own.store p u
            have hfr := own.frozen
            have hlenF := fillT_len (shiftC N dst k m) (Nat.le_of_lt hpl)
            have hgS : w.heap.size + 4 ≤ gS := by
              rcases own.form with ⟨h, _⟩ | ⟨g, h, h', _⟩
              · cases h
              · injection h with h; injection h with h; omega
            obtain ⟨cS, hcS⟩ : ∃ c, w3.cell? ⟨gS, p, none⟩ = some c := by
              obtain ⟨_, _, e1, _, hcell⟩ := own.rd p (by rw [hlenF]; exact hpl)
              injection e1 with e1; injection e1 with e1 e2; subst e1; subst e2
              rw [Nat.zero_add] at hcell
              exact ⟨_, hcell⟩
            have HO2 := hid own2
            clear own own2 hb3 hb
            go_upto_region 17 with fail
            have hb5 : Below (w.heap.size + 4) w0 (w3.setCell ⟨gS, p, none⟩ (.int .i64 u)) := hb4.setCell (by simpa using hgS) _
            replace kO := kO.far (p := ⟨gS, p, none⟩) (by simpa using hne.symm) (.int .i64 u)
            clear hb4 q0 cA3 hcS hfr
            generalize w3.setCell ⟨gS, p, none⟩ (.int .i64 u) = w5 at *
            have q0 := p0.below hb5 (by omega)
            have q1 := p1.below hb5 (by omega)
            have q3 := p3.below hb5 (by omega)
            obtain ⟨_, _, eA, _, cA⟩ := (hx.below (hb5.mono (by have := HSZ.out; omega))).at_ HP.out hp'
            injection eA with eA; injection eA with eA1 eA2; subst eA1; subst eA2
            rw [show ((p : Int)).toNat = p from rfl, ← HU.out] at cA
            obtain ⟨x0, x1, x2, fx⟩ := octbox q0
            by_cases hij : i = j
            · have t1 : ((i : Int) != (j : Int)) = false := by rw [hij]; simp
              have HV : Hid (shiftC N dst k m p = u) := hid (by rw [HF.out, if_neg (fun h => h.1 hij)])
              have HE : Hid ((fillT (shiftC N dst k m) m.length p).set p u = fillT (shiftC N dst k m) m.length (p + 1)) := hid (by rw [← HV.out]; exact fillT_succ _ hpl)
              rw [HE.out] at HO2
              clear hij
              go_wp2
              go_roundw
              case rel => exact ⟨j + 1, by omega, by go_num, by rw [hnext]; exact HO2.out, kO, hb5⟩
              case measure => simp [intOf]; omega
            · have t1 : ((i : Int) != (j : Int)) = true := by simp; omega
              cases t2 : (u != 9223372036854775807)
              · have HV : Hid (shiftC N dst k m p = u) := hid (by rw [HF.out, if_neg (fun h => by simp at t2; exact h.2 t2)])
                have HE : Hid ((fillT (shiftC N dst k m) m.length p).set p u = fillT (shiftC N dst k m) m.length (p + 1)) := hid (by rw [← HV.out]; exact fillT_succ _ hpl)
                rw [HE.out] at HO2
                clear hij
                go_wp2
                go_roundw
                case rel => exact ⟨j + 1, by omega, by go_num, by rw [hnext]; exact HO2.out, kO, hb5⟩
                case measure => simp [intOf]; omega
              · have HV : Hid (shiftC N dst k m p = plus u (byK dst k i - byK dst k j)) := hid (by rw [HF.out, if_pos ⟨hij, by simpa using t2⟩])
                have hbi := byK_le (dst := dst) (i := i) HK.out
                have hbj := byK_le (dst := dst) (i := j) HK.out
                have hwv : wrap64 (byK dst k i - byK dst k j) = byK dst k i - byK dst k j := IntWalk.wrap64_in _ (by omega)
                have HB1 := hid (fun W h1 h2 => by_ok dst i k (w.heap.size + 1) (w.heap.size + 1 + 1 + 1) W h1 h2 (by omega))
                have HB2 := hid (fun W h1 h2 => by_ok dst j k (w.heap.size + 1) (w.heap.size + 1 + 1 + 1) W h1 h2 (by omega))
                have HE : Hid (((fillT (shiftC N dst k m) m.length p).set p u).set p (plus u (byK dst k i - byK dst k j)) = fillT (shiftC N dst k m) m.length (p + 1)) := hid (by rw [List.set_set, ← HV.out]; exact fillT_succ _ hpl)
                clear hij HV HF hbi hbj
                generalize byK dst k i = bi at *
                generalize byK dst k j = bj at *
                go_wp2_with fail
                obtain ⟨y0, y1, y2, fy⟩ := octbox kO
                have f2 := later x2
                have f3 := later cA
                have f4 := later y2
                clear x0 x1 x2 fx y0 y1 y2 fy cA
                refine wp_region_flow 16 (fun X => Below w5.heap.size w5 X) (by kernel_rfl) (by kernel_rfl) (Below.refl _ _).drew ?_
                (repeat (first | (refine Flow.skip (by rfl) ?_; simp only [Act.put, List.setIfInBounds_toArray, List.set_cons_zero, List.set_cons_succ]) | (refine' Flow.take _ (by rfl) (fun W hW R hR => ?_) ?_; rotate_left; (go_simp; (try go_bits); with_reducible exact hR); simp only [Act.put, List.setIfInBounds_toArray, List.set_cons_zero, List.set_cons_succ])))
                (refine Flow.call 238 #[.int .i64 (i : Int), .pointer (some ⟨w.heap.size + 1, 0, none⟩), .pointer (some ⟨w.heap.size + 1 + 1 + 1, 0, none⟩)] (.int .i64 bi) (by rfl) (fun X hX => by go_simp) (fun X hX => (HB1.out _ (q1.later hX) (q3.later hX)).mono fun e' w' ⟨he, hw⟩ => ⟨he, hw ▸ hX⟩) ?_; simp only [Act.put, List.setIfInBounds_toArray, List.set_cons_zero, List.set_cons_succ])
                (repeat (first | (refine Flow.skip (by rfl) ?_; simp only [Act.put, List.setIfInBounds_toArray, List.set_cons_zero, List.set_cons_succ]) | (refine' Flow.take _ (by rfl) (fun W hW R hR => ?_) ?_; rotate_left; (go_simp; (try go_bits); with_reducible exact hR); simp only [Act.put, List.setIfInBounds_toArray, List.set_cons_zero, List.set_cons_succ])))
                (refine Flow.call 238 #[.int .i64 (j : Int), .pointer (some ⟨w.heap.size + 1, 0, none⟩), .pointer (some ⟨w.heap.size + 1 + 1 + 1, 0, none⟩)] (.int .i64 bj) (by rfl) (fun X hX => by go_simp) (fun X hX => (HB2.out _ (q1.later hX) (q3.later hX)).mono fun e' w' ⟨he, hw⟩ => ⟨he, hw ▸ hX⟩) ?_; simp only [Act.put, List.setIfInBounds_toArray, List.set_cons_zero, List.set_cons_succ])
                (repeat (first | (refine Flow.skip (by rfl) ?_; simp only [Act.put, List.setIfInBounds_toArray, List.set_cons_zero, List.set_cons_succ]) | (refine' Flow.take _ (by rfl) (fun W hW R hR => ?_) ?_; rotate_left; (go_simp; (try go_bits); with_reducible exact hR); simp only [Act.put, List.setIfInBounds_toArray, List.set_cons_zero, List.set_cons_succ])))
                (refine Flow.call 239 #[.int .i64 u, .int .i64 (bi - bj)] (.int .i64 (plus u (bi - bj))) (by rfl) (fun X hX => by go_simp) (fun X hX => (plus_any _ _ _).mono fun e' w' ⟨he, hw⟩ => ⟨he, hw ▸ hX⟩) ?_; simp only [Act.put, List.setIfInBounds_toArray, List.set_cons_zero, List.set_cons_succ])
                intro w6 hb6
                clear f2 f3 f4
                have own6 := HO2.out.below hb6
                have hb7 := hb5.trans (hb6.mono (by have := hb5.size; have := HSZ.out; omega))
                replace kO := kO.later hb6
                have hfr := own6.frozen
                obtain ⟨cS, hcS⟩ : ∃ c, w6.cell? ⟨gS, p, none⟩ = some c := by
                  obtain ⟨_, _, e1, _, hcell⟩ := own6.rd p (by rw [List.length_set, hlenF]; exact hpl)
                  injection e1 with e1; injection e1 with e1 e2; subst e1; subst e2
                  rw [Nat.zero_add] at hcell
                  exact ⟨_, hcell⟩
                have own7 := own6.store p (plus u (bi - bj))
                rw [HE.out] at own7
                have HO7 := hid own7
                clear own6 own7 HO2 hb5 hb6 q0 q1 q3
                go_wp2
                go_roundw
                case rel => exact ⟨j + 1, by omega, by go_num, by rw [hnext]; exact HO7.out, kO.far (p := ⟨gS, p, none⟩) (by simpa using hne.symm) _, hb7.setCell (by simpa using hgS) _⟩
                case measure => simp [intOf]; omega
          · obtain rfl : j = N := by omega
            have hge : ¬ ((j : Int) < 2 * n) := by have := HN.out; omega
            have hmul : i * j + j = (i + 1) * j := by rw [Nat.succ_mul]
            rw [hmul] at own
            go_wp2
            go_roundw
            case rel => exact ⟨i + 1, by omega, by go_num, own, kO, hb⟩
            case measure => simp [intOf]; omega
      · obtain rfl : i = N := by omega
        have hge : ¬ ((i : Int) < 2 * n) := by have := HN.out; omega
        rw [← HL.out, HSF.out] at own
        have hlS := shiftM_len i dst k m
        have q2 := p2.below hb (by omega)
        have hmq : (shiftM i dst k m).length ≤ 17592186044416 := by rw [hlS]; exact hm
        have HT := hid (fun W h => tclosed_ok ⟨n, false, shiftM i dst k m⟩ okq.ok (some ⟨gS, 0, none⟩) m.length W h hmq)
        dsimp only at HT
        rw [hlS] at HT
        have hb1 := hb0.trans (hb.mono (by omega))
        clear x0 x1 x2 fx q0
        obtain ⟨y0, y1, y2, fy⟩ := octbox kO
        go_wp2_with fail
        clear y0 y1 y2 fy
        (with_reducible refine (HT.out wr own.rd).mono ?_)
        clear HT
        rintro e8 w8 ⟨A8, c8, rfl, own8, hb8⟩
        replace q2 := q2.later hb8
        replace hb1 := bup hb1 hb8
        generalize closeO ⟨n, false, shiftM i dst k m⟩ = R at *
        obtain ⟨z0, z1, z2, fz⟩ := octbox q2
        go_wp2
        have q9 := q2.set3 (v0 := .int .i64 R.n) (v1 := .bool R.e) (v2 := .slice A8 R.m.length c8)
        have o9 := own8.far3 (g := w.heap.size + 1 + 1) (v0 := .int .i64 R.n) (v1 := .bool R.e) (v2 := .slice A8 R.m.length c8) (own_blk' own8 q2 (by decide))
        obtain ⟨r0, r1, r2, fr⟩ := octbox q9
        refine bodyPost_ret (v := .agg #[.int .i64 R.n, .bool R.e, .slice A8 R.m.length c8]) (by simp [results, Tryz.results197, go_sem, r0, r1, r2]) rfl ?_
        exact ⟨A8, c8, rfl, o9.less (by have := hb.size; have := HSZ.out; omega), hb1.trans (below3 (by omega) hb1.size)⟩
end
section
open Go.RowKit
attribute [local go_sem ↓] Go.wp_at_zero Go.wp_at_succ

/-! ### '==' at operands -/
theorem isagg_int' (w : World) : (isAgg 3).run Tryz.prog w = .ok false w := by kernel_rfl
theorem isagg_i64 (w : World) : (isAgg 2).run Tryz.prog w = .ok false w := by kernel_rfl
theorem run_eqi (d : Nat) (a c : Int) (w : World) : (Op.equalIn (d + 1) 3 (.int .i64 a) (.int .i64 c)).run Tryz.prog w = .ok (a == c) w := by
  simp [Op.equalIn, run_underlying Tryz.underlying3]
theorem run_eqi64 (d : Nat) (a c : Int) (w : World) : (Op.equalIn (d + 1) 2 (.int .i64 a) (.int .i64 c)).run Tryz.prog w = .ok (a == c) w := by
  simp [Op.equalIn, run_underlying Tryz.underlying2]
theorem part_0 (x y : Value) (w : World) : (Go.part 3 #[x, y] 0).run Tryz.prog w = .ok x w := by simp [Go.part]
theorem part_1 (x y : Value) (w : World) : (Go.part 2 #[x, y] 1).run Tryz.prog w = .ok y w := by simp [Go.part]
theorem stood (_w : World) : Tryz.prog.stoodInHeld 26 = false := by kernel_rfl
theorem run_equalIn_opd (d : Nat) (a b c e : Int) (w : World) : (Op.equalIn (d + 2) 26 (.agg #[.int .i64 a, .int .i64 b]) (.agg #[.int .i64 c, .int .i64 e])).run Tryz.prog w = .ok (a == c && b == e) w := by
  rw [Op.equalIn]
  simp only [Sem.run_bind, run_underlying Tryz.underlying26, Result.andThen_ok]
  simp [part_0, part_1, run_eqi, run_eqi64]
  by_cases h : a = c <;> by_cases h2 : b = e <;> simp [h, h2]
def opEq (a b c e : Int) : Bool := a == c && b == e
theorem run_opeq (a b c e : Int) (w : World) : (Op.equal 26 (.agg #[.int .i64 a, .int .i64 b]) (.agg #[.int .i64 c, .int .i64 e])).run Tryz.prog w = .ok (opEq a b c e) w := run_equalIn_opd 9998 a b c e w
theorem run_opeq2 (a b c e : Int) (w : World) : (Op.equalIn 10000 26 (.agg #[.int .i64 a, .int .i64 b]) (.agg #[.int .i64 c, .int .i64 e])).run Tryz.prog w = .ok (opEq a b c e) w := run_opeq a b c e w
end
section
open Go.RowKit

theorem rightT_eq (n fr te kd dst arr op av an bv bn : Int) : rightT n ⟨fr, te, kd, dst, arr, op, av, an, bv, bn⟩ = (decide (1 ≤ kd ∧ kd ≤ 14) && ((bif wDst kd then (decide (0 ≤ dst) && decide (dst < n)) else (dst == -1)) && ((bif wArr kd then decide (0 ≤ arr) else (arr == -1)) && ((bif wOp kd then (decide (1 ≤ op) && decide (op ≤ 6)) else (op == 0)) && ((bif wA kd then opdOk n av an else opEq av an (-1) 0) && (bif wB kd then opdOk n bv bn else opEq bv bn (-1) 0)))))) := by
  unfold rightT rightE opdNo opEq
  dsimp only
  generalize opdOk n av an = x1
  generalize opdOk n bv bn = x2
  have e1 : ∀ x y : Int, (x == y) = decide (x = y) := fun x y => by rw [Bool.eq_iff_iff]; simp
  simp only [e1, ← Bool.decide_and]
  by_cases h : 0 ≤ arr
  · rw [if_pos h, if_pos h]
    rw [show decide ((0 : Int) ≤ 0 ∧ (0 : Int) < 1) = true from rfl, show decide ((0 : Int) = -1) = false from rfl, show decide (0 ≤ arr) = true from decide_eq_true h, show decide (arr = -1) = false from decide_eq_false (by omega)]
    simp only [Bool.and_assoc]
  · rw [if_neg h, if_neg h]
    rw [show decide (0 ≤ arr ∧ arr < 0) = false from decide_eq_false (by omega), show decide (0 ≤ arr) = false from decide_eq_false h]
    simp only [Bool.and_assoc]
end
end Go.Proofs.YtnmpgijiimglcaaGreat
