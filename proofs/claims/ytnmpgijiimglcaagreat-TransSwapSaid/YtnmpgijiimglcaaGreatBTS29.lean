/-
  trans.Assume: what it answers.
  trans.shift's inner function: how far a side goes.
-/
import Derived.Test.YtnmpgijiimglcaaGreatAssumes
namespace Go.Proofs.YtnmpgijiimglcaaGreat
section
open Go.RowKit
attribute [local go_sem ↓] Go.wp_at_zero Go.wp_at_succ

/-- An octagon that reads so, and an error. -/
def ErrSx (w : World) (B : Nat) (o : O) (er : Int) (e : Ending) (w' : World) : Prop := ∃ A1 c1, e = .returned (.tuple #[.agg #[.int .i64 o.n, .bool o.e, .slice A1 o.m.length c1], .int .i64 er]) ∧ Sx w' B A1 o.m ∧ Below w.heap.size w w'
set_option maxHeartbeats 400000 in
theorem holds_ok (n : Int) (e : Bool) (A : Option Addr) (L c : Nat) (av an : Int) (w : World) : Calls Tryz.prog 57 #[.agg #[.int .i64 n, .bool e, .slice A L c], .agg #[.int .i64 av, .int .i64 an]] w fun e' w' => e' = .returned (.bool (decide (av < n))) ∧ Below w.heap.size w w' := by
  obtain ⟨p0, p1, hb0, hsz⟩ := new_two w #[.int .i64 n, .bool e, .slice A L c] #[.int .i64 av, .int .i64 an] 24 26
  clear hsz
  obtain ⟨x0, x1, x2, fx⟩ := octbox p0
  obtain ⟨y0, y1, fy⟩ := opbox p1
  cases t1 : decide (av < n)
  · go_enter Tryz.func57, Tryz.ntmps57
    go_wp2
    go_ret
    exact ⟨rfl, hb0⟩
  · go_enter Tryz.func57, Tryz.ntmps57
    go_wp2
    go_ret
    exact ⟨rfl, hb0⟩
theorem sx_nil (w : World) (B : Nat) : Sx w B none [] := .inr ⟨0, own_nil w B⟩

set_option maxRecDepth 8000 in
set_option maxHeartbeats 4000000 in
theorem tassume_any (o : O) (op av an bv bn : Int) (ia : I64 an) (ib : I64 bn) (A : Option Addr) (cap : Nat) (w : World) (hx : Rd w w.heap.size A o.m) (hm : o.m.length ≤ 17592186044416) (B : Nat) (hB : B ≤ w.heap.size) :
    Calls Tryz.prog 20 #[.agg #[.int .i64 o.n, .bool o.e, .slice A o.m.length cap], .int .i64 op, .agg #[.int .i64 av, .int .i64 an], .agg #[.int .i64 bv, .int .i64 bn]] w (ErrSx w B (assumeAns o op av an bv bn) (assumeErr o op av bv)) := by
  have HE : Hid (assumeErr o op av bv = if check o ≠ 0 then check o else if 1 ≤ op ∧ op ≤ 6 ∧ av < o.n ∧ bv < o.n then 0 else 160) := hid rfl
  have HR : Hid (assumeAns o op av an bv bn = if assumeErr o op av bv = 0 then assumeO o op av an bv bn else ⟨0, false, []⟩) := hid rfl
  generalize assumeAns o op av an bv bn = R at *
  generalize assumeErr o op av bv = E at *
  have HCK := hid (fun W (h : Rd W W.heap.size A o.m) => check_any o A cap W h (by omega))
  have HK : Hid (∃ k, k = check o) := hid ⟨_, rfl⟩
  obtain ⟨k, hk⟩ := HK.out
  rw [← hk] at HCK HE
  clear HK
  obtain ⟨p0, p1, p2, p3, hb0, hsz⟩ := new_four w #[.int .i64 o.n, .bool o.e, .slice A o.m.length cap] #[.int .i64 av, .int .i64 an] #[.int .i64 bv, .int .i64 bn] #[.int .i64 0, .bool false, .slice none 0 0] 24 26 26 24
  replace hx := hx.up hb0
  have HSZ := hid hsz
  clear hsz
  have HKK := hid hk
  clear hk
  obtain ⟨p0_0, p0_1, p0_2, p0_f⟩ := octbox p0
  obtain ⟨p1_0, p1_1, p1_f⟩ := opbox p1
  obtain ⟨p2_0, p2_1, p2_f⟩ := opbox p2
  go_enter Tryz.func20, Tryz.ntmps20
  go_wp2_with fail
  clear p0_0 p0_1 p0_2 p0_f p1_0 p1_1 p1_f p2_0 p2_1 p2_f
  generalize (((w.alloc (Obj.cells #[.int .i64 o.n, .bool o.e, .slice A o.m.length cap] 24)).alloc (Obj.cells #[.int .i64 av, .int .i64 an] 26)).alloc (Obj.cells #[.int .i64 bv, .int .i64 bn] 26)).alloc (Obj.cells #[.int .i64 0, .bool false, .slice none 0 0] 24) = w1 at *
  (with_reducible refine (HCK.out w1 hx).mono ?_)
  rintro e_w2 w2 ⟨rfl, hb_w2⟩
  replace p0 := p0.later hb_w2
  replace p1 := p1.later hb_w2
  replace p2 := p2.later hb_w2
  replace p3 := p3.later hb_w2
  replace hx := hx.up hb_w2
  replace hb0 := bup hb0 hb_w2
  cases t1 : (k != 0)
  rotate_left
  · have hk0 : k ≠ 0 := by simpa using t1
    have e1 : E = k := by rw [HE.out, if_pos hk0]
    have e2 : R = ⟨0, false, []⟩ := by rw [HR.out, e1, if_neg hk0]
    subst e2
    clear HR HE hk0
    subst e1
    obtain ⟨p3_0, p3_1, p3_2, p3_f⟩ := octbox p3
    go_wp2
    clear p3_0 p3_1 p3_2 p3_f
    have hBz := hb0.size
    have q9 := p3.set3 (v0 := .int .i64 0) (v1 := .bool false) (v2 := .slice none 0 0)
    have hb9 := hb0.trans (below3 (W := w2) (g := w.heap.size + 1 + 1 + 1) (v0 := .int .i64 0) (v1 := .bool false) (v2 := .slice none 0 0) (by omega) hb0.size)
    obtain ⟨z0, z1, z2, fz⟩ := octbox q9
    refine bodyPost_ret (v := .tuple #[.agg #[.int .i64 0, .bool false, .slice none 0 0], .int .i64 E]) (by simp [results, Tryz.results20, go_sem, z0, z1, z2]) rfl ?_
    exact ⟨none, 0, rfl, sx_nil _ _, hb9⟩
  · have hk0 : k = 0 := by simpa using t1
    subst hk0
    have hck : check o = 0 := HKK.out.symm
    have HCK0 := hid hck
    clear hck t1
    replace HE : Hid (E = if 1 ≤ op ∧ op ≤ 6 ∧ av < o.n ∧ bv < o.n then 0 else 160) := hid (by rw [HE.out, if_neg (by simp)])
    by_cases h1 : op < 1
    · have e1 : E = 160 := by rw [HE.out, if_neg (by omega)]
      have e2 : R = ⟨0, false, []⟩ := by rw [HR.out, e1, if_neg (by omega)]
      subst e2
      clear HR HE
      subst e1
      have t2 : decide (op < 1) = true := by rw [decide_eq_true_eq]; exact h1
      obtain ⟨p0_0, p0_1, p0_2, p0_f⟩ := octbox p0
      obtain ⟨p1_0, p1_1, p1_f⟩ := opbox p1
      obtain ⟨p2_0, p2_1, p2_f⟩ := opbox p2
      obtain ⟨p3_0, p3_1, p3_2, p3_f⟩ := octbox p3
      go_wp2
      clear p0_0 p0_1 p0_2 p0_f p1_0 p1_1 p1_f p2_0 p2_1 p2_f p3_0 p3_1 p3_2 p3_f
      have hBz := hb0.size
      have q9 := p3.set3 (v0 := .int .i64 0) (v1 := .bool false) (v2 := .slice none 0 0)
      have hb9 := hb0.trans (below3 (W := w2) (g := w.heap.size + 1 + 1 + 1) (v0 := .int .i64 0) (v1 := .bool false) (v2 := .slice none 0 0) (by omega) hb0.size)
      obtain ⟨z0, z1, z2, fz⟩ := octbox q9
      refine bodyPost_ret (v := .tuple #[.agg #[.int .i64 0, .bool false, .slice none 0 0], .int .i64 160]) (by simp [results, Tryz.results20, go_sem, z0, z1, z2]) rfl ?_
      exact ⟨none, 0, rfl, sx_nil _ _, hb9⟩
    · have t2 : decide (op < 1) = false := by rw [decide_eq_false_iff_not]; exact h1
      by_cases h2 : 6 < op
      · have e1 : E = 160 := by rw [HE.out, if_neg (by omega)]
        have e2 : R = ⟨0, false, []⟩ := by rw [HR.out, e1, if_neg (by omega)]
        subst e2
        clear HR HE
        subst e1
        have t3 : decide (6 < op) = true := by rw [decide_eq_true_eq]; exact h2
        obtain ⟨p0_0, p0_1, p0_2, p0_f⟩ := octbox p0
        obtain ⟨p1_0, p1_1, p1_f⟩ := opbox p1
        obtain ⟨p2_0, p2_1, p2_f⟩ := opbox p2
        obtain ⟨p3_0, p3_1, p3_2, p3_f⟩ := octbox p3
        go_wp2
        clear p0_0 p0_1 p0_2 p0_f p1_0 p1_1 p1_f p2_0 p2_1 p2_f p3_0 p3_1 p3_2 p3_f
        have hBz := hb0.size
        have q9 := p3.set3 (v0 := .int .i64 0) (v1 := .bool false) (v2 := .slice none 0 0)
        have hb9 := hb0.trans (below3 (W := w2) (g := w.heap.size + 1 + 1 + 1) (v0 := .int .i64 0) (v1 := .bool false) (v2 := .slice none 0 0) (by omega) hb0.size)
        obtain ⟨z0, z1, z2, fz⟩ := octbox q9
        refine bodyPost_ret (v := .tuple #[.agg #[.int .i64 0, .bool false, .slice none 0 0], .int .i64 160]) (by simp [results, Tryz.results20, go_sem, z0, z1, z2]) rfl ?_
        exact ⟨none, 0, rfl, sx_nil _ _, hb9⟩
      · have t3 : decide (6 < op) = false := by rw [decide_eq_false_iff_not]; exact h2
        obtain ⟨p0_0, p0_1, p0_2, p0_f⟩ := octbox p0
        obtain ⟨p1_0, p1_1, p1_f⟩ := opbox p1
        obtain ⟨p2_0, p2_1, p2_f⟩ := opbox p2
        go_wp2_with fail
        clear p0_0 p0_1 p0_2 p0_f p1_0 p1_1 p1_f p2_0 p2_1 p2_f
        (with_reducible refine (holds_ok o.n o.e A o.m.length cap av an w2).mono ?_)
        rintro e_w3 w3 ⟨rfl, hb_w3⟩
        replace p0 := p0.later hb_w3
        replace p1 := p1.later hb_w3
        replace p2 := p2.later hb_w3
        replace p3 := p3.later hb_w3
        replace hx := hx.up hb_w3
        replace hb0 := bup hb0 hb_w3
        by_cases h3 : av < o.n
        rotate_left
        · have e1 : E = 160 := by rw [HE.out, if_neg (by omega)]
          have e2 : R = ⟨0, false, []⟩ := by rw [HR.out, e1, if_neg (by omega)]
          subst e2
          clear HR HE
          subst e1
          rw [show decide (av < o.n) = false by rw [decide_eq_false_iff_not]; exact h3]
          obtain ⟨p3_0, p3_1, p3_2, p3_f⟩ := octbox p3
          go_wp2
          clear p3_0 p3_1 p3_2 p3_f
          have hBz := hb0.size
          have q9 := p3.set3 (v0 := .int .i64 0) (v1 := .bool false) (v2 := .slice none 0 0)
          have hb9 := hb0.trans (below3 (W := w3) (g := w.heap.size + 1 + 1 + 1) (v0 := .int .i64 0) (v1 := .bool false) (v2 := .slice none 0 0) (by omega) hb0.size)
          obtain ⟨z0, z1, z2, fz⟩ := octbox q9
          refine bodyPost_ret (v := .tuple #[.agg #[.int .i64 0, .bool false, .slice none 0 0], .int .i64 160]) (by simp [results, Tryz.results20, go_sem, z0, z1, z2]) rfl ?_
          exact ⟨none, 0, rfl, sx_nil _ _, hb9⟩
        · rw [show decide (av < o.n) = true by rw [decide_eq_true_eq]; exact h3]
          obtain ⟨p0_0, p0_1, p0_2, p0_f⟩ := octbox p0
          obtain ⟨p2_0, p2_1, p2_f⟩ := opbox p2
          go_wp2_with fail
          clear p0_0 p0_1 p0_2 p0_f p2_0 p2_1 p2_f
          (with_reducible refine (holds_ok o.n o.e A o.m.length cap bv bn w3).mono ?_)
          rintro e_w4 w4 ⟨rfl, hb_w4⟩
          replace p0 := p0.later hb_w4
          replace p1 := p1.later hb_w4
          replace p2 := p2.later hb_w4
          replace p3 := p3.later hb_w4
          replace hx := hx.up hb_w4
          replace hb0 := bup hb0 hb_w4
          by_cases h4 : bv < o.n
          rotate_left
          · have e1 : E = 160 := by rw [HE.out, if_neg (by omega)]
            have e2 : R = ⟨0, false, []⟩ := by rw [HR.out, e1, if_neg (by omega)]
            subst e2
            clear HR HE
            subst e1
            rw [show decide (bv < o.n) = false by rw [decide_eq_false_iff_not]; exact h4]
            obtain ⟨p3_0, p3_1, p3_2, p3_f⟩ := octbox p3
            go_wp2
            clear p3_0 p3_1 p3_2 p3_f
            have hBz := hb0.size
            have q9 := p3.set3 (v0 := .int .i64 0) (v1 := .bool false) (v2 := .slice none 0 0)
            have hb9 := hb0.trans (below3 (W := w4) (g := w.heap.size + 1 + 1 + 1) (v0 := .int .i64 0) (v1 := .bool false) (v2 := .slice none 0 0) (by omega) hb0.size)
            obtain ⟨z0, z1, z2, fz⟩ := octbox q9
            refine bodyPost_ret (v := .tuple #[.agg #[.int .i64 0, .bool false, .slice none 0 0], .int .i64 160]) (by simp [results, Tryz.results20, go_sem, z0, z1, z2]) rfl ?_
            exact ⟨none, 0, rfl, sx_nil _ _, hb9⟩
          · rw [show decide (bv < o.n) = true by rw [decide_eq_true_eq]; exact h4]
            have e1 : E = 0 := by rw [HE.out, if_pos (by omega)]
            replace HR : Hid (R = if (closeO o).e then closeO o else assumesO (closeO o) op av an bv bn) := hid (by rw [HR.out, e1, if_pos rfl]; rfl)
            clear HE
            subst e1
            have hop : 1 ≤ op ∧ op ≤ 6 := by omega
            have HOP := hid hop
            have HAB := hid (And.intro h3 h4)
            clear hop h1 h2 h3 h4 t2 t3
            obtain ⟨p0_0, p0_1, p0_2, p0_f⟩ := octbox p0
            go_wp2_with fail
            clear p0_0 p0_1 p0_2 p0_f
            have hle : w.heap.size ≤ w4.heap.size := hb0.size
            have hBc := Nat.le_trans hB hle
            (with_reducible refine (tclosed_ok o HCK0.out A cap w4 hx hm).mono ?_)
            rintro e_w5 w5 ⟨Ac, cc, rfl, ownc, hb_w5⟩
            have sxc := Sx.of_own ownc hBc
            replace p0 := p0.later hb_w5
            replace p1 := p1.later hb_w5
            replace p2 := p2.later hb_w5
            replace p3 := p3.later hb_w5
            replace hx := hx.up hb_w5
            replace hb0 := bup hb0 hb_w5
            have okc : OkO o.n (closeO o) := OkO.close ⟨rfl, HCK0.out⟩
            have hmc := OkO.small okc
            rcases okc.form with hE | ⟨N, cm, hN, hn, hE, hc⟩
            · replace HR : Hid (R = emptyO o.n) := hid (by rw [HR.out, hE]; rfl)
              rw [hE] at sxc ⊢
              unfold emptyO at *
              dsimp only at *
              replace sxc : Sx w5 B Ac [] := sxc
              clear hE hmc okc
              simp only [List.length_nil]
              obtain ⟨p5, hbn, -⟩ := new_one w5 #[.int .i64 o.n, .bool true, .slice Ac 0 cc] 24
              replace p0 := p0.later hbn
              replace p1 := p1.later hbn
              replace p2 := p2.later hbn
              replace p3 := p3.later hbn
              replace sxc := sxc.later hbn (Nat.le_trans hB hb0.size)
              replace hx := hx.up hbn
              replace hb0 := bup hb0 hbn
              obtain ⟨p5_0, p5_1, p5_2, p5_f⟩ := octbox p5
              obtain ⟨p3_0, p3_1, p3_2, p3_f⟩ := octbox p3
              go_wp2
              clear p5_0 p5_1 p5_2 p5_f p3_0 p3_1 p3_2 p3_f
              generalize w5.alloc (Obj.cells #[.int .i64 o.n, .bool true, .slice Ac 0 cc] 24) = w6 at *
              have hBz := hb0.size
              have s9 := sxc.far3 (g := w.heap.size + 1 + 1 + 1) (v0 := .int .i64 o.n) (v1 := .bool true) (v2 := .slice Ac 0 cc) (by omega) p3 (by decide)
              rw [HR.out]
              have q9 := p3.set3 (v0 := .int .i64 o.n) (v1 := .bool true) (v2 := .slice Ac 0 cc)
              have hb9 := hb0.trans (below3 (W := w6) (g := w.heap.size + 1 + 1 + 1) (v0 := .int .i64 o.n) (v1 := .bool true) (v2 := .slice Ac 0 cc) (by omega) hb0.size)
              obtain ⟨z0, z1, z2, fz⟩ := octbox q9
              refine bodyPost_ret (v := .tuple #[.agg #[.int .i64 o.n, .bool true, .slice Ac 0 cc], .int .i64 0]) (by simp [results, Tryz.results20, go_sem, z0, z1, z2]) rfl ?_
              exact ⟨_, _, rfl, s9, hb9⟩
            · replace HR : Hid (R = assumesO ⟨o.n, false, cm⟩ op av an bv bn) := hid (by rw [HR.out, hE]; rfl)
              rw [hE] at sxc hmc ⊢
              dsimp only at *
              clear hE okc
              obtain ⟨u0, u1, u2, uf⟩ := octbox p3
              obtain ⟨p5, hbn, -⟩ := new_one w5 #[.int .i64 o.n, .bool false, .slice Ac cm.length cc] 24
              replace p0 := p0.later hbn
              replace p1 := p1.later hbn
              replace p2 := p2.later hbn
              replace p3 := p3.later hbn
              replace sxc := sxc.later hbn (Nat.le_trans hB hb0.size)
              replace hx := hx.up hbn
              replace hb0 := bup hb0 hbn
              obtain ⟨p5_0, p5_1, p5_2, p5_f⟩ := octbox p5
              obtain ⟨p1_0, p1_1, p1_f⟩ := opbox p1
              obtain ⟨p2_0, p2_1, p2_f⟩ := opbox p2
              go_wp2_with fail
              clear u0 u1 u2 uf p5_0 p5_1 p5_2 p5_f p1_0 p1_1 p1_f p2_0 p2_1 p2_f
              generalize w5.alloc (Obj.cells #[.int .i64 o.n, .bool false, .slice Ac cm.length cc] 24) = w6 at *
              have hBd := Nat.le_trans hB hb0.size
              (with_reducible refine (assumes_ok o.n cm N hN hn hc op av an bv bn HOP.out HAB.out.1 HAB.out.2 ia ib Ac cc w6 B hBd sxc hmc).mono ?_)
              rintro e_w7 w7 ⟨A2, c2, rfl, sx2, hb_w7⟩
              replace p0 := p0.later hb_w7
              replace p1 := p1.later hb_w7
              replace p2 := p2.later hb_w7
              replace p3 := p3.later hb_w7
              replace p5 := p5.later hb_w7
              replace sxc := sxc.later hb_w7 (Nat.le_trans hB hb0.size)
              replace hx := hx.up hb_w7
              replace hb0 := bup hb0 hb_w7
              rw [← HR.out] at sx2 ⊢
              obtain ⟨p3_0, p3_1, p3_2, p3_f⟩ := octbox p3
              go_wp2
              clear p3_0 p3_1 p3_2 p3_f
              have hBz := hb0.size
              have s9 := sx2.far3 (g := w.heap.size + 1 + 1 + 1) (v0 := .int .i64 R.n) (v1 := .bool R.e) (v2 := .slice A2 R.m.length c2) (by omega) p3 (by decide)
              have q9 := p3.set3 (v0 := .int .i64 R.n) (v1 := .bool R.e) (v2 := .slice A2 R.m.length c2)
              have hb9 := hb0.trans (below3 (W := w7) (g := w.heap.size + 1 + 1 + 1) (v0 := .int .i64 R.n) (v1 := .bool R.e) (v2 := .slice A2 R.m.length c2) (by omega) hb0.size)
              obtain ⟨z0, z1, z2, fz⟩ := octbox q9
              refine bodyPost_ret (v := .tuple #[.agg #[.int .i64 R.n, .bool R.e, .slice A2 R.m.length c2], .int .i64 0]) (by simp [results, Tryz.results20, go_sem, z0, z1, z2]) rfl ?_
              exact ⟨_, _, rfl, s9, hb9⟩
end
section
open Go.RowKit
attribute [local go_sem ↓] Go.wp_at_zero Go.wp_at_succ

set_option maxRecDepth 8000 in
set_option maxHeartbeats 1000000 in
theorem by_ok (dst i : Nat) (k : Int) (g1 g2 : Nat) (w : World) (h1 : Blk w g1 3 #[.int .i64 (dst : Int)]) (h2 : Blk w g2 224 #[.int .i64 k, .int .i64 (-k)]) (hi : i ≤ 1000) :
    Calls Tryz.prog 238 #[.int .i64 (i : Int), .pointer (some ⟨g1, 0, none⟩), .pointer (some ⟨g2, 0, none⟩)] w fun e w' => e = .returned (.int .i64 (byK dst k i)) ∧ w' = w := by
  have x0 := h1.cell 0
  have y0 := h2.cell 0
  have y1 := h2.cell 1
  obtain ⟨q, hq⟩ : ∃ q : Nat, q = i / 2 := ⟨_, rfl⟩
  have e1 : (i : Int).tdiv 2 = (q : Int) := by rw [hq]; exact (Int.tdiv_eq_ediv_of_nonneg (by omega)).trans (by omega)
  have e2 : (i : Int) / 2 = (q : Int) := by rw [hq]; omega
  have hq2 : (q : Int) ≤ 1000 := by omega
  have e5 : ((i / 2 : Nat) : Int) = (q : Int) := by rw [hq]
  obtain ⟨r, hr⟩ : ∃ r : Nat, r = i % 2 := ⟨_, rfl⟩
  have HB : Hid (byK dst k i = if q = dst then (if r = 0 then k else -k) else 0) := hid (by unfold byK; rw [← hq, ← hr])
  have hr2 : r = 0 ∨ r = 1 := by omega
  have e3 : (i : Int).tmod 2 = (r : Int) := by rw [hr]; exact (Int.tmod_eq_emod_of_nonneg (by omega)).trans (by omega)
  have e4 : (i : Int) % 2 = (r : Int) := by rw [hr]; omega
  clear hq hr
  by_cases hd : q = dst
  · subst hd
    have t1 : ((q : Int) == (q : Int)) = true := by simp
    rcases hr2 with rfl | rfl
    · go_enter Tryz.func238, Tryz.ntmps238
      go_wp2
      go_ret
      exact ⟨by rw [HB.out]; simp, rfl⟩
    · go_enter Tryz.func238, Tryz.ntmps238
      go_wp2
      go_ret
      exact ⟨by rw [HB.out]; simp, rfl⟩
  · have t1 : ((q : Int) == (dst : Int)) = false := by rw [beq_eq_false_iff_ne]; omega
    go_enter Tryz.func238, Tryz.ntmps238
    have HD := hid hd
    clear hd
    go_wp2
    go_ret
    exact ⟨by rw [HB.out, if_neg HD.out]; rfl, rfl⟩
end
end Go.Proofs.YtnmpgijiimglcaaGreat
