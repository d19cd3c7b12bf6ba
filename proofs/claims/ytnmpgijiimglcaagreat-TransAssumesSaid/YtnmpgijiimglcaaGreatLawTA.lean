/-
  gnomonlaw16.TransAssumes.
-/
import Derived.Test.YtnmpgijiimglcaaGreatBTA40
import Derived.Test.YtnmpgijiimglcaaGreatBTA47
namespace Go.Proofs.YtnmpgijiimglcaaGreat
open Go.RowKit
attribute [local go_sem ↓] Go.wp_at_zero Go.wp_at_succ

set_option maxRecDepth 8000 in
set_option maxHeartbeats 8000000 in
theorem transAssumes_walk (o : O) (op av an bv bn : Int) (_ : I64 av) (ia : I64 an) (_ : I64 bv) (ib : I64 bn) (A : Option Addr) (cap : Nat) (w : World) (hx : Rd w w.heap.size A o.m) (hm : o.m.length ≤ 17592186044416) :
    Calls Tryz.prog 3 #[.agg #[.int .i64 o.n, .bool o.e, .slice A o.m.length cap], .int .i64 op, .agg #[.int .i64 av, .int .i64 an], .agg #[.int .i64 bv, .int .i64 bn]] w fun e w' => e = .returned (.bool true) ∧ Below w.heap.size w w' := by
  have HE : Hid (assumeErr o op av bv = if check o ≠ 0 then check o else if 1 ≤ op ∧ op ≤ 6 ∧ av < o.n ∧ bv < o.n then 0 else 160) := hid rfl
  have HR : Hid (assumeAns o op av an bv bn = if assumeErr o op av bv = 0 then assumeO o op av an bv bn else ⟨0, false, []⟩) := hid rfl
  have HT := hid (fun W (h : Rd W W.heap.size A o.m) => tassume_any o op av an bv bn ia ib A cap W h hm W.heap.size (Nat.le_refl _))
  have HRA := hid (fun hk hop ha hb W (h : Rd W W.heap.size A o.m) => rAssume_ok o hk op av an bv bn hop ha hb ia ib A cap W h hm)
  have HST := hid (fun hk W (h : Rd W W.heap.size A o.m) => steady_ok o A cap W h hm hk)
  have HCK := hid (fun W (h : Rd W W.heap.size A o.m) => rcheck_any o A cap W h (by omega))
  have HSM : Hid (assumeErr o op av bv = 0 → (assumeAns o op av an bv bn).m.length ≤ 17592186044416) := hid (fun h => by
    unfold assumeAns; rw [if_pos h]
    unfold assumeErr at h
    by_cases hk : check o = 0
    · rw [if_neg (by simpa using hk)] at h
      have hh : 1 ≤ op ∧ op ≤ 6 ∧ av < o.n ∧ bv < o.n := by
        by_cases q : 1 ≤ op ∧ op ≤ 6 ∧ av < o.n ∧ bv < o.n
        · exact q
        · rw [if_neg q] at h; omega
      have ok : OkO o.n o := ⟨rfl, hk⟩
      unfold assumeO
      split
      · exact OkO.small ok.close
      · exact OkO.small (ok.close.assumes hh.2.2.1 hh.2.2.2)
    · rw [if_pos hk] at h; exact absurd h hk)
  generalize assumeAns o op av an bv bn = R at *
  generalize assumeErr o op av bv = E at *
  generalize assumeO o op av an bv bn = AO at *
  generalize check o = k at *
  obtain ⟨p0, p1, p2, hb0, hsz⟩ := new_three w #[.int .i64 o.n, .bool o.e, .slice A o.m.length cap] #[.int .i64 av, .int .i64 an] #[.int .i64 bv, .int .i64 bn] 24 26 26
  replace hx := hx.up hb0
  clear hsz
  go_enter Tryz.func3, Tryz.ntmps3
  go_wp2_with fail
  generalize ((w.alloc (Obj.cells #[.int .i64 o.n, .bool o.e, .slice A o.m.length cap] 24)).alloc (Obj.cells #[.int .i64 av, .int .i64 an] 26)).alloc (Obj.cells #[.int .i64 bv, .int .i64 bn] 26) = w1 at *
  (with_reducible refine (known16_any w1).mono ?_)
  rintro e_w2 w2 ⟨rfl, hb_w2⟩
  replace p0 := p0.later hb_w2
  replace p1 := p1.later hb_w2
  replace p2 := p2.later hb_w2
  replace hx := hx.up hb_w2
  replace hb0 := bup hb0 hb_w2
  obtain ⟨p0_0, p0_1, p0_2, p0_f⟩ := octbox p0
  obtain ⟨p1_0, p1_1, p1_f⟩ := opbox p1
  obtain ⟨p2_0, p2_1, p2_f⟩ := opbox p2
  go_wp2_with fail
  clear p0_0 p0_1 p0_2 p0_f p1_0 p1_1 p1_f p2_0 p2_1 p2_f
  (with_reducible refine (HT.out w2 hx).mono ?_)
  rintro e_w3 w3 ⟨A1, c1, rfl, sx1, hb_w3⟩
  have hr1 := sx1.rd hb_w3.size
  clear sx1
  replace p0 := p0.later hb_w3
  replace p1 := p1.later hb_w3
  replace p2 := p2.later hb_w3
  replace hx := hx.up hb_w3
  replace hb0 := bup hb0 hb_w3
  obtain ⟨p4, hbn, -⟩ := new_one w3 #[.int .i64 R.n, .bool R.e, .slice A1 R.m.length c1] 24
  replace p0 := p0.later hbn
  replace p1 := p1.later hbn
  replace p2 := p2.later hbn
  replace hx := hx.up hbn
  replace hr1 := hr1.up hbn
  replace hb0 := bup hb0 hbn
  obtain ⟨p0_0, p0_1, p0_2, p0_f⟩ := octbox p0
  go_wp2_with fail
  clear p0_0 p0_1 p0_2 p0_f
  generalize w3.alloc (Obj.cells #[.int .i64 R.n, .bool R.e, .slice A1 R.m.length c1] 24) = w4 at *
  (with_reducible refine (HCK.out w4 hx).mono ?_)
  rintro e_w5 w5 ⟨rfl, hb_w5⟩
  replace p0 := p0.later hb_w5
  replace p1 := p1.later hb_w5
  replace p2 := p2.later hb_w5
  replace p4 := p4.later hb_w5
  replace hx := hx.up hb_w5
  replace hr1 := hr1.up hb_w5
  replace hb0 := bup hb0 hb_w5
  clear HCK HT
  by_cases hk : k = 0
  rotate_left
  · have t1 : (k == 0) = false := by rw [beq_eq_false_iff_ne]; exact hk
    have t2 : (k != 0) = true := by rw [bne_iff_ne]; exact hk
    have e1 : E = k := by rw [HE.out, if_pos hk]
    have e2 : R = ⟨0, false, []⟩ := by rw [HR.out, e1, if_neg hk]
    subst e2
    subst e1
    have t3 : (E == E) = true := by simp
    clear HR HE HSM HRA HST hk
    dsimp only [List.length_nil] at *
    obtain ⟨p4_0, p4_1, p4_2, p4_f⟩ := octbox p4
    go_wp2_with fail
    clear p4_0 p4_1 p4_2 p4_f
    have HO := hid (oct_any ⟨0, false, []⟩ ⟨0, false, []⟩ A1 none c1 0 w5 hr1 (fun k hk => by simp at hk) (by simp))
    rw [eqO_same] at HO
    dsimp only [List.length_nil] at HO
    (with_reducible refine (HO.out).mono ?_)
    rintro e_w6 w6 ⟨rfl, hb_w6⟩
    go_wp2
    go_ret
    exact ⟨rfl, bup hb0 hb_w6⟩
  · subst hk
    replace HE : Hid (E = if 1 ≤ op ∧ op ≤ 6 ∧ av < o.n ∧ bv < o.n then 0 else 160) := hid (by rw [HE.out, if_neg (by simp)])
    by_cases h1 : op < 1
    · have e1 : E = 160 := by rw [HE.out, if_neg (by omega)]
      have e2 : R = ⟨0, false, []⟩ := by rw [HR.out, e1, if_neg (by omega)]
      subst e2
      subst e1
      clear HR HE HSM HRA HST
      dsimp only [List.length_nil] at *
      have t2 : decide (op < 1) = true := by rw [decide_eq_true_eq]; omega
      clear h1
      obtain ⟨p4_0, p4_1, p4_2, p4_f⟩ := octbox p4
      go_wp2_with fail
      clear p4_0 p4_1 p4_2 p4_f
      have HO := hid (oct_any ⟨0, false, []⟩ ⟨0, false, []⟩ A1 none c1 0 w5 hr1 (fun k hk => by simp at hk) (by simp))
      rw [eqO_same] at HO
      dsimp only [List.length_nil] at HO
      (with_reducible refine (HO.out).mono ?_)
      rintro e_w6 w6 ⟨rfl, hb_w6⟩
      go_wp2
      go_ret
      exact ⟨rfl, bup hb0 hb_w6⟩
    · have t2 : decide (op < 1) = false := by rw [decide_eq_false_iff_not]; omega
      by_cases h2 : 6 < op
      · have e1 : E = 160 := by rw [HE.out, if_neg (by omega)]
        have e2 : R = ⟨0, false, []⟩ := by rw [HR.out, e1, if_neg (by omega)]
        subst e2
        subst e1
        clear HR HE HSM HRA HST
        dsimp only [List.length_nil] at *
        have t3 : decide (6 < op) = true := by rw [decide_eq_true_eq]; omega
        clear h1 h2
        obtain ⟨p4_0, p4_1, p4_2, p4_f⟩ := octbox p4
        go_wp2_with fail
        clear p4_0 p4_1 p4_2 p4_f
        have HO := hid (oct_any ⟨0, false, []⟩ ⟨0, false, []⟩ A1 none c1 0 w5 hr1 (fun k hk => by simp at hk) (by simp))
        rw [eqO_same] at HO
        dsimp only [List.length_nil] at HO
        (with_reducible refine (HO.out).mono ?_)
        rintro e_w6 w6 ⟨rfl, hb_w6⟩
        go_wp2
        go_ret
        exact ⟨rfl, bup hb0 hb_w6⟩
      · have t3 : decide (6 < op) = false := by rw [decide_eq_false_iff_not]; omega
        obtain ⟨p0_0, p0_1, p0_2, p0_f⟩ := octbox p0
        obtain ⟨p1_0, p1_1, p1_f⟩ := opbox p1
        go_wp2_with fail
        clear p0_0 p0_1 p0_2 p0_f p1_0 p1_1 p1_f
        (with_reducible refine (there_ok o.n av an w5).mono ?_)
        rintro e_w6 w6 ⟨rfl, hb_w6⟩
        replace p0 := p0.later hb_w6
        replace p1 := p1.later hb_w6
        replace p2 := p2.later hb_w6
        replace p4 := p4.later hb_w6
        replace hx := hx.up hb_w6
        replace hr1 := hr1.up hb_w6
        replace hb0 := bup hb0 hb_w6
        by_cases h3 : av < o.n
        rotate_left
        · have e1 : E = 160 := by rw [HE.out, if_neg (by omega)]
          have e2 : R = ⟨0, false, []⟩ := by rw [HR.out, e1, if_neg (by omega)]
          subst e2
          subst e1
          clear HR HE HSM HRA HST
          dsimp only [List.length_nil] at *
          rw [show decide (av < o.n) = false by rw [decide_eq_false_iff_not]; exact h3]
          clear h1 h2 h3
          obtain ⟨p4_0, p4_1, p4_2, p4_f⟩ := octbox p4
          go_wp2_with fail
          clear p4_0 p4_1 p4_2 p4_f
          have HO := hid (oct_any ⟨0, false, []⟩ ⟨0, false, []⟩ A1 none c1 0 w6 hr1 (fun k hk => by simp at hk) (by simp))
          rw [eqO_same] at HO
          dsimp only [List.length_nil] at HO
          (with_reducible refine (HO.out).mono ?_)
          rintro e_w7 w7 ⟨rfl, hb_w7⟩
          go_wp2
          go_ret
          exact ⟨rfl, bup hb0 hb_w7⟩
        · rw [show decide (av < o.n) = true by rw [decide_eq_true_eq]; exact h3]
          obtain ⟨p0_0, p0_1, p0_2, p0_f⟩ := octbox p0
          obtain ⟨p2_0, p2_1, p2_f⟩ := opbox p2
          go_wp2_with fail
          clear p0_0 p0_1 p0_2 p0_f p2_0 p2_1 p2_f
          (with_reducible refine (there_ok o.n bv bn w6).mono ?_)
          rintro e_w7 w7 ⟨rfl, hb_w7⟩
          replace p0 := p0.later hb_w7
          replace p1 := p1.later hb_w7
          replace p2 := p2.later hb_w7
          replace p4 := p4.later hb_w7
          replace hx := hx.up hb_w7
          replace hr1 := hr1.up hb_w7
          replace hb0 := bup hb0 hb_w7
          by_cases h4 : bv < o.n
          rotate_left
          · have e1 : E = 160 := by rw [HE.out, if_neg (by omega)]
            have e2 : R = ⟨0, false, []⟩ := by rw [HR.out, e1, if_neg (by omega)]
            subst e2
            subst e1
            clear HR HE HSM HRA HST
            dsimp only [List.length_nil] at *
            rw [show decide (bv < o.n) = false by rw [decide_eq_false_iff_not]; exact h4]
            clear h1 h2 h3 h4
            obtain ⟨p4_0, p4_1, p4_2, p4_f⟩ := octbox p4
            go_wp2_with fail
            clear p4_0 p4_1 p4_2 p4_f
            have HO := hid (oct_any ⟨0, false, []⟩ ⟨0, false, []⟩ A1 none c1 0 w7 hr1 (fun k hk => by simp at hk) (by simp))
            rw [eqO_same] at HO
            dsimp only [List.length_nil] at HO
            (with_reducible refine (HO.out).mono ?_)
            rintro e_w8 w8 ⟨rfl, hb_w8⟩
            go_wp2
            go_ret
            exact ⟨rfl, bup hb0 hb_w8⟩
          · rw [show decide (bv < o.n) = true by rw [decide_eq_true_eq]; exact h4]
            have e1 : E = 0 := by rw [HE.out, if_pos (by omega)]
            have e2 : R = AO := by rw [HR.out, e1, if_pos rfl]
            subst e1
            subst e2
            have HRA2 := hid (fun W h => HRA.out (by first | rfl | trivial) (by omega) h3 h4 W h)
            have HST2 := hid (fun W h => HST.out (by first | rfl | trivial) W h)
            have HM := hid (HSM.out (by first | rfl | trivial))
            clear HR HE HSM HRA HST h1 h2 h3 h4
            go_upto_region 9 with fail
            have f0 := laterE (show w7.cell? ⟨w.heap.size, 0, none⟩ = some (.int .i64 o.n) from p0.cell 0)
            have f1 := laterE (show w7.cell? ⟨w.heap.size, 1, none⟩ = some (.bool o.e) from p0.cell 1)
            have f2 := laterE (show w7.cell? ⟨w.heap.size, 2, none⟩ = some (.slice A o.m.length cap) from p0.cell 2)
            have j0 := laterE (show w7.cell? ⟨w.heap.size + 1, 0, none⟩ = some (.int .i64 av) from p1.cell 0)
            have j1 := laterE (show w7.cell? ⟨w.heap.size + 1, 1, none⟩ = some (.int .i64 an) from p1.cell 1)
            have l0 := laterE (show w7.cell? ⟨w.heap.size + 1 + 1, 0, none⟩ = some (.int .i64 bv) from p2.cell 0)
            have l1 := laterE (show w7.cell? ⟨w.heap.size + 1 + 1, 1, none⟩ = some (.int .i64 bn) from p2.cell 1)
            have q0 := laterE (show w7.cell? ⟨w3.heap.size, 0, none⟩ = some (.int .i64 R.n) from p4.cell 0)
            have q1 := laterE (show w7.cell? ⟨w3.heap.size, 1, none⟩ = some (.bool R.e) from p4.cell 1)
            have q2 := laterE (show w7.cell? ⟨w3.heap.size, 2, none⟩ = some (.slice A1 R.m.length c1) from p4.cell 2)
            cases hst : steadyB o
            · refine wp_region_flowE 13 [Sp.val (.int .i64 0), Sp.val (.bool true), Sp.val (.bool true), Sp.val (.agg #[.int .i64 o.n, .bool o.e, .slice A o.m.length cap]), Sp.val (.bool false), Sp.val (.bool true), Sp.val (.bool true), Sp.val undef, Sp.val undef, Sp.val undef, Sp.val undef, Sp.val undef, Sp.val undef] (by kernel_rfl) (by kernel_rfl) ?_
              (refine FlowE.take (by rfl) (fun W hW R hR => ?_) (fun _ _ => ?_); (go_simp; (try go_bits); with_reducible exact hR); simp only [Act.put, List.setIfInBounds_toArray, List.set_cons_zero, List.set_cons_succ])
              (refine FlowE.take (by rfl) (fun W hW R hR => ?_) (fun _ _ => ?_); (go_simp; (try go_bits); with_reducible exact hR); simp only [Act.put, List.setIfInBounds_toArray, List.set_cons_zero, List.set_cons_succ])
              (refine FlowE.take (by rfl) (fun W hW R hR => ?_) (fun _ _ => ?_); (go_simp; (try go_bits); with_reducible exact hR); simp only [Act.put, List.setIfInBounds_toArray, List.set_cons_zero, List.set_cons_succ])
              (refine FlowE.take (by rfl) (fun W hW R hR => ?_) (fun _ _ => ?_); (go_simp; (try go_bits); with_reducible exact hR); simp only [Act.put, List.setIfInBounds_toArray, List.set_cons_zero, List.set_cons_succ])
              refine FlowE.callFV (by rfl) (fun W hW hf => ⟨24, #[.agg #[.int .i64 o.n, .bool o.e, .slice A o.m.length cap]], by go_simp, ?_⟩) (fun l4 h4 => ?_)
              · have h := HST2.out W (hx.up (Ext.trans (Below.refl _ _).drew hW))
                rw [hst] at h
                exact h
              simp only [Act.put, List.setIfInBounds_toArray, List.set_cons_zero, List.set_cons_succ]
              (refine FlowE.take (by rfl) (fun W hW R hR => ?_) (fun _ _ => ?_); (go_simp; (try go_bits); with_reducible exact hR); simp only [Act.put, List.setIfInBounds_toArray, List.set_cons_zero, List.set_cons_succ])
              (refine FlowE.take (by rfl) (fun W hW R hR => ?_) (fun _ _ => ?_); (go_simp; (try go_bits); with_reducible exact hR); simp only [Act.put, List.setIfInBounds_toArray, List.set_cons_zero, List.set_cons_succ])
              iterate 6 (refine FlowE.skip (by rfl) (fun _ _ => ?_); simp only [Act.put, List.setIfInBounds_toArray, List.set_cons_zero, List.set_cons_succ])
              refine FlowE.tail (fun W hW hf hd => ?_)
              replace hW : Below w7.heap.size w7 W := Ext.trans (Below.refl _ _).drew hW
              clear hf hd f0 f1 f2 j0 j1 l0 l1 q0 q1 q2
              go_wp2
              go_ret
              exact ⟨rfl, bup hb0 hW⟩
            · refine wp_region_flowE 13 [Sp.val (.int .i64 0), Sp.val (.bool true), Sp.val (.bool true), Sp.val (.agg #[.int .i64 o.n, .bool o.e, .slice A o.m.length cap]), Sp.val (.bool true), Sp.val (.bool false), Sp.val (.bool false), Sp.val (.agg #[.int .i64 R.n, .bool R.e, .slice A1 R.m.length c1]), Sp.val (.agg #[.int .i64 o.n, .bool o.e, .slice A o.m.length cap]), Sp.val (.int .i64 op), Sp.val (.agg #[.int .i64 av, .int .i64 an]), Sp.val (.agg #[.int .i64 bv, .int .i64 bn]), Sp.any (IsOct R)] (by kernel_rfl) (by kernel_rfl) ?_
              (refine FlowE.take (by rfl) (fun W hW R hR => ?_) (fun _ _ => ?_); (go_simp; (try go_bits); with_reducible exact hR); simp only [Act.put, List.setIfInBounds_toArray, List.set_cons_zero, List.set_cons_succ])
              (refine FlowE.take (by rfl) (fun W hW R hR => ?_) (fun _ _ => ?_); (go_simp; (try go_bits); with_reducible exact hR); simp only [Act.put, List.setIfInBounds_toArray, List.set_cons_zero, List.set_cons_succ])
              (refine FlowE.take (by rfl) (fun W hW R hR => ?_) (fun _ _ => ?_); (go_simp; (try go_bits); with_reducible exact hR); simp only [Act.put, List.setIfInBounds_toArray, List.set_cons_zero, List.set_cons_succ])
              (refine FlowE.take (by rfl) (fun W hW R hR => ?_) (fun _ _ => ?_); (go_simp; (try go_bits); with_reducible exact hR); simp only [Act.put, List.setIfInBounds_toArray, List.set_cons_zero, List.set_cons_succ])
              refine FlowE.callFV (by rfl) (fun W hW hf => ⟨24, #[.agg #[.int .i64 o.n, .bool o.e, .slice A o.m.length cap]], by go_simp, ?_⟩) (fun l4 h4 => ?_)
              · have h := HST2.out W (hx.up (Ext.trans (Below.refl _ _).drew hW))
                rw [hst] at h
                exact h
              simp only [Act.put, List.setIfInBounds_toArray, List.set_cons_zero, List.set_cons_succ]
              (refine FlowE.take (by rfl) (fun W hW R hR => ?_) (fun _ _ => ?_); (go_simp; (try go_bits); with_reducible exact hR); simp only [Act.put, List.setIfInBounds_toArray, List.set_cons_zero, List.set_cons_succ])
              (refine FlowE.take (by rfl) (fun W hW R hR => ?_) (fun _ _ => ?_); (go_simp; (try go_bits); with_reducible exact hR); simp only [Act.put, List.setIfInBounds_toArray, List.set_cons_zero, List.set_cons_succ])
              (refine FlowE.take (by rfl) (fun W hW R hR => ?_) (fun _ _ => ?_); (go_simp; (try go_bits); with_reducible exact hR); simp only [Act.put, List.setIfInBounds_toArray, List.set_cons_zero, List.set_cons_succ])
              (refine FlowE.take (by rfl) (fun W hW R hR => ?_) (fun _ _ => ?_); (go_simp; (try go_bits); with_reducible exact hR); simp only [Act.put, List.setIfInBounds_toArray, List.set_cons_zero, List.set_cons_succ])
              (refine FlowE.take (by rfl) (fun W hW R hR => ?_) (fun _ _ => ?_); (go_simp; (try go_bits); with_reducible exact hR); simp only [Act.put, List.setIfInBounds_toArray, List.set_cons_zero, List.set_cons_succ])
              (refine FlowE.take (by rfl) (fun W hW R hR => ?_) (fun _ _ => ?_); (go_simp; (try go_bits); with_reducible exact hR); simp only [Act.put, List.setIfInBounds_toArray, List.set_cons_zero, List.set_cons_succ])
              (refine FlowE.take (by rfl) (fun W hW R hR => ?_) (fun _ _ => ?_); (go_simp; (try go_bits); with_reducible exact hR); simp only [Act.put, List.setIfInBounds_toArray, List.set_cons_zero, List.set_cons_succ])
              refine FlowE.call 25 #[.agg #[.int .i64 o.n, .bool o.e, .slice A o.m.length cap], .int .i64 op, .agg #[.int .i64 av, .int .i64 an], .agg #[.int .i64 bv, .int .i64 bn]] (by rfl) (fun W hW => by go_simp) (fun W hW => (HRA2.out W (hx.up (Ext.trans (Below.refl _ _).drew hW))).mono fun _ _ ⟨A1, c1, he, ho, hb⟩ => ⟨_, he, hb, A1, c1, rfl, ho⟩) (fun v12 l12 h12 => ?_)
              simp only [Act.put, List.setIfInBounds_toArray, List.set_cons_zero, List.set_cons_succ]
              refine FlowE.tail (fun W hW hf hd => ?_)
              replace hW : Below w7.heap.size w7 W := Ext.trans (Below.refl _ _).drew hW
              obtain ⟨A9, c9, rfl, own9, _, _, _⟩ := fact_oct (show Sp.fact w7.drew (Sp.any (IsOct R)) v12 l12 h12 W from hf 12)
              clear hf hd f0 f1 f2 j0 j1 l0 l1 q0 q1 q2
              have HO := hid (oct_any R R A1 A9 c1 c9 W (hr1.up hW) own9.rd HM.out)
              rw [eqO_same] at HO
              replace hb0 := bup hb0 hW
              go_wp2_with fail
              (with_reducible refine (HO.out).mono ?_)
              rintro e_w8 w8 ⟨rfl, hb_w8⟩
              go_wp2
              go_ret
              exact ⟨rfl, bup hb0 hb_w8⟩
end Go.Proofs.YtnmpgijiimglcaaGreat
