/-
  gnomonlaw16.TransGives.
-/
import Derived.Test.YtnmpgijiimglcaaGreatBTG36
import Derived.Test.YtnmpgijiimglcaaGreatBTG47
namespace Go.Proofs.YtnmpgijiimglcaaGreat
open Go.RowKit
attribute [local go_sem ↓] Go.wp_at_zero Go.wp_at_succ

set_option maxRecDepth 8000 in
set_option maxHeartbeats 8000000 in
theorem transGives_walk (o : O) (v : Int) (r : Rg) (hlo : I64 r.lo) (_ : I64 r.hi) (A : Option Addr) (cap : Nat) (w : World) (hx : Rd w w.heap.size A o.m) (hm : o.m.length ≤ 17592186044416) :
    Calls Tryz.prog 6 #[.agg #[.int .i64 o.n, .bool o.e, .slice A o.m.length cap], .int .i64 v, r.val] w fun e w' => e = .returned (.bool true) ∧ Below w.heap.size w w' := by
  have HE : Hid (giveErr o v = if check o ≠ 0 then check o else if 0 ≤ v ∧ v < o.n then 0 else 122) := hid rfl
  have HR : Hid (giveAns o v r = if giveErr o v = 0 then giveO o v.toNat r else ⟨0, false, []⟩) := hid rfl
  have HT := hid (fun W (h : Rd W W.heap.size A o.m) => tgive_any o v r hlo A cap W h hm W.heap.size (Nat.le_refl _))
  have HRA := hid (fun hk (u : Nat) (hu : (u : Int) < o.n) W (h : Rd W W.heap.size A o.m) => rgives_ok o hk u hu r hlo A cap W h hm)
  have HCK := hid (fun W (h : Rd W W.heap.size A o.m) => rcheck_any o A cap W h (by omega))
  have HSM : Hid (giveErr o v = 0 → (giveAns o v r).m.length ≤ 17592186044416) := hid (fun h => by
    unfold giveAns; rw [if_pos h]
    unfold giveErr at h
    by_cases hk : check o = 0
    · rw [if_neg (by simpa using hk)] at h
      have hh : 0 ≤ v ∧ v < o.n := by
        by_cases q : 0 ≤ v ∧ v < o.n
        · exact q
        · rw [if_neg q] at h; omega
      have okF : OkO o.n (forgetO o v.toNat) := OkO.forget ⟨rfl, hk⟩ v.toNat
      have okR : OkO o.n (rangedO (forgetO o v.toNat) v.toNat r) := okF.ranged (by omega) r
      exact OkO.small okR.close
    · rw [if_pos hk] at h; exact absurd h hk)
  generalize giveAns o v r = R at *
  generalize giveErr o v = E at *
  have HGO := hid (fun u : Nat => (rfl : giveO o u r = giveO o u r))
  generalize check o = k at *
  rw [Rg.val_eq] at HT HRA ⊢
  clear HGO hlo
  obtain ⟨p0, p1, hb0, hsz⟩ := new_two w #[.int .i64 o.n, .bool o.e, .slice A o.m.length cap] #[.int .i64 r.lo, .int .i64 r.hi, .bool r.hl, .bool r.hh] 24 49
  replace hx := hx.up hb0
  clear hsz
  go_enter Tryz.func6, Tryz.ntmps6
  go_wp2_with fail
  generalize (w.alloc (Obj.cells #[.int .i64 o.n, .bool o.e, .slice A o.m.length cap] 24)).alloc (Obj.cells #[.int .i64 r.lo, .int .i64 r.hi, .bool r.hl, .bool r.hh] 49) = w1 at *
  (with_reducible refine (known16_any w1).mono ?_)
  rintro e_w2 w2 ⟨rfl, hb_w2⟩
  replace p0 := p0.later hb_w2
  replace p1 := p1.later hb_w2
  replace hx := hx.up hb_w2
  replace hb0 := bup hb0 hb_w2
  obtain ⟨p0_0, p0_1, p0_2, p0_f⟩ := octbox p0
  obtain ⟨p1_0, p1_1, p1_2, p1_3, p1_f⟩ := rgbox p1
  go_wp2_with fail
  clear p0_0 p0_1 p0_2 p0_f p1_0 p1_1 p1_2 p1_3 p1_f
  (with_reducible refine (HT.out w2 hx).mono ?_)
  rintro e_w3 w3 ⟨A1, c1, rfl, sx1, hb_w3⟩
  have hr1 := sx1.rd hb_w3.size
  clear sx1
  replace p0 := p0.later hb_w3
  replace p1 := p1.later hb_w3
  replace hx := hx.up hb_w3
  replace hb0 := bup hb0 hb_w3
  obtain ⟨p4, hbn, -⟩ := new_one w3 #[.int .i64 R.n, .bool R.e, .slice A1 R.m.length c1] 24
  replace p0 := p0.later hbn
  replace p1 := p1.later hbn
  replace hx := hx.up hbn
  replace hr1 := hr1.up hbn
  replace hb0 := bup hb0 hbn
  obtain ⟨p0_0, p0_1, p0_2, p0_f⟩ := octbox p0
  go_wp2_with fail
  clear p0_0 p0_1 p0_2 p0_f
  generalize w3.alloc (Obj.cells #[.int .i64 R.n, .bool R.e, .slice A1 R.m.length c1] 24) = w4 at *
  (with_reducible refine (HCK.out w4 hx).mono ?_)
  rintro e_w5 w5 ⟨rfl, hb_w5⟩
  replace p0 := p0.later hb_w5
  replace p1 := p1.later hb_w5
  replace p4 := p4.later hb_w5
  replace hx := hx.up hb_w5
  replace hr1 := hr1.up hb_w5
  replace hb0 := bup hb0 hb_w5
  clear HCK HT
  by_cases hk : k = 0
  rotate_left
  · have t1 : (k == 0) = false := by rw [beq_eq_false_iff_ne]; exact hk
    have t2 : (k != 0) = true := by rw [bne_iff_ne]; exact hk
    have e1 : E = k := by rw [HE.out, if_pos hk]
    have e2 : R = ⟨0, false, []⟩ := by rw [HR.out, e1, if_neg hk]
    subst e2
    subst e1
    have t3 : (E == E) = true := by simp
    clear HR HE HSM HRA hk
    dsimp only [List.length_nil] at *
    obtain ⟨p4_0, p4_1, p4_2, p4_f⟩ := octbox p4
    go_wp2_with fail
    clear p4_0 p4_1 p4_2 p4_f
    have HO := hid (oct_any ⟨0, false, []⟩ ⟨0, false, []⟩ A1 none c1 0 w5 hr1 (fun k hk => by simp at hk) (by simp))
    rw [eqO_same] at HO
    dsimp only [List.length_nil] at HO
    (with_reducible refine (HO.out).mono ?_)
    rintro e_w6 w6 ⟨rfl, hb_w6⟩
    go_wp2
    go_ret
    exact ⟨rfl, bup hb0 hb_w6⟩
  · subst hk
    replace HE : Hid (E = if 0 ≤ v ∧ v < o.n then 0 else 122) := hid (by rw [HE.out, if_neg (by simp)])
    by_cases h1 : v < 0
    · have e1 : E = 122 := by rw [HE.out, if_neg (by omega)]
      have e2 : R = ⟨0, false, []⟩ := by rw [HR.out, e1, if_neg (by omega)]
      subst e2
      subst e1
      clear HR HE HSM HRA
      dsimp only [List.length_nil] at *
      have t2 : decide (v < 0) = true := by rw [decide_eq_true_eq]; omega
      clear h1
      obtain ⟨p4_0, p4_1, p4_2, p4_f⟩ := octbox p4
      go_wp2_with fail
      clear p4_0 p4_1 p4_2 p4_f
      have HO := hid (oct_any ⟨0, false, []⟩ ⟨0, false, []⟩ A1 none c1 0 w5 hr1 (fun k hk => by simp at hk) (by simp))
      rw [eqO_same] at HO
      dsimp only [List.length_nil] at HO
      (with_reducible refine (HO.out).mono ?_)
      rintro e_w6 w6 ⟨rfl, hb_w6⟩
      go_wp2
      go_ret
      exact ⟨rfl, bup hb0 hb_w6⟩
    · obtain ⟨u, rfl⟩ : ∃ u : Nat, v = (u : Int) := ⟨v.toNat, by omega⟩
      have t2 : decide ((u : Int) < 0) = false := by rw [decide_eq_false_iff_not]; omega
      by_cases h2 : o.n ≤ (u : Int)
      · have e1 : E = 122 := by rw [HE.out, if_neg (by omega)]
        have e2 : R = ⟨0, false, []⟩ := by rw [HR.out, e1, if_neg (by omega)]
        subst e2
        subst e1
        clear HR HE HSM HRA
        dsimp only [List.length_nil] at *
        have t3 : decide (o.n ≤ (u : Int)) = true := by rw [decide_eq_true_eq]; omega
        clear h1 h2
        obtain ⟨p0_0, p0_1, p0_2, p0_f⟩ := octbox p0
        obtain ⟨p4_0, p4_1, p4_2, p4_f⟩ := octbox p4
        go_wp2_with fail
        clear p0_0 p0_1 p0_2 p0_f p4_0 p4_1 p4_2 p4_f
        have HO := hid (oct_any ⟨0, false, []⟩ ⟨0, false, []⟩ A1 none c1 0 w5 hr1 (fun k hk => by simp at hk) (by simp))
        rw [eqO_same] at HO
        dsimp only [List.length_nil] at HO
        (with_reducible refine (HO.out).mono ?_)
        rintro e_w6 w6 ⟨rfl, hb_w6⟩
        go_wp2
        go_ret
        exact ⟨rfl, bup hb0 hb_w6⟩
      · have t3 : decide (o.n ≤ (u : Int)) = false := by rw [decide_eq_false_iff_not]; omega
        have e1 : E = 0 := by rw [HE.out, if_pos (by omega)]
        have e2 : R = giveO o u r := by rw [HR.out, e1, if_pos rfl]; simp
        subst e1
        have HRA2 := hid (fun W h => HRA.out (by first | rfl | trivial) u (by omega) W h)
        rw [← e2] at HRA2
        have HM := hid (HSM.out (by first | rfl | trivial))
        clear HR HE HSM HRA h1 h2 e2
        obtain ⟨p0_0, p0_1, p0_2, p0_f⟩ := octbox p0
        go_upto_region 9 with fail
        clear p0_0 p0_1 p0_2 p0_f
        have f0 := laterE (show w5.cell? ⟨w.heap.size, 0, none⟩ = some (.int .i64 o.n) from p0.cell 0)
        have f1 := laterE (show w5.cell? ⟨w.heap.size, 1, none⟩ = some (.bool o.e) from p0.cell 1)
        have f2 := laterE (show w5.cell? ⟨w.heap.size, 2, none⟩ = some (.slice A o.m.length cap) from p0.cell 2)
        have j0 := laterE (show w5.cell? ⟨w.heap.size + 1, 0, none⟩ = some (.int .i64 r.lo) from p1.cell 0)
        have j1 := laterE (show w5.cell? ⟨w.heap.size + 1, 1, none⟩ = some (.int .i64 r.hi) from p1.cell 1)
        have j2 := laterE (show w5.cell? ⟨w.heap.size + 1, 2, none⟩ = some (.bool r.hl) from p1.cell 2)
        have j3 := laterE (show w5.cell? ⟨w.heap.size + 1, 3, none⟩ = some (.bool r.hh) from p1.cell 3)
        have q0 := laterE (show w5.cell? ⟨w3.heap.size, 0, none⟩ = some (.int .i64 R.n) from p4.cell 0)
        have q1 := laterE (show w5.cell? ⟨w3.heap.size, 1, none⟩ = some (.bool R.e) from p4.cell 1)
        have q2 := laterE (show w5.cell? ⟨w3.heap.size, 2, none⟩ = some (.slice A1 R.m.length c1) from p4.cell 2)
        refine wp_region_flowE 8 [Sp.val (.int .i64 0), Sp.val (.bool true), Sp.val (.bool true), Sp.val (.agg #[.int .i64 R.n, .bool R.e, .slice A1 R.m.length c1]), Sp.val (.agg #[.int .i64 o.n, .bool o.e, .slice A o.m.length cap]), Sp.val (.int .i64 (u : Int)), Sp.val (.agg #[.int .i64 r.lo, .int .i64 r.hi, .bool r.hl, .bool r.hh]), Sp.any (IsOct R)] (by kernel_rfl) (by kernel_rfl) ?_
        (refine FlowE.take (by rfl) (fun W hW R hR => ?_) (fun _ _ => ?_); (go_simp; (try go_bits); with_reducible exact hR); simp only [Act.put, List.setIfInBounds_toArray, List.set_cons_zero, List.set_cons_succ])
        (refine FlowE.take (by rfl) (fun W hW R hR => ?_) (fun _ _ => ?_); (go_simp; (try go_bits); with_reducible exact hR); simp only [Act.put, List.setIfInBounds_toArray, List.set_cons_zero, List.set_cons_succ])
        (refine FlowE.take (by rfl) (fun W hW R hR => ?_) (fun _ _ => ?_); (go_simp; (try go_bits); with_reducible exact hR); simp only [Act.put, List.setIfInBounds_toArray, List.set_cons_zero, List.set_cons_succ])
        (refine FlowE.take (by rfl) (fun W hW R hR => ?_) (fun _ _ => ?_); (go_simp; (try go_bits); with_reducible exact hR); simp only [Act.put, List.setIfInBounds_toArray, List.set_cons_zero, List.set_cons_succ])
        (refine FlowE.take (by rfl) (fun W hW R hR => ?_) (fun _ _ => ?_); (go_simp; (try go_bits); with_reducible exact hR); simp only [Act.put, List.setIfInBounds_toArray, List.set_cons_zero, List.set_cons_succ])
        (refine FlowE.take (by rfl) (fun W hW R hR => ?_) (fun _ _ => ?_); (go_simp; (try go_bits); with_reducible exact hR); simp only [Act.put, List.setIfInBounds_toArray, List.set_cons_zero, List.set_cons_succ])
        (refine FlowE.take (by rfl) (fun W hW R hR => ?_) (fun _ _ => ?_); (go_simp; (try go_bits); with_reducible exact hR); simp only [Act.put, List.setIfInBounds_toArray, List.set_cons_zero, List.set_cons_succ])
        refine FlowE.call 31 #[.agg #[.int .i64 o.n, .bool o.e, .slice A o.m.length cap], .int .i64 (u : Int), .agg #[.int .i64 r.lo, .int .i64 r.hi, .bool r.hl, .bool r.hh]] (by rfl) (fun W hW => by go_simp) (fun W hW => (HRA2.out W (hx.up (Ext.trans (Below.refl _ _).drew hW))).mono fun _ _ ⟨A1, c1, he, ho, hb⟩ => ⟨_, he, hb, A1, c1, rfl, ho⟩) (fun v12 l12 h12 => ?_)
        simp only [Act.put, List.setIfInBounds_toArray, List.set_cons_zero, List.set_cons_succ]
        refine FlowE.tail (fun W hW hf hd => ?_)
        replace hW : Below w5.heap.size w5 W := Ext.trans (Below.refl _ _).drew hW
        obtain ⟨A9, c9, rfl, own9, _, _, _⟩ := fact_oct (show Sp.fact w5.drew (Sp.any (IsOct R)) v12 l12 h12 W from hf 7)
        clear hf hd f0 f1 f2 j0 j1 j2 j3 q0 q1 q2
        have HO := hid (oct_any R R A1 A9 c1 c9 W (hr1.up hW) own9.rd HM.out)
        rw [eqO_same] at HO
        replace hb0 := bup hb0 hW
        go_wp2_with fail
        (with_reducible refine (HO.out).mono ?_)
        rintro e_w6 w6 ⟨rfl, hb_w6⟩
        go_wp2
        go_ret
        exact ⟨rfl, bup hb0 hb_w6⟩
end Go.Proofs.YtnmpgijiimglcaaGreat
