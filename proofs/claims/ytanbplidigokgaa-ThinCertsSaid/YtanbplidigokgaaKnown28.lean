/-
  gnomonlaw28.known: it says yes.
-/
import Derived.Test.YtanbplidigokgaaRThin
import Derived.Test.YtanbplidigokgaaRTop
namespace Go.Proofs.Ytanbplidigokgaa
open Go.RowKit
attribute [local go_sem ↓] Go.wp_at_zero Go.wp_at_succ

def k28 : O := ⟨2, false, boundM 4 2 3 6 (boundM 4 2 0 0 (boundM 4 0 2 0 (topM 4 4)))⟩
theorem k28_check : check k28 = 0 := by kernel_rfl
theorem k28_close : (closeO k28).e = false := by kernel_rfl
theorem k28_thin : (thinO k28).e = false ∧ (thinO k28).n = 2 ∧ check (thinO k28) = 0 ∧ (matC 4 (thinO k28).m 4).length = 3 := ⟨by kernel_rfl, by kernel_rfl, by kernel_rfl, by kernel_rfl⟩
theorem k28_len : (thinO k28).m.length = 16 := by kernel_rfl
theorem eqO_same (o : O) : eqO o o = true := by unfold eqO; simp

set_option maxRecDepth 8000 in
set_option maxHeartbeats 2000000 in
theorem known28_any (w : World) :
    Calls Try.prog 22 #[] w fun e w' => e = .returned (.bool true) ∧ Below w.heap.size w w' := by
  have h0 : (topM 4 4).length = 16 := topM_len 4 4
  have h1 : (boundM 4 0 2 0 (topM 4 4)).length = 16 := by rw [boundM_len, h0]
  have h2 : (boundM 4 2 0 0 (boundM 4 0 2 0 (topM 4 4))).length = 16 := by rw [boundM_len, h1]
  have h3 : (boundM 4 2 3 6 (boundM 4 2 0 0 (boundM 4 0 2 0 (topM 4 4)))).length = 16 := by rw [boundM_len, h2]
  obtain ⟨t1, t2, t3, t4⟩ := k28_thin
  have HK := hid k28_check
  have hans : thinAns k28 = thinO k28 := by unfold thinAns; rw [if_pos k28_check]
  have HO : Hid (∀ A c w, Rd w w.heap.size A k28.m → Calls Try.prog 24 #[.agg #[.int .i64 k28.n, .bool k28.e, .slice A k28.m.length c]] w (ThinRes w (thinO k28) 0)) := hid fun A c w hx => by
    have := thinoct_any k28 A c w hx (by show (boundM 4 2 3 6 (boundM 4 2 0 0 (boundM 4 0 2 0 (topM 4 4)))).length ≤ _; rw [h3]; omega)
    rw [hans, HK.out] at this; exact this
  have HF : Hid (∀ A c w, Rd w w.heap.size A k28.m → Calls Try.prog 53 #[.agg #[.int .i64 k28.n, .bool k28.e, .slice A k28.m.length c]] w (OctOwn w (thinO k28))) := hid fun A c w hx => rthin_ok k28 A c w hx (by show (boundM 4 2 3 6 (boundM 4 2 0 0 (boundM 4 0 2 0 (topM 4 4)))).length ≤ _; rw [h3]; omega) HK.out
  have HTL := hid k28_len
  have hkm : k28.m = boundM 4 2 3 6 (boundM 4 2 0 0 (boundM 4 0 2 0 (topM 4 4))) := rfl
  have hkn : k28.n = 2 := rfl
  have hke : k28.e = false := rfl
  rw [hkm, hkn, hke, h3] at HO HF
  generalize thinO k28 = q at *
  obtain ⟨qn, qe, qm⟩ := q
  dsimp only at *
  subst t1
  subst t2
  clear hans hkm hkn hke HK
  go_enter Try.func22, Try.ntmps22
  go_wp2_with fail
  refine (rtop_any 2 4 w (by omega) rfl).mono ?_
  rintro e1 w1 ⟨A1, c1, rfl, own1, hb1⟩
  dsimp only at own1 ⊢
  rw [h0]
  have HB1 := hid (rbound_ok 2 (topM 4 4) 4 0 2 w.heap.size 0 A1 c1 w1 own1 hb1.size rfl (by omega) h0 (by omega) (by omega) (by omega))
  rw [h0] at HB1
  go_wp2_with fail
  refine HB1.out.mono ?_
  clear HB1
  rintro e2 w2 ⟨rfl, own2, hb2⟩
  replace hb2 := hb1.trans hb2
  have HB1 := hid (rbound_ok 2 (boundM 4 0 2 0 (topM 4 4)) 4 2 0 w.heap.size 0 A1 c1 w2 own2 hb2.size rfl (by omega) h1 (by omega) (by omega) (by omega))
  rw [h1] at HB1
  go_wp2_with fail
  refine HB1.out.mono ?_
  clear HB1
  rintro e3 w3 ⟨rfl, own3, hb3⟩
  replace hb3 := hb2.trans hb3
  have HB1 := hid (rbound_ok 2 (boundM 4 2 0 0 (boundM 4 0 2 0 (topM 4 4))) 4 2 3 w.heap.size 6 A1 c1 w3 own3 hb3.size rfl (by omega) h2 (by omega) (by omega) (by omega))
  rw [h2] at HB1
  go_wp2_with fail
  refine HB1.out.mono ?_
  clear HB1
  rintro e4 w4 ⟨rfl, own4, hb4⟩
  replace hb4 := hb3.trans hb4
  clear hb1 hb2 hb3 own1 own2 own3 h0 h1 h2
  generalize boundM 4 2 3 6 (boundM 4 2 0 0 (boundM 4 0 2 0 (topM 4 4))) = om at *
  have n5 := new1 w4 (.cells #[.int .i64 2, .bool false, .slice A1 16 c1] 24)
  have k5 := Blk.new w4 24 #[.int .i64 2, .bool false, .slice A1 16 c1]
  replace own4 := own4.below n5
  replace hb4 := bup hb4 n5
  clear n5
  obtain ⟨x0, x1, x2, fx⟩ := octbox k5
  go_wp2_with fail
  clear x0 x1 x2 fx
  refine (HO.out A1 c1 _ own4.rd).mono ?_
  clear HO
  generalize w4.alloc (.cells #[.int .i64 2, .bool false, .slice A1 16 c1] 24) = w5 at *
  generalize w4.heap.size = g5 at *
  rintro e6 w6 ⟨A6, c6, rfl, own6, hb6⟩
  dsimp only at own6 ⊢
  rw [HTL.out]
  replace k5 := k5.later hb6
  replace own4 := own4.below hb6
  have n7 := new1 w6 (.cells #[.int .i64 2, .bool false, .slice A6 16 c6] 24)
  have k7 := Blk.new w6 24 #[.int .i64 2, .bool false, .slice A6 16 c6]
  replace own6 := own6.below n7
  replace own4 := own4.below n7
  replace k5 := k5.later n7
  replace hb4 := bup (bup hb4 hb6) n7
  clear n7 hb6
  go_upto_region 3 with fail
  generalize w6.alloc (.cells #[.int .i64 2, .bool false, .slice A6 16 c6] 24) = w7 at *
  generalize w6.heap.size = g7 at *
  obtain ⟨x0, x1, x2, fx⟩ := octbox k5
  obtain ⟨y0, y1, y2, fy⟩ := octbox k7
  have f0 := laterE x0
  have f1 := laterE x1
  have f2 := laterE x2
  have g0 := laterE y0
  have g1 := laterE y1
  have g2 := laterE y2
  have hr4 := own4.rd
  clear x0 x1 x2 fx y0 y1 y2 fy
  refine wp_region_flowE 6 [Sp.val (.int .i64 0), Sp.val (.bool true), Sp.val (.bool true), Sp.val (.agg #[.int .i64 2, .bool false, .slice A6 16 c6]), Sp.val (.agg #[.int .i64 2, .bool false, .slice A1 16 c1]), Sp.any (IsOct ⟨2, false, qm⟩)] (by kernel_rfl) (by kernel_rfl) ?_
  (refine FlowE.take (by rfl) (fun W hW R hR => ?_) (fun _ _ => ?_); (go_simp; (try go_bits); with_reducible exact hR); simp only [Act.put, List.setIfInBounds_toArray, List.set_cons_zero, List.set_cons_succ])
  (refine FlowE.take (by rfl) (fun W hW R hR => ?_) (fun _ _ => ?_); (go_simp; (try go_bits); with_reducible exact hR); simp only [Act.put, List.setIfInBounds_toArray, List.set_cons_zero, List.set_cons_succ])
  (refine FlowE.take (by rfl) (fun W hW R hR => ?_) (fun _ _ => ?_); (go_simp; (try go_bits); with_reducible exact hR); simp only [Act.put, List.setIfInBounds_toArray, List.set_cons_zero, List.set_cons_succ])
  (refine FlowE.take (by rfl) (fun W hW R hR => ?_) (fun _ _ => ?_); (go_simp; (try go_bits); with_reducible exact hR); simp only [Act.put, List.setIfInBounds_toArray, List.set_cons_zero, List.set_cons_succ])
  (refine FlowE.take (by rfl) (fun W hW R hR => ?_) (fun _ _ => ?_); (go_simp; (try go_bits); with_reducible exact hR); simp only [Act.put, List.setIfInBounds_toArray, List.set_cons_zero, List.set_cons_succ])
  refine FlowE.call 53 #[.agg #[.int .i64 2, .bool false, .slice A1 16 c1]] (by rfl) (fun W hW => by go_simp) (fun W hW => (HF.out A1 c1 W (hr4.up (Ext.trans (Below.refl _ _).drew hW))).mono fun _ _ ⟨A1, c1, he, ho, hb⟩ => ⟨_, he, hb, A1, c1, rfl, ho⟩) (fun v5 l5 h5 => ?_)
  simp only [Act.put, List.setIfInBounds_toArray, List.set_cons_zero, List.set_cons_succ]
  refine FlowE.tail (fun W hW hf hd => ?_)
  replace hW : Below w7.heap.size w7 W := Ext.trans (Below.refl _ _).drew hW
  obtain ⟨A8, c8, rfl, own8, _, _, _⟩ := fact_oct (show Sp.fact w7.drew (Sp.any (IsOct ⟨2, false, qm⟩)) v5 l5 h5 W from hf 5)
  clear hf hd f0 f1 f2 g0 g1 g2 hr4
  dsimp only at own8 ⊢
  rw [HTL.out]
  replace own6 := own6.below hW
  replace k7 := k7.later hW
  replace hb4 := bup hb4 hW
  have HOC := hid (oct_any ⟨2, false, qm⟩ ⟨2, false, qm⟩ A6 A8 c6 c8 W own6.rd own8.rd (by show qm.length ≤ _; rw [HTL.out]; omega))
  rw [eqO_same] at HOC
  dsimp only at HOC
  rw [HTL.out] at HOC
  go_wp2_with fail
  refine HOC.out.mono ?_
  clear HOC
  rintro e9 w9 ⟨rfl, hb9⟩
  replace own6 := own6.below hb9
  replace k7 := k7.later hb9
  replace hb4 := bup hb4 hb9
  obtain ⟨y0, y1, y2, fy⟩ := octbox k7
  have HCE := hid (rcells_ok 2 qm 4 A6 c6 w9 own6.rd (by rw [HTL.out]; omega) t3 rfl)
  rw [t4, HTL.out] at HCE
  go_wp2_with fail
  clear y0 y1 y2 fy
  refine HCE.out.mono ?_
  clear HCE
  rintro e10 w10 ⟨A10, c10, rfl, _, hb10⟩
  go_wp2
  go_ret
  exact ⟨rfl, bup hb4 hb10⟩
end Go.Proofs.Ytanbplidigokgaa
