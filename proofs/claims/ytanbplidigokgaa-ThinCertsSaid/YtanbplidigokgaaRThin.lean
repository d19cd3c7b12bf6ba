/-
  gnomonref28.Of, gnomonref28.Oct: what they answer.
-/
import Derived.Test.YtanbplidigokgaaRCells
import Derived.Test.YtanbplidigokgaaNeeded
import Derived.Test.YtanbplidigokgaaThinOct
namespace Go.Proofs.Ytanbplidigokgaa
open Go.RowKit
attribute [local go_sem ↓] Go.wp_at_zero Go.wp_at_succ

theorem take_succ_at {α : Type} {xs : List α} {k : Nat} (h : k < xs.length) : xs.take (k + 1) = xs.take k ++ [xs[k]] := by
  rw [List.take_succ_eq_append_getElem h]

theorem ownsRow_under {w w' : World} {base size n B : Nat} {e : TypeId} {v : Value} {xs : List Value} (h : w.ownsRow base e size v n xs) (hb : Below B w w') (hlt : ∀ g, v.ownBlock = some g → g < B) : w'.ownsRow base e size v n xs := by
  refine ⟨h.1, ?_⟩
  rcases h.2 with hn | ⟨g, cap, cur, rfl, hbb, hgg, rest⟩
  · exact .inl hn
  · refine .inr ⟨g, cap, cur, rfl, hbb, ?_, rest⟩
    rw [hb.block g (hlt g rfl)]; exact hgg
theorem Own.under {w w' : World} {base cap B : Nat} {A : Option Addr} {m : List Int} (h : Own w base A cap m) (hb : Below B w w') (hlt : ∀ g, A = some ⟨g, 0, none⟩ → g < B) : Own w' base A cap m :=
  ownsRow_under h hb fun g hg => by
    rcases h.form with ⟨rfl, _⟩ | ⟨g', rfl, _⟩
    · cases hg
    · injection hg with hg; exact hg ▸ hlt _ rfl
theorem OwnC.under {w w' : World} {base cap B N : Nat} {m : List Int} {A : Option Addr} {xs : List (Cel N)} (h : OwnC w base N m A cap xs) (hb : Below B w w') (hlt : ∀ g, A = some ⟨g, 0, none⟩ → g < B) : OwnC w' base N m A cap xs :=
  ownsRow_under h hb fun g hg => by
    rcases h.form with ⟨rfl, _⟩ | ⟨g', rfl, _⟩
    · cases hg
    · injection hg with hg; exact hg ▸ hlt _ rfl
theorem Own.lt {w : World} {base cap B : Nat} {A : Option Addr} {m : List Int} (h : Own w base A cap m) (hB : w.heap.size ≤ B) : ∀ g, A = some ⟨g, 0, none⟩ → g < B := by
  rcases h.form with ⟨rfl, _⟩ | ⟨g', rfl, _, h'⟩
  · intro g hg; cases hg
  · intro g hg; injection hg with hg; injection hg with hg; omega
theorem OwnC.lt {w : World} {base cap B N : Nat} {m : List Int} {A : Option Addr} {xs : List (Cel N)} (h : OwnC w base N m A cap xs) (hB : w.heap.size ≤ B) : ∀ g, A = some ⟨g, 0, none⟩ → g < B := by
  rcases h.form with ⟨rfl, _⟩ | ⟨g', rfl, _, h'⟩
  · intro g hg; cases hg
  · intro g hg; injection hg with hg; injection hg with hg; omega

set_option maxRecDepth 8000 in
set_option maxHeartbeats 4000000 in
theorem rthin_ok (o : O) (A : Option Addr) (c : Nat) (w : World) (hx : Rd w w.heap.size A o.m) (hm : o.m.length ≤ 17592186044416) (hk : check o = 0) :
    Calls Try.prog 53 #[.agg #[.int .i64 o.n, .bool o.e, .slice A o.m.length c]] w (OctOwn w (thinO o)) := by
  have hb0 : Below w.heap.size w ((w.alloc (Obj.cells #[.int .i64 o.n, .bool o.e, .slice A o.m.length c] 24)).alloc (Obj.cells #[.int .i64 0, .bool false, .slice none 0 0] 24)) := ((Below.refl _ _).alloc (Nat.le_refl _) _).alloc (by simp) _
  obtain ⟨p0, p1⟩ := blk_two (w := w) (Below.refl _ ((w.alloc (Obj.cells #[.int .i64 o.n, .bool o.e, .slice A o.m.length c] 24)).alloc (Obj.cells #[.int .i64 0, .bool false, .slice none 0 0] 24)))
  have HC := hid (r13_any o A c _ (hx.up hb0) hm hk)
  obtain ⟨n0, n1, -, -⟩ := check_ok hk
  have HQC := hid (closeO_check hk)
  have HQN := hid (closeO_n o)
  have HQM := hid (closeO_m_le (o := o))
  have HTH : Hid (thinO o = if (closeO o).e then closeO o else ⟨o.n, false, thinM o.n (2 * o.n).toNat (closeO o).m (matC (2 * o.n).toNat (closeO o).m (2 * o.n).toNat)⟩) := hid rfl
  generalize thinO o = ans at *
  obtain ⟨N, hN⟩ : ∃ N : Nat, (N : Int) = 2 * o.n := ⟨(2 * o.n).toNat, by omega⟩
  have hNt : (2 * o.n).toNat = N := by omega
  rw [hNt] at HTH
  have hN1 : N ≤ 128 := by omega
  have HN := hid hN
  have hxx := hid hx
  clear hNt hN hk hx
  go_enter Try.func53, Try.ntmps53
  go_wp2_with fail
  refine HC.out.mono ?_
  clear HC
  generalize (w.alloc (Obj.cells #[.int .i64 o.n, .bool o.e, .slice A o.m.length c] 24)).alloc (Obj.cells #[.int .i64 0, .bool false, .slice none 0 0] 24) = w0 at *
  rintro e1 w1 ⟨A3, c3', s, rfl, own3, hb1⟩
  generalize closeO o = q at *
  obtain ⟨qn, qe, qm⟩ := q
  dsimp only at *
  obtain rfl : qn = o.n := HQN.out
  replace p1 := p1.later hb1
  have hw0le := hb0.size
  replace hb0 := bup hb0 hb1
  have n3 := new1 w1 (.cells #[.int .i64 o.n, .bool qe, .slice A3 qm.length c3'] 24)
  have k3 := Blk.new w1 24 #[.int .i64 o.n, .bool qe, .slice A3 qm.length c3']
  replace own3 := own3.below n3
  replace p1 := p1.later n3
  replace hb0 := bup hb0 n3
  have hg3 : w0.heap.size ≤ w1.heap.size := hb1.size
  have hp1 : w.heap.size + 1 < w1.heap.size + 1 := by have := p1.lt; simpa using this
  clear n3 p0
  obtain ⟨x0, x1, x2, fx⟩ := octbox k3
  obtain ⟨y0, y1, y2, fy⟩ := octbox p1
  have hqm : qm.length ≤ 17592186044416 := Nat.le_trans HQM.out hm
  cases qe
  rotate_left
  · have hth := HTH.out
    rw [if_pos rfl] at hth
    subst hth
    go_wp2
    clear x0 x1 x2 fx y0 y1 y2 fy
    generalize w1.alloc (.cells #[.int .i64 o.n, .bool true, .slice A3 qm.length c3'] 24) = w3 at *
    have q3 := p1.set3 (v0 := .int .i64 o.n) (v1 := .bool true) (v2 := .slice A3 qm.length c3')
    have hne := own_blk' own3 p1 (by decide)
    have o3 := own3.far3 (g := w.heap.size + 1) (v0 := .int .i64 o.n) (v1 := .bool true) (v2 := .slice A3 qm.length c3') hne
    obtain ⟨z0, z1, z2, fz⟩ := octbox q3
    refine bodyPost_ret (v := .agg #[.int .i64 o.n, .bool true, .slice A3 qm.length c3']) (by simp [results, Try.results53, go_sem, z0, z1, z2]) rfl ⟨A3, c3', rfl, o3.less hw0le, hb0.trans (below3 (by omega) hb0.size)⟩
  have hth := HTH.out
  rw [if_neg (by simp)] at hth
  clear HTH
  have HTH := hid hth
  clear hth
  have HCL := hid (rcells_ok o.n qm N A3 c3' _ own3.rd hqm HQC.out HN.out)
  go_wp2_with fail
  clear x0 x1 x2 fx y0 y1 y2 fy
  refine HCL.out.mono ?_
  clear HCL
  generalize w1.alloc (.cells #[.int .i64 o.n, .bool false, .slice A3 qm.length c3'] 24) = w3 at *
  generalize w1.heap.size = g3 at *
  have hk33 := k3.lt
  rintro e4 w4 ⟨A5, c5, rfl, own5, hb4⟩
  replace k3 := k3.later hb4
  replace p1 := p1.later hb4
  replace own3 := own3.below hb4
  replace hb0 := bup hb0 hb4
  obtain ⟨x0, x1, x2, fx⟩ := octbox k3
  have HCC := hid (rcopy_any o.n false qm A3 c3' w4 own3.rd hqm)
  have HLX := hid (matC_len N qm N)
  have HHC := hid (cells_of HN.out HQC.out)
  have HEV : Hid (N % 2 = 0) := hid (by have := HN.out; omega)
  generalize matC N qm N = xs at *
  have hxb : xs.length ≤ 16384 := Nat.le_trans HLX.out (Nat.mul_le_mul hN1 hN1)
  go_wp2_with fail
  clear x0 x1 x2 fx
  refine HCC.out.mono ?_
  clear HCC
  rintro e6 w6 ⟨A6, c6, rfl, own6, hb6⟩
  have ho5 := own5.lt hb6.size
  have ho3 := own3.lt hb6.size
  have n6 := new1 w6 (.cells #[.int .i64 o.n, .bool false, .slice A6 qm.length c6] 24)
  have k6 := Blk.new w6 24 #[.int .i64 o.n, .bool false, .slice A6 qm.length c6]
  have hb46 := bup hb6 n6
  replace own6 := (own6.below n6).less (show w0.heap.size ≤ w4.heap.size by have := hb4.size; omega)
  replace k3 := k3.later hb46
  replace p1 := p1.later hb46
  replace own3 := own3.below hb46
  replace own5 := own5.below hb46
  replace hb0 := bup hb0 hb46
  have hk3 : g3 < w6.heap.size := by have := hb6.size; have := hb4.size; omega
  have hg6 : w6.heap.size < (w6.alloc (.cells #[.int .i64 o.n, .bool false, .slice A6 qm.length c6] 24)).heap.size := by simp
  clear n6 hb46
  go_wp2
  generalize w6.alloc (.cells #[.int .i64 o.n, .bool false, .slice A6 qm.length c6] 24) = wL at *
  generalize w6.heap.size = g6 at *
  go_loopw [7] (fun i wr => ∃ (k : Nat) (A7 : Option Addr) (c7 : Nat), k ≤ xs.length ∧ i = .int .i64 k ∧ Blk wr g6 24 #[.int .i64 o.n, .bool false, .slice A7 (thinM o.n N qm (xs.take k)).length c7] ∧ Own wr w0.heap.size A7 c7 (thinM o.n N qm (xs.take k)) ∧ Below g6 wL wr) (fun i _ => xs.length - (intOf i).toNat)
  case atStart => exact ⟨0, A6, c6, by omega, rfl, k6, own6, Below.refl _ _⟩
  case round =>
    obtain ⟨k, A7, c7, hkx, rfl, k7, own7, hbr⟩ := hrel
    have hg7 := k7.lt
    by_cases hlt : k < xs.length
    · have hi0 : (0 : Int) ≤ (k : Int) := by omega
      have hi1 : (k : Int) < (xs.length : Int) := by omega
      obtain ⟨g5, rfl, h5a, h5b, c50, c51⟩ := (own5.under hbr ho5).at_ hlt
      have HX : Hid (xs.take (k + 1) = xs.take k ++ [xs[k]]) := hid (take_succ_at hlt)
      generalize xs[k] = x at *
      obtain ⟨⟨i, j⟩, hi, hj, hij⟩ := x
      dsimp only at c50 c51 hi hj hij
      have hout := hid (thinM_cells (n := o.n) HEV.out HHC.out (xs.take k))
      have HSN : Hid (thinM o.n N qm (xs.take (k + 1)) = if eqO (closeO ⟨o.n, false, openM N i j (thinM o.n N qm (xs.take k))⟩) ⟨o.n, false, qm⟩ then openM N i j (thinM o.n N qm (xs.take k)) else thinM o.n N qm (xs.take k)) := hid (by rw [HX.out]; exact thinM_snoc o.n N qm _ ⟨(i, j), hi, hj, hij⟩)
      clear HX
      have HOL := hid (openM_len N i j (thinM o.n N qm (xs.take k)))
      have HTA : Hid (k + 1 ≤ xs.length) := hid hlt
      generalize thinM o.n N qm (xs.take k) = out at *
      have HCK : Hid (check ⟨o.n, false, openM N i j out⟩ = 0) := hid (check_of HN.out hN1 (openM_cells HEV.out hout.out hi hj hij))
      have holen : out.length ≤ 17592186044416 := by have := hout.out.len; rw [this, ← HHC.out.len]; exact hqm
      have hnl : (openM N i j out).length ≤ 17592186044416 := by rw [HOL.out]; exact holen
      generalize hnw : openM N i j out = nw at *
      obtain ⟨y0, y1, y2, fy⟩ := octbox k7
      have hr7 := own7.rd
      go_upto_region 9 with fail
      have f0 := laterE y0
      have f1 := laterE y1
      have f2 := laterE y2
      have g0 := laterE c50
      have g1 := laterE c51
      clear y0 y1 y2 fy c50 c51
      refine wp_region_flowE 13 [Sp.val (.agg #[.int .i64 o.n, .bool false, .slice A7 out.length c7]), Sp.val (.slice (some ⟨g5, 0, none⟩) xs.length c5), Sp.val (.int .i64 (k : Int)), Sp.val (.pointer (some ⟨g5, k * 3, none⟩)), Sp.val (.pointer (some ⟨g5, k * 3, none⟩)), Sp.val (.int .i64 (i : Int)), Sp.val (.slice (some ⟨g5, 0, none⟩) xs.length c5), Sp.val (.int .i64 (k : Int)), Sp.val (.pointer (some ⟨g5, k * 3, none⟩)), Sp.val (.pointer (some ⟨g5, k * 3 + 1, none⟩)), Sp.val (.int .i64 (j : Int)), Sp.any (IsOct ⟨o.n, false, nw⟩), Sp.any (IsBox 24 #[.int .i64 0, .bool false, .slice none 0 0])] (by kernel_rfl) (by kernel_rfl) ?_
      (refine FlowE.take (by rfl) (fun W hW R hR => ?_) (fun _ _ => ?_); (go_simp; (try go_bits); with_reducible exact hR); simp only [Act.put, List.setIfInBounds_toArray, List.set_cons_zero, List.set_cons_succ])
      (refine FlowE.take (by rfl) (fun W hW R hR => ?_) (fun _ _ => ?_); (go_simp; (try go_bits); with_reducible exact hR); simp only [Act.put, List.setIfInBounds_toArray, List.set_cons_zero, List.set_cons_succ])
      (refine FlowE.take (by rfl) (fun W hW R hR => ?_) (fun _ _ => ?_); (go_simp; (try go_bits); with_reducible exact hR); simp only [Act.put, List.setIfInBounds_toArray, List.set_cons_zero, List.set_cons_succ])
      (refine FlowE.take (by rfl) (fun W hW R hR => ?_) (fun _ _ => ?_); (go_simp; (try go_bits); with_reducible exact hR); simp only [Act.put, List.setIfInBounds_toArray, List.set_cons_zero, List.set_cons_succ])
      (refine FlowE.take (by rfl) (fun W hW R hR => ?_) (fun _ _ => ?_); (go_simp; (try go_bits); with_reducible exact hR); simp only [Act.put, List.setIfInBounds_toArray, List.set_cons_zero, List.set_cons_succ])
      (refine FlowE.take (by rfl) (fun W hW R hR => ?_) (fun _ _ => ?_); (go_simp; (try go_bits); with_reducible exact hR); simp only [Act.put, List.setIfInBounds_toArray, List.set_cons_zero, List.set_cons_succ])
      (refine FlowE.take (by rfl) (fun W hW R hR => ?_) (fun _ _ => ?_); (go_simp; (try go_bits); with_reducible exact hR); simp only [Act.put, List.setIfInBounds_toArray, List.set_cons_zero, List.set_cons_succ])
      (refine FlowE.take (by rfl) (fun W hW R hR => ?_) (fun _ _ => ?_); (go_simp; (try go_bits); with_reducible exact hR); simp only [Act.put, List.setIfInBounds_toArray, List.set_cons_zero, List.set_cons_succ])
      (refine FlowE.take (by rfl) (fun W hW R hR => ?_) (fun _ _ => ?_); (go_simp; (try go_bits); with_reducible exact hR); simp only [Act.put, List.setIfInBounds_toArray, List.set_cons_zero, List.set_cons_succ])
      (refine FlowE.take (by rfl) (fun W hW R hR => ?_) (fun _ _ => ?_); (go_simp; (try go_bits); with_reducible exact hR); simp only [Act.put, List.setIfInBounds_toArray, List.set_cons_zero, List.set_cons_succ])
      (refine FlowE.take (by rfl) (fun W hW R hR => ?_) (fun _ _ => ?_); (go_simp; (try go_bits); with_reducible exact hR); simp only [Act.put, List.setIfInBounds_toArray, List.set_cons_zero, List.set_cons_succ])
      refine FlowE.call 61 #[.agg #[.int .i64 o.n, .bool false, .slice A7 out.length c7], .int .i64 (i : Int), .int .i64 (j : Int)] (by rfl) (fun W hW => by go_simp) (fun W hW => (ropen_any o.n false out N i j A7 c7 W (hr7.up (Ext.trans (Below.refl _ _).drew hW)) holen HN.out hN1 hout.out.len hi hj).mono fun _ _ ⟨A1, c1, he, ho, hb⟩ => ⟨_, he, hb, A1, c1, by rw [← hnw], by rw [← hnw]; exact ho⟩) (fun v11 l11 h11 => ?_)
      simp only [Act.put, List.setIfInBounds_toArray, List.set_cons_zero, List.set_cons_succ]
      refine FlowE.step (by rfl) (fun W hW K hK => ?_) (fun v12 l12 h12 => ?_)
      · go_simp
        exact hK _ _ (new1 _ _) ⟨rfl, Blk.new _ _ _, by simp⟩
      simp only [Act.put, List.setIfInBounds_toArray, List.set_cons_zero, List.set_cons_succ]
      refine FlowE.tail (fun W hW hf hd => ?_)
      replace hW : Below wr.heap.size wr W := Ext.trans (Below.refl _ _).drew hW
      obtain ⟨A11, c11, rfl, own11, lo11, _, _⟩ := fact_oct (show Sp.fact wr.drew (Sp.any (IsOct ⟨o.n, false, nw⟩)) v11 l11 h11 W from hf 11)
      obtain ⟨g8, rfl, k8, lo8, rfl, rfl⟩ := fact_box (show Sp.fact wr.drew (Sp.any (IsBox 24 #[.int .i64 0, .bool false, .slice none 0 0])) v12 l12 h12 W from hf 12)
      clear hf hd f0 f1 f2 g0 g1 hr7
      dsimp only at own11 ⊢
      have hg8 : wr.heap.size ≤ g8 := lo8
      have hl11 : w0.heap.size ≤ l11 := by
        have h1 : wr.heap.size ≤ l11 := lo11
        omega
      replace own11 := own11.less hl11
      have hne8 := own_blk' own11 k8 (by decide)
      replace k7 := k7.later hW
      replace own7 := own7.below hW
      have hne78 := own_blk' own7 k8 (by decide)
      replace hbr := hbr.trans (hW.mono (by omega))
      obtain ⟨y0, y1, y2, fy⟩ := octbox k8
      go_upto_region 10 with fail
      clear y0 y1 y2 fy
      replace hbr := hbr.trans (below3 (W := W) (g := g8) (v0 := .int .i64 o.n) (v1 := .bool false) (v2 := .slice A11 nw.length c11) (by omega) (by have := k7.lt; omega))
      replace k7 := k7.far3 (g := g8) (v0 := .int .i64 o.n) (v1 := .bool false) (v2 := .slice A11 nw.length c11) (by omega)
      replace own7 := own7.far3 (g := g8) (v0 := .int .i64 o.n) (v1 := .bool false) (v2 := .slice A11 nw.length c11) hne78
      replace own11 := own11.far3 (g := g8) (v0 := .int .i64 o.n) (v1 := .bool false) (v2 := .slice A11 nw.length c11) hne8
      replace k8 := k8.set3 (v0 := .int .i64 o.n) (v1 := .bool false) (v2 := .slice A11 nw.length c11)
      clear hW
      generalize ((W.setCell ⟨g8, 0, none⟩ (.int .i64 o.n)).setCell ⟨g8, 1, none⟩ (.bool false)).setCell ⟨g8, 2, none⟩ (.slice A11 nw.length c11) = W1 at *
      have HR := hid (r13_any ⟨o.n, false, nw⟩ A11 c11 W1 own11.rd hnl HCK.out)
      dsimp only at HR
      obtain ⟨y0, y1, y2, fy⟩ := octbox k8
      go_wp2_with fail
      clear y0 y1 y2 fy
      refine HR.out.mono ?_
      clear HR
      rintro e2 w2 ⟨A9, c9, s9, rfl, own9, hb9⟩
      have HZ := hid (Nat.le_trans (closeO_m_le (o := ⟨o.n, false, nw⟩)) hnl)
      generalize closeO ⟨o.n, false, nw⟩ = z at *
      rw [eqO_comm] at HSN
      have n9 := new1 w2 (Obj.cells #[.int .i64 z.n, .bool z.e, .slice A9 z.m.length c9] 24)
      have k9 := Blk.new w2 24 #[.int .i64 z.n, .bool z.e, .slice A9 z.m.length c9]
      replace own9 := own9.below n9
      have hbn := bup hb9 n9
      replace hbr := hbr.trans (hbn.mono (by have := k7.lt; omega))
      replace k7 := k7.later hbn
      replace own7 := own7.below hbn
      replace own11 := own11.below hbn
      replace k8 := k8.later hbn
      clear hbn n9 hb9
      have k3r := k3.below hbr hk3
      have own3r := own3.under hbr ho3
      obtain ⟨x0, x1, x2, fx⟩ := octbox k3r
      obtain ⟨y0, y1, y2, fy⟩ := octbox k9
      have HS := hid (rsame_any ⟨o.n, false, qm⟩ z A3 A9 c3' c9 _ own3r.rd own9.rd hqm HZ.out)
      dsimp only at HS
      go_wp2_with fail
      clear x0 x1 x2 fx y0 y1 y2 fy k3r own3r
      refine HS.out.mono ?_
      clear HS
      rintro e6 w6 ⟨rfl, hb6⟩
      replace hbr := hbr.trans (hb6.mono (by have := k7.lt; omega))
      replace k7 := k7.later hb6
      replace own7 := own7.below hb6
      replace own11 := own11.below hb6
      replace k8 := k8.later hb6
      cases hbb : eqO ⟨o.n, false, qm⟩ z
      · rw [hbb] at HSN
        have hres := HSN.out
        rw [if_neg (by simp)] at hres
        have HRES := hid hres
        clear hres hbb HSN
        go_wp2
        go_roundw
        case rel => exact ⟨k + 1, A7, c7, HTA.out, by go_num, by rw [HRES.out]; exact k7, by rw [HRES.out]; exact own7, hbr⟩
        case measure => simp [intOf]; omega
      · rw [hbb] at HSN
        have hres := HSN.out
        rw [if_pos rfl] at hres
        have HRES := hid hres
        clear hres hbb HSN
        obtain ⟨x0, x1, x2, fx⟩ := octbox k7
        obtain ⟨y0, y1, y2, fy⟩ := octbox k8
        have hne11 := own_blk' own11 k7 (by decide)
        have h6le := k7.lt
        go_wp2
        clear x0 x1 x2 fx y0 y1 y2 fy
        go_roundw
        case rel => exact ⟨k + 1, A11, c11, HTA.out, by go_num, by rw [HRES.out]; exact k7.set3, by rw [HRES.out]; exact own11.far3 hne11, hbr.trans (below3 (Nat.le_refl _) (by omega))⟩
        case measure => simp [intOf]; omega
    · obtain rfl : k = xs.length := by omega
      rw [List.take_length] at k7 own7
      have hth := HTH.out
      subst hth
      generalize thinM o.n N qm xs = out at *
      have hp1r := p1.below hbr (by omega)
      obtain ⟨x0, x1, x2, fx⟩ := octbox hp1r
      obtain ⟨y0, y1, y2, fy⟩ := octbox k7
      go_wp2
      clear x0 x1 x2 fx y0 y1 y2 fy
      have q3 := hp1r.set3 (v0 := .int .i64 o.n) (v1 := .bool false) (v2 := .slice A7 out.length c7)
      have hne := own_blk' own7 hp1r (by decide)
      have o3 := own7.far3 (g := w.heap.size + 1) (v0 := .int .i64 o.n) (v1 := .bool false) (v2 := .slice A7 out.length c7) hne
      have hbw := hb0.trans (hbr.mono (by omega))
      obtain ⟨z0, z1, z2, fz⟩ := octbox q3
      refine bodyPost_ret (v := .agg #[.int .i64 o.n, .bool false, .slice A7 out.length c7]) (by simp [results, Try.results53, go_sem, z0, z1, z2]) rfl ⟨A7, c7, rfl, o3.less hw0le, hbw.trans (below3 (by omega) hbw.size)⟩

set_option maxHeartbeats 2000000 in
theorem roct_any (o : O) (A : Option Addr) (c : Nat) (w : World) (hx : Rd w w.heap.size A o.m) (hm : o.m.length ≤ 17592186044416) :
    Calls Try.prog 25 #[.agg #[.int .i64 o.n, .bool o.e, .slice A o.m.length c]] w (ThinRes w (thinAns o) (check o)) := by
  have hb0 : Below w.heap.size w ((w.alloc (Obj.cells #[.int .i64 o.n, .bool o.e, .slice A o.m.length c] 24)).alloc (Obj.cells #[.int .i64 0, .bool false, .slice none 0 0] 24)) := ((Below.refl _ _).alloc (Nat.le_refl _) _).alloc (by simp) _
  obtain ⟨p0, p1⟩ := blk_two (w := w) (Below.refl _ ((w.alloc (Obj.cells #[.int .i64 o.n, .bool o.e, .slice A o.m.length c] 24)).alloc (Obj.cells #[.int .i64 0, .bool false, .slice none 0 0] 24)))
  have HC := hid (rcheck_any o A c _ (hx.up hb0) (by omega))
  have hx0 := hx.up hb0
  have hle := hb0.size
  have HT : Hid (thinAns o = if check o = 0 then thinO o else ⟨0, false, []⟩) := hid rfl
  generalize thinAns o = ans at *
  go_enter Try.func25, Try.ntmps25
  go_wp2_with fail
  refine HC.out.mono ?_
  clear HC
  generalize (w.alloc (Obj.cells #[.int .i64 o.n, .bool o.e, .slice A o.m.length c] 24)).alloc (Obj.cells #[.int .i64 0, .bool false, .slice none 0 0] 24) = w0 at *
  rintro e1 w1 ⟨rfl, hb1⟩
  replace p0 := p0.later hb1
  replace p1 := p1.later hb1
  replace hb0 := bup hb0 hb1
  have hw1 := hb1.size
  have hp1 := p1.lt
  by_cases hk : check o = 0
  · have HR := hid (rthin_ok o A c w1 (hx0.up hb1) hm hk)
    have hans := HT.out
    rw [if_pos hk] at hans
    rw [← hans] at HR
    rw [hk]
    have HK := hid hk
    clear HT hans hk
    obtain ⟨x0, x1, x2, fx⟩ := octbox p0
    go_wp2_with fail
    clear x0 x1 x2 fx
    refine HR.out.mono ?_
    clear HR
    rintro e2 w2 ⟨A2, c2, rfl, own2, hb2⟩
    replace p1 := p1.later hb2
    replace hb0 := bup hb0 hb2
    obtain ⟨y0, y1, y2, fy⟩ := octbox p1
    go_wp2
    clear y0 y1 y2 fy
    have q3 := p1.set3 (v0 := .int .i64 ans.n) (v1 := .bool ans.e) (v2 := .slice A2 ans.m.length c2)
    have hne := own_blk' own2 p1 (by decide)
    have o3 := own2.far3 (g := w.heap.size + 1) (v0 := .int .i64 ans.n) (v1 := .bool ans.e) (v2 := .slice A2 ans.m.length c2) hne
    obtain ⟨z0, z1, z2, fz⟩ := octbox q3
    refine bodyPost_ret (v := .tuple #[.agg #[.int .i64 ans.n, .bool ans.e, .slice A2 ans.m.length c2], .int .i64 0]) (by simp [results, Try.results25, go_sem, z0, z1, z2]) rfl ⟨A2, c2, by rw [HK.out], o3.less (by omega), hb0.trans (below3 (by omega) hb0.size)⟩
  · have tk : (check o != 0) = true := by simpa using hk
    have hans := HT.out
    rw [if_neg hk] at hans
    subst hans
    clear HT hk
    generalize check o = er at *
    obtain ⟨y0, y1, y2, fy⟩ := octbox p1
    go_wp2
    clear y0 y1 y2 fy
    have q3 := p1.set3 (v0 := .int .i64 0) (v1 := .bool false) (v2 := .slice none 0 0)
    obtain ⟨z0, z1, z2, fz⟩ := octbox q3
    refine bodyPost_ret (v := .tuple #[.agg #[.int .i64 0, .bool false, .slice none 0 0], .int .i64 er]) (by simp [results, Try.results25, go_sem, z0, z1, z2]) rfl ⟨none, 0, rfl, own_nil _ _, hb0.trans (below3 (by omega) hb0.size)⟩
end Go.Proofs.Ytanbplidigokgaa
