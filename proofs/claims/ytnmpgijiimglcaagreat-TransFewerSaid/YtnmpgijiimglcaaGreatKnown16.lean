/-
  gnomonlaw16.upTo, known: it says yes.
-/
import Derived.Test.YtnmpgijiimglcaaGreatBTF40
import Derived.Test.YtnmpgijiimglcaaGreatRTop
namespace Go.Proofs.YtnmpgijiimglcaaGreat
open Go.RowKit
attribute [local go_sem ↓] Go.wp_at_zero Go.wp_at_succ

def uO (x : Int) : O := ⟨1, false, boundM 2 1 0 0 (boundM 2 0 1 (2 * x) (topM 2 2))⟩
theorem u16_len : (topM 2 2).length = 4 := topM_len 2 2
set_option maxRecDepth 8000 in
set_option maxHeartbeats 1000000 in
theorem upTo16 (x : Int) (hx : 0 ≤ x ∧ x ≤ 1000) (w : World) : Calls Tryz.prog 54 #[.int .i64 x] w (OctOwn w (uO x)) := by
  have h1 : (boundM 2 0 1 (2 * x) (topM 2 2)).length = 4 := by rw [boundM_len, u16_len]
  have h2 : (boundM 2 1 0 0 (boundM 2 0 1 (2 * x) (topM 2 2))).length = 4 := by rw [boundM_len, h1]
  obtain ⟨p0, hb0, -⟩ := new_one w #[.int .i64 0, .bool false, .slice none 0 0] 24
  go_enter Tryz.func54, Tryz.ntmps54
  go_wp2_with fail
  generalize w.alloc (Obj.cells #[.int .i64 0, .bool false, .slice none 0 0] 24) = w0 at *
  refine (rtop_any 1 2 w0 (by omega) rfl).mono ?_
  rintro e1 w1 ⟨A1, c1, rfl, own1, hb1⟩
  have hp0 : w.heap.size < w0.heap.size := p0.lt
  have hw0 := hb0.size
  dsimp only at own1 ⊢
  rw [u16_len]
  replace p0 := p0.later hb1
  replace hb0 := bup hb0 hb1
  have HB1 := hid (rbound_ok 1 (topM 2 2) 2 0 1 w0.heap.size (2 * x) A1 c1 w1 own1 hb1.size rfl (by omega) u16_len (by omega) (by omega) (by omega))
  rw [u16_len] at HB1
  go_wp2_with fail
  refine HB1.out.mono ?_
  clear HB1
  rintro e2 w2 ⟨rfl, own2, hb2⟩
  replace p0 := p0.below hb2 hp0
  have hb12 := hb1.trans hb2
  replace hb0 := hb0.trans (hb2.mono hw0)
  have HB1 := hid (rbound_ok 1 (boundM 2 0 1 (2 * x) (topM 2 2)) 2 1 0 w0.heap.size 0 A1 c1 w2 own2 hb12.size rfl (by omega) h1 (by omega) (by omega) (by omega))
  rw [h1] at HB1
  go_wp2_with fail
  refine HB1.out.mono ?_
  clear HB1
  rintro e3 w3 ⟨rfl, own3, hb3⟩
  replace p0 := p0.below hb3 hp0
  replace hb0 := hb0.trans (hb3.mono hw0)
  obtain ⟨y0, y1, y2, fy⟩ := octbox p0
  have HO := hid (show uO x = ⟨1, false, boundM 2 1 0 0 (boundM 2 0 1 (2 * x) (topM 2 2))⟩ from rfl)
  have HM := hid h2
  clear h1 h2
  generalize boundM 2 1 0 0 (boundM 2 0 1 (2 * x) (topM 2 2)) = om at *
  go_wp2
  have q9 := p0.set3 (v0 := .int .i64 1) (v1 := .bool false) (v2 := .slice A1 4 c1)
  have o9 := own3.far3 (g := w.heap.size) (v0 := .int .i64 1) (v1 := .bool false) (v2 := .slice A1 4 c1) (own_blk' own3 p0 (by decide))
  obtain ⟨z0, z1, z2, fz⟩ := octbox q9
  refine bodyPost_ret (v := .agg #[.int .i64 1, .bool false, .slice A1 4 c1]) (by simp [results, Tryz.results54, go_sem, z0, z1, z2]) rfl ?_
  rw [HO.out]
  exact ⟨A1, c1, by dsimp only; rw [HM.out], o9.less hw0, hb0.trans (below3 (by omega) hb0.size)⟩
def e16 : Edg := ⟨0, 0, 4, 0, -1, 0, 0, 0, -1, 1⟩
theorem eqO_same (o : O) : eqO o o = true := by unfold eqO; simp
theorem k16_a : assumeErr (uO 5) 1 0 (-1) = 0 := by kernel_rfl
theorem k16_b : assumeAns (uO 5) 1 0 0 (-1) 3 = ⟨1, false, (uO 2).m⟩ := by kernel_rfl
theorem k16_c : transErr (uO 5) e16 = 0 := by kernel_rfl
theorem k16_d : transAns (uO 5) e16 = ⟨1, false, [0, 12, -2, 0]⟩ := by kernel_rfl
theorem uO_len (x : Int) : (uO x).m.length = 4 := by unfold uO; dsimp only; rw [boundM_len, boundM_len, u16_len]
set_option maxRecDepth 8000 in
set_option maxHeartbeats 2000000 in
theorem known16_any (w : World) :
    Calls Tryz.prog 19 #[] w fun e w' => e = .returned (.bool true) ∧ Below w.heap.size w w' := by
  have hl2 := uO_len 2
  have hl5 := uO_len 5
  have HA : Hid (∀ (A : Option Addr) (cap : Nat) (W : World), Rd W W.heap.size A (uO 5).m → Calls Tryz.prog 20 #[.agg #[.int .i64 1, .bool false, .slice A 4 cap], .int .i64 1, .agg #[.int .i64 0, .int .i64 0], .agg #[.int .i64 (-1), .int .i64 3]] W (ErrSx W W.heap.size ⟨1, false, (uO 2).m⟩ 0)) := hid (fun A cap W h => by
    have h2 := tassume_any (uO 5) 1 0 0 (-1) 3 (by unfold I64; omega) (by unfold I64; omega) A cap W h (by rw [hl5]; omega) W.heap.size (Nat.le_refl _)
    rw [k16_a, k16_b, hl5] at h2
    exact h2)
  have HE : Hid (∀ (A : Option Addr) (cap : Nat) (W : World), Rd W W.heap.size A (uO 5).m → Calls Tryz.prog 28 #[.agg #[.int .i64 1, .bool false, .slice A 4 cap], .agg #[.int .i64 0, .int .i64 0, .int .i64 4, .int .i64 0, .int .i64 (-1), .int .i64 0, .int .i64 0, .int .i64 0, .int .i64 (-1), .int .i64 1]] W (ErrSx W W.heap.size ⟨1, false, [0, 12, -2, 0]⟩ 0)) := hid (fun A cap W h => by
    have h2 := tEdge_self (uO 5) 0 0 (-1) 0 0 (-1) 1 0 (by unfold I64; omega) (by omega) (by omega) (by show (0 : Int) < 1; omega) A cap W h (by rw [hl5]; omega) W.heap.size (Nat.le_refl _)
    rw [show (⟨0, 0, 4, ((0 : Nat) : Int), -1, 0, ((0 : Nat) : Int), 0, -1, 1⟩ : Edg) = e16 from rfl, k16_c, k16_d, hl5] at h2
    exact h2)
  have hu5 : (uO 5).n = 1 ∧ (uO 5).e = false := ⟨rfl, rfl⟩
  have hu2 : (uO 2).n = 1 ∧ (uO 2).e = false := ⟨rfl, rfl⟩
  have HU5 : Hid (∀ W, Calls Tryz.prog 54 #[.int .i64 5] W (OctOwn W ⟨1, false, (uO 5).m⟩)) := hid (fun W => upTo16 5 (by omega) W)
  have HU2 : Hid (∀ W, Calls Tryz.prog 54 #[.int .i64 2] W (OctOwn W ⟨1, false, (uO 2).m⟩)) := hid (fun W => upTo16 2 (by omega) W)
  clear hu5 hu2
  have HL2 := hid hl2
  have HL5 := hid hl5
  clear hl2 hl5
  generalize (uO 5).m = m5 at *
  generalize (uO 2).m = m2 at *
  go_enter Tryz.func19, Tryz.ntmps19
  go_wp2_with fail
  refine (HU5.out w).mono ?_
  rintro e1 w1 ⟨A1, c1, rfl, own1, hb1⟩
  dsimp only at own1 ⊢
  rw [HL5.out]
  go_wp2_with fail
  refine (HA.out A1 c1 w1 own1.rd).mono ?_
  clear HA
  rintro e2 w2 ⟨A2, c2, rfl, sx2, hb2⟩
  dsimp only at sx2 ⊢
  rw [HL2.out]
  have hr2 := sx2.rd hb2.size
  replace hb2 := bup hb1 hb2
  clear sx2 own1 hb1
  go_wp2_with fail
  obtain ⟨k1, n1, -⟩ := new_one w2 #[.int .i64 1, .bool false, .slice A2 4 c2] 24
  replace hr2 := hr2.up n1
  replace hb2 := bup hb2 n1
  clear n1
  generalize w2.alloc (Obj.cells #[.int .i64 1, .bool false, .slice A2 4 c2] 24) = w3 at *
  generalize w2.heap.size = g1 at *
  refine (HU5.out w3).mono ?_
  clear HU5
  rintro e4 w4 ⟨A4, c4, rfl, own4, hb4⟩
  dsimp only at own4 ⊢
  rw [HL5.out]
  replace hr2 := hr2.up hb4
  replace k1 := k1.later hb4
  replace hb2 := bup hb2 hb4
  clear hb4
  go_wp2_with fail
  refine (HE.out A4 c4 w4 own4.rd).mono ?_
  clear HE
  rintro e5 w5 ⟨A5, c5, rfl, sx5, hb5⟩
  dsimp only [List.length_cons, List.length_nil] at sx5 ⊢
  replace hr2 := hr2.up hb5
  replace k1 := k1.later hb5
  have hr5 := sx5.rd hb5.size
  replace hb2 := bup hb2 hb5
  clear sx5 own4 hb5
  obtain ⟨k3, n3, -⟩ := new_one w5 #[.int .i64 1, .bool false, .slice A5 4 c5] 24
  replace hr2 := hr2.up n3
  replace hr5 := hr5.up n3
  replace k1 := k1.later n3
  replace hb2 := bup hb2 n3
  clear n3
  go_upto_region 3 with fail
  generalize w5.alloc (Obj.cells #[.int .i64 1, .bool false, .slice A5 4 c5] 24) = w6 at *
  generalize w5.heap.size = g3 at *
  obtain ⟨x0, x1, x2, fx⟩ := octbox k1
  obtain ⟨y0, y1, y2, fy⟩ := octbox k3
  have f0 := laterE x0
  have f1 := laterE x1
  have f2 := laterE x2
  have j2 := laterE y2
  clear x0 x1 x2 fx y0 y1 y2 fy
  refine wp_region_flowE 15 [Sp.val (.int .i64 0), Sp.val (.bool true), Sp.val (.bool true), Sp.val (.int .i64 0), Sp.val (.bool true), Sp.val (.bool true), Sp.val (.bool true), Sp.val (.agg #[.int .i64 1, .bool false, .slice A2 4 c2]), Sp.any (IsOct ⟨1, false, m2⟩), Sp.val (.bool true), Sp.val (.bool true), Sp.val (.bool true), Sp.val (.pointer (some ⟨g3, 2, none⟩)), Sp.val (.slice A5 4 c5), Sp.any (IsNew 2 #[.int .i64 0, .int .i64 12, .int .i64 (-2), .int .i64 0] 4)] (by kernel_rfl) (by kernel_rfl) ?_
  iterate 8 (refine FlowE.take (by rfl) (fun W hW R hR => ?_) (fun _ _ => ?_); (go_simp; (try go_bits); with_reducible exact hR); simp only [Act.put, List.setIfInBounds_toArray, List.set_cons_zero, List.set_cons_succ])
  refine FlowE.call 54 #[.int .i64 2] (by rfl) (fun W hW => by go_simp) (fun W hW => (HU2.out W).mono fun _ _ ⟨A1, c1, he, ho, hb⟩ => ⟨_, he, hb, A1, c1, rfl, ho⟩) (fun v8 l8 h8 => ?_)
  simp only [Act.put, List.setIfInBounds_toArray, List.set_cons_zero, List.set_cons_succ]
  refine FlowE.callFV (by rfl) (fun W hW hf => ?_) (fun l9 h9 => ?_)
  · obtain ⟨A8, c8, rfl, o8, _, _, _⟩ := fact_oct (show Sp.fact w6.drew (Sp.any (IsOct ⟨1, false, m2⟩)) v8 l8 h8 W from hf 8 (by kernel_rfl))
    refine ⟨23, #[.agg #[.int .i64 1, .bool false, .slice A2 4 c2], .agg #[.int .i64 1, .bool false, .slice A8 m2.length c8]], by go_simp, ?_⟩
    have h := oct_any ⟨1, false, m2⟩ ⟨1, false, m2⟩ A2 A8 c2 c8 W (hr2.up (Ext.trans (Below.refl _ _).drew hW)) o8.rd (by dsimp only; rw [HL2.out]; omega)
    dsimp only at h
    rw [eqO_same, HL2.out] at h
    rw [HL2.out]
    exact h
  simp only [Act.put, List.setIfInBounds_toArray, List.set_cons_zero, List.set_cons_succ]
  iterate 4 (refine FlowE.take (by rfl) (fun W hW R hR => ?_) (fun _ _ => ?_); (go_simp; (try go_bits); with_reducible exact hR); simp only [Act.put, List.setIfInBounds_toArray, List.set_cons_zero, List.set_cons_succ])
  refine FlowE.step (by rfl) (fun W hW K hK => ?_) (fun v14 l14 h14 => ?_)
  · go_simp
    exact hK _ _ (new1 _ _) ⟨_, rfl, Blk.new _ _ _⟩
  simp only [Act.put, List.setIfInBounds_toArray, List.set_cons_zero, List.set_cons_succ]
  refine FlowE.tail (fun W hW hf hd => ?_)
  replace hW : Below w6.heap.size w6 W := Ext.trans (Below.refl _ _).drew hW
  obtain ⟨gN, rfl, kN⟩ := fact_new (show Sp.fact w6.drew (Sp.any (IsNew 2 #[.int .i64 0, .int .i64 12, .int .i64 (-2), .int .i64 0] 4)) v14 l14 h14 W from hf 14)
  clear hf hd f0 f1 f2 j2
  have hLG := hid (longs_self [0, 12, -2, 0] A5 (some ⟨gN, 0, none⟩) c5 4 W (hr5.up hW) (Blk.rd kN) (by decide))
  dsimp only [List.length_cons, List.length_nil] at hLG
  replace hb2 := bup hb2 hW
  go_wp2_with fail
  refine hLG.out.mono ?_
  rintro e7 w7 ⟨rfl, hb7⟩
  go_wp2
  go_ret
  exact ⟨rfl, bup hb2 hb7⟩
end Go.Proofs.YtnmpgijiimglcaaGreat
