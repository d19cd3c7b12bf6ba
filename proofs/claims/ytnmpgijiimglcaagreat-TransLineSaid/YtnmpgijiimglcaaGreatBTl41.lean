import Derived.Test.YtnmpgijiimglcaaGreatBTl23
import Derived.Test.YtnmpgijiimglcaaGreatBTl24
import Derived.Test.YtnmpgijiimglcaaGreatBTl34
import Derived.Test.YtnmpgijiimglcaaGreatBTl35
import Derived.Test.YtnmpgijiimglcaaGreatBTl36
import Derived.Test.YtnmpgijiimglcaaGreatBTl37
import Derived.Test.YtnmpgijiimglcaaGreatBTl40
namespace Go.Proofs.YtnmpgijiimglcaaGreat
section
open Go.RowKit
set_option maxRecDepth 100000
set_option maxHeartbeats 8000000
attribute [local go_sem ↓] Go.wp_at_zero Go.wp_at_succ
theorem tequals_ok (o : O) (ok : check o = 0) (d j : Nat) (hd : (d : Int) < o.n) (hj : (j : Int) < 2 * o.n) (A : Option Addr) (cap : Nat) (w : World) (hx : Rd w w.heap.size A o.m) (hm : o.m.length ≤ 17592186044416) :
  Calls Tryz.prog 134 #[.agg #[o.n, o.e, .slice A o.m.length cap], (d : Int), (j : Int)] w (OctOwn w (linkO o (2 * d) j 0)) := by
 have okF : OkO o.n (forgetO o d) := OkO.forget ⟨rfl, ok⟩ d
 have okP : OkO o.n (withO (forgetO o d) (2 * d) j 0) := okF.with_ (by omega) hj _
 have okQ : OkO o.n (withO (withO (forgetO o d) (2 * d) j 0) j (2 * d) 0) := okP.with_ hj (by omega) _
 have d8 := OkO.small okF
 have d2 := OkO.small okP
 have e3 := OkO.small okQ
 have HF := hid (fun W (h : Rd W W.heap.size A o.m) => tforgets_ok o ok d hd A cap W h hm)
 have HG := hid (show linkO o (2 * d) j 0 = closeO (withO (withO (forgetO o d) (2 * d) j 0) j (2 * d) 0) by unfold linkO; rw [show 2 * d / 2 = d by omega]; try rfl)
 generalize linkO o (2 * d) j 0 = G at *
 have c6 := hid (fun A c W h => limits_ok o.n (forgetO o d) okF (2 * d) j (by omega) hj 0 A c W h d8)
 generalize forgetO o d = F at *
 have c8 := hid (fun A c W h => limits_ok o.n (withO F (2 * d) j 0) okP j (2 * d) hj (by omega) 0 A c W h d2)
 generalize withO F (2 * d) j 0 = P at *
 have c9 := hid (fun A c W h => tclosed_ok (withO P j (2 * d) 0) okQ.ok A c W h e3)
 rw [← HG.out] at c9
 generalize withO P j (2 * d) 0 = Q at *
 have HP := hid (fun W => (plus_ok d (by have := okF.rng; omega) W : Calls Tryz.prog 135 #[(d : Int)] W (IntRes ((2 * d : Nat) : Int) W)))
 have e2 : ((2 * d : Nat) : Int) = 2 * (d : Int) := by simp
 rw [e2] at HP c6 c8
 clear HG okF okP okQ
 obtain ⟨p0, p1, a1, b9⟩ := new_two w #[o.n, o.e, .slice A o.m.length cap] #[.int .i64 0, false, .slice none 0 0] 24 24
 replace hx := hx.up a1
 have d6 := hid b9
 clear b9
 obtain ⟨b5, b6, b7, b4⟩ := octbox p0
 go_enter Tryz.func134, Tryz.ntmps134
 go_wp2_with fail
 clear b5 b6 b7 b4
 generalize (w.alloc (Obj.cells #[o.n, o.e, .slice A o.m.length cap] 24)).alloc (Obj.cells #[.int .i64 0, false, .slice none 0 0] 24) = w1 at *
 (with_reducible refine (HF.out w1 hx).mono ?_)
 rintro c0 w2 ⟨A1, c1, rfl, a4, a0⟩
 replace p0 := p0.later a0
 replace p1 := p1.later a0
 replace hx := hx.up a0
 replace a1 := bup a1 a0
 clear hx
 go_wp2_with fail
 (with_reducible refine (HP.out w2).mono ?_)
 rintro e4 w3 ⟨rfl, rfl⟩
 go_wp2_with fail
 (with_reducible refine (c6.out A1 c1 w2 a4.rd).mono ?_)
 rintro e_w4 w4 ⟨A2, c2, rfl, a2, b2⟩
 replace p0 := p0.later b2
 replace p1 := p1.later b2
 replace a1 := bup a1 b2
 clear a4
 have hg2 : w.heap.size + 2 ≤ w4.heap.size := by have := a1.size; have := p1.lt; omega
 have hw2 := a1.size
 have rd2 := a2.rd
 clear a2
 obtain ⟨p2, d1, -⟩ := new_one w4 #[P.n, P.e, .slice A2 P.m.length c2] 24
 replace p0 := p0.later d1
 replace p1 := p1.later d1
 replace rd2 := rd2.up d1
 replace a1 := bup a1 d1
 go_upto_region 2 with fail
 generalize w4.alloc (Obj.cells #[P.n, P.e, .slice A2 P.m.length c2] 24) = w5 at *
 have f0 := laterE (show w5.cell? ⟨w4.heap.size, 0, none⟩ = some (.int .i64 P.n) from p2.cell 0)
 have f1 := laterE (show w5.cell? ⟨w4.heap.size, 1, none⟩ = some (.bool P.e) from p2.cell 1)
 have f2 := laterE (show w5.cell? ⟨w4.heap.size, 2, none⟩ = some (.slice A2 P.m.length c2) from p2.cell 2)
 refine wp_region_flowE 4 [Sp.val (.agg #[P.n, P.e, .slice A2 P.m.length c2]), Sp.val (.int .i64 (j : Int)), Sp.val (.int .i64 (d : Int)), Sp.val (.int .i64 (2 * (d : Int)))] (by kernel_rfl) (by kernel_rfl) ?_
 (refine fe_t (fun _ _ => ?_))
 (refine fe_t (fun _ _ => ?_))
 (refine fe_t (fun _ _ => ?_))
 refine FlowE.callFV (by rfl) (fun W hW hf => ⟨135, #[(d : Int)], by go_simp, (HP.out W).mono fun e w2 ⟨he, hw⟩ => ⟨he, hw ▸ Ext.refl W⟩⟩) (fun _ _ => ?_)
 refine fe_p ?_
 refine FlowE.tail (fun W hW hf hd => ?_)
 replace hW : Below w5.heap.size w5 W := Ext.trans (Below.refl _ _).drew hW
 clear hf hd f0 f1 f2
 replace p0 := p0.later hW
 replace p1 := p1.later hW
 replace p2 := p2.later hW
 replace rd2 := rd2.up hW
 replace a1 := bup a1 hW
 go_wp2_with fail
 (with_reducible refine (c8.out A2 c2 W rd2).mono ?_)
 rintro e_w6 w6 ⟨A3, c3, rfl, b3, a3⟩
 have rd3 := b3.rd
 clear b3
 replace p0 := p0.later a3
 replace p1 := p1.later a3
 replace p2 := p2.later a3
 replace rd2 := rd2.up a3
 replace a1 := bup a1 a3
 clear rd2
 go_wp2_with fail
 have b8 := a1.size
 (with_reducible refine (c9.out A3 c3 w6 rd3).mono ?_)
 rintro e_w7 w7 ⟨A4, c4, rfl, b1, a5⟩
 replace p0 := p0.later a5
 replace p1 := p1.later a5
 replace p2 := p2.later a5
 replace rd3 := rd3.up a5
 replace a1 := bup a1 a5
 obtain ⟨a6, a9, a7, a8⟩ := octbox p1
 go_wp2
 clear a6 a9 a7 a8
 have o9 := b1.far3 (g := w.heap.size + 1) (v0 := .int .i64 G.n) (v1 := .bool G.e) (v2 := .slice A4 G.m.length c4) (own_blk' b1 p1 (by decide))
 have q9 := p1.set3 (v0 := .int .i64 G.n) (v1 := .bool G.e) (v2 := .slice A4 G.m.length c4)
 have c5 := a1.trans (below3 (W := w7) (g := w.heap.size + 1) (v0 := .int .i64 G.n) (v1 := .bool G.e) (v2 := .slice A4 G.m.length c4) (by omega) a1.size)
 obtain ⟨z0, z1, z2, fz⟩ := octbox q9
 refine bodyPost_ret (v := .agg #[G.n, G.e, .slice A4 G.m.length c4]) (by simp [results, Tryz.results134, go_sem, z0, z1, z2]) rfl ?_
 exact ⟨_, _, rfl, o9.less b8, c5⟩
theorem tshift_far (o : O) (ok : check o = 0) (d y : Nat) (hd : (d : Int) < o.n) (hy : (y : Int) < o.n) (hne : y ≠ d) (k : Int) (hk : -2305843009213693952 ≤ k ∧ k ≤ 2305843009213693952) (A : Option Addr) (cap : Nat) (w : World) (hx : Rd w w.heap.size A o.m) (hm : o.m.length ≤ 17592186044416) :
  Calls Tryz.prog 197 #[.agg #[o.n, o.e, .slice A o.m.length cap], (d : Int), (y : Int), k] w (OctOwn w (linkO o (2 * d) (2 * y) k)) := by
 obtain ⟨j, d7⟩ : ∃ j, j = 2 * y := ⟨_, rfl⟩
 have hj : (j : Int) < 2 * o.n := by omega
 rw [← d7]
 have okF : OkO o.n (forgetO o d) := OkO.forget ⟨rfl, ok⟩ d
 have okP : OkO o.n (withO (forgetO o d) (2 * d) j k) := okF.with_ (by omega) hj _
 have okQ : OkO o.n (withO (withO (forgetO o d) (2 * d) j k) j (2 * d) (-k)) := okP.with_ hj (by omega) _
 have d8 := OkO.small okF
 have d2 := OkO.small okP
 have e3 := OkO.small okQ
 have HF := hid (fun W (h : Rd W W.heap.size A o.m) => tforgets_ok o ok d hd A cap W h hm)
 have HG := hid (show linkO o (2 * d) j k = closeO (withO (withO (forgetO o d) (2 * d) j k) j (2 * d) (-k)) by unfold linkO; rw [show 2 * d / 2 = d by omega]; try rfl)
 generalize linkO o (2 * d) j k = G at *
 have c6 := hid (fun A c W h => limits_ok o.n (forgetO o d) okF (2 * d) j (by omega) hj k A c W h d8)
 generalize forgetO o d = F at *
 have c8 := hid (fun A c W h => limits_ok o.n (withO F (2 * d) j k) okP j (2 * d) hj (by omega) (-k) A c W h d2)
 generalize withO F (2 * d) j k = P at *
 have c9 := hid (fun A c W h => tclosed_ok (withO P j (2 * d) (-k)) okQ.ok A c W h e3)
 rw [← HG.out] at c9
 generalize withO P j (2 * d) (-k) = Q at *
 have HP := hid (fun W => (plus_ok d (by have := okF.rng; omega) W : Calls Tryz.prog 135 #[(d : Int)] W (IntRes ((2 * d : Nat) : Int) W)))
 have e2 : ((2 * d : Nat) : Int) = 2 * (d : Int) := by simp
 rw [e2] at HP c6 c8
 have HM0 := hid okF.rng
 clear HG okF okP okQ
 have d9 := hid (fun W => (plus_ok y (by have := HM0.out; omega) W : Calls Tryz.prog 135 #[(y : Int)] W (IntRes ((2 * y : Nat) : Int) W)))
 rw [← d7] at d9
 have t1 : decide (2305843009213693952 < k) = false := by rw [decide_eq_false_iff_not]; omega
 have t2 : decide (k < -2305843009213693952) = false := by rw [decide_eq_false_iff_not]; omega
 have t3 : ((y : Int) != (d : Int)) = true := by simp; omega
 have hw : wrap64 (-k) = -k := IntWalk.wrap64_in _ (by omega)
 clear d7 hne
 obtain ⟨p0, p3, p1, a1, b9⟩ := new_three w #[o.n, o.e, .slice A o.m.length cap] #[(d : Int)] #[.int .i64 0, false, .slice none 0 0] 24 3 24
 replace hx := hx.up a1
 have d6 := hid b9
 clear b9
 have pd := p3.cell 0
 go_enter Tryz.func197, Tryz.ntmps197
 go_upto_region 4 with fail
 clear pd
 generalize ((w.alloc (Obj.cells #[o.n, o.e, .slice A o.m.length cap] 24)).alloc (Obj.cells #[(d : Int)] 3)).alloc (Obj.cells #[.int .i64 0, false, .slice none 0 0] 24) = w1 at *
 have f0 := laterE (show w1.cell? ⟨w.heap.size, 0, none⟩ = some (.int .i64 o.n) from p0.cell 0)
 have f1 := laterE (show w1.cell? ⟨w.heap.size, 1, none⟩ = some (.bool o.e) from p0.cell 1)
 have f2 := laterE (show w1.cell? ⟨w.heap.size, 2, none⟩ = some (.slice A o.m.length cap) from p0.cell 2)
 have j0 := laterE (show w1.cell? ⟨w.heap.size + 1, 0, none⟩ = some (.int .i64 (d : Int)) from p3.cell 0)
 refine wp_region_flowE 10 [Sp.val (.agg #[o.n, o.e, .slice A o.m.length cap]), Sp.val (.int .i64 (d : Int)), Sp.any (IsOct F), Sp.val (.int .i64 (d : Int)), Sp.val (.int .i64 (2 * (d : Int))), Sp.val (.int .i64 (y : Int)), Sp.val (.int .i64 (j : Int)), Sp.val (.int .i64 k), Sp.any (IsOct P), Sp.any (IsBox 24 #[.int .i64 0, false, .slice none 0 0])] (by kernel_rfl) (by kernel_rfl) ?_
 (refine fe_t (fun _ _ => ?_))
 (refine fe_t (fun _ _ => ?_))
 refine FlowE.call 132 #[.agg #[o.n, o.e, .slice A o.m.length cap], (d : Int)] (by rfl) (fun W hW => by go_simp) (fun W hW => (HF.out W (hx.up (Ext.trans (Below.refl _ _).drew hW))).mono fun _ _ ⟨A1, c1, he, ho, hb⟩ => ⟨_, he, hb, A1, c1, rfl, ho⟩) (fun v2 l2 h2 => ?_)
 refine fe_p ?_
 (refine fe_t (fun _ _ => ?_))
 refine FlowE.callFV (by rfl) (fun W hW hf => ⟨135, #[(d : Int)], by go_simp, (HP.out W).mono fun e w2 ⟨he, hw⟩ => ⟨he, hw ▸ Ext.refl W⟩⟩) (fun _ _ => ?_)
 refine fe_p ?_
 (refine fe_t (fun _ _ => ?_))
 refine FlowE.callFV (by rfl) (fun W hW hf => ⟨135, #[(y : Int)], by go_simp, (d9.out W).mono fun e w2 ⟨he, hw⟩ => ⟨he, hw ▸ Ext.refl W⟩⟩) (fun _ _ => ?_)
 refine fe_p ?_
 (refine fe_t (fun _ _ => ?_))
 refine FlowE.callG (by rfl) (fun W hW hf => ?_) (fun v8 l8 h8 => ?_)
 ·obtain ⟨A1, c1, rfl, o1, _, _, _⟩ := fact_oct (show Sp.fact w1.drew (Sp.any (IsOct F)) v2 l2 h2 W from hf 2 (by kernel_rfl))
  exact ⟨186, #[.agg #[F.n, F.e, .slice A1 F.m.length c1], .int .i64 (2 * (d : Int)), .int .i64 (j : Int), k], by go_simp, (c6.out A1 c1 W o1.rd).mono fun _ _ ⟨A1, c1, he, ho, hb⟩ => ⟨_, he, hb, A1, c1, rfl, ho⟩⟩
 refine fe_p ?_
 refine FlowE.step (by rfl) (fun W hW K hK => ?_) (fun v9 l9 h9 => ?_)
 ·go_simp
  exact hK _ _ (new1 _ _) ⟨rfl, Blk.new _ _ _, by simp⟩
 refine fe_p ?_
 refine FlowE.tail (fun W hW hf hd => ?_)
 replace hW : Below w1.heap.size w1 W := Ext.trans (Below.refl _ _).drew hW
 obtain ⟨A2, c2, rfl, a2, d0, -, -⟩ := fact_oct (show Sp.fact w1.drew (Sp.any (IsOct P)) v8 l8 h8 W from hf 8)
 obtain ⟨g2, rfl, k2, lo2, -, -⟩ := fact_box (show Sp.fact w1.drew (Sp.any (IsBox 24 #[.int .i64 0, false, .slice none 0 0])) v9 l9 h9 W from hf 9)
 replace lo2 : w1.heap.size ≤ g2 := lo2
 replace a2 : Own W w.heap.size A2 c2 P.m := a2.less (by have := d6.out; have h5 : w1.heap.size ≤ l8 := d0; omega)
 have hW0 := d6.out
 clear hf hd f0 f1 f2 j0 HF c6 d0 hx
 replace p0 := p0.later hW
 replace p3 := p3.later hW
 replace p1 := p1.later hW
 replace a1 := bup a1 hW
 clear hW
 obtain ⟨d4, e1, d5, d3⟩ := octbox k2
 go_upto_region 5 with fail
 clear d4 e1 d5 d3
 have c7 := own_blk' a2 k2 (by decide)
 replace a2 := a2.far3 (g := g2) (v0 := .int .i64 P.n) (v1 := .bool P.e) (v2 := .slice A2 P.m.length c2) c7
 replace p0 := p0.far3 (g := g2) (v0 := .int .i64 P.n) (v1 := .bool P.e) (v2 := .slice A2 P.m.length c2) (by omega)
 replace p3 := p3.far3 (g := g2) (v0 := .int .i64 P.n) (v1 := .bool P.e) (v2 := .slice A2 P.m.length c2) (by omega)
 replace p1 := p1.far3 (g := g2) (v0 := .int .i64 P.n) (v1 := .bool P.e) (v2 := .slice A2 P.m.length c2) (by omega)
 replace a1 := a1.trans (below3 (W := W) (g := g2) (v0 := .int .i64 P.n) (v1 := .bool P.e) (v2 := .slice A2 P.m.length c2) (by omega) a1.size)
 replace k2 := k2.set3 (v0 := .int .i64 P.n) (v1 := .bool P.e) (v2 := .slice A2 P.m.length c2)
 generalize ((W.setCell ⟨g2, 0, none⟩ (.int .i64 P.n)).setCell ⟨g2, 1, none⟩ (.bool P.e)).setCell ⟨g2, 2, none⟩ (.slice A2 P.m.length c2) = w4 at *
 have rd2 := a2.rd
 clear a2 c7
 have f0 := laterE (show w4.cell? ⟨g2, 0, none⟩ = some (.int .i64 P.n) from k2.cell 0)
 have f1 := laterE (show w4.cell? ⟨g2, 1, none⟩ = some (.bool P.e) from k2.cell 1)
 have f2 := laterE (show w4.cell? ⟨g2, 2, none⟩ = some (.slice A2 P.m.length c2) from k2.cell 2)
 have j0 := laterE (show w4.cell? ⟨w.heap.size + 1, 0, none⟩ = some (.int .i64 (d : Int)) from p3.cell 0)
 refine wp_region_flowE 7 [Sp.val (.agg #[P.n, P.e, .slice A2 P.m.length c2]), Sp.val (.int .i64 (y : Int)), Sp.val (.int .i64 (j : Int)), Sp.val (.int .i64 (d : Int)), Sp.val (.int .i64 (2 * (d : Int))), Sp.val (.int .i64 k), Sp.val (.int .i64 (-k))] (by kernel_rfl) (by kernel_rfl) ?_
 (refine fe_t (fun _ _ => ?_))
 (refine fe_t (fun _ _ => ?_))
 refine FlowE.callFV (by rfl) (fun W hW hf => ⟨135, #[(y : Int)], by go_simp, (d9.out W).mono fun e w2 ⟨he, hw⟩ => ⟨he, hw ▸ Ext.refl W⟩⟩) (fun _ _ => ?_)
 refine fe_p ?_
 (refine fe_t (fun _ _ => ?_))
 refine FlowE.callFV (by rfl) (fun W hW hf => ⟨135, #[(d : Int)], by go_simp, (HP.out W).mono fun e w2 ⟨he, hw⟩ => ⟨he, hw ▸ Ext.refl W⟩⟩) (fun _ _ => ?_)
 refine fe_p ?_
 (refine fe_t (fun _ _ => ?_))
 (refine fe_t (fun _ _ => ?_))
 clear p0 k2
 refine FlowE.tail (fun W hW hf hd => ?_)
 replace hW : Below w4.heap.size w4 W := Ext.trans (Below.refl _ _).drew hW
 clear hf hd f0 f1 f2 j0
 replace p3 := p3.later hW
 replace p1 := p1.later hW
 replace rd2 := rd2.up hW
 replace a1 := bup a1 hW
 go_wp2_with fail
 (with_reducible refine (c8.out A2 c2 W rd2).mono ?_)
 rintro c0 w2 ⟨A3, c3, rfl, b3, a0⟩
 have rd3 := b3.rd
 clear b3
 replace p3 := p3.later a0
 replace p1 := p1.later a0
 replace rd2 := rd2.up a0
 replace a1 := bup a1 a0
 clear rd2
 go_wp2_with fail
 have b8 := a1.size
 (with_reducible refine (c9.out A3 c3 w2 rd3).mono ?_)
 rintro e4 w3 ⟨A4, c4, rfl, b1, b0⟩
 replace p3 := p3.later b0
 replace p1 := p1.later b0
 replace rd3 := rd3.up b0
 replace a1 := bup a1 b0
 obtain ⟨a6, a9, a7, a8⟩ := octbox p1
 go_wp2
 clear a6 a9 a7 a8
 have o9 := b1.far3 (g := w.heap.size + 2) (v0 := .int .i64 G.n) (v1 := .bool G.e) (v2 := .slice A4 G.m.length c4) (own_blk' b1 p1 (by decide))
 have q9 := p1.set3 (v0 := .int .i64 G.n) (v1 := .bool G.e) (v2 := .slice A4 G.m.length c4)
 have c5 := a1.trans (below3 (W := w3) (g := w.heap.size + 1 + 1) (v0 := .int .i64 G.n) (v1 := .bool G.e) (v2 := .slice A4 G.m.length c4) (by omega) a1.size)
 obtain ⟨z0, z1, z2, fz⟩ := octbox q9
 refine bodyPost_ret (v := .agg #[G.n, G.e, .slice A4 G.m.length c4]) (by simp [results, Tryz.results197, go_sem, z0, z1, z2]) rfl ?_
 exact ⟨_, _, rfl, o9.less b8, c5⟩
theorem tshift_big (o : O) (ok : check o = 0) (d : Nat) (hd : (d : Int) < o.n) (y k : Int) (hk : k < -2305843009213693952 ∨ 2305843009213693952 < k) (A : Option Addr) (cap : Nat) (w : World) (hx : Rd w w.heap.size A o.m) (hm : o.m.length ≤ 17592186044416) :
  Calls Tryz.prog 197 #[.agg #[o.n, o.e, .slice A o.m.length cap], (d : Int), y, k] w (OctOwn w (forgetO o d)) := by
 have HF := hid (fun W (h : Rd W W.heap.size A o.m) => tforgets_ok o ok d hd A cap W h hm)
 generalize forgetO o d = F at *
 have HH := hid hk
 clear hk
 obtain ⟨p0, p3, p1, a1, b9⟩ := new_three w #[o.n, o.e, .slice A o.m.length cap] #[(d : Int)] #[.int .i64 0, false, .slice none 0 0] 24 3 24
 replace hx := hx.up a1
 clear b9
 have pd := p3.cell 0
 obtain ⟨b5, b6, b7, b4⟩ := octbox p0
 by_cases t1 : 2305843009213693952 < k
 ·have t3 : decide (2305843009213693952 < k) = true := decide_eq_true t1
  clear t1
  go_enter Tryz.func197, Tryz.ntmps197
  go_wp2_with fail
  clear pd
  clear b5 b6 b7 b4
  generalize ((w.alloc (Obj.cells #[o.n, o.e, .slice A o.m.length cap] 24)).alloc (Obj.cells #[(d : Int)] 3)).alloc (Obj.cells #[.int .i64 0, false, .slice none 0 0] 24) = w1 at *
  have e0 := a1.size
  (with_reducible refine (HF.out w1 hx).mono ?_)
  rintro c0 w2 ⟨A1, c1, rfl, a4, a0⟩
  replace p0 := p0.later a0
  replace p3 := p3.later a0
  replace p1 := p1.later a0
  replace hx := hx.up a0
  replace a1 := bup a1 a0
  obtain ⟨a6, a9, a7, a8⟩ := octbox p1
  go_wp2
  clear a6 a9 a7 a8
  have o9 := a4.far3 (g := w.heap.size + 2) (v0 := .int .i64 F.n) (v1 := .bool F.e) (v2 := .slice A1 F.m.length c1) (own_blk' a4 p1 (by decide))
  have q9 := p1.set3 (v0 := .int .i64 F.n) (v1 := .bool F.e) (v2 := .slice A1 F.m.length c1)
  have c5 := a1.trans (below3 (W := w2) (g := w.heap.size + 1 + 1) (v0 := .int .i64 F.n) (v1 := .bool F.e) (v2 := .slice A1 F.m.length c1) (by omega) a1.size)
  obtain ⟨z0, z1, z2, fz⟩ := octbox q9
  refine bodyPost_ret (v := .agg #[F.n, F.e, .slice A1 F.m.length c1]) (by simp [results, Tryz.results197, go_sem, z0, z1, z2]) rfl ?_
  exact ⟨_, _, rfl, o9.less e0, c5⟩
 ·have t3 : decide (2305843009213693952 < k) = false := decide_eq_false t1
  have t4 : decide (k < -2305843009213693952) = true := by rw [decide_eq_true_eq]; have := HH.out; omega
  clear t1
  go_enter Tryz.func197, Tryz.ntmps197
  go_wp2_with fail
  clear pd
  clear b5 b6 b7 b4
  generalize ((w.alloc (Obj.cells #[o.n, o.e, .slice A o.m.length cap] 24)).alloc (Obj.cells #[(d : Int)] 3)).alloc (Obj.cells #[.int .i64 0, false, .slice none 0 0] 24) = w1 at *
  have e0 := a1.size
  (with_reducible refine (HF.out w1 hx).mono ?_)
  rintro c0 w2 ⟨A1, c1, rfl, a4, a0⟩
  replace p0 := p0.later a0
  replace p3 := p3.later a0
  replace p1 := p1.later a0
  replace hx := hx.up a0
  replace a1 := bup a1 a0
  obtain ⟨a6, a9, a7, a8⟩ := octbox p1
  go_wp2
  clear a6 a9 a7 a8
  have o9 := a4.far3 (g := w.heap.size + 2) (v0 := .int .i64 F.n) (v1 := .bool F.e) (v2 := .slice A1 F.m.length c1) (own_blk' a4 p1 (by decide))
  have q9 := p1.set3 (v0 := .int .i64 F.n) (v1 := .bool F.e) (v2 := .slice A1 F.m.length c1)
  have c5 := a1.trans (below3 (W := w2) (g := w.heap.size + 1 + 1) (v0 := .int .i64 F.n) (v1 := .bool F.e) (v2 := .slice A1 F.m.length c1) (by omega) a1.size)
  obtain ⟨z0, z1, z2, fz⟩ := octbox q9
  refine bodyPost_ret (v := .agg #[F.n, F.e, .slice A1 F.m.length c1]) (by simp [results, Tryz.results197, go_sem, z0, z1, z2]) rfl ?_
  exact ⟨_, _, rfl, o9.less e0, c5⟩
end
section
open Go.RowKit
set_option maxRecDepth 100000
set_option maxHeartbeats 8000000
structure Rt (n kd dst op av bv : Int) : Prop where
 kd_ : 1 ≤ kd ∧ kd ≤ 14
 dst_ : 2 ≤ kd → kd ≤ 10 → 0 ≤ dst ∧ dst < n
 op_ : kd = 12 → 1 ≤ op ∧ op ≤ 6
 a_ : av = -1 ∨ (0 ≤ av ∧ av < n)
 b_ : bv = -1 ∨ (0 ≤ bv ∧ bv < n)
theorem right_facts {n fr te kd dst arr op av an bv bn : Int} (h : rightT n ⟨fr, te, kd, dst, arr, op, av, an, bv, bn⟩ = true) : Rt n kd dst op av bv := by
 unfold rightT rightE at h
 simp only [Bool.and_eq_true, decide_eq_true_eq] at h
 obtain ⟨⟨⟨⟨⟨h1, h2⟩, _⟩, h4⟩, h5⟩, h6⟩ := h
 refine ⟨h1, fun q1 q2 => ?_, fun q => ?_, ?_, ?_⟩
 ·have e : wDst kd = true := by unfold wDst; rw [decide_eq_true_eq]; exact ⟨q1, q2⟩
  rw [e] at h2
  simpa using h2
 ·have e : wOp kd = true := by unfold wOp; rw [decide_eq_true_eq]; exact q
  rw [e] at h4
  simpa using h4
 ·cases e : wA kd
  ·rw [e] at h5; simp [opdNo] at h5; exact .inl h5.1
  ·rw [e] at h5; simp [opdOk] at h5; omega
 ·cases e : wB kd
  ·rw [e] at h6; simp [opdNo] at h6; exact .inl h6.1
  ·rw [e] at h6; simp [opdOk] at h6; omega
theorem err_right {o : O} {e : Edg} (h : transErr o e = 0) : check o = 0 ∧ rightT o.n e = true := by
 unfold transErr at h
 by_cases hc : check o = 0
 ·rw [if_neg (by simp [hc])] at h
  by_cases hr : rightT o.n e = true
  ·exact ⟨hc, hr⟩
  ·rw [if_neg hr] at h; cases h
 ·rw [if_pos hc] at h; exact absurd h hc
section
variable {n : Int} {cm : List Int} {N : Nat} (hN : (N : Int) = 2 * n) (hn : N ≤ 128) (hc : Cells N cm) {A : Option Addr} {cap : Nat} {W : World} {B : Nat} (hB : B ≤ W.heap.size) (h : Sx W B A cm)
include hN hn hc hB h
theorem equals_sx (d j : Nat) (hd : (d : Int) < n) (hj : (j : Int) < 2 * n) : Calls Tryz.prog 134 #[.agg #[n, false, .slice A cm.length cap], (d : Int), (j : Int)] W (SxRes W B (linkO ⟨n, false, cm⟩ (2 * d) j 0)) :=
 (tequals_ok ⟨n, false, cm⟩ (OkO.of_cells hN hn hc).ok d j hd hj A cap W (h.rd hB) (OkO.small (OkO.of_cells hN hn hc))).mono fun _ _ q => q.sx hB
theorem turns_sx (v : Nat) : Calls Tryz.prog 137 #[.agg #[n, false, .slice A cm.length cap], (v : Int)] W (SxRes W B (turnsO ⟨n, false, cm⟩ v)) := by
 have e : turnsO ⟨n, false, cm⟩ v = closeO ⟨n, false, turnM N v cm⟩ := by
  have hNt : (2 * n).toNat = N := by omega
  unfold turnsO
  dsimp only
  rw [hNt]
 rw [e]
 exact (tturns_ok n cm N hN hn hc v A cap W (h.rd hB) (OkO.small (OkO.of_cells hN hn hc))).mono fun _ _ q => q.sx hB
theorem shift_sxa (d y : Nat) (hd : (d : Int) < n) (hy : (y : Int) < n) (k : Int) : Calls Tryz.prog 197 #[.agg #[n, false, .slice A cm.length cap], (d : Int), (y : Int), k] W (SxRes W B (shiftO ⟨n, false, cm⟩ d y k)) := by
 have okc : OkO n ⟨n, false, cm⟩ := OkO.of_cells hN hn hc
 have hm := OkO.small okc
 have hNt : (2 * n).toNat = N := by omega
 unfold shiftO
 by_cases hk : 2305843009213693952 < k ∨ k < -2305843009213693952
 ·rw [if_pos hk]
  exact (tshift_big ⟨n, false, cm⟩ okc.ok d hd y k (by omega) A cap W (h.rd hB) hm).mono fun _ _ q => q.sx hB
 ·rw [if_neg hk]
  by_cases hyd : y = d
  ·subst hyd
   rw [if_neg (by simp)]
   dsimp only
   rw [hNt]
   exact (tshift_self n cm N hN hn hc y hd k (by omega) A cap W (h.rd hB) hm).mono fun _ _ q => q.sx hB
  ·rw [if_pos hyd]
   exact (tshift_far ⟨n, false, cm⟩ okc.ok d y hd hy hyd k (by omega) A cap W (h.rd hB) hm).mono fun _ _ q => q.sx hB
end
theorem number_sx3 {n : Int} {o : O} (ok : OkO n o) {A : Option Addr} {cap : Nat} {W : World} {B : Nat} (hB : B ≤ W.heap.size) (h : Sx W B A o.m) (fr te arr op av an bv bn : Int) (d : Nat) (hd : (d : Int) < n) (ia : I64 an) (ib : I64 bn) :
  Calls Tryz.prog 136 #[.agg #[o.n, o.e, .slice A o.m.length cap], .agg #[fr, te, .int .i64 3, (d : Int), arr, op, av, an, bv, bn]] W (SxRes W B (numberO o 3 d an bn)) :=
 (tnumber_3 o ok.ok fr te arr op av an bv bn d (by rw [ok.n_]; exact hd) ia ib A cap W (h.rd hB) (OkO.small ok)).mono fun _ _ q => q.sx hB
theorem number_sx4 {n : Int} {o : O} (ok : OkO n o) {A : Option Addr} {cap : Nat} {W : World} {B : Nat} (hB : B ≤ W.heap.size) (h : Sx W B A o.m) (fr te arr op av an bv bn : Int) (d : Nat) (hd : (d : Int) < n) (ia : I64 an) (ib : I64 bn) :
  Calls Tryz.prog 136 #[.agg #[o.n, o.e, .slice A o.m.length cap], .agg #[fr, te, .int .i64 4, (d : Int), arr, op, av, an, bv, bn]] W (SxRes W B (numberO o 4 d an bn)) :=
 (tnumber_4 o ok.ok fr te arr op av an bv bn d (by rw [ok.n_]; exact hd) ia ib A cap W (h.rd hB) (OkO.small ok)).mono fun _ _ q => q.sx hB
theorem number_sx5 {n : Int} {o : O} (ok : OkO n o) {A : Option Addr} {cap : Nat} {W : World} {B : Nat} (hB : B ≤ W.heap.size) (h : Sx W B A o.m) (fr te arr op av an bv bn : Int) (d : Nat) (hd : (d : Int) < n) (ia : I64 an) (ib : I64 bn) :
  Calls Tryz.prog 136 #[.agg #[o.n, o.e, .slice A o.m.length cap], .agg #[fr, te, .int .i64 5, (d : Int), arr, op, av, an, bv, bn]] W (SxRes W B (numberO o 5 d an bn)) :=
 (tnumber_5 o ok.ok fr te arr op av an bv bn d (by rw [ok.n_]; exact hd) ia ib A cap W (h.rd hB) (OkO.small ok)).mono fun _ _ q => q.sx hB
theorem number_sx6 {n : Int} {o : O} (ok : OkO n o) {A : Option Addr} {cap : Nat} {W : World} {B : Nat} (hB : B ≤ W.heap.size) (h : Sx W B A o.m) (fr te arr op av an bv bn : Int) (d : Nat) (hd : (d : Int) < n) (ia : I64 an) (ib : I64 bn) :
  Calls Tryz.prog 136 #[.agg #[o.n, o.e, .slice A o.m.length cap], .agg #[fr, te, .int .i64 6, (d : Int), arr, op, av, an, bv, bn]] W (SxRes W B (numberO o 6 d an bn)) :=
 (tnumber_6 o ok.ok fr te arr op av an bv bn d (by rw [ok.n_]; exact hd) ia ib A cap W (h.rd hB) (OkO.small ok)).mono fun _ _ q => q.sx hB
theorem number_sx7 {n : Int} {o : O} (ok : OkO n o) {A : Option Addr} {cap : Nat} {W : World} {B : Nat} (hB : B ≤ W.heap.size) (h : Sx W B A o.m) (fr te arr op av an bv bn : Int) (d : Nat) (hd : (d : Int) < n) (ia : I64 an) (ib : I64 bn) :
  Calls Tryz.prog 136 #[.agg #[o.n, o.e, .slice A o.m.length cap], .agg #[fr, te, .int .i64 7, (d : Int), arr, op, av, an, bv, bn]] W (SxRes W B (numberO o 7 d an bn)) :=
 (tnumber_7 o ok.ok fr te arr op av an bv bn d (by rw [ok.n_]; exact hd) ia ib A cap W (h.rd hB) (OkO.small ok)).mono fun _ _ q => q.sx hB
theorem number_sx8 {n : Int} {o : O} (ok : OkO n o) {A : Option Addr} {cap : Nat} {W : World} {B : Nat} (hB : B ≤ W.heap.size) (h : Sx W B A o.m) (fr te arr op av an bv bn : Int) (d : Nat) (hd : (d : Int) < n) (ia : I64 an) (ib : I64 bn) :
  Calls Tryz.prog 136 #[.agg #[o.n, o.e, .slice A o.m.length cap], .agg #[fr, te, .int .i64 8, (d : Int), arr, op, av, an, bv, bn]] W (SxRes W B (numberO o 8 d an bn)) :=
 (tnumber_8 o ok.ok fr te arr op av an bv bn d (by rw [ok.n_]; exact hd) ia ib A cap W (h.rd hB) (OkO.small ok)).mono fun _ _ q => q.sx hB
theorem tedge_all (n : Int) (cm : List Int) (N : Nat) (hN : (N : Int) = 2 * n) (hn : N ≤ 128) (hc : Cells N cm) (fr te kd dst arr op av an bv bn : Int) (ia : I64 an) (ib : I64 bn) (rt : Rt n kd dst op av bv) (A : Option Addr) (cap : Nat) (W : World) (B : Nat) (hB : B ≤ W.heap.size) (sx : Sx W B A cm) :
  Calls Tryz.prog 68 #[.agg #[n, false, .slice A cm.length cap], .agg #[fr, te, kd, dst, arr, op, av, an, bv, bn]] W (SxRes W B (edgeO ⟨n, false, cm⟩ ⟨fr, te, kd, dst, arr, op, av, an, bv, bn⟩)) := by
 have okc : OkO n ⟨n, false, cm⟩ := OkO.of_cells hN hn hc
 have hm := OkO.small okc
 have hNt : (2 * n).toNat = N := by omega
 obtain ⟨k1, rd, ro, ra, rb⟩ := rt
 have hk : kd = 1 ∨ kd = 2 ∨ kd = 3 ∨ kd = 4 ∨ kd = 5 ∨ kd = 6 ∨ kd = 7 ∨ kd = 8 ∨ kd = 9 ∨ kd = 10 ∨ kd = 11 ∨ kd = 12 ∨ kd = 13 ∨ kd = 14 := by omega
 rcases hk with rfl | rfl | rfl | rfl | rfl | rfl | rfl | rfl | rfl | rfl | rfl | rfl | rfl | rfl
 ·exact tedge_id 1 (by omega) n cm fr te dst arr op av an bv bn ia ib A cap W B hB sx
 ·
  obtain ⟨d0, d1⟩ := rd (by omega) (by omega)
  obtain ⟨d, rfl⟩ : ∃ d : Nat, dst = (d : Int) := ⟨dst.toNat, by omega⟩
  have e : edgeO ⟨n, false, cm⟩ ⟨fr, te, 2, (d : Int), arr, op, av, an, bv, bn⟩ = if av < 0 then giveO ⟨n, false, cm⟩ d (oneR an) else if av = (d : Int) then ⟨n, false, cm⟩ else linkO ⟨n, false, cm⟩ (2 * d) (2 * av.toNat) 0 := rfl
  rw [e]
  by_cases ha : av < 0
  ·obtain rfl : av = -1 := by omega
   rw [if_pos ha]
   exact tedge_2n n cm fr te d arr op an bv bn ia ib A cap W B hB sx _ fun W2 hB2 hx2 => gives_sx okc hB2 hx2 d d1 (oneR an) ia
  ·rw [if_neg ha]
   obtain ⟨v, rfl⟩ : ∃ v : Nat, av = (v : Int) := ⟨av.toNat, by omega⟩
   by_cases hv : v = d
   ·subst hv
    rw [if_pos rfl]
    exact tedge_2s n cm fr te arr op v an bv bn ia ib (by omega) A cap W B hB sx
   ·rw [if_neg (by omega)]
    refine tedge_2v n cm fr te d arr op an bv bn ia ib v (by omega) (by omega) A cap W B hB sx _ fun W2 hB2 hx2 => ?_
    have q := equals_sx hN hn hc (cap := cap) hB2 hx2 d (2 * v) d1 (by omega)
    rw [show ((2 * v : Nat) : Int) = 2 * (v : Int) by omega] at q
    exact q
 ·
  obtain ⟨d0, d1⟩ := rd (by omega) (by omega)
  obtain ⟨d, rfl⟩ : ∃ d : Nat, dst = (d : Int) := ⟨dst.toNat, by omega⟩
  have e : edgeO ⟨n, false, cm⟩ ⟨fr, te, 3, (d : Int), arr, op, av, an, bv, bn⟩ = if av < 0 then numberO ⟨n, false, cm⟩ 3 d an bn else if av = (d : Int) then turnsO ⟨n, false, cm⟩ d else linkO ⟨n, false, cm⟩ (2 * d) (2 * av.toNat + 1) 0 := rfl
  rw [e]
  by_cases ha : av < 0
  ·obtain rfl : av = -1 := by omega
   rw [if_pos ha]
   exact tedge_3n n cm fr te d arr op an bv bn ia ib A cap W B hB sx _ fun W2 hB2 hx2 => number_sx3 okc hB2 hx2 fr te arr op (-1) an bv bn d d1 ia ib
  ·rw [if_neg ha]
   obtain ⟨v, rfl⟩ : ∃ v : Nat, av = (v : Int) := ⟨av.toNat, by omega⟩
   by_cases hv : v = d
   ·subst hv
    rw [if_pos rfl]
    exact tedge_3s n cm fr te arr op v an bv bn ia ib (by omega) A cap W B hB sx _ fun W2 hB2 hx2 => turns_sx hN hn hc hB2 hx2 v
   ·rw [if_neg (by omega)]
    refine tedge_3v n cm fr te d arr op an bv bn ia ib v (by omega) (by omega) A cap W B hB sx _ fun W2 hB2 hx2 => ?_
    have q := equals_sx hN hn hc (cap := cap) hB2 hx2 d (2 * v + 1) d1 (by omega)
    rw [show ((2 * v + 1 : Nat) : Int) = 2 * (v : Int) + 1 by omega] at q
    exact q
 ·
  obtain ⟨d0, d1⟩ := rd (by omega) (by omega)
  obtain ⟨d, rfl⟩ : ∃ d : Nat, dst = (d : Int) := ⟨dst.toNat, by omega⟩
  have e : edgeO ⟨n, false, cm⟩ ⟨fr, te, 4, (d : Int), arr, op, av, an, bv, bn⟩ = if av < 0 ∧ bv < 0 then numberO ⟨n, false, cm⟩ 4 d an bn else (if 0 ≤ av then (if 0 ≤ bv then sumsO ⟨n, false, cm⟩ d av.toNat bv.toNat false else shiftO ⟨n, false, cm⟩ d av.toNat bn) else shiftO ⟨n, false, cm⟩ d bv.toNat an) := rfl
  rw [e]
  by_cases hab : av < 0 ∧ bv < 0
  ·rw [if_pos hab]
   exact tedge_nn 4 (by omega) n cm fr te d arr op av an bv bn ia ib hab.1 hab.2 A cap W B hB sx _ fun W2 hB2 hx2 => number_sx4 okc hB2 hx2 fr te arr op av an bv bn d d1 ia ib
  ·rw [if_neg hab]
   by_cases ha : 0 ≤ av
   ·rw [if_pos ha]
    refine tedge_av 4 (by omega) n cm fr te d arr op av an bv bn ia ib ha A cap W B hB sx _ fun W2 hB2 hx2 => ?_
    obtain ⟨u, rfl⟩ : ∃ u : Nat, av = (u : Int) := ⟨av.toNat, by omega⟩
    by_cases hb : 0 ≤ bv
    ·rw [if_pos hb]
     refine tadds_4vv n cm fr te d arr op u an bv bn ia ib ha hb A cap W2 B hB2 hx2 _ fun W3 hB3 hx3 => ?_
     obtain ⟨v, rfl⟩ : ∃ v : Nat, bv = (v : Int) := ⟨bv.toNat, by omega⟩
     exact tsums_f n cm N hN hn hc d u v d1 (by omega) (by omega) A cap W3 B hB3 hx3
    ·rw [if_neg hb]
     exact tadds_4 n cm fr te d arr op u an bv bn ia ib ha (by omega) A cap W2 B hB2 hx2 _ fun W3 hB3 hx3 => shift_sxa hN hn hc hB3 hx3 d u d1 (by omega) bn
   ·rw [if_neg ha]
    have hb : 0 ≤ bv := by omega
    refine tedge_an 4 (by omega) n cm fr te d arr op av an bv bn ia ib (by omega) hb A cap W B hB sx _ fun W2 hB2 hx2 => ?_
    refine tadds_4nv n cm fr te d arr op av an bv bn ia ib (by omega) hb A cap W2 B hB2 hx2 _ fun W3 hB3 hx3 => ?_
    obtain ⟨v, rfl⟩ : ∃ v : Nat, bv = (v : Int) := ⟨bv.toNat, by omega⟩
    exact shift_sxa hN hn hc hB3 hx3 d v d1 (by omega) an
 ·
  obtain ⟨d0, d1⟩ := rd (by omega) (by omega)
  obtain ⟨d, rfl⟩ : ∃ d : Nat, dst = (d : Int) := ⟨dst.toNat, by omega⟩
  have e : edgeO ⟨n, false, cm⟩ ⟨fr, te, 5, (d : Int), arr, op, av, an, bv, bn⟩ = if av < 0 ∧ bv < 0 then numberO ⟨n, false, cm⟩ 5 d an bn else (if 0 ≤ av then (if 0 ≤ bv then sumsO ⟨n, false, cm⟩ d av.toNat bv.toNat true else (if (negW bn).2 = 0 then shiftO ⟨n, false, cm⟩ d av.toNat (-bn) else giveO ⟨n, false, cm⟩ d rg0)) else giveO ⟨n, false, cm⟩ d (restR an (varR (2 * n).toNat cm bv.toNat))) := rfl
  rw [e]
  by_cases hab : av < 0 ∧ bv < 0
  ·rw [if_pos hab]
   exact tedge_nn 5 (by omega) n cm fr te d arr op av an bv bn ia ib hab.1 hab.2 A cap W B hB sx _ fun W2 hB2 hx2 => number_sx5 okc hB2 hx2 fr te arr op av an bv bn d d1 ia ib
  ·rw [if_neg hab]
   by_cases ha : 0 ≤ av
   ·rw [if_pos ha]
    refine tedge_av 5 (by omega) n cm fr te d arr op av an bv bn ia ib ha A cap W B hB sx _ fun W2 hB2 hx2 => ?_
    obtain ⟨u, rfl⟩ : ∃ u : Nat, av = (u : Int) := ⟨av.toNat, by omega⟩
    by_cases hb : 0 ≤ bv
    ·rw [if_pos hb]
     refine tadds_5vv n cm fr te d arr op u an bv bn ia ib ha hb A cap W2 B hB2 hx2 _ fun W3 hB3 hx3 => ?_
     obtain ⟨v, rfl⟩ : ∃ v : Nat, bv = (v : Int) := ⟨bv.toNat, by omega⟩
     exact tsums_t n cm N hN hn hc d u v d1 (by omega) (by omega) A cap W3 B hB3 hx3
    ·rw [if_neg hb]
     by_cases hbn : bn = -9223372036854775808
     ·rw [if_neg (show ¬ (negW bn).2 = 0 by unfold negW; rw [hbn, fit_out (by omega)]; decide)]
      exact tadds_5m n cm fr te d arr op u an bv bn ia ib ha (by omega) hbn A cap W2 B hB2 hx2 _ fun W3 hB3 hx3 => gives_sx okc hB3 hx3 d d1 rg0 (show I64 (0 : Int) by unfold I64; omega)
     ·rw [if_pos (show (negW bn).2 = 0 by unfold negW; rw [fit_in (by unfold I64 at ib; omega)])]
      exact tadds_5 n cm fr te d arr op u an bv bn ia ib ha (by omega) hbn A cap W2 B hB2 hx2 _ fun W3 hB3 hx3 => shift_sxa hN hn hc hB3 hx3 d u d1 (by omega) (-bn)
   ·rw [if_neg ha]
    have hb : 0 ≤ bv := by omega
    refine tedge_an 5 (by omega) n cm fr te d arr op av an bv bn ia ib (by omega) hb A cap W B hB sx _ fun W2 hB2 hx2 => ?_
    obtain ⟨v, rfl⟩ : ∃ v : Nat, bv = (v : Int) := ⟨bv.toNat, by omega⟩
    rw [hNt]
    have ir : I64 (restR an (varR N cm v)).lo := by
     unfold restR
     show I64 (if (varR N cm v).hh then (subW an (varR N cm v).hi).1 else 0)
     split
     ·exact fit_i64 _
     ·unfold I64; omega
    exact tadds_5nv n cm fr te d arr op av an v bn ia ib v rfl N hN hn hc (by omega) (by omega) hm A cap W2 B hB2 hx2 _ fun W3 hB3 hx3 => gives_sx okc hB3 hx3 d d1 _ ir
 ·
  obtain ⟨d0, d1⟩ := rd (by omega) (by omega)
  obtain ⟨d, rfl⟩ : ∃ d : Nat, dst = (d : Int) := ⟨dst.toNat, by omega⟩
  have e : edgeO ⟨n, false, cm⟩ ⟨fr, te, 6, (d : Int), arr, op, av, an, bv, bn⟩ = if av < 0 ∧ bv < 0 then numberO ⟨n, false, cm⟩ 6 d an bn else productsO ⟨n, false, cm⟩ 6 d av an bv bn := rfl
  rw [e]
  by_cases hab : av < 0 ∧ bv < 0
  ·rw [if_pos hab]
   exact tedge_nn 6 (by omega) n cm fr te d arr op av an bv bn ia ib hab.1 hab.2 A cap W B hB sx _ fun W2 hB2 hx2 => number_sx6 okc hB2 hx2 fr te arr op av an bv bn d d1 ia ib
  ·rw [if_neg hab]
   by_cases ha : 0 ≤ av
   ·exact tedge_pv 6 (by omega) n cm fr te d arr op av an bv bn ia ib ha A cap W B hB sx _ fun W2 hB2 hx2 => tproducts_6 n cm N hN hn hc fr te arr op av an bv bn d d1 (by omega) (by omega) ia ib A cap W2 B hB2 hx2
   ·exact tedge_pn 6 (by omega) n cm fr te d arr op av an bv bn ia ib (by omega) (by omega) A cap W B hB sx _ fun W2 hB2 hx2 => tproducts_6 n cm N hN hn hc fr te arr op av an bv bn d d1 (by omega) (by omega) ia ib A cap W2 B hB2 hx2
 ·
  obtain ⟨d0, d1⟩ := rd (by omega) (by omega)
  obtain ⟨d, rfl⟩ : ∃ d : Nat, dst = (d : Int) := ⟨dst.toNat, by omega⟩
  have e : edgeO ⟨n, false, cm⟩ ⟨fr, te, 7, (d : Int), arr, op, av, an, bv, bn⟩ = if av < 0 ∧ bv < 0 then numberO ⟨n, false, cm⟩ 7 d an bn else productsO ⟨n, false, cm⟩ 7 d av an bv bn := rfl
  rw [e]
  by_cases hab : av < 0 ∧ bv < 0
  ·rw [if_pos hab]
   exact tedge_nn 7 (by omega) n cm fr te d arr op av an bv bn ia ib hab.1 hab.2 A cap W B hB sx _ fun W2 hB2 hx2 => number_sx7 okc hB2 hx2 fr te arr op av an bv bn d d1 ia ib
  ·rw [if_neg hab]
   by_cases ha : 0 ≤ av
   ·exact tedge_pv 7 (by omega) n cm fr te d arr op av an bv bn ia ib ha A cap W B hB sx _ fun W2 hB2 hx2 => tproducts_7 n cm N hN hn hc fr te arr op av an bv bn d d1 (by omega) (by omega) ia ib A cap W2 B hB2 hx2
   ·exact tedge_pn 7 (by omega) n cm fr te d arr op av an bv bn ia ib (by omega) (by omega) A cap W B hB sx _ fun W2 hB2 hx2 => tproducts_7 n cm N hN hn hc fr te arr op av an bv bn d d1 (by omega) (by omega) ia ib A cap W2 B hB2 hx2
 ·
  obtain ⟨d0, d1⟩ := rd (by omega) (by omega)
  obtain ⟨d, rfl⟩ : ∃ d : Nat, dst = (d : Int) := ⟨dst.toNat, by omega⟩
  have e : edgeO ⟨n, false, cm⟩ ⟨fr, te, 8, (d : Int), arr, op, av, an, bv, bn⟩ = if av < 0 ∧ bv < 0 then numberO ⟨n, false, cm⟩ 8 d an bn else productsO ⟨n, false, cm⟩ 8 d av an bv bn := rfl
  rw [e]
  by_cases hab : av < 0 ∧ bv < 0
  ·rw [if_pos hab]
   exact tedge_nn 8 (by omega) n cm fr te d arr op av an bv bn ia ib hab.1 hab.2 A cap W B hB sx _ fun W2 hB2 hx2 => number_sx8 okc hB2 hx2 fr te arr op av an bv bn d d1 ia ib
  ·rw [if_neg hab]
   by_cases ha : 0 ≤ av
   ·exact tedge_pv 8 (by omega) n cm fr te d arr op av an bv bn ia ib ha A cap W B hB sx _ fun W2 hB2 hx2 => tproducts_8 n cm N hN hn hc fr te arr op av an bv bn d d1 (by omega) (by omega) ia ib A cap W2 B hB2 hx2
   ·exact tedge_pn 8 (by omega) n cm fr te d arr op av an bv bn ia ib (by omega) (by omega) A cap W B hB sx _ fun W2 hB2 hx2 => tproducts_8 n cm N hN hn hc fr te arr op av an bv bn d d1 (by omega) (by omega) ia ib A cap W2 B hB2 hx2
 ·
  obtain ⟨d0, d1⟩ := rd (by omega) (by omega)
  obtain ⟨d, rfl⟩ : ∃ d : Nat, dst = (d : Int) := ⟨dst.toNat, by omega⟩
  have e : edgeO ⟨n, false, cm⟩ ⟨fr, te, 9, (d : Int), arr, op, av, an, bv, bn⟩ = forgetO ⟨n, false, cm⟩ d := rfl
  rw [e]
  exact tedge_fo 9 (by omega) n cm fr te d arr op av an bv bn ia ib A cap W B hB sx _ fun W2 hB2 hx2 => forgets_sx okc hB2 hx2 d d1
 ·
  obtain ⟨d0, d1⟩ := rd (by omega) (by omega)
  obtain ⟨d, rfl⟩ : ∃ d : Nat, dst = (d : Int) := ⟨dst.toNat, by omega⟩
  have e : edgeO ⟨n, false, cm⟩ ⟨fr, te, 10, (d : Int), arr, op, av, an, bv, bn⟩ = forgetO ⟨n, false, cm⟩ d := rfl
  rw [e]
  exact tedge_fo 10 (by omega) n cm fr te d arr op av an bv bn ia ib A cap W B hB sx _ fun W2 hB2 hx2 => forgets_sx okc hB2 hx2 d d1
 ·exact tedge_id 11 (by omega) n cm fr te dst arr op av an bv bn ia ib A cap W B hB sx
 ·have e : edgeO ⟨n, false, cm⟩ ⟨fr, te, 12, dst, arr, op, av, an, bv, bn⟩ = assumesO ⟨n, false, cm⟩ op av an bv bn := rfl
  rw [e]
  exact tedge_12 n cm fr te dst arr op av an bv bn ia ib A cap W B hB sx _ fun W2 hB2 hx2 => assumes_ok n cm N hN hn hc op av an bv bn (ro rfl) (by omega) (by omega) ia ib A cap W2 B hB2 hx2 hm
 ·exact tedge_id 13 (by omega) n cm fr te dst arr op av an bv bn ia ib A cap W B hB sx
 ·have e : edgeO ⟨n, false, cm⟩ ⟨fr, te, 14, dst, arr, op, av, an, bv, bn⟩ = emptyO n := rfl
  rw [e]
  exact tedge_14 n cm fr te dst arr op av an bv bn ia ib A cap W B hB sx _ fun W2 hB2 hx2 => (tempty_ok n W2 (by omega) (by omega)).mono fun _ _ q => q.sx hB2
theorem tEdge_all (o : O) (fr te kd dst arr op av an bv bn : Int) (ia : I64 an) (ib : I64 bn) (A : Option Addr) (cap : Nat) (w : World) (hx : Rd w w.heap.size A o.m) (hm : o.m.length ≤ 17592186044416) (B : Nat) (hB : B ≤ w.heap.size) :
  Calls Tryz.prog 28 #[.agg #[o.n, o.e, .slice A o.m.length cap], .agg #[fr, te, kd, dst, arr, op, av, an, bv, bn]] w (ErrSx w B (transAns o ⟨fr, te, kd, dst, arr, op, av, an, bv, bn⟩) (transErr o ⟨fr, te, kd, dst, arr, op, av, an, bv, bn⟩)) :=
 tEdge_any o fr te kd dst arr op av an bv bn A cap w hx hm B hB fun he N cm Ac cc W hN hn hc _ hBW hsx _ =>
  tedge_all o.n cm N hN hn hc fr te kd dst arr op av an bv bn ia ib (right_facts (err_right he).2) Ac cc W B hBW hsx
end
end Go.Proofs.YtnmpgijiimglcaaGreat
