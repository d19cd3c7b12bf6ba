import Derived.Test.YtnmpgijiimglcaaGreatBTo21
import Derived.Test.YtnmpgijiimglcaaGreatBTo17
import Derived.Test.YtnmpgijiimglcaaGreatBTo36
import Derived.Test.YtnmpgijiimglcaaGreatBTo09
import Derived.Test.YtnmpgijiimglcaaGreatWide
import Derived.Test.YtnmpgijiimglcaaGreatBTo04
namespace Go.Proofs.YtnmpgijiimglcaaGreat
section
open Go.RowKit
set_option maxRecDepth 100000
set_option maxHeartbeats 8000000
section
variable {P : Program} {ops : Array Oper} {Q : Exit → Act → World → Prop} {w0 : World}
theorem FlowE.takeF {m k : Nat} {x : Value} {sl : List Sp} {o : Oper} {rest : List Oper} {a : Act} {fs : Nat → World → Prop} {iv : Nat → Nat × Nat} (hw : Region.wanted o (yielded ops a.tmps) = true)
  (h : ∀ w, Ext w0 w → (∀ i, reachB .any ops i ops.size k = true → fs i w) → ∀ R : Value → Prop, R x → Yl R w ((execOp a.eval o).run P w)) (hr : ∀ lo hi, FlowE P ops Q w0 m sl rest (k + 1) (a.put o.dst x) (upd fs k (Sp.fact w0 (Sp.val x) x lo hi)) (updI iv k (lo, hi))) :
  FlowE P ops Q w0 (m + 1) (Sp.val x :: sl) (o :: rest) k a fs iv := by
 unfold FlowE
 refine ⟨.inl ⟨hw, fun w hS hf K hK => ?_⟩, fun v lo hi hv => by rw [show v = x from hv]; exact hr lo hi⟩
 have h1 := h w hS hf (fun y => y = x) rfl
 unfold Oper.wp
 generalize (execOp a.eval o).run P w = r at *
 cases r with
 | ok n w' =>
  cases n with
  | value y => obtain ⟨e1, e2⟩ := h1; subst e1; subst e2; exact hK _ _ _ rfl (Ext.refl _) rfl
  | _ => exact h1.elim
 | halt x w' => exact h1.elim
theorem FlowE.takeR {m k : Nat} {p : Value → World → World → Prop} {sl : List Sp} {o : Oper} {rest : List Oper} {a : Act} {fs : Nat → World → Prop} {iv : Nat → Nat × Nat} (hw : Region.wanted o (yielded ops a.tmps) = true)
  (h : ∀ w, Ext w0 w → (∀ i, reachB .any ops i ops.size k = true → fs i w) → ∃ x, (∀ R : Value → Prop, R x → Yl R w ((execOp a.eval o).run P w)) ∧ p x w w) (hr : ∀ v lo hi, FlowE P ops Q w0 m sl rest (k + 1) (a.put o.dst v) (upd fs k (Sp.fact w0 (Sp.any p) v lo hi)) (updI iv k (lo, hi))) :
  FlowE P ops Q w0 (m + 1) (Sp.any p :: sl) (o :: rest) k a fs iv :=
 FlowE.stepF hw (fun w hS hf K hK => by
  obtain ⟨x, h0, hp⟩ := h w hS hf
  have h1 := h0 (fun y => y = x) rfl
  unfold Oper.wp
  generalize (execOp a.eval o).run P w = r at *
  cases r with
  | ok n w' =>
   cases n with
   | value y => obtain ⟨e1, e2⟩ := h1; subst e1; subst e2; exact hK _ _ (Ext.refl _) hp
   | _ => exact h1.elim
  | halt x w' => exact h1.elim) hr
end
def IsOneV (p : Int × Int × List Int) (v : Value) (_ wb : World) : Prop := ∃ A c, v = .tuple #[p.1, p.2.1, .slice A p.2.2.length c, .int .i64 0] ∧ Rd wb wb.heap.size A p.2.2
def IsSl (ys : List Int) (v : Value) (_ wb : World) : Prop := ∃ A c, v = .slice A ys.length c ∧ Rd wb wb.heap.size A ys
theorem fact_one {w0 W : World} {p : Int × Int × List Int} {v : Value} {lo hi : Nat} (h : Sp.fact w0 (Sp.any (IsOneV p)) v lo hi W) : ∃ A c, v = .tuple #[p.1, p.2.1, .slice A p.2.2.length c, .int .i64 0] ∧ Rd W W.heap.size A p.2.2 := by
 obtain ⟨wa, wb, e1, e2, e3, rfl, rfl, A1, c1, rfl, own⟩ := h
 exact ⟨A1, c1, rfl, own.up e3⟩
theorem fact_sl {w0 W : World} {ys : List Int} {v : Value} {lo hi : Nat} (h : Sp.fact w0 (Sp.any (IsSl ys)) v lo hi W) : ∃ A c, v = .slice A ys.length c ∧ Rd W W.heap.size A ys := by
 obtain ⟨wa, wb, e1, e2, e3, rfl, rfl, A1, c1, rfl, own⟩ := h
 exact ⟨A1, c1, rfl, own.up e3⟩
end
section
open Go.RowKit
set_option maxRecDepth 100000
set_option maxHeartbeats 8000000
theorem edge_self {n : Int} {m : List Int} {fr te arr op an bv bn : Int} {d : Nat} (hb : bv < 0) (hk : -2305843009213693952 ≤ bn ∧ bn ≤ 2305843009213693952) : edgeO ⟨n, false, m⟩ ⟨fr, te, 4, (d : Int), arr, op, (d : Int), an, bv, bn⟩ = closeO ⟨n, false, shiftM (2 * n).toNat d bn m⟩ := by
 unfold edgeO
 dsimp only
 rw [if_neg (by omega), if_neg (by omega), if_neg (by omega), if_neg (by omega), if_neg (by omega), if_pos (by omega), if_neg (by omega)]
 rw [show decide ((4 : Int) = 5) = false from rfl]
 unfold addsO
 rw [if_pos (by omega), if_neg (by omega), if_neg (by decide)]
 unfold shiftO
 rw [if_neg (by omega), if_neg (by simp)]
 simp
theorem shift_sx {n : Int} {m : List Int} {N : Nat} (hN : (N : Int) = 2 * n) (hn : N ≤ 128) (hc : Cells N m) {d : Nat} (hd : (d : Int) < n) {k : Int} (hk : -2305843009213693952 ≤ k ∧ k ≤ 2305843009213693952) {A : Option Addr} {cap B : Nat} {W : World} (hm : m.length ≤ 17592186044416) (hB : B ≤ W.heap.size) (hx : Sx W B A m) :
  Calls Tryz.prog 197 #[.agg #[n, false, .slice A m.length cap], (d : Int), (d : Int), k] W (SxRes W B (closeO ⟨n, false, shiftM N d k m⟩)) :=
 (tshift_self n m N hN hn hc d hd k hk A cap W (hx.rd hB) hm).mono fun _ _ h => h.sx hB
theorem tEdge_self (o : O) (fr te arr op an bv bn : Int) (d : Nat) (ia : I64 an) (hb : bv < 0) (hk : -2305843009213693952 ≤ bn ∧ bn ≤ 2305843009213693952) (hd : (d : Int) < o.n) (A : Option Addr) (cap : Nat) (w : World) (hx : Rd w w.heap.size A o.m) (hm : o.m.length ≤ 17592186044416) (B : Nat) (hB : B ≤ w.heap.size) :
  Calls Tryz.prog 28 #[.agg #[o.n, o.e, .slice A o.m.length cap], .agg #[fr, te, .int .i64 4, (d : Int), arr, op, (d : Int), an, bv, bn]] w (ErrSx w B (transAns o ⟨fr, te, 4, (d : Int), arr, op, (d : Int), an, bv, bn⟩) (transErr o ⟨fr, te, 4, (d : Int), arr, op, (d : Int), an, bv, bn⟩)) := by
 have ib : I64 bn := by unfold I64; omega
 refine tEdge_any o fr te 4 (d : Int) arr op (d : Int) an bv bn A cap w hx hm B hB fun _ N cm Ac cc W hN hn hc _ hBW hsx hmc => ?_
 rw [edge_self hb hk, show (2 * o.n).toNat = N by omega]
 refine tedge_av 4 (by omega) o.n cm fr te d arr op d an bv bn ia ib (by omega) Ac cc W B hBW hsx _ fun W2 hB2 hx2 => ?_
 exact tadds_4 o.n cm fr te d arr op d an bv bn ia ib (by omega) hb Ac cc W2 B hB2 hx2 _ fun W3 hB3 hx3 => shift_sx hN hn hc hd hk hmc hB3 hx3
end
section
open Go.RowKit
set_option maxRecDepth 100000
set_option maxHeartbeats 8000000
attribute [local go_sem ↓] Go.wp_at_zero Go.wp_at_succ
def uO (x : Int) : O := ⟨1, false, boundM 2 1 0 0 (boundM 2 0 1 (2 * x) (topM 2 2))⟩
theorem u16_len : (topM 2 2).length = 4 := topM_len 2 2
theorem upTo16 (x : Int) (hx : 0 ≤ x ∧ x ≤ 1000) (w : World) : Calls Tryz.prog 54 #[x] w (OctOwn w (uO x)) := by
 have h1 : (boundM 2 0 1 (2 * x) (topM 2 2)).length = 4 := by rw [boundM_len, u16_len]
 have h2 : (boundM 2 1 0 0 (boundM 2 0 1 (2 * x) (topM 2 2))).length = 4 := by rw [boundM_len, h1]
 obtain ⟨p0, a3, -⟩ := new_one w #[.int .i64 0, false, .slice none 0 0] 24
 go_enter Tryz.func54, Tryz.ntmps54
 go_wp2_with fail
 generalize w.alloc (Obj.cells #[.int .i64 0, false, .slice none 0 0] 24) = w0 at *
 refine (rtop_any 1 2 w0 (by omega) rfl).mono ?_
 rintro e1 w1 ⟨A1, c1, rfl, a1, a6⟩
 have hp0 : w.heap.size < w0.heap.size := p0.lt
 have b3 := a3.size
 dsimp only at a1 ⊢
 rw [u16_len]
 replace p0 := p0.later a6
 replace a3 := bup a3 a6
 have a4 := hid (rbound_ok 1 (topM 2 2) 2 0 1 w0.heap.size (2 * x) A1 c1 w1 a1 a6.size rfl (by omega) u16_len (by omega) (by omega) (by omega))
 rw [u16_len] at a4
 go_wp2_with fail
 refine a4.out.mono ?_
 clear a4
 rintro e2 w2 ⟨rfl, b7, a0⟩
 replace p0 := p0.below a0 hp0
 have b8 := a6.trans a0
 replace a3 := a3.trans (a0.mono b3)
 have a4 := hid (rbound_ok 1 (boundM 2 0 1 (2 * x) (topM 2 2)) 2 1 0 w0.heap.size 0 A1 c1 w2 b7 b8.size rfl (by omega) h1 (by omega) (by omega) (by omega))
 rw [h1] at a4
 go_wp2_with fail
 refine a4.out.mono ?_
 clear a4
 rintro e3 w3 ⟨rfl, a9, hb3⟩
 replace p0 := p0.below hb3 hp0
 replace a3 := a3.trans (hb3.mono b3)
 obtain ⟨y0, y1, y2, fy⟩ := octbox p0
 have HO := hid (show uO x = ⟨1, false, boundM 2 1 0 0 (boundM 2 0 1 (2 * x) (topM 2 2))⟩ from rfl)
 have HM := hid h2
 clear h1 h2
 generalize boundM 2 1 0 0 (boundM 2 0 1 (2 * x) (topM 2 2)) = om at *
 go_wp2
 have q9 := p0.set3 (v0 := .int .i64 1) (v1 := .bool false) (v2 := .slice A1 4 c1)
 have o9 := a9.far3 (g := w.heap.size) (v0 := .int .i64 1) (v1 := .bool false) (v2 := .slice A1 4 c1) (own_blk' a9 p0 (by decide))
 obtain ⟨z0, z1, z2, fz⟩ := octbox q9
 refine bodyPost_ret (v := .agg #[.int .i64 1, false, .slice A1 4 c1]) (by simp [results, Tryz.results54, go_sem, z0, z1, z2]) rfl ?_
 rw [HO.out]
 exact ⟨A1, c1, by dsimp only; rw [HM.out], o9.less b3, a3.trans (below3 (by omega) a3.size)⟩
def e16 : Edg := ⟨0, 0, 4, 0, -1, 0, 0, 0, -1, 1⟩
theorem eqO_same (o : O) : eqO o o = true := by unfold eqO; simp
theorem k16_a : assumeErr (uO 5) 1 0 (-1) = 0 := by kernel_rfl
theorem k16_b : assumeAns (uO 5) 1 0 0 (-1) 3 = ⟨1, false, (uO 2).m⟩ := by kernel_rfl
theorem k16_c : transErr (uO 5) e16 = 0 := by kernel_rfl
theorem k16_d : transAns (uO 5) e16 = ⟨1, false, [0, 12, -2, 0]⟩ := by kernel_rfl
theorem uO_len (x : Int) : (uO x).m.length = 4 := by unfold uO; dsimp only; rw [boundM_len, boundM_len, u16_len]
theorem known16_any (w : World) :
  Calls Tryz.prog 19 #[] w fun e w' => e = .returned (.bool true) ∧ Below w.heap.size w w' := by
 have hl2 := uO_len 2
 have a7 := uO_len 5
 have HA : Hid (∀ (A : Option Addr) (cap : Nat) (W : World), Rd W W.heap.size A (uO 5).m → Calls Tryz.prog 20 #[.agg #[.int .i64 1, false, .slice A 4 cap], .int .i64 1, .agg #[.int .i64 0, .int .i64 0], .agg #[.int .i64 (-1), .int .i64 3]] W (ErrSx W W.heap.size ⟨1, false, (uO 2).m⟩ 0)) := hid (fun A cap W h => by
  have h2 := tassume_any (uO 5) 1 0 0 (-1) 3 (by unfold I64; omega) (by unfold I64; omega) A cap W h (by rw [a7]; omega) W.heap.size (Nat.le_refl _)
  rw [k16_a, k16_b, a7] at h2
  exact h2)
 have HE : Hid (∀ (A : Option Addr) (cap : Nat) (W : World), Rd W W.heap.size A (uO 5).m → Calls Tryz.prog 28 #[.agg #[.int .i64 1, false, .slice A 4 cap], .agg #[.int .i64 0, .int .i64 0, .int .i64 4, .int .i64 0, .int .i64 (-1), .int .i64 0, .int .i64 0, .int .i64 0, .int .i64 (-1), .int .i64 1]] W (ErrSx W W.heap.size ⟨1, false, [0, 12, -2, 0]⟩ 0)) := hid (fun A cap W h => by
  have h2 := tEdge_self (uO 5) 0 0 (-1) 0 0 (-1) 1 0 (by unfold I64; omega) (by omega) (by omega) (by show (0 : Int) < 1; omega) A cap W h (by rw [a7]; omega) W.heap.size (Nat.le_refl _)
  rw [show (⟨0, 0, 4, ((0 : Nat) : Int), -1, 0, ((0 : Nat) : Int), 0, -1, 1⟩ : Edg) = e16 from rfl, k16_c, k16_d, a7] at h2
  exact h2)
 have hu5 : (uO 5).n = 1 ∧ (uO 5).e = false := ⟨rfl, rfl⟩
 have hu2 : (uO 2).n = 1 ∧ (uO 2).e = false := ⟨rfl, rfl⟩
 have b4 : Hid (∀ W, Calls Tryz.prog 54 #[.int .i64 5] W (OctOwn W ⟨1, false, (uO 5).m⟩)) := hid (fun W => upTo16 5 (by omega) W)
 have HU2 : Hid (∀ W, Calls Tryz.prog 54 #[.int .i64 2] W (OctOwn W ⟨1, false, (uO 2).m⟩)) := hid (fun W => upTo16 2 (by omega) W)
 clear hu5 hu2
 have b0 := hid hl2
 have HL5 := hid a7
 clear hl2 a7
 generalize (uO 5).m = m5 at *
 generalize (uO 2).m = m2 at *
 go_enter Tryz.func19, Tryz.ntmps19
 go_wp2_with fail
 refine (b4.out w).mono ?_
 rintro e1 w1 ⟨A1, c1, rfl, a1, a6⟩
 dsimp only at a1 ⊢
 rw [HL5.out]
 go_wp2_with fail
 refine (HA.out A1 c1 w1 a1.rd).mono ?_
 clear HA
 rintro e2 w2 ⟨A2, c2, rfl, b6, a0⟩
 dsimp only at b6 ⊢
 rw [b0.out]
 have a2 := b6.rd a0.size
 replace a0 := bup a6 a0
 clear b6 a1 a6
 go_wp2_with fail
 obtain ⟨k1, n1, -⟩ := new_one w2 #[.int .i64 1, false, .slice A2 4 c2] 24
 replace a2 := a2.up n1
 replace a0 := bup a0 n1
 clear n1
 generalize w2.alloc (Obj.cells #[.int .i64 1, false, .slice A2 4 c2] 24) = w3 at *
 generalize w2.heap.size = g1 at *
 refine (b4.out w3).mono ?_
 clear b4
 rintro e4 w4 ⟨A4, c4, rfl, a5, b1⟩
 dsimp only at a5 ⊢
 rw [HL5.out]
 replace a2 := a2.up b1
 replace k1 := k1.later b1
 replace a0 := bup a0 b1
 clear b1
 go_wp2_with fail
 refine (HE.out A4 c4 w4 a5.rd).mono ?_
 clear HE
 rintro e5 w5 ⟨A5, c5, rfl, b2, a8⟩
 dsimp only [List.length_cons, List.length_nil] at b2 ⊢
 replace a2 := a2.up a8
 replace k1 := k1.later a8
 have b5 := b2.rd a8.size
 replace a0 := bup a0 a8
 clear b2 a5 a8
 obtain ⟨k3, n3, -⟩ := new_one w5 #[.int .i64 1, false, .slice A5 4 c5] 24
 replace a2 := a2.up n3
 replace b5 := b5.up n3
 replace k1 := k1.later n3
 replace a0 := bup a0 n3
 clear n3
 go_upto_region 3 with fail
 generalize w5.alloc (Obj.cells #[.int .i64 1, false, .slice A5 4 c5] 24) = w6 at *
 generalize w5.heap.size = g3 at *
 obtain ⟨x0, x1, x2, fx⟩ := octbox k1
 obtain ⟨y0, y1, y2, fy⟩ := octbox k3
 have f0 := laterE x0
 have f1 := laterE x1
 have f2 := laterE x2
 have j2 := laterE y2
 clear x0 x1 x2 fx y0 y1 y2 fy
 refine wp_region_flowE 15 [Sp.val (.int .i64 0), Sp.val (.bool true), Sp.val (.bool true), Sp.val (.int .i64 0), Sp.val (.bool true), Sp.val (.bool true), Sp.val (.bool true), Sp.val (.agg #[.int .i64 1, false, .slice A2 4 c2]), Sp.any (IsOct ⟨1, false, m2⟩), Sp.val (.bool true), Sp.val (.bool true), Sp.val (.bool true), Sp.val (.pointer (some ⟨g3, 2, none⟩)), Sp.val (.slice A5 4 c5), Sp.any (IsNew 2 #[.int .i64 0, .int .i64 12, .int .i64 (-2), .int .i64 0] 4)] (by kernel_rfl) (by kernel_rfl) ?_
 iterate 8 (refine fe_t (fun _ _ => ?_))
 refine FlowE.call 54 #[.int .i64 2] (by rfl) (fun W hW => by go_simp) (fun W hW => (HU2.out W).mono fun _ _ ⟨A1, c1, he, ho, hb⟩ => ⟨_, he, hb, A1, c1, rfl, ho⟩) (fun v8 l8 h8 => ?_)
 refine fe_p ?_
 refine FlowE.callFV (by rfl) (fun W hW hf => ?_) (fun l9 h9 => ?_)
 ·obtain ⟨A8, c8, rfl, o8, _, _, _⟩ := fact_oct (show Sp.fact w6.drew (Sp.any (IsOct ⟨1, false, m2⟩)) v8 l8 h8 W from hf 8 (by kernel_rfl))
  refine ⟨23, #[.agg #[.int .i64 1, false, .slice A2 4 c2], .agg #[.int .i64 1, false, .slice A8 m2.length c8]], by go_simp, ?_⟩
  have h := oct_any ⟨1, false, m2⟩ ⟨1, false, m2⟩ A2 A8 c2 c8 W (a2.up (Ext.trans (Below.refl _ _).drew hW)) o8.rd (by dsimp only; rw [b0.out]; omega)
  dsimp only at h
  rw [eqO_same, b0.out] at h
  rw [b0.out]
  exact h
 refine fe_p ?_
 iterate 4 (refine fe_t (fun _ _ => ?_))
 refine FlowE.step (by rfl) (fun W hW K hK => ?_) (fun v14 l14 h14 => ?_)
 ·go_simp
  exact hK _ _ (new1 _ _) ⟨_, rfl, Blk.new _ _ _⟩
 refine fe_p ?_
 refine FlowE.tail (fun W hW hf hd => ?_)
 replace hW : Below w6.heap.size w6 W := Ext.trans (Below.refl _ _).drew hW
 obtain ⟨gN, rfl, kN⟩ := fact_new (show Sp.fact w6.drew (Sp.any (IsNew 2 #[.int .i64 0, .int .i64 12, .int .i64 (-2), .int .i64 0] 4)) v14 l14 h14 W from hf 14)
 clear hf hd f0 f1 f2 j2
 have hLG := hid (longs_self [0, 12, -2, 0] A5 (some ⟨gN, 0, none⟩) c5 4 W (b5.up hW) (Blk.rd kN) (by decide))
 dsimp only [List.length_cons, List.length_nil] at hLG
 replace a0 := bup a0 hW
 go_wp2_with fail
 refine hLG.out.mono ?_
 rintro e7 w7 ⟨rfl, hb7⟩
 go_wp2
 go_ret
 exact ⟨rfl, bup a0 hb7⟩
end
section
open Go.RowKit
set_option maxRecDepth 100000
set_option maxHeartbeats 8000000
attribute [local go_sem ↓] Go.wp_at_zero Go.wp_at_succ
theorem sgn_pos (a b : Int) : decide (0 < sgnI a b) = decide (b < a) := by
 unfold sgnI
 split
 ·rw [decide_eq_decide]; omega
 ·split
  ·rw [decide_eq_decide]; omega
  ·rw [decide_eq_decide]; omega
def HasRes (o : O) (xs : List Int) (w : World) (e : Ending) (w' : World) : Prop := ∃ b, e = .returned (.bool b) ∧ (b = true ↔ HasO o xs) ∧ Below w.heap.size w w'
theorem has_ok (o : O) (hk : check o = 0) (xs : List Int) (A X : Option Addr) (cap xc : Nat) (w : World) (hx : Rd w w.heap.size A o.m) (hm : o.m.length ≤ 17592186044416) (hxs : Rd w w.heap.size X xs) (hI : ∀ k : Nat, I64 (gI xs (k : Int))) :
  Calls Tryz.prog 41 #[.agg #[o.n, o.e, .slice A o.m.length cap], .slice X xs.length xc] w (HasRes o xs w) := by
 obtain ⟨p0, a0, hsz⟩ := new_one w #[o.n, o.e, .slice A o.m.length cap] 24
 have a7 := hx.up a0
 have a1 := hxs.up a0
 have HK := hid hk
 have HC := hid (fun W h => check_any o A cap W h (by omega))
 rw [HK.out] at HC
 obtain ⟨on, oe, om⟩ := o
 dsimp only at *
 clear hk hsz hx hxs
 go_enter Tryz.func41, Tryz.ntmps41
 obtain ⟨x0, x1, x2, fx⟩ := octbox p0
 go_wp2_with fail
 clear x0 x1 x2 fx
 generalize w.alloc (Obj.cells #[on, oe, .slice A om.length cap] 24) = w0 at *
 (with_reducible refine (HC.out w0 a7).mono ?_)
 clear HC
 rintro e1 w1 ⟨rfl, a5⟩
 replace p0 := p0.later a5
 replace a7 := a7.up a5
 replace a1 := a1.up a5
 replace a0 := bup a0 a5
 clear a5
 obtain ⟨x0, x1, x2, fx⟩ := octbox p0
 cases oe with
 | true =>
  have HF : Hid (¬ HasO ⟨on, true, om⟩ xs) := hid (fun h => by have := h.1; simp at this)
  go_wp2
  go_ret
  exact ⟨false, rfl, ⟨fun h => by simp at h, fun h => absurd h HF.out⟩, a0⟩
 | false =>
  by_cases hl : (xs.length : Int) = on
  rotate_left
  ·have HF : Hid (¬ HasO ⟨on, false, om⟩ xs) := hid (fun h => hl h.2.1)
   have t1 : ((xs.length : Int) != on) = true := by simpa using hl
   clear hl
   go_wp2
   go_ret
   exact ⟨false, rfl, ⟨fun h => by simp at h, fun h => absurd h HF.out⟩, a0⟩
  ·have t1 : ((xs.length : Int) != on) = false := by simpa using hl
   obtain ⟨n0, n1, -, -⟩ := check_ok HK.out
   dsimp only at n0 n1
   obtain ⟨N, hN⟩ : ∃ N : Nat, (N : Int) = 2 * on := ⟨(2 * on).toNat, by omega⟩
   have hn : N ≤ 128 := by omega
   have HCC := hid (cells_of hN HK.out)
   have HHF : Hid (HasO ⟨on, false, om⟩ xs ↔ HasM N om xs) := hid (by unfold HasO; dsimp only; rw [show (2 * on).toNat = N by omega]; simp [hl])
   have HL := hid hl
   have HN := hid hN
   have HML := hid HCC.out.len
   clear hl hN
   go_wp2
   clear x0 x1 x2 fx t1
   go_loopw [25] (fun t wq => ∃ i : Nat, i ≤ N ∧ t = .int .i64 i ∧ (∀ a b : Nat, a < i → b < N → Lets (G N om a b) (apartX xs a b)) ∧ Below w1.heap.size w1 wq) (fun t _ => N - (RowKit.intOf t).toNat)
   case atStart => exact ⟨0, by omega, rfl, fun a b h => by omega, Below.refl _ _⟩
   case round =>
    obtain ⟨i, hi, rfl, a4, hb⟩ := hrel
    have HR := hid a4
    clear a4
    have q0 := p0.later hb
    obtain ⟨x0, x1, x2, fx⟩ := octbox q0
    by_cases hlt : i < N
    ·have hlti : (i : Int) < 2 * on := by have := HN.out; omega
     go_wp2
     clear x0 x1 x2 fx q0
     go_loopw [31] (fun t wq => ∃ j : Nat, j ≤ N ∧ t = .int .i64 j ∧ (∀ b : Nat, b < j → Lets (G N om i b) (apartX xs i b)) ∧ Below w1.heap.size w1 wq) (fun t _ => N - (RowKit.intOf t).toNat)
     case atStart => exact ⟨0, by omega, rfl, fun b h => by omega, hb⟩
     case round =>
      clear hb
      obtain ⟨j, hj, rfl, a2, hb⟩ := hrel
      have a8 := hid a2
      clear a2
      have q0 := p0.later hb
      obtain ⟨x0, x1, x2, fx⟩ := octbox q0
      by_cases hlt2 : j < N
      ·have hltj : (j : Int) < 2 * on := by have := HN.out; omega
       have hx1 := a7.up hb
       have a3 := a1.up hb
       obtain ⟨q1, q2, q3, q4, q5, q6⟩ := idx_ok (i := i) (j := j) HN.out hlt hlt2 hn
       rw [← HML.out] at q4 q6
       obtain ⟨g1, o1, rfl, hg1, c4⟩ := hx1 (i * N + j) q4
       obtain ⟨v, hv⟩ : ∃ v, v = G N om i j := ⟨_, rfl⟩
       have HV := hid hv
       rw [show gI om ((i * N + j : Nat) : Int) = v from hv.symm] at c4
       have hvI : I64 v := by
        have e : isBound (G N om i j) = true := HCC.out.bd i j hlt hlt2
        rw [← hv] at e
        unfold I64
        rcases bndS e with e | e <;> omega
       have HVI := hid hvI
       clear hv hvI
       go_upto_region 9 with fail
       have f0 := later x0
       have f1 := later x1
       have f2 := later x2
       have f4 := later c4
       clear x0 x1 x2 fx c4
       refine wp_region_flow 8 (fun X => Below wr.heap.size wr X) (by kernel_rfl) (by kernel_rfl) (Below.refl _ _).drew ?_
       (repeat (first | refine fl_s ?_ | refine fl_t ?_))
       (refine fl_c 85 #[.agg #[(i : Int), (j : Int)], on] (.int .i64 (2 * on * (i : Int) + (j : Int))) (fun X hX => (at_any _ _ _ _ n0 n1 (by omega) (by omega) (by omega) (by omega)).mono fun e' w' ⟨he, hb'⟩ => ⟨he, bstep hX hX.size hb'⟩) ?_)
       (repeat (first | refine fl_s ?_ | refine fl_t ?_))
       intro w3 a6
       have c4 := f4 w3 a6
       clear f0 f1 f2 f4
       have a9 := a3.up a6
       replace hb := bup hb a6
       clear a3 a6
       cases t2 : (v != 9223372036854775807)
       ·have HG : Hid (Lets (G N om i j) (apartX xs i j)) := hid (.inl (by rw [← HV.out]; simpa using t2))
        go_wp2
        go_roundw
        case rel => exact ⟨j + 1, by omega, by go_num, fun b h => if e : b = j then e ▸ HG.out else a8.out b (by omega), hb⟩
        case measure => simp [RowKit.intOf]; omega
       ·have hv2 : v ≠ 9223372036854775807 := by simpa using t2
        have HV2 := hid hv2
        clear hv2
        have HA := hid (wapart_ok xs i j X xc w3.heap.size w3 a9 (Nat.le_refl _) hI (by have := HL.out; have := HN.out; omega) (by omega) (by have := HL.out; have := HN.out; omega) (by omega))
        go_wp2_with (refine HA.out.mono ?_)
        rintro e4 w4 ⟨rfl, hb4⟩
        clear HA
        have HO := hid (of_ok v HVI.out w4)
        go_wp2_with (refine HO.out.mono ?_)
        rintro e5 w5 ⟨rfl, hb5⟩
        clear HO
        have HW := hid (wcompare_ok (apartX xs i j) v w5)
        go_wp2_with (refine HW.out.mono ?_)
        rintro e6 w6 ⟨rfl, hb6⟩
        clear HW
        replace hb := bup (bup (bup hb hb4) hb5) hb6
        have HS := hid (sgn_pos (apartX xs i j) v)
        generalize sgnI (apartX xs i j) v = sg at *
        by_cases hgt : v < apartX xs i j
        ·have t3 : decide (0 < sg) = true := by rw [HS.out, decide_eq_true_eq]; exact hgt
         have HF : Hid (¬ HasO ⟨on, false, om⟩ xs) := hid (fun h => by
          rcases (HHF.out.1 h) i j hlt hlt2 with e | e
          ·exact HV2.out (by rw [HV.out]; exact e)
          ·rw [← HV.out] at e; omega)
         clear hgt
         go_wp2
         go_ret
         exact ⟨false, rfl, ⟨fun h => by simp at h, fun h => absurd h HF.out⟩, bup a0 hb⟩
        ·have t3 : decide (0 < sg) = false := by rw [HS.out, decide_eq_false_iff_not]; exact hgt
         have HG : Hid (Lets (G N om i j) (apartX xs i j)) := hid (.inr (by rw [← HV.out]; omega))
         clear hgt
         go_wp2
         go_roundw
         case rel => exact ⟨j + 1, by omega, by go_num, fun b h => if e : b = j then e ▸ HG.out else a8.out b (by omega), hb⟩
         case measure => simp [RowKit.intOf]; omega
      ·obtain rfl : j = N := by omega
       have hge : ¬ ((j : Int) < 2 * on) := by have := HN.out; omega
       clear x0 x1 x2 fx q0
       go_wp2
       go_roundw
       case rel => exact ⟨i + 1, by omega, by go_num, fun a b h h2 => if e : a = i then e ▸ a8.out b h2 else HR.out a b (by omega) h2, hb⟩
       case measure => simp [RowKit.intOf]; omega
    ·obtain rfl : i = N := by omega
     have hge : ¬ ((i : Int) < 2 * on) := by have := HN.out; omega
     clear x0 x1 x2 fx q0
     go_wp2
     go_ret
     exact ⟨true, rfl, ⟨fun _ => HHF.out.2 (fun a b ha hb => HR.out a b ha hb), fun _ => rfl⟩, bup a0 hb⟩
end
end Go.Proofs.YtnmpgijiimglcaaGreat
