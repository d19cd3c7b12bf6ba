/-
  trans.Edge: a variable and a number added to itself.
  FlowE: a step that leans on what the steps yielded that it waits for; an octagon built out of a fresh slice; a fresh box.
  Drawn regions: calls whose operands are known by the facts of earlier steps; a slice that is built.
  gnomonlaw16.upTo, known: it says yes.
-/
import Derived.Test.YtnmpgijiimglcaaGreatBUA23
import Derived.Test.YtnmpgijiimglcaaGreatBUA19
import Derived.Test.YtnmpgijiimglcaaGreatBUA06
import Derived.Test.YtnmpgijiimglcaaGreatRTop
namespace Go.Proofs.YtnmpgijiimglcaaGreat
section
open Go.RowKit

theorem edge_self {n : Int} {m : List Int} {fr te arr op an bv bn : Int} {d : Nat} (hb : bv < 0) (hk : -2305843009213693952 ≤ bn ∧ bn ≤ 2305843009213693952) : edgeO ⟨n, false, m⟩ ⟨fr, te, 4, (d : Int), arr, op, (d : Int), an, bv, bn⟩ = closeO ⟨n, false, shiftM (2 * n).toNat d bn m⟩ := by
  unfold edgeO
  dsimp only
  rw [if_neg (by omega), if_neg (by omega), if_neg (by omega), if_neg (by omega), if_neg (by omega), if_pos (by omega), if_neg (by omega)]
  rw [show decide ((4 : Int) = 5) = false from rfl]
  unfold addsO
  rw [if_pos (by omega), if_neg (by omega), if_neg (by decide)]
  unfold shiftO
  rw [if_neg (by omega), if_neg (by simp)]
  simp
theorem shift_sx {n : Int} {m : List Int} {N : Nat} (hN : (N : Int) = 2 * n) (hn : N ≤ 128) (hc : Cells N m) {d : Nat} (hd : (d : Int) < n) {k : Int} (hk : -2305843009213693952 ≤ k ∧ k ≤ 2305843009213693952) {A : Option Addr} {cap B : Nat} {W : World} (hm : m.length ≤ 17592186044416) (hB : B ≤ W.heap.size) (hx : Sx W B A m) :
    Calls Tryz.prog 197 #[.agg #[.int .i64 n, .bool false, .slice A m.length cap], .int .i64 (d : Int), .int .i64 (d : Int), .int .i64 k] W (SxRes W B (closeO ⟨n, false, shiftM N d k m⟩)) :=
  (tshift_self n m N hN hn hc d hd k hk A cap W (hx.rd hB) hm).mono fun _ _ h => h.sx hB
/-- KAdd of a variable and a number, to the variable itself. -/
theorem tEdge_self (o : O) (fr te arr op an bv bn : Int) (d : Nat) (ia : I64 an) (hb : bv < 0) (hk : -2305843009213693952 ≤ bn ∧ bn ≤ 2305843009213693952) (hd : (d : Int) < o.n) (A : Option Addr) (cap : Nat) (w : World) (hx : Rd w w.heap.size A o.m) (hm : o.m.length ≤ 17592186044416) (B : Nat) (hB : B ≤ w.heap.size) :
    Calls Tryz.prog 28 #[.agg #[.int .i64 o.n, .bool o.e, .slice A o.m.length cap], .agg #[.int .i64 fr, .int .i64 te, .int .i64 4, .int .i64 (d : Int), .int .i64 arr, .int .i64 op, .int .i64 (d : Int), .int .i64 an, .int .i64 bv, .int .i64 bn]] w (ErrSx w B (transAns o ⟨fr, te, 4, (d : Int), arr, op, (d : Int), an, bv, bn⟩) (transErr o ⟨fr, te, 4, (d : Int), arr, op, (d : Int), an, bv, bn⟩)) := by
  have ib : I64 bn := by unfold I64; omega
  refine tEdge_any o fr te 4 (d : Int) arr op (d : Int) an bv bn A cap w hx hm B hB fun _ N cm Ac cc W hN hn hc _ hBW hsx hmc => ?_
  rw [edge_self hb hk, show (2 * o.n).toNat = N by omega]
  refine tedge_4vn o.n cm fr te d arr op d an bv bn ia ib (by omega) Ac cc W B hBW hsx _ fun W2 hB2 hx2 => ?_
  exact tadds_4 o.n cm fr te d arr op d an bv bn ia ib (by omega) hb Ac cc W2 B hB2 hx2 _ fun W3 hB3 hx3 => shift_sx hN hn hc hd hk hmc hB3 hx3
theorem edge_self5 {n : Int} {m : List Int} {fr te arr op an bv bn : Int} {d : Nat} (hb : bv < 0) (hk : -2305843009213693952 ≤ bn ∧ bn ≤ 2305843009213693952) : edgeO ⟨n, false, m⟩ ⟨fr, te, 5, (d : Int), arr, op, (d : Int), an, bv, bn⟩ = closeO ⟨n, false, shiftM (2 * n).toNat d (-bn) m⟩ := by
  have hneg : negW bn = (-bn, 0) := by unfold negW; exact fit_in (by omega)
  unfold edgeO
  dsimp only
  rw [if_neg (by omega), if_neg (by omega), if_neg (by omega), if_neg (by omega), if_neg (by omega), if_pos (by omega), if_neg (by omega)]
  rw [show decide ((5 : Int) = 5) = true from rfl]
  unfold addsO
  rw [if_pos (by omega), if_neg (by omega), if_pos rfl, hneg, if_pos rfl]
  unfold shiftO
  rw [if_neg (by omega), if_neg (by simp)]
  simp
/-- KSub of a variable and a number, to the variable itself. -/
theorem tEdge_self5 (o : O) (fr te arr op an bv bn : Int) (d : Nat) (ia : I64 an) (hb : bv < 0) (hk : -2305843009213693952 ≤ bn ∧ bn ≤ 2305843009213693952) (hd : (d : Int) < o.n) (A : Option Addr) (cap : Nat) (w : World) (hx : Rd w w.heap.size A o.m) (hm : o.m.length ≤ 17592186044416) (B : Nat) (hB : B ≤ w.heap.size) :
    Calls Tryz.prog 28 #[.agg #[.int .i64 o.n, .bool o.e, .slice A o.m.length cap], .agg #[.int .i64 fr, .int .i64 te, .int .i64 5, .int .i64 (d : Int), .int .i64 arr, .int .i64 op, .int .i64 (d : Int), .int .i64 an, .int .i64 bv, .int .i64 bn]] w (ErrSx w B (transAns o ⟨fr, te, 5, (d : Int), arr, op, (d : Int), an, bv, bn⟩) (transErr o ⟨fr, te, 5, (d : Int), arr, op, (d : Int), an, bv, bn⟩)) := by
  have ib : I64 bn := by unfold I64; omega
  refine tEdge_any o fr te 5 (d : Int) arr op (d : Int) an bv bn A cap w hx hm B hB fun _ N cm Ac cc W hN hn hc _ hBW hsx hmc => ?_
  rw [edge_self5 hb hk, show (2 * o.n).toNat = N by omega]
  refine tedge_5vn o.n cm fr te d arr op d an bv bn ia ib (by omega) Ac cc W B hBW hsx _ fun W2 hB2 hx2 => ?_
  exact tadds_5 o.n cm fr te d arr op d an bv bn ia ib (by omega) hb (by omega) Ac cc W2 B hB2 hx2 _ fun W3 hB3 hx3 => shift_sx hN hn hc hd (by omega) hmc hB3 hx3
end
section
open Go.RowKit

section
variable {P : Program} {ops : Array Oper} {Q : Exit → Act → World → Prop} {w0 : World}
end
end
section
open Go.RowKit

section
variable {P : Program} {ops : Array Oper} {Q : Exit → Act → World → Prop} {w0 : World}
/-- A call whose operands are known by the facts of the steps that it waits for, and whose value is known. -/
theorem FlowE.callFV {m k : Nat} {x : Value} {sl : List Sp} {o : Oper} {rest : List Oper} {a : Act} {fs : Nat → World → Prop} {iv : Nat → Nat × Nat} (hw : Region.wanted o (yielded ops a.tmps) = true)
    (h : ∀ w, Ext w0 w → (∀ i, reachB .any ops i ops.size k = true → fs i w) → ∃ f args, (execOp a.eval o).run P w = .ok (.enter f args) w ∧ Calls P f args w fun e w2 => e = .returned x ∧ Ext w w2) (hr : ∀ lo hi, FlowE P ops Q w0 m sl rest (k + 1) (a.put o.dst x) (upd fs k (Sp.fact w0 (Sp.val x) x lo hi)) (updI iv k (lo, hi))) :
    FlowE P ops Q w0 (m + 1) (Sp.val x :: sl) (o :: rest) k a fs iv := by
  refine ⟨.inl ⟨hw, fun w1 h1 hf K hK => ?_⟩, fun v lo hi hfit => ?_⟩
  · obtain ⟨f, args, he, hc⟩ := h w1 h1 hf
    unfold Oper.wp; rw [he]
    exact hc.mono fun e w2 ⟨he2, h2⟩ => by subst he2; exact hK _ x w2 rfl h2 rfl
  · obtain rfl : v = x := hfit
    exact hr lo hi
/-- An operation whose guard says no. -/
theorem FlowE.skip {m k : Nat} {sl : List Sp} {o : Oper} {rest : List Oper} {a : Act} {fs : Nat → World → Prop} {iv : Nat → Nat × Nat} (hw : Region.wanted o (yielded ops a.tmps) = false)
    (hr : ∀ lo hi, FlowE P ops Q w0 m sl rest (k + 1) (a.put o.dst undef) (upd fs k (Sp.fact w0 (Sp.val undef) undef lo hi)) (updI iv k (lo, hi))) :
    FlowE P ops Q w0 (m + 1) (Sp.val undef :: sl) (o :: rest) k a fs iv :=
  ⟨.inr ⟨hw, rfl⟩, fun v lo hi hfit => by
    obtain rfl : v = undef := hfit
    exact hr lo hi⟩
end
/-- A new block, and a slice over all of it. -/
def IsNew (t : TypeId) (cs : Array Value) (n : Nat) (v : Value) (_ wb : World) : Prop := ∃ g, v = .slice (some ⟨g, 0, none⟩) n n ∧ Blk wb g t cs
theorem fact_new {w0 W : World} {t : TypeId} {cs : Array Value} {n : Nat} {v : Value} {lo hi : Nat} (h : Sp.fact w0 (Sp.any (IsNew t cs n)) v lo hi W) : ∃ g, v = .slice (some ⟨g, 0, none⟩) n n ∧ Blk W g t cs := by
  obtain ⟨wa, wb, _, _, h3, _, _, g, e, k⟩ := h
  exact ⟨g, e, k.later h3⟩
end
section
open Go.RowKit
attribute [local go_sem ↓] Go.wp_at_zero Go.wp_at_succ

def uO (x : Int) : O := ⟨1, false, boundM 2 1 0 0 (boundM 2 0 1 (2 * x) (topM 2 2))⟩
theorem u16_len : (topM 2 2).length = 4 := topM_len 2 2
set_option maxRecDepth 8000 in
set_option maxHeartbeats 1000000 in
theorem upTo16 (x : Int) (hx : 0 ≤ x ∧ x ≤ 1000) (w : World) : Calls Tryz.prog 54 #[.int .i64 x] w (OctOwn w (uO x)) := by
  have h1 : (boundM 2 0 1 (2 * x) (topM 2 2)).length = 4 := by rw [boundM_len, u16_len]
  have h2 : (boundM 2 1 0 0 (boundM 2 0 1 (2 * x) (topM 2 2))).length = 4 := by rw [boundM_len, h1]
  obtain ⟨p0, hb0, -⟩ := new_one w #[.int .i64 0, .bool false, .slice none 0 0] 24
  go_enter Tryz.func54, Tryz.ntmps54
  go_wp2_with fail
  generalize w.alloc (Obj.cells #[.int .i64 0, .bool false, .slice none 0 0] 24) = w0 at *
  refine (rtop_any 1 2 w0 (by omega) rfl).mono ?_
  rintro e1 w1 ⟨A1, c1, rfl, own1, hb1⟩
  have hp0 : w.heap.size < w0.heap.size := p0.lt
  have hw0 := hb0.size
  dsimp only at own1 ⊢
  rw [u16_len]
  replace p0 := p0.later hb1
  replace hb0 := bup hb0 hb1
  have HB1 := hid (rbound_ok 1 (topM 2 2) 2 0 1 w0.heap.size (2 * x) A1 c1 w1 own1 hb1.size rfl (by omega) u16_len (by omega) (by omega) (by omega))
  rw [u16_len] at HB1
  go_wp2_with fail
  refine HB1.out.mono ?_
  clear HB1
  rintro e2 w2 ⟨rfl, own2, hb2⟩
  replace p0 := p0.below hb2 hp0
  have hb12 := hb1.trans hb2
  replace hb0 := hb0.trans (hb2.mono hw0)
  have HB1 := hid (rbound_ok 1 (boundM 2 0 1 (2 * x) (topM 2 2)) 2 1 0 w0.heap.size 0 A1 c1 w2 own2 hb12.size rfl (by omega) h1 (by omega) (by omega) (by omega))
  rw [h1] at HB1
  go_wp2_with fail
  refine HB1.out.mono ?_
  clear HB1
  rintro e3 w3 ⟨rfl, own3, hb3⟩
  replace p0 := p0.below hb3 hp0
  replace hb0 := hb0.trans (hb3.mono hw0)
  obtain ⟨y0, y1, y2, fy⟩ := octbox p0
  have HO := hid (show uO x = ⟨1, false, boundM 2 1 0 0 (boundM 2 0 1 (2 * x) (topM 2 2))⟩ from rfl)
  have HM := hid h2
  clear h1 h2
  generalize boundM 2 1 0 0 (boundM 2 0 1 (2 * x) (topM 2 2)) = om at *
  go_wp2
  have q9 := p0.set3 (v0 := .int .i64 1) (v1 := .bool false) (v2 := .slice A1 4 c1)
  have o9 := own3.far3 (g := w.heap.size) (v0 := .int .i64 1) (v1 := .bool false) (v2 := .slice A1 4 c1) (own_blk' own3 p0 (by decide))
  obtain ⟨z0, z1, z2, fz⟩ := octbox q9
  refine bodyPost_ret (v := .agg #[.int .i64 1, .bool false, .slice A1 4 c1]) (by simp [results, Tryz.results54, go_sem, z0, z1, z2]) rfl ?_
  rw [HO.out]
  exact ⟨A1, c1, by dsimp only; rw [HM.out], o9.less hw0, hb0.trans (below3 (by omega) hb0.size)⟩
def e16 : Edg := ⟨0, 0, 4, 0, -1, 0, 0, 0, -1, 1⟩
theorem eqO_same (o : O) : eqO o o = true := by unfold eqO; simp
theorem k16_a : assumeErr (uO 5) 1 0 (-1) = 0 := by kernel_rfl
theorem k16_b : assumeAns (uO 5) 1 0 0 (-1) 3 = ⟨1, false, (uO 2).m⟩ := by kernel_rfl
theorem k16_c : transErr (uO 5) e16 = 0 := by kernel_rfl
theorem k16_d : transAns (uO 5) e16 = ⟨1, false, [0, 12, -2, 0]⟩ := by kernel_rfl
theorem uO_len (x : Int) : (uO x).m.length = 4 := by unfold uO; dsimp only; rw [boundM_len, boundM_len, u16_len]
set_option maxRecDepth 8000 in
set_option maxHeartbeats 2000000 in
theorem known16_any (w : World) :
    Calls Tryz.prog 19 #[] w fun e w' => e = .returned (.bool true) ∧ Below w.heap.size w w' := by
  have hl2 := uO_len 2
  have hl5 := uO_len 5
  have HA : Hid (∀ (A : Option Addr) (cap : Nat) (W : World), Rd W W.heap.size A (uO 5).m → Calls Tryz.prog 20 #[.agg #[.int .i64 1, .bool false, .slice A 4 cap], .int .i64 1, .agg #[.int .i64 0, .int .i64 0], .agg #[.int .i64 (-1), .int .i64 3]] W (ErrSx W W.heap.size ⟨1, false, (uO 2).m⟩ 0)) := hid (fun A cap W h => by
    have h2 := tassume_any (uO 5) 1 0 0 (-1) 3 (by unfold I64; omega) (by unfold I64; omega) A cap W h (by rw [hl5]; omega) W.heap.size (Nat.le_refl _)
    rw [k16_a, k16_b, hl5] at h2
    exact h2)
  have HE : Hid (∀ (A : Option Addr) (cap : Nat) (W : World), Rd W W.heap.size A (uO 5).m → Calls Tryz.prog 28 #[.agg #[.int .i64 1, .bool false, .slice A 4 cap], .agg #[.int .i64 0, .int .i64 0, .int .i64 4, .int .i64 0, .int .i64 (-1), .int .i64 0, .int .i64 0, .int .i64 0, .int .i64 (-1), .int .i64 1]] W (ErrSx W W.heap.size ⟨1, false, [0, 12, -2, 0]⟩ 0)) := hid (fun A cap W h => by
    have h2 := tEdge_self (uO 5) 0 0 (-1) 0 0 (-1) 1 0 (by unfold I64; omega) (by omega) (by omega) (by show (0 : Int) < 1; omega) A cap W h (by rw [hl5]; omega) W.heap.size (Nat.le_refl _)
    rw [show (⟨0, 0, 4, ((0 : Nat) : Int), -1, 0, ((0 : Nat) : Int), 0, -1, 1⟩ : Edg) = e16 from rfl, k16_c, k16_d, hl5] at h2
    exact h2)
  have hu5 : (uO 5).n = 1 ∧ (uO 5).e = false := ⟨rfl, rfl⟩
  have hu2 : (uO 2).n = 1 ∧ (uO 2).e = false := ⟨rfl, rfl⟩
  have HU5 : Hid (∀ W, Calls Tryz.prog 54 #[.int .i64 5] W (OctOwn W ⟨1, false, (uO 5).m⟩)) := hid (fun W => upTo16 5 (by omega) W)
  have HU2 : Hid (∀ W, Calls Tryz.prog 54 #[.int .i64 2] W (OctOwn W ⟨1, false, (uO 2).m⟩)) := hid (fun W => upTo16 2 (by omega) W)
  clear hu5 hu2
  have HL2 := hid hl2
  have HL5 := hid hl5
  clear hl2 hl5
  generalize (uO 5).m = m5 at *
  generalize (uO 2).m = m2 at *
  go_enter Tryz.func19, Tryz.ntmps19
  go_wp2_with fail
  refine (HU5.out w).mono ?_
  rintro e1 w1 ⟨A1, c1, rfl, own1, hb1⟩
  dsimp only at own1 ⊢
  rw [HL5.out]
  go_wp2_with fail
  refine (HA.out A1 c1 w1 own1.rd).mono ?_
  clear HA
  rintro e2 w2 ⟨A2, c2, rfl, sx2, hb2⟩
  dsimp only at sx2 ⊢
  rw [HL2.out]
  have hr2 := sx2.rd hb2.size
  replace hb2 := bup hb1 hb2
  clear sx2 own1 hb1
  go_wp2_with fail
  obtain ⟨k1, n1, -⟩ := new_one w2 #[.int .i64 1, .bool false, .slice A2 4 c2] 24
  replace hr2 := hr2.up n1
  replace hb2 := bup hb2 n1
  clear n1
  generalize w2.alloc (Obj.cells #[.int .i64 1, .bool false, .slice A2 4 c2] 24) = w3 at *
  generalize w2.heap.size = g1 at *
  refine (HU5.out w3).mono ?_
  clear HU5
  rintro e4 w4 ⟨A4, c4, rfl, own4, hb4⟩
  dsimp only at own4 ⊢
  rw [HL5.out]
  replace hr2 := hr2.up hb4
  replace k1 := k1.later hb4
  replace hb2 := bup hb2 hb4
  clear hb4
  go_wp2_with fail
  refine (HE.out A4 c4 w4 own4.rd).mono ?_
  clear HE
  rintro e5 w5 ⟨A5, c5, rfl, sx5, hb5⟩
  dsimp only [List.length_cons, List.length_nil] at sx5 ⊢
  replace hr2 := hr2.up hb5
  replace k1 := k1.later hb5
  have hr5 := sx5.rd hb5.size
  replace hb2 := bup hb2 hb5
  clear sx5 own4 hb5
  obtain ⟨k3, n3, -⟩ := new_one w5 #[.int .i64 1, .bool false, .slice A5 4 c5] 24
  replace hr2 := hr2.up n3
  replace hr5 := hr5.up n3
  replace k1 := k1.later n3
  replace hb2 := bup hb2 n3
  clear n3
  go_upto_region 3 with fail
  generalize w5.alloc (Obj.cells #[.int .i64 1, .bool false, .slice A5 4 c5] 24) = w6 at *
  generalize w5.heap.size = g3 at *
  obtain ⟨x0, x1, x2, fx⟩ := octbox k1
  obtain ⟨y0, y1, y2, fy⟩ := octbox k3
  have f0 := laterE x0
  have f1 := laterE x1
  have f2 := laterE x2
  have j2 := laterE y2
  clear x0 x1 x2 fx y0 y1 y2 fy
  refine wp_region_flowE 15 [Sp.val (.int .i64 0), Sp.val (.bool true), Sp.val (.bool true), Sp.val (.int .i64 0), Sp.val (.bool true), Sp.val (.bool true), Sp.val (.bool true), Sp.val (.agg #[.int .i64 1, .bool false, .slice A2 4 c2]), Sp.any (IsOct ⟨1, false, m2⟩), Sp.val (.bool true), Sp.val (.bool true), Sp.val (.bool true), Sp.val (.pointer (some ⟨g3, 2, none⟩)), Sp.val (.slice A5 4 c5), Sp.any (IsNew 2 #[.int .i64 0, .int .i64 12, .int .i64 (-2), .int .i64 0] 4)] (by kernel_rfl) (by kernel_rfl) ?_
  iterate 8 (refine FlowE.take (by rfl) (fun W hW R hR => ?_) (fun _ _ => ?_); (go_simp; (try go_bits); with_reducible exact hR); simp only [Act.put, List.setIfInBounds_toArray, List.set_cons_zero, List.set_cons_succ])
  refine FlowE.call 54 #[.int .i64 2] (by rfl) (fun W hW => by go_simp) (fun W hW => (HU2.out W).mono fun _ _ ⟨A1, c1, he, ho, hb⟩ => ⟨_, he, hb, A1, c1, rfl, ho⟩) (fun v8 l8 h8 => ?_)
  simp only [Act.put, List.setIfInBounds_toArray, List.set_cons_zero, List.set_cons_succ]
  refine FlowE.callFV (by rfl) (fun W hW hf => ?_) (fun l9 h9 => ?_)
  · obtain ⟨A8, c8, rfl, o8, _, _, _⟩ := fact_oct (show Sp.fact w6.drew (Sp.any (IsOct ⟨1, false, m2⟩)) v8 l8 h8 W from hf 8 (by kernel_rfl))
    refine ⟨23, #[.agg #[.int .i64 1, .bool false, .slice A2 4 c2], .agg #[.int .i64 1, .bool false, .slice A8 m2.length c8]], by go_simp, ?_⟩
    have h := oct_any ⟨1, false, m2⟩ ⟨1, false, m2⟩ A2 A8 c2 c8 W (hr2.up (Ext.trans (Below.refl _ _).drew hW)) o8.rd (by dsimp only; rw [HL2.out]; omega)
    dsimp only at h
    rw [eqO_same, HL2.out] at h
    rw [HL2.out]
    exact h
  simp only [Act.put, List.setIfInBounds_toArray, List.set_cons_zero, List.set_cons_succ]
  iterate 4 (refine FlowE.take (by rfl) (fun W hW R hR => ?_) (fun _ _ => ?_); (go_simp; (try go_bits); with_reducible exact hR); simp only [Act.put, List.setIfInBounds_toArray, List.set_cons_zero, List.set_cons_succ])
  refine FlowE.step (by rfl) (fun W hW K hK => ?_) (fun v14 l14 h14 => ?_)
  · go_simp
    exact hK _ _ (new1 _ _) ⟨_, rfl, Blk.new _ _ _⟩
  simp only [Act.put, List.setIfInBounds_toArray, List.set_cons_zero, List.set_cons_succ]
  refine FlowE.tail (fun W hW hf hd => ?_)
  replace hW : Below w6.heap.size w6 W := Ext.trans (Below.refl _ _).drew hW
  obtain ⟨gN, rfl, kN⟩ := fact_new (show Sp.fact w6.drew (Sp.any (IsNew 2 #[.int .i64 0, .int .i64 12, .int .i64 (-2), .int .i64 0] 4)) v14 l14 h14 W from hf 14)
  clear hf hd f0 f1 f2 j2
  have hLG := hid (longs_self [0, 12, -2, 0] A5 (some ⟨gN, 0, none⟩) c5 4 W (hr5.up hW) (Blk.rd kN) (by decide))
  dsimp only [List.length_cons, List.length_nil] at hLG
  replace hb2 := bup hb2 hW
  go_wp2_with fail
  refine hLG.out.mono ?_
  rintro e7 w7 ⟨rfl, hb7⟩
  go_wp2
  go_ret
  exact ⟨rfl, bup hb2 hb7⟩
end
end Go.Proofs.YtnmpgijiimglcaaGreat
