/-
  gnomonref13.Close of octagons that may be; gnomonlaw16.steady.
  gnomonref16.Assume: what it answers.
-/
import Derived.Test.YtnmpgijiimglcaaGreatRAssume
import Derived.Test.YtnmpgijiimglcaaGreatAssume
namespace Go.Proofs.YtnmpgijiimglcaaGreat
section
open Go.RowKit
attribute [local go_sem ↓] Go.wp_at_zero Go.wp_at_succ

def R13Res (w : World) (o : O) (e : Ending) (w' : World) : Prop := ∃ A1 c1 s, e = .returned (.tuple #[.agg #[.int .i64 o.n, .bool o.e, .slice A1 o.m.length c1], .bool s, .int .i64 0]) ∧ Own w' w.heap.size A1 c1 o.m ∧ Below w.heap.size w w'
set_option maxHeartbeats 2000000 in
theorem r13close_ok (o : O) (A : Option Addr) (c : Nat) (w : World) (hx : Rd w w.heap.size A o.m) (hm : o.m.length ≤ 17592186044416) (hk : check o = 0) :
    Calls Tryz.prog 62 #[.agg #[.int .i64 o.n, .bool o.e, .slice A o.m.length c]] w (R13Res w (closeO o)) := by
  have hb0 : Below w.heap.size w ((w.alloc (Obj.cells #[.int .i64 o.n, .bool o.e, .slice A o.m.length c] 24)).alloc (Obj.cells #[.int .i64 0, .bool false, .slice none 0 0] 24)) := ((Below.refl _ _).alloc (Nat.le_refl _) _).alloc (by simp) _
  obtain ⟨p0, p1⟩ := blk_two (w := w) (Below.refl _ ((w.alloc (Obj.cells #[.int .i64 o.n, .bool o.e, .slice A o.m.length c] 24)).alloc (Obj.cells #[.int .i64 0, .bool false, .slice none 0 0] 24)))
  have HC := hid (rcheck_any o A c _ (hx.up hb0) (by omega))
  have HK := hid hk
  have hx0 := hx.up hb0
  have hle := hb0.size
  clear hk
  go_enter Tryz.func62, Tryz.ntmps62
  go_wp2_with fail
  refine HC.out.mono ?_
  clear HC
  rw [HK.out]
  generalize (w.alloc (Obj.cells #[.int .i64 o.n, .bool o.e, .slice A o.m.length c] 24)).alloc (Obj.cells #[.int .i64 0, .bool false, .slice none 0 0] 24) = w0 at *
  rintro e1 w1 ⟨rfl, hb1⟩
  replace p0 := p0.later hb1
  replace p1 := p1.later hb1
  replace hb0 := bup hb0 hb1
  have HR := hid (r13_any o A c w1 (hx0.up hb1) hm HK.out)
  generalize closeO o = q at *
  obtain ⟨qn, qe, qm⟩ := q
  dsimp only at *
  have hw1 := hb1.size
  clear hb1
  obtain ⟨x0, x1, x2, fx⟩ := octbox p0
  go_wp2_with fail
  clear x0 x1 x2 fx
  refine HR.out.mono ?_
  clear HR
  rintro e2 w2 ⟨A2, c2, s2, rfl, own2, hb2⟩
  dsimp only at own2 ⊢
  have n3 := new1 w2 (Obj.cells #[.int .i64 qn, .bool qe, .slice A2 qm.length c2] 24)
  have k3 := Blk.new w2 24 #[.int .i64 qn, .bool qe, .slice A2 qm.length c2]
  replace own2 := own2.below n3
  replace p1 := p1.later (bup hb2 n3)
  replace hb0 := bup hb0 (bup hb2 n3)
  obtain ⟨x0, x1, x2, fx⟩ := octbox k3
  obtain ⟨y0, y1, y2, fy⟩ := octbox p1
  go_wp2
  clear x0 x1 x2 fx y0 y1 y2 fy
  have q3 := p1.set3 (v0 := .int .i64 qn) (v1 := .bool qe) (v2 := .slice A2 qm.length c2)
  have hne := own_blk' own2 p1 (by decide)
  have o3 := own2.far3 (g := w.heap.size + 1) (v0 := .int .i64 qn) (v1 := .bool qe) (v2 := .slice A2 qm.length c2) hne
  obtain ⟨z0, z1, z2, fz⟩ := octbox q3
  refine bodyPost_ret (v := .tuple #[.agg #[.int .i64 qn, .bool qe, .slice A2 qm.length c2], .bool s2, .int .i64 0]) (by simp [results, Tryz.results62, go_sem, z0, z1, z2]) rfl ⟨A2, c2, s2, rfl, o3.less (by omega), hb0.trans (below3 (by omega) hb0.size)⟩


/-- Is an octagon that was closed the same when it is closed again? -/
def steadyB (o : O) : Bool := eqO (closeO o) (closeO (closeO o))
set_option maxRecDepth 8000 in
set_option maxHeartbeats 2000000 in
theorem steady_ok (o : O) (A : Option Addr) (cap : Nat) (w : World) (hx : Rd w w.heap.size A o.m) (hm : o.m.length ≤ 17592186044416) (hk : check o = 0) :
    Calls Tryz.prog 24 #[.agg #[.int .i64 o.n, .bool o.e, .slice A o.m.length cap]] w (BelVal (.bool (steadyB o)) w) := by
  obtain ⟨p0, hb0, hsz⟩ := new_one w #[.int .i64 o.n, .bool o.e, .slice A o.m.length cap] 24
  have hx0 := hx.up hb0
  have HC1 := hid (fun W (h : Rd W W.heap.size A o.m) => r13close_ok o A cap W h hm hk)
  have ok1 : OkO o.n (closeO o) := OkO.close ⟨rfl, hk⟩
  have ok2 := OkO.close ok1
  have hm1 := OkO.small ok1
  have hm2 := OkO.small ok2
  have HC2 := hid (fun A c W (h : Rd W W.heap.size A (closeO o).m) => r13close_ok (closeO o) A c W h hm1 ok1.ok)
  have HE := hid (show steadyB o = eqO (closeO o) (closeO (closeO o)) from rfl)
  rw [HE.out]
  generalize closeO (closeO o) = q2 at *
  generalize closeO o = q1 at *
  clear hsz hx hk ok1 ok2 HE
  go_enter Tryz.func24, Tryz.ntmps24
  obtain ⟨x0, x1, x2, fx⟩ := octbox p0
  go_wp2_with fail
  clear x0 x1 x2 fx
  generalize w.alloc (Obj.cells #[.int .i64 o.n, .bool o.e, .slice A o.m.length cap] 24) = w0 at *
  (with_reducible refine (HC1.out w0 hx0).mono ?_)
  clear HC1
  rintro e1 w1 ⟨A1, c1, s1, rfl, own1, hb1⟩
  replace hb0 := bup hb0 hb1
  obtain ⟨p3, hb2, -⟩ := new_one w1 #[.int .i64 q1.n, .bool q1.e, .slice A1 q1.m.length c1] 24
  replace own1 := own1.below hb2
  replace hb0 := bup hb0 hb2
  obtain ⟨x0, x1, x2, fx⟩ := octbox p3
  go_wp2_with fail
  clear x0 x1 x2 fx hb2 hb1
  generalize w1.alloc (Obj.cells #[.int .i64 q1.n, .bool q1.e, .slice A1 q1.m.length c1] 24) = w2 at *
  generalize w1.heap.size = g3 at *
  (with_reducible refine (HC2.out A1 c1 w2 own1.rd).mono ?_)
  clear HC2
  rintro e3 w3 ⟨A3, c3, s3, rfl, own3, hb3⟩
  replace p3 := p3.later hb3
  replace own1 := own1.below hb3
  replace hb0 := bup hb0 hb3
  obtain ⟨p6, hb4, -⟩ := new_one w3 #[.int .i64 q2.n, .bool q2.e, .slice A3 q2.m.length c3] 24
  replace p3 := p3.later hb4
  replace own1 := own1.below hb4
  replace own3 := own3.below hb4
  replace hb0 := bup hb0 hb4
  obtain ⟨x0, x1, x2, fx⟩ := octbox p3
  obtain ⟨y0, y1, y2, fy⟩ := octbox p6
  go_wp2_with fail
  clear x0 x1 x2 fx y0 y1 y2 fy hb4 hb3
  generalize w3.alloc (Obj.cells #[.int .i64 q2.n, .bool q2.e, .slice A3 q2.m.length c3] 24) = w4 at *
  (with_reducible refine (oct_any q1 q2 A1 A3 c1 c3 w4 own1.rd own3.rd hm1).mono ?_)
  rintro e5 w5 ⟨rfl, hb5⟩
  generalize eqO q1 q2 = b at *
  go_wp2
  go_ret
  exact ⟨rfl, bup hb0 hb5⟩
end
section
open Go.RowKit
attribute [local go_sem ↓] Go.wp_at_zero Go.wp_at_succ

set_option maxRecDepth 8000 in
set_option maxHeartbeats 2000000 in
theorem rassume_e (n op av an bv bn : Int) (A : Option Addr) (cap base : Nat) (w : World) (own : Own w base A cap []) :
    Calls Tryz.prog 63 #[.agg #[.int .i64 n, .bool true, .slice A 0 cap], .int .i64 op, .agg #[.int .i64 av, .int .i64 an], .agg #[.int .i64 bv, .int .i64 bn]] w (RGen w base A (emptyO n)) := by
  have fr := Fr.refl w A
  have own0 := own
  obtain ⟨p0, p1, p2, p3, hbn, -⟩ := new_four w #[.int .i64 n, .bool true, .slice A 0 cap] #[.int .i64 av, .int .i64 an] #[.int .i64 bv, .int .i64 bn] #[.int .i64 0, .bool false, .slice none 0 0] 24 26 26 24
  replace own := own.below hbn
  replace fr := fr.below hbn
  go_enter Tryz.func63, Tryz.ntmps63
  obtain ⟨p0_0, p0_1, p0_2, p0_f⟩ := octbox p0
  go_wp2
  clear p0_0 p0_1 p0_2 p0_f
  unfold emptyO
  refine bodyPost_ret (v := .agg #[.int .i64 n, .bool true, .slice A 0 cap]) (by simp [results, Tryz.results63, go_sem]) rfl ?_
  have hbX : ∀ W, Below w.heap.size w W → RGen w base A ⟨n, true, []⟩ (.returned (.agg #[.int .i64 n, .bool true, .slice A 0 cap])) W := fun W hW => ⟨A, cap, rfl, own0.below hW, .inl rfl, grown_of_below hW _⟩
  exact hbX _ ((((Below.refl _ _).alloc (Nat.le_refl _) _).alloc (by simp) _ |>.alloc (by simp; try omega) _).alloc (by simp; try omega) _)

set_option maxRecDepth 8000 in
set_option maxHeartbeats 2000000 in
theorem rAssume_ok (o : O) (hk : check o = 0) (op av an bv bn : Int) (hop : 1 ≤ op ∧ op ≤ 6) (ha : av < o.n) (hb : bv < o.n) (ia : I64 an) (ib : I64 bn) (A : Option Addr) (cap : Nat) (w : World) (hx : Rd w w.heap.size A o.m) (hm : o.m.length ≤ 17592186044416) :
    Calls Tryz.prog 25 #[.agg #[.int .i64 o.n, .bool o.e, .slice A o.m.length cap], .int .i64 op, .agg #[.int .i64 av, .int .i64 an], .agg #[.int .i64 bv, .int .i64 bn]] w (OctOwn w (assumeO o op av an bv bn)) := by
  have okc : OkO o.n (closeO o) := OkO.close ⟨rfl, hk⟩
  have hmc := OkO.small okc
  have HC := hid (fun W (h : Rd W W.heap.size A o.m) => rclosed_ok o hk A cap W h hm)
  have HU := hid (show assumeO o op av an bv bn = if (closeO o).e then closeO o else assumesO (closeO o) op av an bv bn from rfl)
  generalize assumeO o op av an bv bn = U at *
  generalize closeO o = q at *
  have HOP := hid hop
  have HAB := hid (And.intro ha hb)
  clear hop ha hb hk
  obtain ⟨p0, p1, p2, p3, hb0, hsz⟩ := new_four w #[.int .i64 o.n, .bool o.e, .slice A o.m.length cap] #[.int .i64 av, .int .i64 an] #[.int .i64 bv, .int .i64 bn] #[.int .i64 0, .bool false, .slice none 0 0] 24 26 26 24
  replace hx := hx.up hb0
  have HSZ := hid hsz
  clear hsz
  go_enter Tryz.func25, Tryz.ntmps25
  obtain ⟨p0_0, p0_1, p0_2, p0_f⟩ := octbox p0
  obtain ⟨p1_0, p1_1, p1_f⟩ := opbox p1
  obtain ⟨p2_0, p2_1, p2_f⟩ := opbox p2
  go_wp2
  clear p0_0 p0_1 p0_2 p0_f p1_0 p1_1 p1_f p2_0 p2_1 p2_f
  generalize (((w.alloc (Obj.cells #[.int .i64 o.n, .bool o.e, .slice A o.m.length cap] 24)).alloc (Obj.cells #[.int .i64 av, .int .i64 an] 26)).alloc (Obj.cells #[.int .i64 bv, .int .i64 bn] 26)).alloc (Obj.cells #[.int .i64 0, .bool false, .slice none 0 0] 24) = w1 at *
  have f0 := laterE (show w1.cell? ⟨w.heap.size, 0, none⟩ = some (.int .i64 o.n) from p0.cell 0)
  have f1 := laterE (show w1.cell? ⟨w.heap.size, 1, none⟩ = some (.bool o.e) from p0.cell 1)
  have f2 := laterE (show w1.cell? ⟨w.heap.size, 2, none⟩ = some (.slice A o.m.length cap) from p0.cell 2)
  have j0 := laterE (show w1.cell? ⟨w.heap.size + 1, 0, none⟩ = some (.int .i64 av) from p1.cell 0)
  have j1 := laterE (show w1.cell? ⟨w.heap.size + 1, 1, none⟩ = some (.int .i64 an) from p1.cell 1)
  have l0 := laterE (show w1.cell? ⟨w.heap.size + 1 + 1, 0, none⟩ = some (.int .i64 bv) from p2.cell 0)
  have l1 := laterE (show w1.cell? ⟨w.heap.size + 1 + 1, 1, none⟩ = some (.int .i64 bn) from p2.cell 1)
  refine wp_region_flowE 5 [Sp.val (.agg #[.int .i64 o.n, .bool o.e, .slice A o.m.length cap]), Sp.any (IsOct q), Sp.val (.int .i64 op), Sp.val (.agg #[.int .i64 av, .int .i64 an]), Sp.val (.agg #[.int .i64 bv, .int .i64 bn])] (by kernel_rfl) (by kernel_rfl) ?_
  (refine FlowE.take (by rfl) (fun W hW R hR => ?_) (fun _ _ => ?_); (go_simp; (try go_bits); with_reducible exact hR); simp only [Act.put, List.setIfInBounds_toArray, List.set_cons_zero, List.set_cons_succ])
  refine FlowE.call 64 #[.agg #[.int .i64 o.n, .bool o.e, .slice A o.m.length cap]] (by rfl) (fun W hW => by go_simp) (fun W hW => (HC.out W (hx.up (Ext.trans (Below.refl _ _).drew hW))).mono fun _ _ ⟨A1, c1, he, ho, hb⟩ => ⟨_, he, hb, A1, c1, rfl, ho⟩) (fun v3 l3 h3 => ?_)
  simp only [Act.put, List.setIfInBounds_toArray, List.set_cons_zero, List.set_cons_succ]
  (refine FlowE.take (by rfl) (fun W hW R hR => ?_) (fun _ _ => ?_); (go_simp; (try go_bits); with_reducible exact hR); simp only [Act.put, List.setIfInBounds_toArray, List.set_cons_zero, List.set_cons_succ])
  (refine FlowE.take (by rfl) (fun W hW R hR => ?_) (fun _ _ => ?_); (go_simp; (try go_bits); with_reducible exact hR); simp only [Act.put, List.setIfInBounds_toArray, List.set_cons_zero, List.set_cons_succ])
  (refine FlowE.take (by rfl) (fun W hW R hR => ?_) (fun _ _ => ?_); (go_simp; (try go_bits); with_reducible exact hR); simp only [Act.put, List.setIfInBounds_toArray, List.set_cons_zero, List.set_cons_succ])
  refine FlowE.tail (fun W hW hf hd => ?_)
  replace hW : Below w1.heap.size w1 W := Ext.trans (Below.refl _ _).drew hW
  obtain ⟨A1, c1, rfl, own, hlo, -, hhi⟩ := fact_oct (show Sp.fact w1.drew (Sp.any (IsOct q)) v3 l3 h3 W from hf 1)
  replace hlo : w1.heap.size ≤ l3 := hlo
  have hle : w.heap.size ≤ l3 := by have := HSZ.out; omega
  replace own := own.less hle
  clear hf hd f0 f1 f2 j0 j1 l0 l1 HC hlo hhi hle
  replace p0 := p0.later hW
  replace p1 := p1.later hW
  replace p2 := p2.later hW
  replace p3 := p3.later hW
  replace hx := hx.up hW
  replace hb0 := bup hb0 hW
  clear hx hW
  have hbs := hb0.size
  have HX : Hid (Calls Tryz.prog 63 #[.agg #[.int .i64 q.n, .bool q.e, .slice A1 q.m.length c1], .int .i64 op, .agg #[.int .i64 av, .int .i64 an], .agg #[.int .i64 bv, .int .i64 bn]] W (RGen W w.heap.size A1 U)) := hid (by
    rw [HU.out]
    rcases okc.form with rfl | ⟨N, cm, hN, hn, rfl, hc⟩
    · exact rassume_e o.n op av an bv bn A1 c1 w.heap.size W own
    · exact rassume_ok o.n cm N hN hn hc op av an bv bn HOP.out HAB.out.1 HAB.out.2 ia ib A1 c1 w.heap.size W own hbs hmc)
  go_wp2_with fail
  (with_reducible refine HX.out.mono ?_)
  clear HX
  rintro e2 w2 ⟨A2, c2, rfl, own2, -, hg⟩
  replace p3 := p3.kept hg (row_ne own p3 (by decide))
  replace hb0 := hb0.trans (below_grown hg (row_ge own) hb0.size)
  obtain ⟨p3_0, p3_1, p3_2, p3_f⟩ := octbox p3
  go_wp2
  clear p3_0 p3_1 p3_2 p3_f
  have q9 := p3.set3 (v0 := .int .i64 U.n) (v1 := .bool U.e) (v2 := .slice A2 U.m.length c2)
  have hb9 := hb0.trans (below3 (W := w2) (g := w.heap.size + 1 + 1 + 1) (v0 := .int .i64 U.n) (v1 := .bool U.e) (v2 := .slice A2 U.m.length c2) (by omega) hb0.size)
  have own9 := own2.far3 (g := w.heap.size + 1 + 1 + 1) (v0 := .int .i64 U.n) (v1 := .bool U.e) (v2 := .slice A2 U.m.length c2) (own_blk' own2 p3 (by decide))
  obtain ⟨z0, z1, z2, fz⟩ := octbox q9
  refine bodyPost_ret (v := .agg #[.int .i64 U.n, .bool U.e, .slice A2 U.m.length c2]) (by simp [results, Tryz.results25, go_sem, z0, z1, z2]) rfl ?_
  exact ⟨_, _, rfl, own9, hb9⟩
end
end Go.Proofs.YtnmpgijiimglcaaGreat
