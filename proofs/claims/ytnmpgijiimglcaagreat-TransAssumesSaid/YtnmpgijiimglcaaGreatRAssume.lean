/-
  gnomonref16.closed, There, assume, Assume: what they answer.
-/
import Derived.Test.YtnmpgijiimglcaaGreatRUnlike
import Derived.Test.YtnmpgijiimglcaaGreatRef13
import Derived.Test.YtnmpgijiimglcaaGreatFlowM
namespace Go.Proofs.YtnmpgijiimglcaaGreat
open Go.RowKit
attribute [local go_sem ↓] Go.wp_at_zero Go.wp_at_succ

section
variable {P : Program} {ops : Array Oper} {Q : Exit → Act → World → Prop} {S : Bool → World → Prop} {j : Nat}
/-- The marked operation is a call; what it yields is one value. -/
theorem FlowM.callM {m k : Nat} {o : Oper} {rest : List Oper} {a : Act} (f : FuncId) (args : Array Value) (v : Value) (hk : (k == j) = true) (hw : Region.wanted o (yielded ops a.tmps) = true)
    (he : ∀ w, S false w → (execOp a.eval o).run P w = .ok (.enter f args) w) (h : ∀ w, S false w → Calls P f args w fun e w2 => e = .returned v ∧ S true w2) (hr : FlowM P ops Q S j m (k + 1) rest (a.put o.dst v)) :
    FlowM P ops Q S j (m + 1) k (o :: rest) a :=
  ⟨v, fun b hb _ => .inl ⟨hw, fun w hS K hK => by
    obtain rfl := hb (by simpa using hk)
    rw [hk] at hK
    unfold Oper.wp; rw [he w hS]
    exact (h w hS).mono fun e w2 ⟨he, h2⟩ => by subst he; exact hK _ _ rfl h2⟩, hr⟩
end
set_option maxRecDepth 8000 in
set_option maxHeartbeats 1000000 in
theorem rclosed_ok (o : O) (ok : check o = 0) (A : Option Addr) (cap : Nat) (w : World) (hx : Rd w w.heap.size A o.m) (hm : o.m.length ≤ 17592186044416) :
    Calls Tryz.prog 64 #[.agg #[.int .i64 o.n, .bool o.e, .slice A o.m.length cap]] w (OctOwn w (closeO o)) := by
  obtain ⟨p0, p1, hb0, hsz⟩ := new_two w #[.int .i64 o.n, .bool o.e, .slice A o.m.length cap] #[.int .i64 0, .bool false, .slice none 0 0] 24 24
  have HSZ := hid hsz
  have hx0 := hx.up hb0
  have HC := hid (fun W (h : Rd W W.heap.size A o.m) => r13_any o A cap W h hm ok)
  clear hsz hx ok
  generalize closeO o = r at *
  go_enter Tryz.func64, Tryz.ntmps64
  obtain ⟨x0, x1, x2, fx⟩ := octbox p0
  go_wp2_with fail
  clear x0 x1 x2 fx
  generalize (w.alloc (Obj.cells #[.int .i64 o.n, .bool o.e, .slice A o.m.length cap] 24)).alloc (Obj.cells #[.int .i64 0, .bool false, .slice none 0 0] 24) = w0 at *
  (with_reducible refine (HC.out w0 hx0).mono ?_)
  clear HC
  rintro e1 w1 ⟨A1, c1, s1, rfl, own, hb1⟩
  replace p1 := p1.later hb1
  replace hb0 := bup hb0 hb1
  have n3 := new1 w1 (.cells #[.int .i64 r.n, .bool r.e, .slice A1 r.m.length c1] 24)
  replace p1 := p1.later n3
  replace own := own.below n3
  replace hb0 := bup hb0 n3
  obtain ⟨x0, x1, x2, fx⟩ := octbox p1
  go_wp2
  clear x0 x1 x2 fx
  have q3 := p1.set3 (v0 := .int .i64 r.n) (v1 := .bool r.e) (v2 := .slice A1 r.m.length c1)
  have o3 := own.far3 (g := w.heap.size + 1) (v0 := .int .i64 r.n) (v1 := .bool r.e) (v2 := .slice A1 r.m.length c1) (own_blk' own p1 (by decide))
  obtain ⟨z0, z1, z2, fz⟩ := octbox q3
  refine bodyPost_ret (v := .agg #[.int .i64 r.n, .bool r.e, .slice A1 r.m.length c1]) (by simp [results, Tryz.results64, go_sem, z0, z1, z2]) rfl ⟨A1, c1, rfl, o3.less (show w.heap.size ≤ w0.heap.size by have := HSZ.out; omega), hb0.trans (below3 (by omega) hb0.size)⟩
set_option maxHeartbeats 400000 in
theorem there_ok (n av an : Int) (w : World) : Calls Tryz.prog 22 #[.agg #[.int .i64 av, .int .i64 an], .int .i64 n] w fun e' w' => e' = .returned (.bool (decide (av < n))) ∧ Below w.heap.size w w' := by
  obtain ⟨p0, hb0, hsz⟩ := new_one w #[.int .i64 av, .int .i64 an] 26
  clear hsz
  obtain ⟨y0, y1, fy⟩ := opbox p0
  cases t1 : decide (av < n)
  · go_enter Tryz.func22, Tryz.ntmps22
    go_wp2
    go_ret
    exact ⟨rfl, hb0⟩
  · go_enter Tryz.func22, Tryz.ntmps22
    go_wp2
    go_ret
    exact ⟨rfl, hb0⟩
/-- An octagon over the row that came in, or a new one; only that row is changed. -/
def RGen (w : World) (base : Nat) (A : Option Addr) (o : O) (e : Ending) (w' : World) : Prop :=
  ∃ A1 c1, e = .returned (.agg #[.int .i64 o.n, .bool o.e, .slice A1 o.m.length c1]) ∧ Own w' base A1 c1 o.m ∧ (A1 = A ∨ ∀ k, rowB A1 = some k → w.heap.size ≤ k) ∧ w.grownBy w' (rowB A)
theorem atMostO_e {o : O} (he : o.e = false) {av an bv bn : Int} : (atMostO o av an bv bn false).e = false := by
  have hw : ∀ (o : O) i j c, o.e = false → i ≠ j → (withO o i j c).e = false := fun o i j c h hij => by unfold withO; rw [if_neg (by simp [h]), if_neg hij]
  have hr : ∀ v r, (rangedO o v r).e = false := fun v r => by
    have h1 : (hiO o v r).e = false := by unfold hiO; split; exact hw _ _ _ _ he (by omega); exact he
    unfold rangedO; split
    · exact hw _ _ _ _ h1 (by omega)
    · exact h1
  unfold atMostO
  simp only [Bool.false_and, Bool.false_eq_true, if_false]
  split
  · split
    · split
      · exact he
      · exact hw _ _ _ _ he (by omega)
    · exact hr _ _
  · exact hr _ _

set_option maxRecDepth 8000 in
set_option maxHeartbeats 4000000 in
theorem rassume_1a (n : Int) (m : List Int) (N : Nat) (hN : (N : Int) = 2 * n) (hn : N ≤ 128) (hc : Cells N m) (av an bv bn : Int) (ha : av < n) (hb : bv < n) (h0 : 0 ≤ av) (ia : I64 an) (ib : I64 bn) (A : Option Addr) (cap base : Nat) (w : World) (own : Own w base A cap m) (hbase : base ≤ w.heap.size) (hm : m.length ≤ 17592186044416) :
    Calls Tryz.prog 63 #[.agg #[.int .i64 n, .bool false, .slice A m.length cap], .int .i64 1, .agg #[.int .i64 av, .int .i64 an], .agg #[.int .i64 bv, .int .i64 bn]] w (RGen w base A (closeO (atMostO ⟨n, false, m⟩ av an bv bn true))) := by
  have HOK := hid (OkO.of_cells hN hn hc)
  have HN := hid (And.intro hN hn)
  have HAB := hid (And.intro ha hb)
  have t1 : decide (av < 0) = false := by rw [decide_eq_false_iff_not]; omega
  clear hN hn ha hb
  have fr := Fr.refl w A
  have own0 := own
  obtain ⟨p0, p1, p2, p3, hbn, -⟩ := new_four w #[.int .i64 n, .bool false, .slice A m.length cap] #[.int .i64 av, .int .i64 an] #[.int .i64 bv, .int .i64 bn] #[.int .i64 0, .bool false, .slice none 0 0] 24 26 26 24
  replace own := own.below hbn
  replace fr := fr.below hbn
  obtain ⟨p0_0, p0_1, p0_2, p0_f⟩ := octbox p0
  obtain ⟨p1_0, p1_1, p1_f⟩ := opbox p1
  obtain ⟨p2_0, p2_1, p2_f⟩ := opbox p2
  go_enter Tryz.func63, Tryz.ntmps63
  clear own0
  go_wp2_with fail
  clear p0_0 p0_1 p0_2 p0_f p1_0 p1_1 p1_f p2_0 p2_1 p2_f
  generalize (((w.alloc (Obj.cells #[.int .i64 n, .bool false, .slice A m.length cap] 24)).alloc (Obj.cells #[.int .i64 av, .int .i64 an] 26)).alloc (Obj.cells #[.int .i64 bv, .int .i64 bn] 26)).alloc (Obj.cells #[.int .i64 0, .bool false, .slice none 0 0] 24) = w1 at *
  have hbs := Nat.le_trans hbase fr.size
  have ok1 := OkO.atMost HOK.out (av := av) (an := an) (bv := bv) (bn := bn) (s := true) (by have := HAB.out; omega) (by have := HAB.out; omega) (by omega)
  have HX := hid (ratMost_ok n ⟨n, false, m⟩ HOK.out av an bv bn true (by have := HAB.out; omega) (by have := HAB.out; omega) (by omega) ia ib A cap base w1 own hbs)
  (try dsimp only at HX)
  (with_reducible refine HX.out.mono ?_)
  clear HX
  rintro e_w2 w2 ⟨A1, c1, rfl, own_w2, ha_w2, hg_w2, hp_A1⟩
  replace p0 := p0.kept hg_w2 (row_ne own p0 (by decide))
  replace p1 := p1.kept hg_w2 (row_ne own p1 (by decide))
  replace p2 := p2.kept hg_w2 (row_ne own p2 (by decide))
  replace p3 := p3.kept hg_w2 (row_ne own p3 (by decide))
  replace fr := fr.call ha_w2 hg_w2
  clear own ha_w2 hg_w2
  have own := own_w2
  clear own_w2
  clear hp_A1
  generalize atMostO ⟨n, false, m⟩ av an bv bn true = q1 at *
  obtain ⟨p0_0, p0_1, p0_2, p0_f⟩ := octbox p0
  go_wp2_with fail
  clear p0_0 p0_1 p0_2 p0_f
  replace own := own.far3 (g := w.heap.size) (v0 := .int .i64 q1.n) (v1 := .bool q1.e) (v2 := .slice A1 q1.m.length c1) (own_blk' own p0 (by decide))
  replace p1 := p1.far3 (g := w.heap.size) (v0 := .int .i64 q1.n) (v1 := .bool q1.e) (v2 := .slice A1 q1.m.length c1) (by omega)
  replace p2 := p2.far3 (g := w.heap.size) (v0 := .int .i64 q1.n) (v1 := .bool q1.e) (v2 := .slice A1 q1.m.length c1) (by omega)
  replace p3 := p3.far3 (g := w.heap.size) (v0 := .int .i64 q1.n) (v1 := .bool q1.e) (v2 := .slice A1 q1.m.length c1) (by omega)
  replace p0 := p0.set3 (v0 := .int .i64 q1.n) (v1 := .bool q1.e) (v2 := .slice A1 q1.m.length c1)
  replace fr := fr.set3 (g := w.heap.size) (v0 := .int .i64 q1.n) (v1 := .bool q1.e) (v2 := .slice A1 q1.m.length c1) (by omega)
  generalize ((w2.setCell ⟨w.heap.size, 0, none⟩ (.int .i64 q1.n)).setCell ⟨w.heap.size, 1, none⟩ (.bool q1.e)).setCell ⟨w.heap.size, 2, none⟩ (.slice A1 q1.m.length c1) = w3 at *
  have hmq := OkO.small ok1
  have hW0 := Nat.le_trans hbase fr.size
  (with_reducible refine (rclosed_ok q1 ok1.ok A1 c1 w3 own.rd hmq).mono ?_)
  rintro e_w4 w4 ⟨A3, c3, rfl, ownN, hb_w4⟩
  replace p0 := p0.later hb_w4
  replace p1 := p1.later hb_w4
  replace p2 := p2.later hb_w4
  replace p3 := p3.later hb_w4
  replace fr := fr.made hb_w4 ownN
  clear own
  have own := ownN.less hW0
  clear ownN hW0 hb_w4
  generalize closeO q1 = q3 at *
  obtain ⟨p3_0, p3_1, p3_2, p3_f⟩ := octbox p3
  go_wp2
  clear p3_0 p3_1 p3_2 p3_f
  have q9 := p3.set3 (v0 := .int .i64 q3.n) (v1 := .bool q3.e) (v2 := .slice A3 q3.m.length c3)
  have fr9 := fr.set3 (g := w.heap.size + 1 + 1 + 1) (v0 := .int .i64 q3.n) (v1 := .bool q3.e) (v2 := .slice A3 q3.m.length c3) (by omega)
  have own9 := own.far3 (g := w.heap.size + 1 + 1 + 1) (v0 := .int .i64 q3.n) (v1 := .bool q3.e) (v2 := .slice A3 q3.m.length c3) (own_blk' own p3 (by decide))
  obtain ⟨z0, z1, z2, fz⟩ := octbox q9
  refine bodyPost_ret (v := .agg #[.int .i64 q3.n, .bool q3.e, .slice A3 q3.m.length c3]) (by simp [results, Tryz.results63, go_sem, z0, z1, z2]) rfl ?_
  exact ⟨_, _, rfl, own9, fr9.1, fr9.2⟩

set_option maxRecDepth 8000 in
set_option maxHeartbeats 4000000 in
theorem rassume_1b (n : Int) (m : List Int) (N : Nat) (hN : (N : Int) = 2 * n) (hn : N ≤ 128) (hc : Cells N m) (av an bv bn : Int) (ha : av < n) (hb : bv < n) (h0 : av < 0) (h1 : 0 ≤ bv) (ia : I64 an) (ib : I64 bn) (A : Option Addr) (cap base : Nat) (w : World) (own : Own w base A cap m) (hbase : base ≤ w.heap.size) (hm : m.length ≤ 17592186044416) :
    Calls Tryz.prog 63 #[.agg #[.int .i64 n, .bool false, .slice A m.length cap], .int .i64 1, .agg #[.int .i64 av, .int .i64 an], .agg #[.int .i64 bv, .int .i64 bn]] w (RGen w base A (closeO (atMostO ⟨n, false, m⟩ av an bv bn true))) := by
  have HOK := hid (OkO.of_cells hN hn hc)
  have HN := hid (And.intro hN hn)
  have HAB := hid (And.intro ha hb)
  have t1 : decide (av < 0) = true := by rw [decide_eq_true_eq]; omega
  have t2 : decide (bv < 0) = false := by rw [decide_eq_false_iff_not]; omega
  clear hN hn ha hb
  have fr := Fr.refl w A
  have own0 := own
  obtain ⟨p0, p1, p2, p3, hbn, -⟩ := new_four w #[.int .i64 n, .bool false, .slice A m.length cap] #[.int .i64 av, .int .i64 an] #[.int .i64 bv, .int .i64 bn] #[.int .i64 0, .bool false, .slice none 0 0] 24 26 26 24
  replace own := own.below hbn
  replace fr := fr.below hbn
  obtain ⟨p0_0, p0_1, p0_2, p0_f⟩ := octbox p0
  obtain ⟨p1_0, p1_1, p1_f⟩ := opbox p1
  obtain ⟨p2_0, p2_1, p2_f⟩ := opbox p2
  go_enter Tryz.func63, Tryz.ntmps63
  clear own0
  go_wp2_with fail
  clear p0_0 p0_1 p0_2 p0_f p1_0 p1_1 p1_f p2_0 p2_1 p2_f
  generalize (((w.alloc (Obj.cells #[.int .i64 n, .bool false, .slice A m.length cap] 24)).alloc (Obj.cells #[.int .i64 av, .int .i64 an] 26)).alloc (Obj.cells #[.int .i64 bv, .int .i64 bn] 26)).alloc (Obj.cells #[.int .i64 0, .bool false, .slice none 0 0] 24) = w1 at *
  have hbs := Nat.le_trans hbase fr.size
  have ok1 := OkO.atMost HOK.out (av := av) (an := an) (bv := bv) (bn := bn) (s := true) (by have := HAB.out; omega) (by have := HAB.out; omega) (by omega)
  have HX := hid (ratMost_ok n ⟨n, false, m⟩ HOK.out av an bv bn true (by have := HAB.out; omega) (by have := HAB.out; omega) (by omega) ia ib A cap base w1 own hbs)
  (try dsimp only at HX)
  (with_reducible refine HX.out.mono ?_)
  clear HX
  rintro e_w2 w2 ⟨A1, c1, rfl, own_w2, ha_w2, hg_w2, hp_A1⟩
  replace p0 := p0.kept hg_w2 (row_ne own p0 (by decide))
  replace p1 := p1.kept hg_w2 (row_ne own p1 (by decide))
  replace p2 := p2.kept hg_w2 (row_ne own p2 (by decide))
  replace p3 := p3.kept hg_w2 (row_ne own p3 (by decide))
  replace fr := fr.call ha_w2 hg_w2
  clear own ha_w2 hg_w2
  have own := own_w2
  clear own_w2
  clear hp_A1
  generalize atMostO ⟨n, false, m⟩ av an bv bn true = q1 at *
  obtain ⟨p0_0, p0_1, p0_2, p0_f⟩ := octbox p0
  go_wp2_with fail
  clear p0_0 p0_1 p0_2 p0_f
  replace own := own.far3 (g := w.heap.size) (v0 := .int .i64 q1.n) (v1 := .bool q1.e) (v2 := .slice A1 q1.m.length c1) (own_blk' own p0 (by decide))
  replace p1 := p1.far3 (g := w.heap.size) (v0 := .int .i64 q1.n) (v1 := .bool q1.e) (v2 := .slice A1 q1.m.length c1) (by omega)
  replace p2 := p2.far3 (g := w.heap.size) (v0 := .int .i64 q1.n) (v1 := .bool q1.e) (v2 := .slice A1 q1.m.length c1) (by omega)
  replace p3 := p3.far3 (g := w.heap.size) (v0 := .int .i64 q1.n) (v1 := .bool q1.e) (v2 := .slice A1 q1.m.length c1) (by omega)
  replace p0 := p0.set3 (v0 := .int .i64 q1.n) (v1 := .bool q1.e) (v2 := .slice A1 q1.m.length c1)
  replace fr := fr.set3 (g := w.heap.size) (v0 := .int .i64 q1.n) (v1 := .bool q1.e) (v2 := .slice A1 q1.m.length c1) (by omega)
  generalize ((w2.setCell ⟨w.heap.size, 0, none⟩ (.int .i64 q1.n)).setCell ⟨w.heap.size, 1, none⟩ (.bool q1.e)).setCell ⟨w.heap.size, 2, none⟩ (.slice A1 q1.m.length c1) = w3 at *
  have hmq := OkO.small ok1
  have hW0 := Nat.le_trans hbase fr.size
  (with_reducible refine (rclosed_ok q1 ok1.ok A1 c1 w3 own.rd hmq).mono ?_)
  rintro e_w4 w4 ⟨A3, c3, rfl, ownN, hb_w4⟩
  replace p0 := p0.later hb_w4
  replace p1 := p1.later hb_w4
  replace p2 := p2.later hb_w4
  replace p3 := p3.later hb_w4
  replace fr := fr.made hb_w4 ownN
  clear own
  have own := ownN.less hW0
  clear ownN hW0 hb_w4
  generalize closeO q1 = q3 at *
  obtain ⟨p3_0, p3_1, p3_2, p3_f⟩ := octbox p3
  go_wp2
  clear p3_0 p3_1 p3_2 p3_f
  have q9 := p3.set3 (v0 := .int .i64 q3.n) (v1 := .bool q3.e) (v2 := .slice A3 q3.m.length c3)
  have fr9 := fr.set3 (g := w.heap.size + 1 + 1 + 1) (v0 := .int .i64 q3.n) (v1 := .bool q3.e) (v2 := .slice A3 q3.m.length c3) (by omega)
  have own9 := own.far3 (g := w.heap.size + 1 + 1 + 1) (v0 := .int .i64 q3.n) (v1 := .bool q3.e) (v2 := .slice A3 q3.m.length c3) (own_blk' own p3 (by decide))
  obtain ⟨z0, z1, z2, fz⟩ := octbox q9
  refine bodyPost_ret (v := .agg #[.int .i64 q3.n, .bool q3.e, .slice A3 q3.m.length c3]) (by simp [results, Tryz.results63, go_sem, z0, z1, z2]) rfl ?_
  exact ⟨_, _, rfl, own9, fr9.1, fr9.2⟩

set_option maxRecDepth 8000 in
set_option maxHeartbeats 4000000 in
theorem rassume_2a (n : Int) (m : List Int) (N : Nat) (hN : (N : Int) = 2 * n) (hn : N ≤ 128) (hc : Cells N m) (av an bv bn : Int) (ha : av < n) (hb : bv < n) (h0 : 0 ≤ av) (ia : I64 an) (ib : I64 bn) (A : Option Addr) (cap base : Nat) (w : World) (own : Own w base A cap m) (hbase : base ≤ w.heap.size) (hm : m.length ≤ 17592186044416) :
    Calls Tryz.prog 63 #[.agg #[.int .i64 n, .bool false, .slice A m.length cap], .int .i64 2, .agg #[.int .i64 av, .int .i64 an], .agg #[.int .i64 bv, .int .i64 bn]] w (RGen w base A (closeO (atMostO ⟨n, false, m⟩ av an bv bn false))) := by
  have HOK := hid (OkO.of_cells hN hn hc)
  have HN := hid (And.intro hN hn)
  have HAB := hid (And.intro ha hb)
  have t1 : decide (av < 0) = false := by rw [decide_eq_false_iff_not]; omega
  clear hN hn ha hb
  have fr := Fr.refl w A
  have own0 := own
  obtain ⟨p0, p1, p2, p3, hbn, -⟩ := new_four w #[.int .i64 n, .bool false, .slice A m.length cap] #[.int .i64 av, .int .i64 an] #[.int .i64 bv, .int .i64 bn] #[.int .i64 0, .bool false, .slice none 0 0] 24 26 26 24
  replace own := own.below hbn
  replace fr := fr.below hbn
  obtain ⟨p0_0, p0_1, p0_2, p0_f⟩ := octbox p0
  obtain ⟨p1_0, p1_1, p1_f⟩ := opbox p1
  obtain ⟨p2_0, p2_1, p2_f⟩ := opbox p2
  go_enter Tryz.func63, Tryz.ntmps63
  clear own0
  go_wp2_with fail
  clear p0_0 p0_1 p0_2 p0_f p1_0 p1_1 p1_f p2_0 p2_1 p2_f
  generalize (((w.alloc (Obj.cells #[.int .i64 n, .bool false, .slice A m.length cap] 24)).alloc (Obj.cells #[.int .i64 av, .int .i64 an] 26)).alloc (Obj.cells #[.int .i64 bv, .int .i64 bn] 26)).alloc (Obj.cells #[.int .i64 0, .bool false, .slice none 0 0] 24) = w1 at *
  have hbs := Nat.le_trans hbase fr.size
  have ok1 := OkO.atMost HOK.out (av := av) (an := an) (bv := bv) (bn := bn) (s := false) (by have := HAB.out; omega) (by have := HAB.out; omega) (by omega)
  have HX := hid (ratMost_ok n ⟨n, false, m⟩ HOK.out av an bv bn false (by have := HAB.out; omega) (by have := HAB.out; omega) (by omega) ia ib A cap base w1 own hbs)
  (try dsimp only at HX)
  (with_reducible refine HX.out.mono ?_)
  clear HX
  rintro e_w2 w2 ⟨A1, c1, rfl, own_w2, ha_w2, hg_w2, hp_A1⟩
  replace p0 := p0.kept hg_w2 (row_ne own p0 (by decide))
  replace p1 := p1.kept hg_w2 (row_ne own p1 (by decide))
  replace p2 := p2.kept hg_w2 (row_ne own p2 (by decide))
  replace p3 := p3.kept hg_w2 (row_ne own p3 (by decide))
  replace fr := fr.call ha_w2 hg_w2
  clear own ha_w2 hg_w2
  have own := own_w2
  clear own_w2
  clear hp_A1
  generalize atMostO ⟨n, false, m⟩ av an bv bn false = q1 at *
  obtain ⟨p0_0, p0_1, p0_2, p0_f⟩ := octbox p0
  go_wp2_with fail
  clear p0_0 p0_1 p0_2 p0_f
  replace own := own.far3 (g := w.heap.size) (v0 := .int .i64 q1.n) (v1 := .bool q1.e) (v2 := .slice A1 q1.m.length c1) (own_blk' own p0 (by decide))
  replace p1 := p1.far3 (g := w.heap.size) (v0 := .int .i64 q1.n) (v1 := .bool q1.e) (v2 := .slice A1 q1.m.length c1) (by omega)
  replace p2 := p2.far3 (g := w.heap.size) (v0 := .int .i64 q1.n) (v1 := .bool q1.e) (v2 := .slice A1 q1.m.length c1) (by omega)
  replace p3 := p3.far3 (g := w.heap.size) (v0 := .int .i64 q1.n) (v1 := .bool q1.e) (v2 := .slice A1 q1.m.length c1) (by omega)
  replace p0 := p0.set3 (v0 := .int .i64 q1.n) (v1 := .bool q1.e) (v2 := .slice A1 q1.m.length c1)
  replace fr := fr.set3 (g := w.heap.size) (v0 := .int .i64 q1.n) (v1 := .bool q1.e) (v2 := .slice A1 q1.m.length c1) (by omega)
  generalize ((w2.setCell ⟨w.heap.size, 0, none⟩ (.int .i64 q1.n)).setCell ⟨w.heap.size, 1, none⟩ (.bool q1.e)).setCell ⟨w.heap.size, 2, none⟩ (.slice A1 q1.m.length c1) = w3 at *
  have hmq := OkO.small ok1
  have hW0 := Nat.le_trans hbase fr.size
  (with_reducible refine (rclosed_ok q1 ok1.ok A1 c1 w3 own.rd hmq).mono ?_)
  rintro e_w4 w4 ⟨A3, c3, rfl, ownN, hb_w4⟩
  replace p0 := p0.later hb_w4
  replace p1 := p1.later hb_w4
  replace p2 := p2.later hb_w4
  replace p3 := p3.later hb_w4
  replace fr := fr.made hb_w4 ownN
  clear own
  have own := ownN.less hW0
  clear ownN hW0 hb_w4
  generalize closeO q1 = q3 at *
  obtain ⟨p3_0, p3_1, p3_2, p3_f⟩ := octbox p3
  go_wp2
  clear p3_0 p3_1 p3_2 p3_f
  have q9 := p3.set3 (v0 := .int .i64 q3.n) (v1 := .bool q3.e) (v2 := .slice A3 q3.m.length c3)
  have fr9 := fr.set3 (g := w.heap.size + 1 + 1 + 1) (v0 := .int .i64 q3.n) (v1 := .bool q3.e) (v2 := .slice A3 q3.m.length c3) (by omega)
  have own9 := own.far3 (g := w.heap.size + 1 + 1 + 1) (v0 := .int .i64 q3.n) (v1 := .bool q3.e) (v2 := .slice A3 q3.m.length c3) (own_blk' own p3 (by decide))
  obtain ⟨z0, z1, z2, fz⟩ := octbox q9
  refine bodyPost_ret (v := .agg #[.int .i64 q3.n, .bool q3.e, .slice A3 q3.m.length c3]) (by simp [results, Tryz.results63, go_sem, z0, z1, z2]) rfl ?_
  exact ⟨_, _, rfl, own9, fr9.1, fr9.2⟩

set_option maxRecDepth 8000 in
set_option maxHeartbeats 4000000 in
theorem rassume_2b (n : Int) (m : List Int) (N : Nat) (hN : (N : Int) = 2 * n) (hn : N ≤ 128) (hc : Cells N m) (av an bv bn : Int) (ha : av < n) (hb : bv < n) (h0 : av < 0) (h1 : 0 ≤ bv) (ia : I64 an) (ib : I64 bn) (A : Option Addr) (cap base : Nat) (w : World) (own : Own w base A cap m) (hbase : base ≤ w.heap.size) (hm : m.length ≤ 17592186044416) :
    Calls Tryz.prog 63 #[.agg #[.int .i64 n, .bool false, .slice A m.length cap], .int .i64 2, .agg #[.int .i64 av, .int .i64 an], .agg #[.int .i64 bv, .int .i64 bn]] w (RGen w base A (closeO (atMostO ⟨n, false, m⟩ av an bv bn false))) := by
  have HOK := hid (OkO.of_cells hN hn hc)
  have HN := hid (And.intro hN hn)
  have HAB := hid (And.intro ha hb)
  have t1 : decide (av < 0) = true := by rw [decide_eq_true_eq]; omega
  have t2 : decide (bv < 0) = false := by rw [decide_eq_false_iff_not]; omega
  clear hN hn ha hb
  have fr := Fr.refl w A
  have own0 := own
  obtain ⟨p0, p1, p2, p3, hbn, -⟩ := new_four w #[.int .i64 n, .bool false, .slice A m.length cap] #[.int .i64 av, .int .i64 an] #[.int .i64 bv, .int .i64 bn] #[.int .i64 0, .bool false, .slice none 0 0] 24 26 26 24
  replace own := own.below hbn
  replace fr := fr.below hbn
  obtain ⟨p0_0, p0_1, p0_2, p0_f⟩ := octbox p0
  obtain ⟨p1_0, p1_1, p1_f⟩ := opbox p1
  obtain ⟨p2_0, p2_1, p2_f⟩ := opbox p2
  go_enter Tryz.func63, Tryz.ntmps63
  clear own0
  go_wp2_with fail
  clear p0_0 p0_1 p0_2 p0_f p1_0 p1_1 p1_f p2_0 p2_1 p2_f
  generalize (((w.alloc (Obj.cells #[.int .i64 n, .bool false, .slice A m.length cap] 24)).alloc (Obj.cells #[.int .i64 av, .int .i64 an] 26)).alloc (Obj.cells #[.int .i64 bv, .int .i64 bn] 26)).alloc (Obj.cells #[.int .i64 0, .bool false, .slice none 0 0] 24) = w1 at *
  have hbs := Nat.le_trans hbase fr.size
  have ok1 := OkO.atMost HOK.out (av := av) (an := an) (bv := bv) (bn := bn) (s := false) (by have := HAB.out; omega) (by have := HAB.out; omega) (by omega)
  have HX := hid (ratMost_ok n ⟨n, false, m⟩ HOK.out av an bv bn false (by have := HAB.out; omega) (by have := HAB.out; omega) (by omega) ia ib A cap base w1 own hbs)
  (try dsimp only at HX)
  (with_reducible refine HX.out.mono ?_)
  clear HX
  rintro e_w2 w2 ⟨A1, c1, rfl, own_w2, ha_w2, hg_w2, hp_A1⟩
  replace p0 := p0.kept hg_w2 (row_ne own p0 (by decide))
  replace p1 := p1.kept hg_w2 (row_ne own p1 (by decide))
  replace p2 := p2.kept hg_w2 (row_ne own p2 (by decide))
  replace p3 := p3.kept hg_w2 (row_ne own p3 (by decide))
  replace fr := fr.call ha_w2 hg_w2
  clear own ha_w2 hg_w2
  have own := own_w2
  clear own_w2
  clear hp_A1
  generalize atMostO ⟨n, false, m⟩ av an bv bn false = q1 at *
  obtain ⟨p0_0, p0_1, p0_2, p0_f⟩ := octbox p0
  go_wp2_with fail
  clear p0_0 p0_1 p0_2 p0_f
  replace own := own.far3 (g := w.heap.size) (v0 := .int .i64 q1.n) (v1 := .bool q1.e) (v2 := .slice A1 q1.m.length c1) (own_blk' own p0 (by decide))
  replace p1 := p1.far3 (g := w.heap.size) (v0 := .int .i64 q1.n) (v1 := .bool q1.e) (v2 := .slice A1 q1.m.length c1) (by omega)
  replace p2 := p2.far3 (g := w.heap.size) (v0 := .int .i64 q1.n) (v1 := .bool q1.e) (v2 := .slice A1 q1.m.length c1) (by omega)
  replace p3 := p3.far3 (g := w.heap.size) (v0 := .int .i64 q1.n) (v1 := .bool q1.e) (v2 := .slice A1 q1.m.length c1) (by omega)
  replace p0 := p0.set3 (v0 := .int .i64 q1.n) (v1 := .bool q1.e) (v2 := .slice A1 q1.m.length c1)
  replace fr := fr.set3 (g := w.heap.size) (v0 := .int .i64 q1.n) (v1 := .bool q1.e) (v2 := .slice A1 q1.m.length c1) (by omega)
  generalize ((w2.setCell ⟨w.heap.size, 0, none⟩ (.int .i64 q1.n)).setCell ⟨w.heap.size, 1, none⟩ (.bool q1.e)).setCell ⟨w.heap.size, 2, none⟩ (.slice A1 q1.m.length c1) = w3 at *
  have hmq := OkO.small ok1
  have hW0 := Nat.le_trans hbase fr.size
  (with_reducible refine (rclosed_ok q1 ok1.ok A1 c1 w3 own.rd hmq).mono ?_)
  rintro e_w4 w4 ⟨A3, c3, rfl, ownN, hb_w4⟩
  replace p0 := p0.later hb_w4
  replace p1 := p1.later hb_w4
  replace p2 := p2.later hb_w4
  replace p3 := p3.later hb_w4
  replace fr := fr.made hb_w4 ownN
  clear own
  have own := ownN.less hW0
  clear ownN hW0 hb_w4
  generalize closeO q1 = q3 at *
  obtain ⟨p3_0, p3_1, p3_2, p3_f⟩ := octbox p3
  go_wp2
  clear p3_0 p3_1 p3_2 p3_f
  have q9 := p3.set3 (v0 := .int .i64 q3.n) (v1 := .bool q3.e) (v2 := .slice A3 q3.m.length c3)
  have fr9 := fr.set3 (g := w.heap.size + 1 + 1 + 1) (v0 := .int .i64 q3.n) (v1 := .bool q3.e) (v2 := .slice A3 q3.m.length c3) (by omega)
  have own9 := own.far3 (g := w.heap.size + 1 + 1 + 1) (v0 := .int .i64 q3.n) (v1 := .bool q3.e) (v2 := .slice A3 q3.m.length c3) (own_blk' own p3 (by decide))
  obtain ⟨z0, z1, z2, fz⟩ := octbox q9
  refine bodyPost_ret (v := .agg #[.int .i64 q3.n, .bool q3.e, .slice A3 q3.m.length c3]) (by simp [results, Tryz.results63, go_sem, z0, z1, z2]) rfl ?_
  exact ⟨_, _, rfl, own9, fr9.1, fr9.2⟩

set_option maxRecDepth 8000 in
set_option maxHeartbeats 4000000 in
theorem rassume_5a (n : Int) (m : List Int) (N : Nat) (hN : (N : Int) = 2 * n) (hn : N ≤ 128) (hc : Cells N m) (av an bv bn : Int) (ha : av < n) (hb : bv < n) (h0 : 0 ≤ av) (ia : I64 an) (ib : I64 bn) (A : Option Addr) (cap base : Nat) (w : World) (own : Own w base A cap m) (hbase : base ≤ w.heap.size) (hm : m.length ≤ 17592186044416) :
    Calls Tryz.prog 63 #[.agg #[.int .i64 n, .bool false, .slice A m.length cap], .int .i64 5, .agg #[.int .i64 av, .int .i64 an], .agg #[.int .i64 bv, .int .i64 bn]] w (RGen w base A (closeO (atMostO ⟨n, false, m⟩ bv bn av an true))) := by
  have HOK := hid (OkO.of_cells hN hn hc)
  have HN := hid (And.intro hN hn)
  have HAB := hid (And.intro ha hb)
  have t1 : decide (av < 0) = false := by rw [decide_eq_false_iff_not]; omega
  clear hN hn ha hb
  have fr := Fr.refl w A
  have own0 := own
  obtain ⟨p0, p1, p2, p3, hbn, -⟩ := new_four w #[.int .i64 n, .bool false, .slice A m.length cap] #[.int .i64 av, .int .i64 an] #[.int .i64 bv, .int .i64 bn] #[.int .i64 0, .bool false, .slice none 0 0] 24 26 26 24
  replace own := own.below hbn
  replace fr := fr.below hbn
  obtain ⟨p0_0, p0_1, p0_2, p0_f⟩ := octbox p0
  obtain ⟨p1_0, p1_1, p1_f⟩ := opbox p1
  obtain ⟨p2_0, p2_1, p2_f⟩ := opbox p2
  go_enter Tryz.func63, Tryz.ntmps63
  clear own0
  go_wp2_with fail
  clear p0_0 p0_1 p0_2 p0_f p1_0 p1_1 p1_f p2_0 p2_1 p2_f
  generalize (((w.alloc (Obj.cells #[.int .i64 n, .bool false, .slice A m.length cap] 24)).alloc (Obj.cells #[.int .i64 av, .int .i64 an] 26)).alloc (Obj.cells #[.int .i64 bv, .int .i64 bn] 26)).alloc (Obj.cells #[.int .i64 0, .bool false, .slice none 0 0] 24) = w1 at *
  have hbs := Nat.le_trans hbase fr.size
  have ok1 := OkO.atMost HOK.out (av := bv) (an := bn) (bv := av) (bn := an) (s := true) (by have := HAB.out; omega) (by have := HAB.out; omega) (by omega)
  have HX := hid (ratMost_ok n ⟨n, false, m⟩ HOK.out bv bn av an true (by have := HAB.out; omega) (by have := HAB.out; omega) (by omega) ib ia A cap base w1 own hbs)
  (try dsimp only at HX)
  (with_reducible refine HX.out.mono ?_)
  clear HX
  rintro e_w2 w2 ⟨A1, c1, rfl, own_w2, ha_w2, hg_w2, hp_A1⟩
  replace p0 := p0.kept hg_w2 (row_ne own p0 (by decide))
  replace p1 := p1.kept hg_w2 (row_ne own p1 (by decide))
  replace p2 := p2.kept hg_w2 (row_ne own p2 (by decide))
  replace p3 := p3.kept hg_w2 (row_ne own p3 (by decide))
  replace fr := fr.call ha_w2 hg_w2
  clear own ha_w2 hg_w2
  have own := own_w2
  clear own_w2
  clear hp_A1
  generalize atMostO ⟨n, false, m⟩ bv bn av an true = q1 at *
  obtain ⟨p0_0, p0_1, p0_2, p0_f⟩ := octbox p0
  go_wp2_with fail
  clear p0_0 p0_1 p0_2 p0_f
  replace own := own.far3 (g := w.heap.size) (v0 := .int .i64 q1.n) (v1 := .bool q1.e) (v2 := .slice A1 q1.m.length c1) (own_blk' own p0 (by decide))
  replace p1 := p1.far3 (g := w.heap.size) (v0 := .int .i64 q1.n) (v1 := .bool q1.e) (v2 := .slice A1 q1.m.length c1) (by omega)
  replace p2 := p2.far3 (g := w.heap.size) (v0 := .int .i64 q1.n) (v1 := .bool q1.e) (v2 := .slice A1 q1.m.length c1) (by omega)
  replace p3 := p3.far3 (g := w.heap.size) (v0 := .int .i64 q1.n) (v1 := .bool q1.e) (v2 := .slice A1 q1.m.length c1) (by omega)
  replace p0 := p0.set3 (v0 := .int .i64 q1.n) (v1 := .bool q1.e) (v2 := .slice A1 q1.m.length c1)
  replace fr := fr.set3 (g := w.heap.size) (v0 := .int .i64 q1.n) (v1 := .bool q1.e) (v2 := .slice A1 q1.m.length c1) (by omega)
  generalize ((w2.setCell ⟨w.heap.size, 0, none⟩ (.int .i64 q1.n)).setCell ⟨w.heap.size, 1, none⟩ (.bool q1.e)).setCell ⟨w.heap.size, 2, none⟩ (.slice A1 q1.m.length c1) = w3 at *
  have hmq := OkO.small ok1
  have hW0 := Nat.le_trans hbase fr.size
  (with_reducible refine (rclosed_ok q1 ok1.ok A1 c1 w3 own.rd hmq).mono ?_)
  rintro e_w4 w4 ⟨A3, c3, rfl, ownN, hb_w4⟩
  replace p0 := p0.later hb_w4
  replace p1 := p1.later hb_w4
  replace p2 := p2.later hb_w4
  replace p3 := p3.later hb_w4
  replace fr := fr.made hb_w4 ownN
  clear own
  have own := ownN.less hW0
  clear ownN hW0 hb_w4
  generalize closeO q1 = q3 at *
  obtain ⟨p3_0, p3_1, p3_2, p3_f⟩ := octbox p3
  go_wp2
  clear p3_0 p3_1 p3_2 p3_f
  have q9 := p3.set3 (v0 := .int .i64 q3.n) (v1 := .bool q3.e) (v2 := .slice A3 q3.m.length c3)
  have fr9 := fr.set3 (g := w.heap.size + 1 + 1 + 1) (v0 := .int .i64 q3.n) (v1 := .bool q3.e) (v2 := .slice A3 q3.m.length c3) (by omega)
  have own9 := own.far3 (g := w.heap.size + 1 + 1 + 1) (v0 := .int .i64 q3.n) (v1 := .bool q3.e) (v2 := .slice A3 q3.m.length c3) (own_blk' own p3 (by decide))
  obtain ⟨z0, z1, z2, fz⟩ := octbox q9
  refine bodyPost_ret (v := .agg #[.int .i64 q3.n, .bool q3.e, .slice A3 q3.m.length c3]) (by simp [results, Tryz.results63, go_sem, z0, z1, z2]) rfl ?_
  exact ⟨_, _, rfl, own9, fr9.1, fr9.2⟩

set_option maxRecDepth 8000 in
set_option maxHeartbeats 4000000 in
theorem rassume_5b (n : Int) (m : List Int) (N : Nat) (hN : (N : Int) = 2 * n) (hn : N ≤ 128) (hc : Cells N m) (av an bv bn : Int) (ha : av < n) (hb : bv < n) (h0 : av < 0) (h1 : 0 ≤ bv) (ia : I64 an) (ib : I64 bn) (A : Option Addr) (cap base : Nat) (w : World) (own : Own w base A cap m) (hbase : base ≤ w.heap.size) (hm : m.length ≤ 17592186044416) :
    Calls Tryz.prog 63 #[.agg #[.int .i64 n, .bool false, .slice A m.length cap], .int .i64 5, .agg #[.int .i64 av, .int .i64 an], .agg #[.int .i64 bv, .int .i64 bn]] w (RGen w base A (closeO (atMostO ⟨n, false, m⟩ bv bn av an true))) := by
  have HOK := hid (OkO.of_cells hN hn hc)
  have HN := hid (And.intro hN hn)
  have HAB := hid (And.intro ha hb)
  have t1 : decide (av < 0) = true := by rw [decide_eq_true_eq]; omega
  have t2 : decide (bv < 0) = false := by rw [decide_eq_false_iff_not]; omega
  clear hN hn ha hb
  have fr := Fr.refl w A
  have own0 := own
  obtain ⟨p0, p1, p2, p3, hbn, -⟩ := new_four w #[.int .i64 n, .bool false, .slice A m.length cap] #[.int .i64 av, .int .i64 an] #[.int .i64 bv, .int .i64 bn] #[.int .i64 0, .bool false, .slice none 0 0] 24 26 26 24
  replace own := own.below hbn
  replace fr := fr.below hbn
  obtain ⟨p0_0, p0_1, p0_2, p0_f⟩ := octbox p0
  obtain ⟨p1_0, p1_1, p1_f⟩ := opbox p1
  obtain ⟨p2_0, p2_1, p2_f⟩ := opbox p2
  go_enter Tryz.func63, Tryz.ntmps63
  clear own0
  go_wp2_with fail
  clear p0_0 p0_1 p0_2 p0_f p1_0 p1_1 p1_f p2_0 p2_1 p2_f
  generalize (((w.alloc (Obj.cells #[.int .i64 n, .bool false, .slice A m.length cap] 24)).alloc (Obj.cells #[.int .i64 av, .int .i64 an] 26)).alloc (Obj.cells #[.int .i64 bv, .int .i64 bn] 26)).alloc (Obj.cells #[.int .i64 0, .bool false, .slice none 0 0] 24) = w1 at *
  have hbs := Nat.le_trans hbase fr.size
  have ok1 := OkO.atMost HOK.out (av := bv) (an := bn) (bv := av) (bn := an) (s := true) (by have := HAB.out; omega) (by have := HAB.out; omega) (by omega)
  have HX := hid (ratMost_ok n ⟨n, false, m⟩ HOK.out bv bn av an true (by have := HAB.out; omega) (by have := HAB.out; omega) (by omega) ib ia A cap base w1 own hbs)
  (try dsimp only at HX)
  (with_reducible refine HX.out.mono ?_)
  clear HX
  rintro e_w2 w2 ⟨A1, c1, rfl, own_w2, ha_w2, hg_w2, hp_A1⟩
  replace p0 := p0.kept hg_w2 (row_ne own p0 (by decide))
  replace p1 := p1.kept hg_w2 (row_ne own p1 (by decide))
  replace p2 := p2.kept hg_w2 (row_ne own p2 (by decide))
  replace p3 := p3.kept hg_w2 (row_ne own p3 (by decide))
  replace fr := fr.call ha_w2 hg_w2
  clear own ha_w2 hg_w2
  have own := own_w2
  clear own_w2
  clear hp_A1
  generalize atMostO ⟨n, false, m⟩ bv bn av an true = q1 at *
  obtain ⟨p0_0, p0_1, p0_2, p0_f⟩ := octbox p0
  go_wp2_with fail
  clear p0_0 p0_1 p0_2 p0_f
  replace own := own.far3 (g := w.heap.size) (v0 := .int .i64 q1.n) (v1 := .bool q1.e) (v2 := .slice A1 q1.m.length c1) (own_blk' own p0 (by decide))
  replace p1 := p1.far3 (g := w.heap.size) (v0 := .int .i64 q1.n) (v1 := .bool q1.e) (v2 := .slice A1 q1.m.length c1) (by omega)
  replace p2 := p2.far3 (g := w.heap.size) (v0 := .int .i64 q1.n) (v1 := .bool q1.e) (v2 := .slice A1 q1.m.length c1) (by omega)
  replace p3 := p3.far3 (g := w.heap.size) (v0 := .int .i64 q1.n) (v1 := .bool q1.e) (v2 := .slice A1 q1.m.length c1) (by omega)
  replace p0 := p0.set3 (v0 := .int .i64 q1.n) (v1 := .bool q1.e) (v2 := .slice A1 q1.m.length c1)
  replace fr := fr.set3 (g := w.heap.size) (v0 := .int .i64 q1.n) (v1 := .bool q1.e) (v2 := .slice A1 q1.m.length c1) (by omega)
  generalize ((w2.setCell ⟨w.heap.size, 0, none⟩ (.int .i64 q1.n)).setCell ⟨w.heap.size, 1, none⟩ (.bool q1.e)).setCell ⟨w.heap.size, 2, none⟩ (.slice A1 q1.m.length c1) = w3 at *
  have hmq := OkO.small ok1
  have hW0 := Nat.le_trans hbase fr.size
  (with_reducible refine (rclosed_ok q1 ok1.ok A1 c1 w3 own.rd hmq).mono ?_)
  rintro e_w4 w4 ⟨A3, c3, rfl, ownN, hb_w4⟩
  replace p0 := p0.later hb_w4
  replace p1 := p1.later hb_w4
  replace p2 := p2.later hb_w4
  replace p3 := p3.later hb_w4
  replace fr := fr.made hb_w4 ownN
  clear own
  have own := ownN.less hW0
  clear ownN hW0 hb_w4
  generalize closeO q1 = q3 at *
  obtain ⟨p3_0, p3_1, p3_2, p3_f⟩ := octbox p3
  go_wp2
  clear p3_0 p3_1 p3_2 p3_f
  have q9 := p3.set3 (v0 := .int .i64 q3.n) (v1 := .bool q3.e) (v2 := .slice A3 q3.m.length c3)
  have fr9 := fr.set3 (g := w.heap.size + 1 + 1 + 1) (v0 := .int .i64 q3.n) (v1 := .bool q3.e) (v2 := .slice A3 q3.m.length c3) (by omega)
  have own9 := own.far3 (g := w.heap.size + 1 + 1 + 1) (v0 := .int .i64 q3.n) (v1 := .bool q3.e) (v2 := .slice A3 q3.m.length c3) (own_blk' own p3 (by decide))
  obtain ⟨z0, z1, z2, fz⟩ := octbox q9
  refine bodyPost_ret (v := .agg #[.int .i64 q3.n, .bool q3.e, .slice A3 q3.m.length c3]) (by simp [results, Tryz.results63, go_sem, z0, z1, z2]) rfl ?_
  exact ⟨_, _, rfl, own9, fr9.1, fr9.2⟩

set_option maxRecDepth 8000 in
set_option maxHeartbeats 4000000 in
theorem rassume_6a (n : Int) (m : List Int) (N : Nat) (hN : (N : Int) = 2 * n) (hn : N ≤ 128) (hc : Cells N m) (av an bv bn : Int) (ha : av < n) (hb : bv < n) (h0 : 0 ≤ av) (ia : I64 an) (ib : I64 bn) (A : Option Addr) (cap base : Nat) (w : World) (own : Own w base A cap m) (hbase : base ≤ w.heap.size) (hm : m.length ≤ 17592186044416) :
    Calls Tryz.prog 63 #[.agg #[.int .i64 n, .bool false, .slice A m.length cap], .int .i64 6, .agg #[.int .i64 av, .int .i64 an], .agg #[.int .i64 bv, .int .i64 bn]] w (RGen w base A (closeO (atMostO ⟨n, false, m⟩ bv bn av an false))) := by
  have HOK := hid (OkO.of_cells hN hn hc)
  have HN := hid (And.intro hN hn)
  have HAB := hid (And.intro ha hb)
  have t1 : decide (av < 0) = false := by rw [decide_eq_false_iff_not]; omega
  clear hN hn ha hb
  have fr := Fr.refl w A
  have own0 := own
  obtain ⟨p0, p1, p2, p3, hbn, -⟩ := new_four w #[.int .i64 n, .bool false, .slice A m.length cap] #[.int .i64 av, .int .i64 an] #[.int .i64 bv, .int .i64 bn] #[.int .i64 0, .bool false, .slice none 0 0] 24 26 26 24
  replace own := own.below hbn
  replace fr := fr.below hbn
  obtain ⟨p0_0, p0_1, p0_2, p0_f⟩ := octbox p0
  obtain ⟨p1_0, p1_1, p1_f⟩ := opbox p1
  obtain ⟨p2_0, p2_1, p2_f⟩ := opbox p2
  go_enter Tryz.func63, Tryz.ntmps63
  clear own0
  go_wp2_with fail
  clear p0_0 p0_1 p0_2 p0_f p1_0 p1_1 p1_f p2_0 p2_1 p2_f
  generalize (((w.alloc (Obj.cells #[.int .i64 n, .bool false, .slice A m.length cap] 24)).alloc (Obj.cells #[.int .i64 av, .int .i64 an] 26)).alloc (Obj.cells #[.int .i64 bv, .int .i64 bn] 26)).alloc (Obj.cells #[.int .i64 0, .bool false, .slice none 0 0] 24) = w1 at *
  have hbs := Nat.le_trans hbase fr.size
  have ok1 := OkO.atMost HOK.out (av := bv) (an := bn) (bv := av) (bn := an) (s := false) (by have := HAB.out; omega) (by have := HAB.out; omega) (by omega)
  have HX := hid (ratMost_ok n ⟨n, false, m⟩ HOK.out bv bn av an false (by have := HAB.out; omega) (by have := HAB.out; omega) (by omega) ib ia A cap base w1 own hbs)
  (try dsimp only at HX)
  (with_reducible refine HX.out.mono ?_)
  clear HX
  rintro e_w2 w2 ⟨A1, c1, rfl, own_w2, ha_w2, hg_w2, hp_A1⟩
  replace p0 := p0.kept hg_w2 (row_ne own p0 (by decide))
  replace p1 := p1.kept hg_w2 (row_ne own p1 (by decide))
  replace p2 := p2.kept hg_w2 (row_ne own p2 (by decide))
  replace p3 := p3.kept hg_w2 (row_ne own p3 (by decide))
  replace fr := fr.call ha_w2 hg_w2
  clear own ha_w2 hg_w2
  have own := own_w2
  clear own_w2
  clear hp_A1
  generalize atMostO ⟨n, false, m⟩ bv bn av an false = q1 at *
  obtain ⟨p0_0, p0_1, p0_2, p0_f⟩ := octbox p0
  go_wp2_with fail
  clear p0_0 p0_1 p0_2 p0_f
  replace own := own.far3 (g := w.heap.size) (v0 := .int .i64 q1.n) (v1 := .bool q1.e) (v2 := .slice A1 q1.m.length c1) (own_blk' own p0 (by decide))
  replace p1 := p1.far3 (g := w.heap.size) (v0 := .int .i64 q1.n) (v1 := .bool q1.e) (v2 := .slice A1 q1.m.length c1) (by omega)
  replace p2 := p2.far3 (g := w.heap.size) (v0 := .int .i64 q1.n) (v1 := .bool q1.e) (v2 := .slice A1 q1.m.length c1) (by omega)
  replace p3 := p3.far3 (g := w.heap.size) (v0 := .int .i64 q1.n) (v1 := .bool q1.e) (v2 := .slice A1 q1.m.length c1) (by omega)
  replace p0 := p0.set3 (v0 := .int .i64 q1.n) (v1 := .bool q1.e) (v2 := .slice A1 q1.m.length c1)
  replace fr := fr.set3 (g := w.heap.size) (v0 := .int .i64 q1.n) (v1 := .bool q1.e) (v2 := .slice A1 q1.m.length c1) (by omega)
  generalize ((w2.setCell ⟨w.heap.size, 0, none⟩ (.int .i64 q1.n)).setCell ⟨w.heap.size, 1, none⟩ (.bool q1.e)).setCell ⟨w.heap.size, 2, none⟩ (.slice A1 q1.m.length c1) = w3 at *
  have hmq := OkO.small ok1
  have hW0 := Nat.le_trans hbase fr.size
  (with_reducible refine (rclosed_ok q1 ok1.ok A1 c1 w3 own.rd hmq).mono ?_)
  rintro e_w4 w4 ⟨A3, c3, rfl, ownN, hb_w4⟩
  replace p0 := p0.later hb_w4
  replace p1 := p1.later hb_w4
  replace p2 := p2.later hb_w4
  replace p3 := p3.later hb_w4
  replace fr := fr.made hb_w4 ownN
  clear own
  have own := ownN.less hW0
  clear ownN hW0 hb_w4
  generalize closeO q1 = q3 at *
  obtain ⟨p3_0, p3_1, p3_2, p3_f⟩ := octbox p3
  go_wp2
  clear p3_0 p3_1 p3_2 p3_f
  have q9 := p3.set3 (v0 := .int .i64 q3.n) (v1 := .bool q3.e) (v2 := .slice A3 q3.m.length c3)
  have fr9 := fr.set3 (g := w.heap.size + 1 + 1 + 1) (v0 := .int .i64 q3.n) (v1 := .bool q3.e) (v2 := .slice A3 q3.m.length c3) (by omega)
  have own9 := own.far3 (g := w.heap.size + 1 + 1 + 1) (v0 := .int .i64 q3.n) (v1 := .bool q3.e) (v2 := .slice A3 q3.m.length c3) (own_blk' own p3 (by decide))
  obtain ⟨z0, z1, z2, fz⟩ := octbox q9
  refine bodyPost_ret (v := .agg #[.int .i64 q3.n, .bool q3.e, .slice A3 q3.m.length c3]) (by simp [results, Tryz.results63, go_sem, z0, z1, z2]) rfl ?_
  exact ⟨_, _, rfl, own9, fr9.1, fr9.2⟩

set_option maxRecDepth 8000 in
set_option maxHeartbeats 4000000 in
theorem rassume_6b (n : Int) (m : List Int) (N : Nat) (hN : (N : Int) = 2 * n) (hn : N ≤ 128) (hc : Cells N m) (av an bv bn : Int) (ha : av < n) (hb : bv < n) (h0 : av < 0) (h1 : 0 ≤ bv) (ia : I64 an) (ib : I64 bn) (A : Option Addr) (cap base : Nat) (w : World) (own : Own w base A cap m) (hbase : base ≤ w.heap.size) (hm : m.length ≤ 17592186044416) :
    Calls Tryz.prog 63 #[.agg #[.int .i64 n, .bool false, .slice A m.length cap], .int .i64 6, .agg #[.int .i64 av, .int .i64 an], .agg #[.int .i64 bv, .int .i64 bn]] w (RGen w base A (closeO (atMostO ⟨n, false, m⟩ bv bn av an false))) := by
  have HOK := hid (OkO.of_cells hN hn hc)
  have HN := hid (And.intro hN hn)
  have HAB := hid (And.intro ha hb)
  have t1 : decide (av < 0) = true := by rw [decide_eq_true_eq]; omega
  have t2 : decide (bv < 0) = false := by rw [decide_eq_false_iff_not]; omega
  clear hN hn ha hb
  have fr := Fr.refl w A
  have own0 := own
  obtain ⟨p0, p1, p2, p3, hbn, -⟩ := new_four w #[.int .i64 n, .bool false, .slice A m.length cap] #[.int .i64 av, .int .i64 an] #[.int .i64 bv, .int .i64 bn] #[.int .i64 0, .bool false, .slice none 0 0] 24 26 26 24
  replace own := own.below hbn
  replace fr := fr.below hbn
  obtain ⟨p0_0, p0_1, p0_2, p0_f⟩ := octbox p0
  obtain ⟨p1_0, p1_1, p1_f⟩ := opbox p1
  obtain ⟨p2_0, p2_1, p2_f⟩ := opbox p2
  go_enter Tryz.func63, Tryz.ntmps63
  clear own0
  go_wp2_with fail
  clear p0_0 p0_1 p0_2 p0_f p1_0 p1_1 p1_f p2_0 p2_1 p2_f
  generalize (((w.alloc (Obj.cells #[.int .i64 n, .bool false, .slice A m.length cap] 24)).alloc (Obj.cells #[.int .i64 av, .int .i64 an] 26)).alloc (Obj.cells #[.int .i64 bv, .int .i64 bn] 26)).alloc (Obj.cells #[.int .i64 0, .bool false, .slice none 0 0] 24) = w1 at *
  have hbs := Nat.le_trans hbase fr.size
  have ok1 := OkO.atMost HOK.out (av := bv) (an := bn) (bv := av) (bn := an) (s := false) (by have := HAB.out; omega) (by have := HAB.out; omega) (by omega)
  have HX := hid (ratMost_ok n ⟨n, false, m⟩ HOK.out bv bn av an false (by have := HAB.out; omega) (by have := HAB.out; omega) (by omega) ib ia A cap base w1 own hbs)
  (try dsimp only at HX)
  (with_reducible refine HX.out.mono ?_)
  clear HX
  rintro e_w2 w2 ⟨A1, c1, rfl, own_w2, ha_w2, hg_w2, hp_A1⟩
  replace p0 := p0.kept hg_w2 (row_ne own p0 (by decide))
  replace p1 := p1.kept hg_w2 (row_ne own p1 (by decide))
  replace p2 := p2.kept hg_w2 (row_ne own p2 (by decide))
  replace p3 := p3.kept hg_w2 (row_ne own p3 (by decide))
  replace fr := fr.call ha_w2 hg_w2
  clear own ha_w2 hg_w2
  have own := own_w2
  clear own_w2
  clear hp_A1
  generalize atMostO ⟨n, false, m⟩ bv bn av an false = q1 at *
  obtain ⟨p0_0, p0_1, p0_2, p0_f⟩ := octbox p0
  go_wp2_with fail
  clear p0_0 p0_1 p0_2 p0_f
  replace own := own.far3 (g := w.heap.size) (v0 := .int .i64 q1.n) (v1 := .bool q1.e) (v2 := .slice A1 q1.m.length c1) (own_blk' own p0 (by decide))
  replace p1 := p1.far3 (g := w.heap.size) (v0 := .int .i64 q1.n) (v1 := .bool q1.e) (v2 := .slice A1 q1.m.length c1) (by omega)
  replace p2 := p2.far3 (g := w.heap.size) (v0 := .int .i64 q1.n) (v1 := .bool q1.e) (v2 := .slice A1 q1.m.length c1) (by omega)
  replace p3 := p3.far3 (g := w.heap.size) (v0 := .int .i64 q1.n) (v1 := .bool q1.e) (v2 := .slice A1 q1.m.length c1) (by omega)
  replace p0 := p0.set3 (v0 := .int .i64 q1.n) (v1 := .bool q1.e) (v2 := .slice A1 q1.m.length c1)
  replace fr := fr.set3 (g := w.heap.size) (v0 := .int .i64 q1.n) (v1 := .bool q1.e) (v2 := .slice A1 q1.m.length c1) (by omega)
  generalize ((w2.setCell ⟨w.heap.size, 0, none⟩ (.int .i64 q1.n)).setCell ⟨w.heap.size, 1, none⟩ (.bool q1.e)).setCell ⟨w.heap.size, 2, none⟩ (.slice A1 q1.m.length c1) = w3 at *
  have hmq := OkO.small ok1
  have hW0 := Nat.le_trans hbase fr.size
  (with_reducible refine (rclosed_ok q1 ok1.ok A1 c1 w3 own.rd hmq).mono ?_)
  rintro e_w4 w4 ⟨A3, c3, rfl, ownN, hb_w4⟩
  replace p0 := p0.later hb_w4
  replace p1 := p1.later hb_w4
  replace p2 := p2.later hb_w4
  replace p3 := p3.later hb_w4
  replace fr := fr.made hb_w4 ownN
  clear own
  have own := ownN.less hW0
  clear ownN hW0 hb_w4
  generalize closeO q1 = q3 at *
  obtain ⟨p3_0, p3_1, p3_2, p3_f⟩ := octbox p3
  go_wp2
  clear p3_0 p3_1 p3_2 p3_f
  have q9 := p3.set3 (v0 := .int .i64 q3.n) (v1 := .bool q3.e) (v2 := .slice A3 q3.m.length c3)
  have fr9 := fr.set3 (g := w.heap.size + 1 + 1 + 1) (v0 := .int .i64 q3.n) (v1 := .bool q3.e) (v2 := .slice A3 q3.m.length c3) (by omega)
  have own9 := own.far3 (g := w.heap.size + 1 + 1 + 1) (v0 := .int .i64 q3.n) (v1 := .bool q3.e) (v2 := .slice A3 q3.m.length c3) (own_blk' own p3 (by decide))
  obtain ⟨z0, z1, z2, fz⟩ := octbox q9
  refine bodyPost_ret (v := .agg #[.int .i64 q3.n, .bool q3.e, .slice A3 q3.m.length c3]) (by simp [results, Tryz.results63, go_sem, z0, z1, z2]) rfl ?_
  exact ⟨_, _, rfl, own9, fr9.1, fr9.2⟩

set_option maxRecDepth 8000 in
set_option maxHeartbeats 4000000 in
theorem rassume_4a (n : Int) (m : List Int) (N : Nat) (hN : (N : Int) = 2 * n) (hn : N ≤ 128) (hc : Cells N m) (av an bv bn : Int) (ha : av < n) (hb : bv < n) (h0 : 0 ≤ av) (ia : I64 an) (ib : I64 bn) (A : Option Addr) (cap base : Nat) (w : World) (own : Own w base A cap m) (hbase : base ≤ w.heap.size) (hm : m.length ≤ 17592186044416) :
    Calls Tryz.prog 63 #[.agg #[.int .i64 n, .bool false, .slice A m.length cap], .int .i64 4, .agg #[.int .i64 av, .int .i64 an], .agg #[.int .i64 bv, .int .i64 bn]] w (RGen w base A (closeO (unlikeO ⟨n, false, m⟩ av an bv bn))) := by
  have HOK := hid (OkO.of_cells hN hn hc)
  have HN := hid (And.intro hN hn)
  have HAB := hid (And.intro ha hb)
  have t1 : decide (av < 0) = false := by rw [decide_eq_false_iff_not]; omega
  clear hN hn ha hb
  have fr := Fr.refl w A
  have own0 := own
  obtain ⟨p0, p1, p2, p3, hbn, -⟩ := new_four w #[.int .i64 n, .bool false, .slice A m.length cap] #[.int .i64 av, .int .i64 an] #[.int .i64 bv, .int .i64 bn] #[.int .i64 0, .bool false, .slice none 0 0] 24 26 26 24
  replace own := own.below hbn
  replace fr := fr.below hbn
  obtain ⟨p0_0, p0_1, p0_2, p0_f⟩ := octbox p0
  obtain ⟨p1_0, p1_1, p1_f⟩ := opbox p1
  obtain ⟨p2_0, p2_1, p2_f⟩ := opbox p2
  go_enter Tryz.func63, Tryz.ntmps63
  clear own0
  go_wp2_with fail
  clear p0_0 p0_1 p0_2 p0_f p1_0 p1_1 p1_f p2_0 p2_1 p2_f
  generalize (((w.alloc (Obj.cells #[.int .i64 n, .bool false, .slice A m.length cap] 24)).alloc (Obj.cells #[.int .i64 av, .int .i64 an] 26)).alloc (Obj.cells #[.int .i64 bv, .int .i64 bn] 26)).alloc (Obj.cells #[.int .i64 0, .bool false, .slice none 0 0] 24) = w1 at *
  have ok1 := OkO.unlike HOK.out (av := av) (an := an) (bv := bv) (bn := bn) (by have := HAB.out; omega) (by have := HAB.out; omega) (by omega)
  have hW0 := Nat.le_trans hbase fr.size
  have HX := hid (runlike_ok n m N HN.out.1 HN.out.2 hc av an bv bn (by have := HAB.out; omega) (by have := HAB.out; omega) (by omega) ia ib A cap w1 own.rd hm)
  (try dsimp only at HX)
  (with_reducible refine HX.out.mono ?_)
  clear HX
  rintro e_w2 w2 ⟨A1, c1, rfl, ownN, hb_w2⟩
  replace p0 := p0.later hb_w2
  replace p1 := p1.later hb_w2
  replace p2 := p2.later hb_w2
  replace p3 := p3.later hb_w2
  replace fr := fr.made hb_w2 ownN
  clear own
  have own := ownN.less hW0
  clear ownN hW0 hb_w2
  generalize unlikeO ⟨n, false, m⟩ av an bv bn = q1 at *
  obtain ⟨p0_0, p0_1, p0_2, p0_f⟩ := octbox p0
  go_wp2_with fail
  clear p0_0 p0_1 p0_2 p0_f
  replace own := own.far3 (g := w.heap.size) (v0 := .int .i64 q1.n) (v1 := .bool q1.e) (v2 := .slice A1 q1.m.length c1) (own_blk' own p0 (by decide))
  replace p1 := p1.far3 (g := w.heap.size) (v0 := .int .i64 q1.n) (v1 := .bool q1.e) (v2 := .slice A1 q1.m.length c1) (by omega)
  replace p2 := p2.far3 (g := w.heap.size) (v0 := .int .i64 q1.n) (v1 := .bool q1.e) (v2 := .slice A1 q1.m.length c1) (by omega)
  replace p3 := p3.far3 (g := w.heap.size) (v0 := .int .i64 q1.n) (v1 := .bool q1.e) (v2 := .slice A1 q1.m.length c1) (by omega)
  replace p0 := p0.set3 (v0 := .int .i64 q1.n) (v1 := .bool q1.e) (v2 := .slice A1 q1.m.length c1)
  replace fr := fr.set3 (g := w.heap.size) (v0 := .int .i64 q1.n) (v1 := .bool q1.e) (v2 := .slice A1 q1.m.length c1) (by omega)
  generalize ((w2.setCell ⟨w.heap.size, 0, none⟩ (.int .i64 q1.n)).setCell ⟨w.heap.size, 1, none⟩ (.bool q1.e)).setCell ⟨w.heap.size, 2, none⟩ (.slice A1 q1.m.length c1) = w3 at *
  have hmq := OkO.small ok1
  have hW0 := Nat.le_trans hbase fr.size
  (with_reducible refine (rclosed_ok q1 ok1.ok A1 c1 w3 own.rd hmq).mono ?_)
  rintro e_w4 w4 ⟨A3, c3, rfl, ownN, hb_w4⟩
  replace p0 := p0.later hb_w4
  replace p1 := p1.later hb_w4
  replace p2 := p2.later hb_w4
  replace p3 := p3.later hb_w4
  replace fr := fr.made hb_w4 ownN
  clear own
  have own := ownN.less hW0
  clear ownN hW0 hb_w4
  generalize closeO q1 = q3 at *
  obtain ⟨p3_0, p3_1, p3_2, p3_f⟩ := octbox p3
  go_wp2
  clear p3_0 p3_1 p3_2 p3_f
  have q9 := p3.set3 (v0 := .int .i64 q3.n) (v1 := .bool q3.e) (v2 := .slice A3 q3.m.length c3)
  have fr9 := fr.set3 (g := w.heap.size + 1 + 1 + 1) (v0 := .int .i64 q3.n) (v1 := .bool q3.e) (v2 := .slice A3 q3.m.length c3) (by omega)
  have own9 := own.far3 (g := w.heap.size + 1 + 1 + 1) (v0 := .int .i64 q3.n) (v1 := .bool q3.e) (v2 := .slice A3 q3.m.length c3) (own_blk' own p3 (by decide))
  obtain ⟨z0, z1, z2, fz⟩ := octbox q9
  refine bodyPost_ret (v := .agg #[.int .i64 q3.n, .bool q3.e, .slice A3 q3.m.length c3]) (by simp [results, Tryz.results63, go_sem, z0, z1, z2]) rfl ?_
  exact ⟨_, _, rfl, own9, fr9.1, fr9.2⟩

set_option maxRecDepth 8000 in
set_option maxHeartbeats 4000000 in
theorem rassume_4b (n : Int) (m : List Int) (N : Nat) (hN : (N : Int) = 2 * n) (hn : N ≤ 128) (hc : Cells N m) (av an bv bn : Int) (ha : av < n) (hb : bv < n) (h0 : av < 0) (h1 : 0 ≤ bv) (ia : I64 an) (ib : I64 bn) (A : Option Addr) (cap base : Nat) (w : World) (own : Own w base A cap m) (hbase : base ≤ w.heap.size) (hm : m.length ≤ 17592186044416) :
    Calls Tryz.prog 63 #[.agg #[.int .i64 n, .bool false, .slice A m.length cap], .int .i64 4, .agg #[.int .i64 av, .int .i64 an], .agg #[.int .i64 bv, .int .i64 bn]] w (RGen w base A (closeO (unlikeO ⟨n, false, m⟩ av an bv bn))) := by
  have HOK := hid (OkO.of_cells hN hn hc)
  have HN := hid (And.intro hN hn)
  have HAB := hid (And.intro ha hb)
  have t1 : decide (av < 0) = true := by rw [decide_eq_true_eq]; omega
  have t2 : decide (bv < 0) = false := by rw [decide_eq_false_iff_not]; omega
  clear hN hn ha hb
  have fr := Fr.refl w A
  have own0 := own
  obtain ⟨p0, p1, p2, p3, hbn, -⟩ := new_four w #[.int .i64 n, .bool false, .slice A m.length cap] #[.int .i64 av, .int .i64 an] #[.int .i64 bv, .int .i64 bn] #[.int .i64 0, .bool false, .slice none 0 0] 24 26 26 24
  replace own := own.below hbn
  replace fr := fr.below hbn
  obtain ⟨p0_0, p0_1, p0_2, p0_f⟩ := octbox p0
  obtain ⟨p1_0, p1_1, p1_f⟩ := opbox p1
  obtain ⟨p2_0, p2_1, p2_f⟩ := opbox p2
  go_enter Tryz.func63, Tryz.ntmps63
  clear own0
  go_wp2_with fail
  clear p0_0 p0_1 p0_2 p0_f p1_0 p1_1 p1_f p2_0 p2_1 p2_f
  generalize (((w.alloc (Obj.cells #[.int .i64 n, .bool false, .slice A m.length cap] 24)).alloc (Obj.cells #[.int .i64 av, .int .i64 an] 26)).alloc (Obj.cells #[.int .i64 bv, .int .i64 bn] 26)).alloc (Obj.cells #[.int .i64 0, .bool false, .slice none 0 0] 24) = w1 at *
  have ok1 := OkO.unlike HOK.out (av := av) (an := an) (bv := bv) (bn := bn) (by have := HAB.out; omega) (by have := HAB.out; omega) (by omega)
  have hW0 := Nat.le_trans hbase fr.size
  have HX := hid (runlike_ok n m N HN.out.1 HN.out.2 hc av an bv bn (by have := HAB.out; omega) (by have := HAB.out; omega) (by omega) ia ib A cap w1 own.rd hm)
  (try dsimp only at HX)
  (with_reducible refine HX.out.mono ?_)
  clear HX
  rintro e_w2 w2 ⟨A1, c1, rfl, ownN, hb_w2⟩
  replace p0 := p0.later hb_w2
  replace p1 := p1.later hb_w2
  replace p2 := p2.later hb_w2
  replace p3 := p3.later hb_w2
  replace fr := fr.made hb_w2 ownN
  clear own
  have own := ownN.less hW0
  clear ownN hW0 hb_w2
  generalize unlikeO ⟨n, false, m⟩ av an bv bn = q1 at *
  obtain ⟨p0_0, p0_1, p0_2, p0_f⟩ := octbox p0
  go_wp2_with fail
  clear p0_0 p0_1 p0_2 p0_f
  replace own := own.far3 (g := w.heap.size) (v0 := .int .i64 q1.n) (v1 := .bool q1.e) (v2 := .slice A1 q1.m.length c1) (own_blk' own p0 (by decide))
  replace p1 := p1.far3 (g := w.heap.size) (v0 := .int .i64 q1.n) (v1 := .bool q1.e) (v2 := .slice A1 q1.m.length c1) (by omega)
  replace p2 := p2.far3 (g := w.heap.size) (v0 := .int .i64 q1.n) (v1 := .bool q1.e) (v2 := .slice A1 q1.m.length c1) (by omega)
  replace p3 := p3.far3 (g := w.heap.size) (v0 := .int .i64 q1.n) (v1 := .bool q1.e) (v2 := .slice A1 q1.m.length c1) (by omega)
  replace p0 := p0.set3 (v0 := .int .i64 q1.n) (v1 := .bool q1.e) (v2 := .slice A1 q1.m.length c1)
  replace fr := fr.set3 (g := w.heap.size) (v0 := .int .i64 q1.n) (v1 := .bool q1.e) (v2 := .slice A1 q1.m.length c1) (by omega)
  generalize ((w2.setCell ⟨w.heap.size, 0, none⟩ (.int .i64 q1.n)).setCell ⟨w.heap.size, 1, none⟩ (.bool q1.e)).setCell ⟨w.heap.size, 2, none⟩ (.slice A1 q1.m.length c1) = w3 at *
  have hmq := OkO.small ok1
  have hW0 := Nat.le_trans hbase fr.size
  (with_reducible refine (rclosed_ok q1 ok1.ok A1 c1 w3 own.rd hmq).mono ?_)
  rintro e_w4 w4 ⟨A3, c3, rfl, ownN, hb_w4⟩
  replace p0 := p0.later hb_w4
  replace p1 := p1.later hb_w4
  replace p2 := p2.later hb_w4
  replace p3 := p3.later hb_w4
  replace fr := fr.made hb_w4 ownN
  clear own
  have own := ownN.less hW0
  clear ownN hW0 hb_w4
  generalize closeO q1 = q3 at *
  obtain ⟨p3_0, p3_1, p3_2, p3_f⟩ := octbox p3
  go_wp2
  clear p3_0 p3_1 p3_2 p3_f
  have q9 := p3.set3 (v0 := .int .i64 q3.n) (v1 := .bool q3.e) (v2 := .slice A3 q3.m.length c3)
  have fr9 := fr.set3 (g := w.heap.size + 1 + 1 + 1) (v0 := .int .i64 q3.n) (v1 := .bool q3.e) (v2 := .slice A3 q3.m.length c3) (by omega)
  have own9 := own.far3 (g := w.heap.size + 1 + 1 + 1) (v0 := .int .i64 q3.n) (v1 := .bool q3.e) (v2 := .slice A3 q3.m.length c3) (own_blk' own p3 (by decide))
  obtain ⟨z0, z1, z2, fz⟩ := octbox q9
  refine bodyPost_ret (v := .agg #[.int .i64 q3.n, .bool q3.e, .slice A3 q3.m.length c3]) (by simp [results, Tryz.results63, go_sem, z0, z1, z2]) rfl ?_
  exact ⟨_, _, rfl, own9, fr9.1, fr9.2⟩

set_option maxRecDepth 8000 in
set_option maxHeartbeats 4000000 in
theorem rassume_3a (n : Int) (m : List Int) (N : Nat) (hN : (N : Int) = 2 * n) (hn : N ≤ 128) (hc : Cells N m) (av an bv bn : Int) (ha : av < n) (hb : bv < n) (h0 : 0 ≤ av) (ia : I64 an) (ib : I64 bn) (A : Option Addr) (cap base : Nat) (w : World) (own : Own w base A cap m) (hbase : base ≤ w.heap.size) (hm : m.length ≤ 17592186044416) :
    Calls Tryz.prog 63 #[.agg #[.int .i64 n, .bool false, .slice A m.length cap], .int .i64 3, .agg #[.int .i64 av, .int .i64 an], .agg #[.int .i64 bv, .int .i64 bn]] w (RGen w base A (closeO (atMostO (atMostO ⟨n, false, m⟩ av an bv bn false) bv bn av an false))) := by
  have HOK := hid (OkO.of_cells hN hn hc)
  have HN := hid (And.intro hN hn)
  have HAB := hid (And.intro ha hb)
  have t1 : decide (av < 0) = false := by rw [decide_eq_false_iff_not]; omega
  clear hN hn ha hb
  have fr := Fr.refl w A
  have own0 := own
  obtain ⟨p0, p1, p2, p3, hbn, -⟩ := new_four w #[.int .i64 n, .bool false, .slice A m.length cap] #[.int .i64 av, .int .i64 an] #[.int .i64 bv, .int .i64 bn] #[.int .i64 0, .bool false, .slice none 0 0] 24 26 26 24
  replace own := own.below hbn
  replace fr := fr.below hbn
  obtain ⟨p0_0, p0_1, p0_2, p0_f⟩ := octbox p0
  obtain ⟨p1_0, p1_1, p1_f⟩ := opbox p1
  obtain ⟨p2_0, p2_1, p2_f⟩ := opbox p2
  go_enter Tryz.func63, Tryz.ntmps63
  clear own0
  go_wp2
  clear p0_0 p0_1 p0_2 p0_f p1_0 p1_1 p1_f p2_0 p2_1 p2_f
  generalize (((w.alloc (Obj.cells #[.int .i64 n, .bool false, .slice A m.length cap] 24)).alloc (Obj.cells #[.int .i64 av, .int .i64 an] 26)).alloc (Obj.cells #[.int .i64 bv, .int .i64 bn] 26)).alloc (Obj.cells #[.int .i64 0, .bool false, .slice none 0 0] 24) = w1 at *
  have hbs := Nat.le_trans hbase fr.size
  have ok1 := OkO.atMost HOK.out (av := av) (an := an) (bv := bv) (bn := bn) (s := false) (by have := HAB.out; omega) (by have := HAB.out; omega) (by omega)
  have hq1e : (atMostO ⟨n, false, m⟩ av an bv bn false).e = false := atMostO_e rfl
  have hdr : Below w1.heap.size w1 w1.drew := (Below.refl _ _).drew
  have hbsd : base ≤ w1.drew.heap.size := hbs
  have HAM := hid (ratMost_ok n ⟨n, false, m⟩ HOK.out av an bv bn false (by have := HAB.out; omega) (by have := HAB.out; omega) (by omega) ia ib A cap base w1.drew (own.below hdr) hbsd)
  dsimp only at HAM
  generalize atMostO ⟨n, false, m⟩ av an bv bn false = q1 at *
  obtain ⟨qn, qe, qm⟩ := q1
  dsimp only at hq1e
  subst hq1e
  have d0 := p0.later hdr
  have d1 := p1.later hdr
  have d2 := p2.later hdr
  have d3 := p3.later hdr
  have frd := fr.below hdr
  replace own := own.below hdr
  obtain ⟨S, hS⟩ : ∃ S : Bool → World → Prop, S = fun b W => (Blk W (w.heap.size) 24 #[.int .i64 n, .bool false, .slice A m.length cap] ∧ Blk W (w.heap.size + 1) 26 #[.int .i64 av, .int .i64 an] ∧ Blk W (w.heap.size + 1 + 1) 26 #[.int .i64 bv, .int .i64 bn] ∧ Blk W (w.heap.size + 1 + 1 + 1) 24 #[.int .i64 0, .bool false, .slice none 0 0]) ∧ Fr w W A A ∧ (if b then Own W base A cap qm else W = w1.drew) := ⟨_, rfl⟩
  have hS0 : S false w1.drew := by rw [hS]; exact ⟨⟨d0, d1, d2, d3⟩, frd, rfl⟩
  have f0 : ∀ W, AnyB S W → W.cell? ⟨w.heap.size, 0, none⟩ = some (.int .i64 n) := by rintro W ⟨b, h⟩; rw [hS] at h; exact h.1.1.cell 0
  have f1 : ∀ W, AnyB S W → W.cell? ⟨w.heap.size, 1, none⟩ = some (.bool false) := by rintro W ⟨b, h⟩; rw [hS] at h; exact h.1.1.cell 1
  have f2 : ∀ W, AnyB S W → W.cell? ⟨w.heap.size, 2, none⟩ = some (.slice A m.length cap) := by rintro W ⟨b, h⟩; rw [hS] at h; exact h.1.1.cell 2
  have j0 : ∀ W, AnyB S W → W.cell? ⟨w.heap.size + 1, 0, none⟩ = some (.int .i64 av) := by rintro W ⟨b, h⟩; rw [hS] at h; exact h.1.2.1.cell 0
  have j1 : ∀ W, AnyB S W → W.cell? ⟨w.heap.size + 1, 1, none⟩ = some (.int .i64 an) := by rintro W ⟨b, h⟩; rw [hS] at h; exact h.1.2.1.cell 1
  have l0 : ∀ W, AnyB S W → W.cell? ⟨w.heap.size + 1 + 1, 0, none⟩ = some (.int .i64 bv) := by rintro W ⟨b, h⟩; rw [hS] at h; exact h.1.2.2.1.cell 0
  have l1 : ∀ W, AnyB S W → W.cell? ⟨w.heap.size + 1 + 1, 1, none⟩ = some (.int .i64 bn) := by rintro W ⟨b, h⟩; rw [hS] at h; exact h.1.2.2.1.cell 1
  have HS := hid hS
  clear hS
  refine wp_region_flowM 6 3 S (by kernel_rfl) (by kernel_rfl) (by decide) hS0 ?_
  (repeat (first | (refine FlowM.skip (by rfl) (by rfl) ?_; simp only [Act.put, List.setIfInBounds_toArray, List.set_cons_zero, List.set_cons_succ]) | (refine' FlowM.take _ (by rfl) (by rfl) (fun W hW R hR => ?_) ?_; rotate_left; (go_simp; (try go_bits); with_reducible exact hR); simp only [Act.put, List.setIfInBounds_toArray, List.set_cons_zero, List.set_cons_succ])))
  refine FlowM.callM 126 #[.agg #[.int .i64 n, .bool false, .slice A m.length cap], .bool false, .agg #[.int .i64 av, .int .i64 an], .agg #[.int .i64 bv, .int .i64 bn]] (.agg #[.int .i64 qn, .bool false, .slice A qm.length cap]) (by rfl) (by rfl) (fun W hW => by have hW' : AnyB S W := ⟨false, hW⟩; clear hW; go_simp) (fun W hW => ?_) ?_
  · rw [HS.out] at hW
    obtain ⟨⟨b0, b1, b2, b3⟩, frW, hWe⟩ := hW
    simp only [Bool.false_eq_true, if_false] at hWe
    subst hWe
    refine HAM.out.mono ?_
    rintro e W2 ⟨A1, c1, rfl, ownN, ha, hg, hp⟩
    obtain ⟨rfl, rfl⟩ := hp rfl
    refine ⟨rfl, ?_⟩
    rw [HS.out]
    exact ⟨⟨d0.kept hg (row_ne own d0 (by decide)), d1.kept hg (row_ne own d1 (by decide)), d2.kept hg (row_ne own d2 (by decide)), d3.kept hg (row_ne own d3 (by decide))⟩, frd.call ha hg, ownN⟩
  simp only [Act.put, List.setIfInBounds_toArray, List.set_cons_zero, List.set_cons_succ]
  (repeat (first | (refine FlowM.skip (by rfl) (by rfl) ?_; simp only [Act.put, List.setIfInBounds_toArray, List.set_cons_zero, List.set_cons_succ]) | (refine' FlowM.take _ (by rfl) (by rfl) (fun W hW R hR => ?_) ?_; rotate_left; (go_simp; (try go_bits); with_reducible exact hR); simp only [Act.put, List.setIfInBounds_toArray, List.set_cons_zero, List.set_cons_succ])))
  intro W hW
  clear f0 f1 f2 j0 j1 l0 l1 d0 d1 d2 d3 frd hS0 hdr own p0 p1 p2 p3 fr HAM hbs hbsd
  rw [HS.out] at hW
  obtain ⟨⟨p0, p1, p2, p3⟩, fr, own⟩ := hW
  replace own : Own W base A cap qm := own
  clear HS
  have hbs := Nat.le_trans hbase fr.size
  have ok2 := OkO.atMost ok1 (av := bv) (an := bn) (bv := av) (bn := an) (s := false) (by have := HAB.out; omega) (by have := HAB.out; omega) (by omega)
  go_wp2_with fail
  have HX := hid (ratMost_ok n ⟨qn, false, qm⟩ ok1 bv bn av an false (by have := HAB.out; omega) (by have := HAB.out; omega) (by omega) ib ia A cap base W own hbs)
  (try dsimp only at HX)
  (with_reducible refine HX.out.mono ?_)
  clear HX
  rintro e_w2 w2 ⟨A2, c2, rfl, own_w2, ha_w2, hg_w2, hp_A2⟩
  replace p0 := p0.kept hg_w2 (row_ne own p0 (by decide))
  replace p1 := p1.kept hg_w2 (row_ne own p1 (by decide))
  replace p2 := p2.kept hg_w2 (row_ne own p2 (by decide))
  replace p3 := p3.kept hg_w2 (row_ne own p3 (by decide))
  replace fr := fr.call ha_w2 hg_w2
  clear own ha_w2 hg_w2
  have own := own_w2
  clear own_w2
  clear hp_A2
  generalize atMostO ⟨qn, false, qm⟩ bv bn av an false = q2 at *
  obtain ⟨p0_0, p0_1, p0_2, p0_f⟩ := octbox p0
  go_wp2_with fail
  clear p0_0 p0_1 p0_2 p0_f
  replace own := own.far3 (g := w.heap.size) (v0 := .int .i64 q2.n) (v1 := .bool q2.e) (v2 := .slice A2 q2.m.length c2) (own_blk' own p0 (by decide))
  replace p1 := p1.far3 (g := w.heap.size) (v0 := .int .i64 q2.n) (v1 := .bool q2.e) (v2 := .slice A2 q2.m.length c2) (by omega)
  replace p2 := p2.far3 (g := w.heap.size) (v0 := .int .i64 q2.n) (v1 := .bool q2.e) (v2 := .slice A2 q2.m.length c2) (by omega)
  replace p3 := p3.far3 (g := w.heap.size) (v0 := .int .i64 q2.n) (v1 := .bool q2.e) (v2 := .slice A2 q2.m.length c2) (by omega)
  replace p0 := p0.set3 (v0 := .int .i64 q2.n) (v1 := .bool q2.e) (v2 := .slice A2 q2.m.length c2)
  replace fr := fr.set3 (g := w.heap.size) (v0 := .int .i64 q2.n) (v1 := .bool q2.e) (v2 := .slice A2 q2.m.length c2) (by omega)
  generalize ((w2.setCell ⟨w.heap.size, 0, none⟩ (.int .i64 q2.n)).setCell ⟨w.heap.size, 1, none⟩ (.bool q2.e)).setCell ⟨w.heap.size, 2, none⟩ (.slice A2 q2.m.length c2) = w3 at *
  have hmq := OkO.small ok2
  have hW0 := Nat.le_trans hbase fr.size
  (with_reducible refine (rclosed_ok q2 ok2.ok A2 c2 w3 own.rd hmq).mono ?_)
  rintro e_w4 w4 ⟨A3, c3, rfl, ownN, hb_w4⟩
  replace p0 := p0.later hb_w4
  replace p1 := p1.later hb_w4
  replace p2 := p2.later hb_w4
  replace p3 := p3.later hb_w4
  replace fr := fr.made hb_w4 ownN
  clear own
  have own := ownN.less hW0
  clear ownN hW0 hb_w4
  generalize closeO q2 = q3 at *
  obtain ⟨p3_0, p3_1, p3_2, p3_f⟩ := octbox p3
  go_wp2
  clear p3_0 p3_1 p3_2 p3_f
  have q9 := p3.set3 (v0 := .int .i64 q3.n) (v1 := .bool q3.e) (v2 := .slice A3 q3.m.length c3)
  have fr9 := fr.set3 (g := w.heap.size + 1 + 1 + 1) (v0 := .int .i64 q3.n) (v1 := .bool q3.e) (v2 := .slice A3 q3.m.length c3) (by omega)
  have own9 := own.far3 (g := w.heap.size + 1 + 1 + 1) (v0 := .int .i64 q3.n) (v1 := .bool q3.e) (v2 := .slice A3 q3.m.length c3) (own_blk' own p3 (by decide))
  obtain ⟨z0, z1, z2, fz⟩ := octbox q9
  refine bodyPost_ret (v := .agg #[.int .i64 q3.n, .bool q3.e, .slice A3 q3.m.length c3]) (by simp [results, Tryz.results63, go_sem, z0, z1, z2]) rfl ?_
  exact ⟨_, _, rfl, own9, fr9.1, fr9.2⟩

set_option maxRecDepth 8000 in
set_option maxHeartbeats 4000000 in
theorem rassume_3b (n : Int) (m : List Int) (N : Nat) (hN : (N : Int) = 2 * n) (hn : N ≤ 128) (hc : Cells N m) (av an bv bn : Int) (ha : av < n) (hb : bv < n) (h0 : av < 0) (h1 : 0 ≤ bv) (ia : I64 an) (ib : I64 bn) (A : Option Addr) (cap base : Nat) (w : World) (own : Own w base A cap m) (hbase : base ≤ w.heap.size) (hm : m.length ≤ 17592186044416) :
    Calls Tryz.prog 63 #[.agg #[.int .i64 n, .bool false, .slice A m.length cap], .int .i64 3, .agg #[.int .i64 av, .int .i64 an], .agg #[.int .i64 bv, .int .i64 bn]] w (RGen w base A (closeO (atMostO (atMostO ⟨n, false, m⟩ av an bv bn false) bv bn av an false))) := by
  have HOK := hid (OkO.of_cells hN hn hc)
  have HN := hid (And.intro hN hn)
  have HAB := hid (And.intro ha hb)
  have t1 : decide (av < 0) = true := by rw [decide_eq_true_eq]; omega
  have t2 : decide (bv < 0) = false := by rw [decide_eq_false_iff_not]; omega
  clear hN hn ha hb
  have fr := Fr.refl w A
  have own0 := own
  obtain ⟨p0, p1, p2, p3, hbn, -⟩ := new_four w #[.int .i64 n, .bool false, .slice A m.length cap] #[.int .i64 av, .int .i64 an] #[.int .i64 bv, .int .i64 bn] #[.int .i64 0, .bool false, .slice none 0 0] 24 26 26 24
  replace own := own.below hbn
  replace fr := fr.below hbn
  obtain ⟨p0_0, p0_1, p0_2, p0_f⟩ := octbox p0
  obtain ⟨p1_0, p1_1, p1_f⟩ := opbox p1
  obtain ⟨p2_0, p2_1, p2_f⟩ := opbox p2
  go_enter Tryz.func63, Tryz.ntmps63
  clear own0
  go_wp2
  clear p0_0 p0_1 p0_2 p0_f p1_0 p1_1 p1_f p2_0 p2_1 p2_f
  generalize (((w.alloc (Obj.cells #[.int .i64 n, .bool false, .slice A m.length cap] 24)).alloc (Obj.cells #[.int .i64 av, .int .i64 an] 26)).alloc (Obj.cells #[.int .i64 bv, .int .i64 bn] 26)).alloc (Obj.cells #[.int .i64 0, .bool false, .slice none 0 0] 24) = w1 at *
  have hbs := Nat.le_trans hbase fr.size
  have ok1 := OkO.atMost HOK.out (av := av) (an := an) (bv := bv) (bn := bn) (s := false) (by have := HAB.out; omega) (by have := HAB.out; omega) (by omega)
  have hq1e : (atMostO ⟨n, false, m⟩ av an bv bn false).e = false := atMostO_e rfl
  have hdr : Below w1.heap.size w1 w1.drew := (Below.refl _ _).drew
  have hbsd : base ≤ w1.drew.heap.size := hbs
  have HAM := hid (ratMost_ok n ⟨n, false, m⟩ HOK.out av an bv bn false (by have := HAB.out; omega) (by have := HAB.out; omega) (by omega) ia ib A cap base w1.drew (own.below hdr) hbsd)
  dsimp only at HAM
  generalize atMostO ⟨n, false, m⟩ av an bv bn false = q1 at *
  obtain ⟨qn, qe, qm⟩ := q1
  dsimp only at hq1e
  subst hq1e
  have d0 := p0.later hdr
  have d1 := p1.later hdr
  have d2 := p2.later hdr
  have d3 := p3.later hdr
  have frd := fr.below hdr
  replace own := own.below hdr
  obtain ⟨S, hS⟩ : ∃ S : Bool → World → Prop, S = fun b W => (Blk W (w.heap.size) 24 #[.int .i64 n, .bool false, .slice A m.length cap] ∧ Blk W (w.heap.size + 1) 26 #[.int .i64 av, .int .i64 an] ∧ Blk W (w.heap.size + 1 + 1) 26 #[.int .i64 bv, .int .i64 bn] ∧ Blk W (w.heap.size + 1 + 1 + 1) 24 #[.int .i64 0, .bool false, .slice none 0 0]) ∧ Fr w W A A ∧ (if b then Own W base A cap qm else W = w1.drew) := ⟨_, rfl⟩
  have hS0 : S false w1.drew := by rw [hS]; exact ⟨⟨d0, d1, d2, d3⟩, frd, rfl⟩
  have f0 : ∀ W, AnyB S W → W.cell? ⟨w.heap.size, 0, none⟩ = some (.int .i64 n) := by rintro W ⟨b, h⟩; rw [hS] at h; exact h.1.1.cell 0
  have f1 : ∀ W, AnyB S W → W.cell? ⟨w.heap.size, 1, none⟩ = some (.bool false) := by rintro W ⟨b, h⟩; rw [hS] at h; exact h.1.1.cell 1
  have f2 : ∀ W, AnyB S W → W.cell? ⟨w.heap.size, 2, none⟩ = some (.slice A m.length cap) := by rintro W ⟨b, h⟩; rw [hS] at h; exact h.1.1.cell 2
  have j0 : ∀ W, AnyB S W → W.cell? ⟨w.heap.size + 1, 0, none⟩ = some (.int .i64 av) := by rintro W ⟨b, h⟩; rw [hS] at h; exact h.1.2.1.cell 0
  have j1 : ∀ W, AnyB S W → W.cell? ⟨w.heap.size + 1, 1, none⟩ = some (.int .i64 an) := by rintro W ⟨b, h⟩; rw [hS] at h; exact h.1.2.1.cell 1
  have l0 : ∀ W, AnyB S W → W.cell? ⟨w.heap.size + 1 + 1, 0, none⟩ = some (.int .i64 bv) := by rintro W ⟨b, h⟩; rw [hS] at h; exact h.1.2.2.1.cell 0
  have l1 : ∀ W, AnyB S W → W.cell? ⟨w.heap.size + 1 + 1, 1, none⟩ = some (.int .i64 bn) := by rintro W ⟨b, h⟩; rw [hS] at h; exact h.1.2.2.1.cell 1
  have HS := hid hS
  clear hS
  refine wp_region_flowM 6 3 S (by kernel_rfl) (by kernel_rfl) (by decide) hS0 ?_
  (repeat (first | (refine FlowM.skip (by rfl) (by rfl) ?_; simp only [Act.put, List.setIfInBounds_toArray, List.set_cons_zero, List.set_cons_succ]) | (refine' FlowM.take _ (by rfl) (by rfl) (fun W hW R hR => ?_) ?_; rotate_left; (go_simp; (try go_bits); with_reducible exact hR); simp only [Act.put, List.setIfInBounds_toArray, List.set_cons_zero, List.set_cons_succ])))
  refine FlowM.callM 126 #[.agg #[.int .i64 n, .bool false, .slice A m.length cap], .bool false, .agg #[.int .i64 av, .int .i64 an], .agg #[.int .i64 bv, .int .i64 bn]] (.agg #[.int .i64 qn, .bool false, .slice A qm.length cap]) (by rfl) (by rfl) (fun W hW => by have hW' : AnyB S W := ⟨false, hW⟩; clear hW; go_simp) (fun W hW => ?_) ?_
  · rw [HS.out] at hW
    obtain ⟨⟨b0, b1, b2, b3⟩, frW, hWe⟩ := hW
    simp only [Bool.false_eq_true, if_false] at hWe
    subst hWe
    refine HAM.out.mono ?_
    rintro e W2 ⟨A1, c1, rfl, ownN, ha, hg, hp⟩
    obtain ⟨rfl, rfl⟩ := hp rfl
    refine ⟨rfl, ?_⟩
    rw [HS.out]
    exact ⟨⟨d0.kept hg (row_ne own d0 (by decide)), d1.kept hg (row_ne own d1 (by decide)), d2.kept hg (row_ne own d2 (by decide)), d3.kept hg (row_ne own d3 (by decide))⟩, frd.call ha hg, ownN⟩
  simp only [Act.put, List.setIfInBounds_toArray, List.set_cons_zero, List.set_cons_succ]
  (repeat (first | (refine FlowM.skip (by rfl) (by rfl) ?_; simp only [Act.put, List.setIfInBounds_toArray, List.set_cons_zero, List.set_cons_succ]) | (refine' FlowM.take _ (by rfl) (by rfl) (fun W hW R hR => ?_) ?_; rotate_left; (go_simp; (try go_bits); with_reducible exact hR); simp only [Act.put, List.setIfInBounds_toArray, List.set_cons_zero, List.set_cons_succ])))
  intro W hW
  clear f0 f1 f2 j0 j1 l0 l1 d0 d1 d2 d3 frd hS0 hdr own p0 p1 p2 p3 fr HAM hbs hbsd
  rw [HS.out] at hW
  obtain ⟨⟨p0, p1, p2, p3⟩, fr, own⟩ := hW
  replace own : Own W base A cap qm := own
  clear HS
  have hbs := Nat.le_trans hbase fr.size
  have ok2 := OkO.atMost ok1 (av := bv) (an := bn) (bv := av) (bn := an) (s := false) (by have := HAB.out; omega) (by have := HAB.out; omega) (by omega)
  go_wp2_with fail
  have HX := hid (ratMost_ok n ⟨qn, false, qm⟩ ok1 bv bn av an false (by have := HAB.out; omega) (by have := HAB.out; omega) (by omega) ib ia A cap base W own hbs)
  (try dsimp only at HX)
  (with_reducible refine HX.out.mono ?_)
  clear HX
  rintro e_w2 w2 ⟨A2, c2, rfl, own_w2, ha_w2, hg_w2, hp_A2⟩
  replace p0 := p0.kept hg_w2 (row_ne own p0 (by decide))
  replace p1 := p1.kept hg_w2 (row_ne own p1 (by decide))
  replace p2 := p2.kept hg_w2 (row_ne own p2 (by decide))
  replace p3 := p3.kept hg_w2 (row_ne own p3 (by decide))
  replace fr := fr.call ha_w2 hg_w2
  clear own ha_w2 hg_w2
  have own := own_w2
  clear own_w2
  clear hp_A2
  generalize atMostO ⟨qn, false, qm⟩ bv bn av an false = q2 at *
  obtain ⟨p0_0, p0_1, p0_2, p0_f⟩ := octbox p0
  go_wp2_with fail
  clear p0_0 p0_1 p0_2 p0_f
  replace own := own.far3 (g := w.heap.size) (v0 := .int .i64 q2.n) (v1 := .bool q2.e) (v2 := .slice A2 q2.m.length c2) (own_blk' own p0 (by decide))
  replace p1 := p1.far3 (g := w.heap.size) (v0 := .int .i64 q2.n) (v1 := .bool q2.e) (v2 := .slice A2 q2.m.length c2) (by omega)
  replace p2 := p2.far3 (g := w.heap.size) (v0 := .int .i64 q2.n) (v1 := .bool q2.e) (v2 := .slice A2 q2.m.length c2) (by omega)
  replace p3 := p3.far3 (g := w.heap.size) (v0 := .int .i64 q2.n) (v1 := .bool q2.e) (v2 := .slice A2 q2.m.length c2) (by omega)
  replace p0 := p0.set3 (v0 := .int .i64 q2.n) (v1 := .bool q2.e) (v2 := .slice A2 q2.m.length c2)
  replace fr := fr.set3 (g := w.heap.size) (v0 := .int .i64 q2.n) (v1 := .bool q2.e) (v2 := .slice A2 q2.m.length c2) (by omega)
  generalize ((w2.setCell ⟨w.heap.size, 0, none⟩ (.int .i64 q2.n)).setCell ⟨w.heap.size, 1, none⟩ (.bool q2.e)).setCell ⟨w.heap.size, 2, none⟩ (.slice A2 q2.m.length c2) = w3 at *
  have hmq := OkO.small ok2
  have hW0 := Nat.le_trans hbase fr.size
  (with_reducible refine (rclosed_ok q2 ok2.ok A2 c2 w3 own.rd hmq).mono ?_)
  rintro e_w4 w4 ⟨A3, c3, rfl, ownN, hb_w4⟩
  replace p0 := p0.later hb_w4
  replace p1 := p1.later hb_w4
  replace p2 := p2.later hb_w4
  replace p3 := p3.later hb_w4
  replace fr := fr.made hb_w4 ownN
  clear own
  have own := ownN.less hW0
  clear ownN hW0 hb_w4
  generalize closeO q2 = q3 at *
  obtain ⟨p3_0, p3_1, p3_2, p3_f⟩ := octbox p3
  go_wp2
  clear p3_0 p3_1 p3_2 p3_f
  have q9 := p3.set3 (v0 := .int .i64 q3.n) (v1 := .bool q3.e) (v2 := .slice A3 q3.m.length c3)
  have fr9 := fr.set3 (g := w.heap.size + 1 + 1 + 1) (v0 := .int .i64 q3.n) (v1 := .bool q3.e) (v2 := .slice A3 q3.m.length c3) (by omega)
  have own9 := own.far3 (g := w.heap.size + 1 + 1 + 1) (v0 := .int .i64 q3.n) (v1 := .bool q3.e) (v2 := .slice A3 q3.m.length c3) (own_blk' own p3 (by decide))
  obtain ⟨z0, z1, z2, fz⟩ := octbox q9
  refine bodyPost_ret (v := .agg #[.int .i64 q3.n, .bool q3.e, .slice A3 q3.m.length c3]) (by simp [results, Tryz.results63, go_sem, z0, z1, z2]) rfl ?_
  exact ⟨_, _, rfl, own9, fr9.1, fr9.2⟩

set_option maxRecDepth 8000 in
set_option maxHeartbeats 4000000 in
theorem rassume_nt (n : Int) (m : List Int) (N : Nat) (hN : (N : Int) = 2 * n) (hn : N ≤ 128) (hc : Cells N m) (op av an bv bn : Int) (ha : av < n) (hb : bv < n) (h0 : av < 0) (h1 : bv < 0) (hq : cmpB op an bn = true) (ia : I64 an) (ib : I64 bn) (A : Option Addr) (cap base : Nat) (w : World) (own : Own w base A cap m) (hbase : base ≤ w.heap.size) (hm : m.length ≤ 17592186044416) :
    Calls Tryz.prog 63 #[.agg #[.int .i64 n, .bool false, .slice A m.length cap], .int .i64 op, .agg #[.int .i64 av, .int .i64 an], .agg #[.int .i64 bv, .int .i64 bn]] w (RGen w base A (⟨n, false, m⟩)) := by
  have HOK := hid (OkO.of_cells hN hn hc)
  have HN := hid (And.intro hN hn)
  have HAB := hid (And.intro ha hb)
  have t1 : decide (av < 0) = true := by rw [decide_eq_true_eq]; omega
  have t2 : decide (bv < 0) = true := by rw [decide_eq_true_eq]; omega
  clear hN hn ha hb
  have fr := Fr.refl w A
  have own0 := own
  obtain ⟨p0, p1, p2, p3, hbn, -⟩ := new_four w #[.int .i64 n, .bool false, .slice A m.length cap] #[.int .i64 av, .int .i64 an] #[.int .i64 bv, .int .i64 bn] #[.int .i64 0, .bool false, .slice none 0 0] 24 26 26 24
  replace own := own.below hbn
  replace fr := fr.below hbn
  obtain ⟨p0_0, p0_1, p0_2, p0_f⟩ := octbox p0
  obtain ⟨p1_0, p1_1, p1_f⟩ := opbox p1
  obtain ⟨p2_0, p2_1, p2_f⟩ := opbox p2
  go_enter Tryz.func63, Tryz.ntmps63
  have HC := hid (fun W => rcmp_any op an bn W)
  rw [hq] at HC
  clear hq own0
  go_wp2_with fail
  clear p0_0 p0_1 p0_2 p0_f p1_0 p1_1 p1_f p2_0 p2_1 p2_f
  generalize (((w.alloc (Obj.cells #[.int .i64 n, .bool false, .slice A m.length cap] 24)).alloc (Obj.cells #[.int .i64 av, .int .i64 an] 26)).alloc (Obj.cells #[.int .i64 bv, .int .i64 bn] 26)).alloc (Obj.cells #[.int .i64 0, .bool false, .slice none 0 0] 24) = w1 at *
  (with_reducible refine (HC.out w1).mono ?_)
  rintro e_w2 w2 ⟨rfl, rfl⟩
  obtain ⟨p0_0, p0_1, p0_2, p0_f⟩ := octbox p0
  obtain ⟨p3_0, p3_1, p3_2, p3_f⟩ := octbox p3
  go_wp2
  clear p0_0 p0_1 p0_2 p0_f p3_0 p3_1 p3_2 p3_f
  have q9 := p3.set3 (v0 := .int .i64 n) (v1 := .bool false) (v2 := .slice A m.length cap)
  have fr9 := fr.set3 (g := w.heap.size + 1 + 1 + 1) (v0 := .int .i64 n) (v1 := .bool false) (v2 := .slice A m.length cap) (by omega)
  have own9 := own.far3 (g := w.heap.size + 1 + 1 + 1) (v0 := .int .i64 n) (v1 := .bool false) (v2 := .slice A m.length cap) (own_blk' own p3 (by decide))
  obtain ⟨z0, z1, z2, fz⟩ := octbox q9
  refine bodyPost_ret (v := .agg #[.int .i64 n, .bool false, .slice A m.length cap]) (by simp [results, Tryz.results63, go_sem, z0, z1, z2]) rfl ?_
  exact ⟨_, _, rfl, own9, fr9.1, fr9.2⟩

set_option maxRecDepth 8000 in
set_option maxHeartbeats 4000000 in
theorem rassume_nf (n : Int) (m : List Int) (N : Nat) (hN : (N : Int) = 2 * n) (hn : N ≤ 128) (hc : Cells N m) (op av an bv bn : Int) (ha : av < n) (hb : bv < n) (h0 : av < 0) (h1 : bv < 0) (hq : cmpB op an bn = false) (ia : I64 an) (ib : I64 bn) (A : Option Addr) (cap base : Nat) (w : World) (own : Own w base A cap m) (hbase : base ≤ w.heap.size) (hm : m.length ≤ 17592186044416) :
    Calls Tryz.prog 63 #[.agg #[.int .i64 n, .bool false, .slice A m.length cap], .int .i64 op, .agg #[.int .i64 av, .int .i64 an], .agg #[.int .i64 bv, .int .i64 bn]] w (RGen w base A (emptyO n)) := by
  have HOK := hid (OkO.of_cells hN hn hc)
  have HN := hid (And.intro hN hn)
  have HAB := hid (And.intro ha hb)
  have t1 : decide (av < 0) = true := by rw [decide_eq_true_eq]; omega
  have t2 : decide (bv < 0) = true := by rw [decide_eq_true_eq]; omega
  clear hN hn ha hb
  have fr := Fr.refl w A
  have own0 := own
  obtain ⟨p0, p1, p2, p3, hbn, -⟩ := new_four w #[.int .i64 n, .bool false, .slice A m.length cap] #[.int .i64 av, .int .i64 an] #[.int .i64 bv, .int .i64 bn] #[.int .i64 0, .bool false, .slice none 0 0] 24 26 26 24
  replace own := own.below hbn
  replace fr := fr.below hbn
  obtain ⟨p0_0, p0_1, p0_2, p0_f⟩ := octbox p0
  obtain ⟨p1_0, p1_1, p1_f⟩ := opbox p1
  obtain ⟨p2_0, p2_1, p2_f⟩ := opbox p2
  go_enter Tryz.func63, Tryz.ntmps63
  have HC := hid (fun W => rcmp_any op an bn W)
  rw [hq] at HC
  clear hq own0
  go_wp2_with fail
  clear p0_0 p0_1 p0_2 p0_f p1_0 p1_1 p1_f p2_0 p2_1 p2_f
  generalize (((w.alloc (Obj.cells #[.int .i64 n, .bool false, .slice A m.length cap] 24)).alloc (Obj.cells #[.int .i64 av, .int .i64 an] 26)).alloc (Obj.cells #[.int .i64 bv, .int .i64 bn] 26)).alloc (Obj.cells #[.int .i64 0, .bool false, .slice none 0 0] 24) = w1 at *
  (with_reducible refine (HC.out w1).mono ?_)
  rintro e_w2 w2 ⟨rfl, rfl⟩
  obtain ⟨p0_0, p0_1, p0_2, p0_f⟩ := octbox p0
  go_wp2_with fail
  clear p0_0 p0_1 p0_2 p0_f
  (with_reducible refine (rempty_any n w1).mono ?_)
  rintro e_w3 w3 ⟨rfl, hb_w3⟩
  replace p0 := p0.later hb_w3
  replace p1 := p1.later hb_w3
  replace p2 := p2.later hb_w3
  replace p3 := p3.later hb_w3
  replace own := own.below hb_w3
  replace fr := fr.below hb_w3
  obtain ⟨p3_0, p3_1, p3_2, p3_f⟩ := octbox p3
  go_wp2
  clear p3_0 p3_1 p3_2 p3_f
  unfold emptyO
  have own1 : Own w3 base none 0 [] := own_nil _ _
  replace fr : Fr w w3 A none := ⟨.inr row_none, fr.2⟩
  have q9 := p3.set3 (v0 := .int .i64 n) (v1 := .bool true) (v2 := .slice none 0 0)
  have fr9 := fr.set3 (g := w.heap.size + 1 + 1 + 1) (v0 := .int .i64 n) (v1 := .bool true) (v2 := .slice none 0 0) (by omega)
  have own9 := own1.far3 (g := w.heap.size + 1 + 1 + 1) (v0 := .int .i64 n) (v1 := .bool true) (v2 := .slice none 0 0) (own_blk' own1 p3 (by decide))
  obtain ⟨z0, z1, z2, fz⟩ := octbox q9
  refine bodyPost_ret (v := .agg #[.int .i64 n, .bool true, .slice none 0 0]) (by simp [results, Tryz.results63, go_sem, z0, z1, z2]) rfl ?_
  exact ⟨_, _, rfl, own9, fr9.1, fr9.2⟩

theorem rassume_ok (n : Int) (m : List Int) (N : Nat) (hN : (N : Int) = 2 * n) (hn : N ≤ 128) (hc : Cells N m) (op av an bv bn : Int) (hop : 1 ≤ op ∧ op ≤ 6) (ha : av < n) (hb : bv < n) (ia : I64 an) (ib : I64 bn) (A : Option Addr) (cap base : Nat) (w : World) (own : Own w base A cap m) (hbase : base ≤ w.heap.size) (hm : m.length ≤ 17592186044416) :
    Calls Tryz.prog 63 #[.agg #[.int .i64 n, .bool false, .slice A m.length cap], .int .i64 op, .agg #[.int .i64 av, .int .i64 an], .agg #[.int .i64 bv, .int .i64 bn]] w (RGen w base A (assumesO ⟨n, false, m⟩ op av an bv bn)) := by
  unfold assumesO
  by_cases h : av < 0 ∧ bv < 0
  · rw [if_pos h]
    cases hq : cmpB op an bn
    · rw [if_neg (by simp)]
      exact rassume_nf n m N hN hn hc op av an bv bn ha hb h.1 h.2 hq ia ib A cap base w own hbase hm
    · rw [if_pos rfl]
      exact rassume_nt n m N hN hn hc op av an bv bn ha hb h.1 h.2 hq ia ib A cap base w own hbase hm
  · rw [if_neg h]
    by_cases h0 : 0 ≤ av
    · obtain rfl | rfl | rfl | rfl | rfl | rfl : op = 1 ∨ op = 2 ∨ op = 3 ∨ op = 4 ∨ op = 5 ∨ op = 6 := by omega
      · exact rassume_1a n m N hN hn hc av an bv bn ha hb h0 ia ib A cap base w own hbase hm
      · exact rassume_2a n m N hN hn hc av an bv bn ha hb h0 ia ib A cap base w own hbase hm
      · exact rassume_3a n m N hN hn hc av an bv bn ha hb h0 ia ib A cap base w own hbase hm
      · exact rassume_4a n m N hN hn hc av an bv bn ha hb h0 ia ib A cap base w own hbase hm
      · exact rassume_5a n m N hN hn hc av an bv bn ha hb h0 ia ib A cap base w own hbase hm
      · exact rassume_6a n m N hN hn hc av an bv bn ha hb h0 ia ib A cap base w own hbase hm
    · obtain rfl | rfl | rfl | rfl | rfl | rfl : op = 1 ∨ op = 2 ∨ op = 3 ∨ op = 4 ∨ op = 5 ∨ op = 6 := by omega
      · exact rassume_1b n m N hN hn hc av an bv bn ha hb (by omega) (by omega) ia ib A cap base w own hbase hm
      · exact rassume_2b n m N hN hn hc av an bv bn ha hb (by omega) (by omega) ia ib A cap base w own hbase hm
      · exact rassume_3b n m N hN hn hc av an bv bn ha hb (by omega) (by omega) ia ib A cap base w own hbase hm
      · exact rassume_4b n m N hN hn hc av an bv bn ha hb (by omega) (by omega) ia ib A cap base w own hbase hm
      · exact rassume_5b n m N hN hn hc av an bv bn ha hb (by omega) (by omega) ia ib A cap base w own hbase hm
      · exact rassume_6b n m N hN hn hc av an bv bn ha hb (by omega) (by omega) ia ib A cap base w own hbase hm
end Go.Proofs.YtnmpgijiimglcaaGreat
