/-
  trans.assumes: what it answers of a closed octagon.
-/
import Derived.Test.YtnmpgijiimglcaaGreatUnlikeV
import Derived.Test.YtnmpgijiimglcaaGreatBUA12
import Derived.Test.YtnmpgijiimglcaaGreatBUA19
namespace Go.Proofs.YtnmpgijiimglcaaGreat
open Go.RowKit
attribute [local go_sem ↓] Go.wp_at_zero Go.wp_at_succ

/-- An octagon over the slice that came in, or of its own memory. -/
def IsAl (A : Option Addr) (m : List Int) (o : O) (v : Value) (wa wb : World) : Prop := ∃ A1 c1, v = .agg #[.int .i64 o.n, .bool o.e, .slice A1 o.m.length c1] ∧ ((A1 = A ∧ o.m = m) ∨ Own wb wa.heap.size A1 c1 o.m)
theorem fact_al {w0 W : World} {A : Option Addr} {m : List Int} {o : O} {v : Value} {lo hi B : Nat} (h : Sp.fact w0 (Sp.any (IsAl A m o)) v lo hi W) (hx : Sx W B A m) (hB : B ≤ w0.heap.size) :
    ∃ A1 c1, v = .agg #[.int .i64 o.n, .bool o.e, .slice A1 o.m.length c1] ∧ Sx W B A1 o.m := by
  obtain ⟨wa, wb, h1, _, h3, _, _, A1, c1, h6, h7⟩ := h
  refine ⟨A1, c1, h6, ?_⟩
  rcases h7 with ⟨rfl, hm⟩ | h7
  · rw [hm]; exact hx
  · exact .inr ⟨c1, (h7.below h3).less (Nat.le_trans hB h1.size)⟩

set_option maxRecDepth 8000 in
set_option maxHeartbeats 4000000 in
theorem assumes_1a (n : Int) (m : List Int) (N : Nat) (hN : (N : Int) = 2 * n) (hn : N ≤ 128) (hc : Cells N m) (av an bv bn : Int) (ha : av < n) (hb : bv < n) (h0 : 0 ≤ av) (ia : I64 an) (ib : I64 bn) (A : Option Addr) (cap : Nat) (w : World) (B : Nat) (hB : B ≤ w.heap.size) (hx : Sx w B A m) (hm : m.length ≤ 17592186044416) :
    Calls Tryz.prog 59 #[.agg #[.int .i64 n, .bool false, .slice A m.length cap], .int .i64 1, .agg #[.int .i64 av, .int .i64 an], .agg #[.int .i64 bv, .int .i64 bn]] w (SxRes w B (closeO (atMostO ⟨n, false, m⟩ av an bv bn true))) := by
  have HOK := hid (OkO.of_cells hN hn hc)
  have HN := hid hN
  have HAB := hid (And.intro ha hb)
  have t1 : decide (av < 0) = false := by rw [decide_eq_false_iff_not]; omega
  clear hN ha hb
  obtain ⟨p0, p1, p2, p3, hb0, hsz⟩ := new_four w #[.int .i64 n, .bool false, .slice A m.length cap] #[.int .i64 av, .int .i64 an] #[.int .i64 bv, .int .i64 bn] #[.int .i64 0, .bool false, .slice none 0 0] 24 26 26 24
  replace hx := hx.later hb0 hB
  have HSZ := hid hsz
  clear hsz
  obtain ⟨p0_0, p0_1, p0_2, p0_f⟩ := octbox p0
  obtain ⟨p1_0, p1_1, p1_f⟩ := opbox p1
  obtain ⟨p2_0, p2_1, p2_f⟩ := opbox p2
  go_enter Tryz.func59, Tryz.ntmps59
  go_wp2_with fail
  clear p0_0 p0_1 p0_2 p0_f p1_0 p1_1 p1_f p2_0 p2_1 p2_f
  generalize (((w.alloc (Obj.cells #[.int .i64 n, .bool false, .slice A m.length cap] 24)).alloc (Obj.cells #[.int .i64 av, .int .i64 an] 26)).alloc (Obj.cells #[.int .i64 bv, .int .i64 bn] 26)).alloc (Obj.cells #[.int .i64 0, .bool false, .slice none 0 0] 24) = w1 at *
  have hB1 := Nat.le_trans hB hb0.size
  have HX := hid (atMost_ok n ⟨n, false, m⟩ HOK.out av an bv bn true (by have := HAB.out; omega) (by have := HAB.out; omega) (by omega) ia ib A cap w1 (hx.rd hB1) hm)
  (try dsimp only at HX)
  (with_reducible refine HX.out.mono ?_)
  clear HX
  rintro e_w2 w2 ⟨A1, c1, rfl, al1, hb_w2⟩
  have sx1 := Sx.alias al1 hx hb_w2 hB1
  replace p0 := p0.later hb_w2
  replace p1 := p1.later hb_w2
  replace p2 := p2.later hb_w2
  replace p3 := p3.later hb_w2
  replace hx := hx.later hb_w2 (Nat.le_trans hB hb0.size)
  replace hb0 := bup hb0 hb_w2
  have ok1 := OkO.atMost HOK.out (av := av) (an := an) (bv := bv) (bn := bn) (s := true) (by have := HAB.out; omega) (by have := HAB.out; omega) (by omega)
  have hm1 := OkO.small ok1
  generalize atMostO ⟨n, false, m⟩ av an bv bn true = q1 at *
  go_wp2_with fail
  have hB3 := Nat.le_trans hB hb0.size
  have HX := hid (tclosed_ok q1 ok1.ok A1 c1 w2 (sx1.rd hB3) hm1)
  (try dsimp only at HX)
  (with_reducible refine HX.out.mono ?_)
  clear HX
  rintro e_w3 w3 ⟨A3, c3, rfl, own3, hb_w3⟩
  have sx3 := Sx.of_own own3 hB3
  replace p0 := p0.later hb_w3
  replace p1 := p1.later hb_w3
  replace p2 := p2.later hb_w3
  replace p3 := p3.later hb_w3
  replace hx := hx.later hb_w3 (Nat.le_trans hB hb0.size)
  replace sx1 := sx1.later hb_w3 (Nat.le_trans hB hb0.size)
  replace hb0 := bup hb0 hb_w3
  generalize closeO q1 = q3 at *
  obtain ⟨p3_0, p3_1, p3_2, p3_f⟩ := octbox p3
  go_wp2
  clear p3_0 p3_1 p3_2 p3_f
  have hBz := hb0.size
  have s9 := sx3.far3 (g := w.heap.size + 1 + 1 + 1) (v0 := .int .i64 q3.n) (v1 := .bool q3.e) (v2 := .slice A3 q3.m.length c3) (by omega) p3 (by decide)
  have q9 := p3.set3 (v0 := .int .i64 q3.n) (v1 := .bool q3.e) (v2 := .slice A3 q3.m.length c3)
  have hb9 := hb0.trans (below3 (W := w3) (g := w.heap.size + 1 + 1 + 1) (v0 := .int .i64 q3.n) (v1 := .bool q3.e) (v2 := .slice A3 q3.m.length c3) (by omega) hb0.size)
  obtain ⟨z0, z1, z2, fz⟩ := octbox q9
  refine bodyPost_ret (v := .agg #[.int .i64 q3.n, .bool q3.e, .slice A3 q3.m.length c3]) (by simp [results, Tryz.results59, go_sem, z0, z1, z2]) rfl ?_
  exact ⟨_, _, rfl, s9, hb9⟩

set_option maxRecDepth 8000 in
set_option maxHeartbeats 4000000 in
theorem assumes_1b (n : Int) (m : List Int) (N : Nat) (hN : (N : Int) = 2 * n) (hn : N ≤ 128) (hc : Cells N m) (av an bv bn : Int) (ha : av < n) (hb : bv < n) (h0 : av < 0) (h1 : 0 ≤ bv) (ia : I64 an) (ib : I64 bn) (A : Option Addr) (cap : Nat) (w : World) (B : Nat) (hB : B ≤ w.heap.size) (hx : Sx w B A m) (hm : m.length ≤ 17592186044416) :
    Calls Tryz.prog 59 #[.agg #[.int .i64 n, .bool false, .slice A m.length cap], .int .i64 1, .agg #[.int .i64 av, .int .i64 an], .agg #[.int .i64 bv, .int .i64 bn]] w (SxRes w B (closeO (atMostO ⟨n, false, m⟩ av an bv bn true))) := by
  have HOK := hid (OkO.of_cells hN hn hc)
  have HN := hid hN
  have HAB := hid (And.intro ha hb)
  have t1 : decide (av < 0) = true := by rw [decide_eq_true_eq]; omega
  have t2 : decide (bv < 0) = false := by rw [decide_eq_false_iff_not]; omega
  clear hN ha hb
  obtain ⟨p0, p1, p2, p3, hb0, hsz⟩ := new_four w #[.int .i64 n, .bool false, .slice A m.length cap] #[.int .i64 av, .int .i64 an] #[.int .i64 bv, .int .i64 bn] #[.int .i64 0, .bool false, .slice none 0 0] 24 26 26 24
  replace hx := hx.later hb0 hB
  have HSZ := hid hsz
  clear hsz
  obtain ⟨p0_0, p0_1, p0_2, p0_f⟩ := octbox p0
  obtain ⟨p1_0, p1_1, p1_f⟩ := opbox p1
  obtain ⟨p2_0, p2_1, p2_f⟩ := opbox p2
  go_enter Tryz.func59, Tryz.ntmps59
  go_wp2_with fail
  clear p0_0 p0_1 p0_2 p0_f p1_0 p1_1 p1_f p2_0 p2_1 p2_f
  generalize (((w.alloc (Obj.cells #[.int .i64 n, .bool false, .slice A m.length cap] 24)).alloc (Obj.cells #[.int .i64 av, .int .i64 an] 26)).alloc (Obj.cells #[.int .i64 bv, .int .i64 bn] 26)).alloc (Obj.cells #[.int .i64 0, .bool false, .slice none 0 0] 24) = w1 at *
  have hB1 := Nat.le_trans hB hb0.size
  have HX := hid (atMost_ok n ⟨n, false, m⟩ HOK.out av an bv bn true (by have := HAB.out; omega) (by have := HAB.out; omega) (by omega) ia ib A cap w1 (hx.rd hB1) hm)
  (try dsimp only at HX)
  (with_reducible refine HX.out.mono ?_)
  clear HX
  rintro e_w2 w2 ⟨A1, c1, rfl, al1, hb_w2⟩
  have sx1 := Sx.alias al1 hx hb_w2 hB1
  replace p0 := p0.later hb_w2
  replace p1 := p1.later hb_w2
  replace p2 := p2.later hb_w2
  replace p3 := p3.later hb_w2
  replace hx := hx.later hb_w2 (Nat.le_trans hB hb0.size)
  replace hb0 := bup hb0 hb_w2
  have ok1 := OkO.atMost HOK.out (av := av) (an := an) (bv := bv) (bn := bn) (s := true) (by have := HAB.out; omega) (by have := HAB.out; omega) (by omega)
  have hm1 := OkO.small ok1
  generalize atMostO ⟨n, false, m⟩ av an bv bn true = q1 at *
  go_wp2_with fail
  have hB3 := Nat.le_trans hB hb0.size
  have HX := hid (tclosed_ok q1 ok1.ok A1 c1 w2 (sx1.rd hB3) hm1)
  (try dsimp only at HX)
  (with_reducible refine HX.out.mono ?_)
  clear HX
  rintro e_w3 w3 ⟨A3, c3, rfl, own3, hb_w3⟩
  have sx3 := Sx.of_own own3 hB3
  replace p0 := p0.later hb_w3
  replace p1 := p1.later hb_w3
  replace p2 := p2.later hb_w3
  replace p3 := p3.later hb_w3
  replace hx := hx.later hb_w3 (Nat.le_trans hB hb0.size)
  replace sx1 := sx1.later hb_w3 (Nat.le_trans hB hb0.size)
  replace hb0 := bup hb0 hb_w3
  generalize closeO q1 = q3 at *
  obtain ⟨p3_0, p3_1, p3_2, p3_f⟩ := octbox p3
  go_wp2
  clear p3_0 p3_1 p3_2 p3_f
  have hBz := hb0.size
  have s9 := sx3.far3 (g := w.heap.size + 1 + 1 + 1) (v0 := .int .i64 q3.n) (v1 := .bool q3.e) (v2 := .slice A3 q3.m.length c3) (by omega) p3 (by decide)
  have q9 := p3.set3 (v0 := .int .i64 q3.n) (v1 := .bool q3.e) (v2 := .slice A3 q3.m.length c3)
  have hb9 := hb0.trans (below3 (W := w3) (g := w.heap.size + 1 + 1 + 1) (v0 := .int .i64 q3.n) (v1 := .bool q3.e) (v2 := .slice A3 q3.m.length c3) (by omega) hb0.size)
  obtain ⟨z0, z1, z2, fz⟩ := octbox q9
  refine bodyPost_ret (v := .agg #[.int .i64 q3.n, .bool q3.e, .slice A3 q3.m.length c3]) (by simp [results, Tryz.results59, go_sem, z0, z1, z2]) rfl ?_
  exact ⟨_, _, rfl, s9, hb9⟩

set_option maxRecDepth 8000 in
set_option maxHeartbeats 4000000 in
theorem assumes_2a (n : Int) (m : List Int) (N : Nat) (hN : (N : Int) = 2 * n) (hn : N ≤ 128) (hc : Cells N m) (av an bv bn : Int) (ha : av < n) (hb : bv < n) (h0 : 0 ≤ av) (ia : I64 an) (ib : I64 bn) (A : Option Addr) (cap : Nat) (w : World) (B : Nat) (hB : B ≤ w.heap.size) (hx : Sx w B A m) (hm : m.length ≤ 17592186044416) :
    Calls Tryz.prog 59 #[.agg #[.int .i64 n, .bool false, .slice A m.length cap], .int .i64 2, .agg #[.int .i64 av, .int .i64 an], .agg #[.int .i64 bv, .int .i64 bn]] w (SxRes w B (closeO (atMostO ⟨n, false, m⟩ av an bv bn false))) := by
  have HOK := hid (OkO.of_cells hN hn hc)
  have HN := hid hN
  have HAB := hid (And.intro ha hb)
  have t1 : decide (av < 0) = false := by rw [decide_eq_false_iff_not]; omega
  clear hN ha hb
  obtain ⟨p0, p1, p2, p3, hb0, hsz⟩ := new_four w #[.int .i64 n, .bool false, .slice A m.length cap] #[.int .i64 av, .int .i64 an] #[.int .i64 bv, .int .i64 bn] #[.int .i64 0, .bool false, .slice none 0 0] 24 26 26 24
  replace hx := hx.later hb0 hB
  have HSZ := hid hsz
  clear hsz
  obtain ⟨p0_0, p0_1, p0_2, p0_f⟩ := octbox p0
  obtain ⟨p1_0, p1_1, p1_f⟩ := opbox p1
  obtain ⟨p2_0, p2_1, p2_f⟩ := opbox p2
  go_enter Tryz.func59, Tryz.ntmps59
  go_wp2_with fail
  clear p0_0 p0_1 p0_2 p0_f p1_0 p1_1 p1_f p2_0 p2_1 p2_f
  generalize (((w.alloc (Obj.cells #[.int .i64 n, .bool false, .slice A m.length cap] 24)).alloc (Obj.cells #[.int .i64 av, .int .i64 an] 26)).alloc (Obj.cells #[.int .i64 bv, .int .i64 bn] 26)).alloc (Obj.cells #[.int .i64 0, .bool false, .slice none 0 0] 24) = w1 at *
  have hB1 := Nat.le_trans hB hb0.size
  have HX := hid (atMost_ok n ⟨n, false, m⟩ HOK.out av an bv bn false (by have := HAB.out; omega) (by have := HAB.out; omega) (by omega) ia ib A cap w1 (hx.rd hB1) hm)
  (try dsimp only at HX)
  (with_reducible refine HX.out.mono ?_)
  clear HX
  rintro e_w2 w2 ⟨A1, c1, rfl, al1, hb_w2⟩
  have sx1 := Sx.alias al1 hx hb_w2 hB1
  replace p0 := p0.later hb_w2
  replace p1 := p1.later hb_w2
  replace p2 := p2.later hb_w2
  replace p3 := p3.later hb_w2
  replace hx := hx.later hb_w2 (Nat.le_trans hB hb0.size)
  replace hb0 := bup hb0 hb_w2
  have ok1 := OkO.atMost HOK.out (av := av) (an := an) (bv := bv) (bn := bn) (s := false) (by have := HAB.out; omega) (by have := HAB.out; omega) (by omega)
  have hm1 := OkO.small ok1
  generalize atMostO ⟨n, false, m⟩ av an bv bn false = q1 at *
  go_wp2_with fail
  have hB3 := Nat.le_trans hB hb0.size
  have HX := hid (tclosed_ok q1 ok1.ok A1 c1 w2 (sx1.rd hB3) hm1)
  (try dsimp only at HX)
  (with_reducible refine HX.out.mono ?_)
  clear HX
  rintro e_w3 w3 ⟨A3, c3, rfl, own3, hb_w3⟩
  have sx3 := Sx.of_own own3 hB3
  replace p0 := p0.later hb_w3
  replace p1 := p1.later hb_w3
  replace p2 := p2.later hb_w3
  replace p3 := p3.later hb_w3
  replace hx := hx.later hb_w3 (Nat.le_trans hB hb0.size)
  replace sx1 := sx1.later hb_w3 (Nat.le_trans hB hb0.size)
  replace hb0 := bup hb0 hb_w3
  generalize closeO q1 = q3 at *
  obtain ⟨p3_0, p3_1, p3_2, p3_f⟩ := octbox p3
  go_wp2
  clear p3_0 p3_1 p3_2 p3_f
  have hBz := hb0.size
  have s9 := sx3.far3 (g := w.heap.size + 1 + 1 + 1) (v0 := .int .i64 q3.n) (v1 := .bool q3.e) (v2 := .slice A3 q3.m.length c3) (by omega) p3 (by decide)
  have q9 := p3.set3 (v0 := .int .i64 q3.n) (v1 := .bool q3.e) (v2 := .slice A3 q3.m.length c3)
  have hb9 := hb0.trans (below3 (W := w3) (g := w.heap.size + 1 + 1 + 1) (v0 := .int .i64 q3.n) (v1 := .bool q3.e) (v2 := .slice A3 q3.m.length c3) (by omega) hb0.size)
  obtain ⟨z0, z1, z2, fz⟩ := octbox q9
  refine bodyPost_ret (v := .agg #[.int .i64 q3.n, .bool q3.e, .slice A3 q3.m.length c3]) (by simp [results, Tryz.results59, go_sem, z0, z1, z2]) rfl ?_
  exact ⟨_, _, rfl, s9, hb9⟩

set_option maxRecDepth 8000 in
set_option maxHeartbeats 4000000 in
theorem assumes_2b (n : Int) (m : List Int) (N : Nat) (hN : (N : Int) = 2 * n) (hn : N ≤ 128) (hc : Cells N m) (av an bv bn : Int) (ha : av < n) (hb : bv < n) (h0 : av < 0) (h1 : 0 ≤ bv) (ia : I64 an) (ib : I64 bn) (A : Option Addr) (cap : Nat) (w : World) (B : Nat) (hB : B ≤ w.heap.size) (hx : Sx w B A m) (hm : m.length ≤ 17592186044416) :
    Calls Tryz.prog 59 #[.agg #[.int .i64 n, .bool false, .slice A m.length cap], .int .i64 2, .agg #[.int .i64 av, .int .i64 an], .agg #[.int .i64 bv, .int .i64 bn]] w (SxRes w B (closeO (atMostO ⟨n, false, m⟩ av an bv bn false))) := by
  have HOK := hid (OkO.of_cells hN hn hc)
  have HN := hid hN
  have HAB := hid (And.intro ha hb)
  have t1 : decide (av < 0) = true := by rw [decide_eq_true_eq]; omega
  have t2 : decide (bv < 0) = false := by rw [decide_eq_false_iff_not]; omega
  clear hN ha hb
  obtain ⟨p0, p1, p2, p3, hb0, hsz⟩ := new_four w #[.int .i64 n, .bool false, .slice A m.length cap] #[.int .i64 av, .int .i64 an] #[.int .i64 bv, .int .i64 bn] #[.int .i64 0, .bool false, .slice none 0 0] 24 26 26 24
  replace hx := hx.later hb0 hB
  have HSZ := hid hsz
  clear hsz
  obtain ⟨p0_0, p0_1, p0_2, p0_f⟩ := octbox p0
  obtain ⟨p1_0, p1_1, p1_f⟩ := opbox p1
  obtain ⟨p2_0, p2_1, p2_f⟩ := opbox p2
  go_enter Tryz.func59, Tryz.ntmps59
  go_wp2_with fail
  clear p0_0 p0_1 p0_2 p0_f p1_0 p1_1 p1_f p2_0 p2_1 p2_f
  generalize (((w.alloc (Obj.cells #[.int .i64 n, .bool false, .slice A m.length cap] 24)).alloc (Obj.cells #[.int .i64 av, .int .i64 an] 26)).alloc (Obj.cells #[.int .i64 bv, .int .i64 bn] 26)).alloc (Obj.cells #[.int .i64 0, .bool false, .slice none 0 0] 24) = w1 at *
  have hB1 := Nat.le_trans hB hb0.size
  have HX := hid (atMost_ok n ⟨n, false, m⟩ HOK.out av an bv bn false (by have := HAB.out; omega) (by have := HAB.out; omega) (by omega) ia ib A cap w1 (hx.rd hB1) hm)
  (try dsimp only at HX)
  (with_reducible refine HX.out.mono ?_)
  clear HX
  rintro e_w2 w2 ⟨A1, c1, rfl, al1, hb_w2⟩
  have sx1 := Sx.alias al1 hx hb_w2 hB1
  replace p0 := p0.later hb_w2
  replace p1 := p1.later hb_w2
  replace p2 := p2.later hb_w2
  replace p3 := p3.later hb_w2
  replace hx := hx.later hb_w2 (Nat.le_trans hB hb0.size)
  replace hb0 := bup hb0 hb_w2
  have ok1 := OkO.atMost HOK.out (av := av) (an := an) (bv := bv) (bn := bn) (s := false) (by have := HAB.out; omega) (by have := HAB.out; omega) (by omega)
  have hm1 := OkO.small ok1
  generalize atMostO ⟨n, false, m⟩ av an bv bn false = q1 at *
  go_wp2_with fail
  have hB3 := Nat.le_trans hB hb0.size
  have HX := hid (tclosed_ok q1 ok1.ok A1 c1 w2 (sx1.rd hB3) hm1)
  (try dsimp only at HX)
  (with_reducible refine HX.out.mono ?_)
  clear HX
  rintro e_w3 w3 ⟨A3, c3, rfl, own3, hb_w3⟩
  have sx3 := Sx.of_own own3 hB3
  replace p0 := p0.later hb_w3
  replace p1 := p1.later hb_w3
  replace p2 := p2.later hb_w3
  replace p3 := p3.later hb_w3
  replace hx := hx.later hb_w3 (Nat.le_trans hB hb0.size)
  replace sx1 := sx1.later hb_w3 (Nat.le_trans hB hb0.size)
  replace hb0 := bup hb0 hb_w3
  generalize closeO q1 = q3 at *
  obtain ⟨p3_0, p3_1, p3_2, p3_f⟩ := octbox p3
  go_wp2
  clear p3_0 p3_1 p3_2 p3_f
  have hBz := hb0.size
  have s9 := sx3.far3 (g := w.heap.size + 1 + 1 + 1) (v0 := .int .i64 q3.n) (v1 := .bool q3.e) (v2 := .slice A3 q3.m.length c3) (by omega) p3 (by decide)
  have q9 := p3.set3 (v0 := .int .i64 q3.n) (v1 := .bool q3.e) (v2 := .slice A3 q3.m.length c3)
  have hb9 := hb0.trans (below3 (W := w3) (g := w.heap.size + 1 + 1 + 1) (v0 := .int .i64 q3.n) (v1 := .bool q3.e) (v2 := .slice A3 q3.m.length c3) (by omega) hb0.size)
  obtain ⟨z0, z1, z2, fz⟩ := octbox q9
  refine bodyPost_ret (v := .agg #[.int .i64 q3.n, .bool q3.e, .slice A3 q3.m.length c3]) (by simp [results, Tryz.results59, go_sem, z0, z1, z2]) rfl ?_
  exact ⟨_, _, rfl, s9, hb9⟩

set_option maxRecDepth 8000 in
set_option maxHeartbeats 4000000 in
theorem assumes_5a (n : Int) (m : List Int) (N : Nat) (hN : (N : Int) = 2 * n) (hn : N ≤ 128) (hc : Cells N m) (av an bv bn : Int) (ha : av < n) (hb : bv < n) (h0 : 0 ≤ av) (ia : I64 an) (ib : I64 bn) (A : Option Addr) (cap : Nat) (w : World) (B : Nat) (hB : B ≤ w.heap.size) (hx : Sx w B A m) (hm : m.length ≤ 17592186044416) :
    Calls Tryz.prog 59 #[.agg #[.int .i64 n, .bool false, .slice A m.length cap], .int .i64 5, .agg #[.int .i64 av, .int .i64 an], .agg #[.int .i64 bv, .int .i64 bn]] w (SxRes w B (closeO (atMostO ⟨n, false, m⟩ bv bn av an true))) := by
  have HOK := hid (OkO.of_cells hN hn hc)
  have HN := hid hN
  have HAB := hid (And.intro ha hb)
  have t1 : decide (av < 0) = false := by rw [decide_eq_false_iff_not]; omega
  clear hN ha hb
  obtain ⟨k0, k1, k2, k3, hbk, hszk⟩ := new_four w #[.int .i64 n, .bool false, .slice A m.length cap] #[.int .i64 av, .int .i64 an] #[.int .i64 bv, .int .i64 bn] #[.int .i64 0, .bool false, .slice none 0 0] 24 26 26 24
  obtain ⟨k0_0, k0_1, k0_2, k0_f⟩ := octbox k0
  obtain ⟨k1_0, k1_1, k1_f⟩ := opbox k1
  obtain ⟨k2_0, k2_1, k2_f⟩ := opbox k2
  obtain ⟨p0, p1, p2, p3, hb0, hsz⟩ := new_four w #[.int .i64 n, .bool false, .slice A m.length cap] #[.int .i64 bv, .int .i64 bn] #[.int .i64 av, .int .i64 an] #[.int .i64 0, .bool false, .slice none 0 0] 24 26 26 24
  replace hx := hx.later hb0 hB
  have HSZ := hid hsz
  clear hsz
  obtain ⟨p0_0, p0_1, p0_2, p0_f⟩ := octbox p0
  obtain ⟨p1_0, p1_1, p1_f⟩ := opbox p1
  obtain ⟨p2_0, p2_1, p2_f⟩ := opbox p2
  go_enter Tryz.func59, Tryz.ntmps59
  go_wp2_with fail
  clear p0_0 p0_1 p0_2 p0_f p1_0 p1_1 p1_f p2_0 p2_1 p2_f k0 k1 k2 k3 hbk hszk k0_0 k0_1 k0_2 k0_f k1_0 k1_1 k1_f k2_0 k2_1 k2_f
  generalize (((w.alloc (Obj.cells #[.int .i64 n, .bool false, .slice A m.length cap] 24)).alloc (Obj.cells #[.int .i64 bv, .int .i64 bn] 26)).alloc (Obj.cells #[.int .i64 av, .int .i64 an] 26)).alloc (Obj.cells #[.int .i64 0, .bool false, .slice none 0 0] 24) = w1 at *
  have hB1 := Nat.le_trans hB hb0.size
  have HX := hid (atMost_ok n ⟨n, false, m⟩ HOK.out bv bn av an true (by have := HAB.out; omega) (by have := HAB.out; omega) (by omega) ib ia A cap w1 (hx.rd hB1) hm)
  (try dsimp only at HX)
  (with_reducible refine HX.out.mono ?_)
  clear HX
  rintro e_w2 w2 ⟨A1, c1, rfl, al1, hb_w2⟩
  have sx1 := Sx.alias al1 hx hb_w2 hB1
  replace p0 := p0.later hb_w2
  replace p1 := p1.later hb_w2
  replace p2 := p2.later hb_w2
  replace p3 := p3.later hb_w2
  replace hx := hx.later hb_w2 (Nat.le_trans hB hb0.size)
  replace hb0 := bup hb0 hb_w2
  have ok1 := OkO.atMost HOK.out (av := bv) (an := bn) (bv := av) (bn := an) (s := true) (by have := HAB.out; omega) (by have := HAB.out; omega) (by omega)
  have hm1 := OkO.small ok1
  generalize atMostO ⟨n, false, m⟩ bv bn av an true = q1 at *
  go_wp2_with fail
  have hB3 := Nat.le_trans hB hb0.size
  have HX := hid (tclosed_ok q1 ok1.ok A1 c1 w2 (sx1.rd hB3) hm1)
  (try dsimp only at HX)
  (with_reducible refine HX.out.mono ?_)
  clear HX
  rintro e_w3 w3 ⟨A3, c3, rfl, own3, hb_w3⟩
  have sx3 := Sx.of_own own3 hB3
  replace p0 := p0.later hb_w3
  replace p1 := p1.later hb_w3
  replace p2 := p2.later hb_w3
  replace p3 := p3.later hb_w3
  replace hx := hx.later hb_w3 (Nat.le_trans hB hb0.size)
  replace sx1 := sx1.later hb_w3 (Nat.le_trans hB hb0.size)
  replace hb0 := bup hb0 hb_w3
  generalize closeO q1 = q3 at *
  obtain ⟨p3_0, p3_1, p3_2, p3_f⟩ := octbox p3
  go_wp2
  clear p3_0 p3_1 p3_2 p3_f
  have hBz := hb0.size
  have s9 := sx3.far3 (g := w.heap.size + 1 + 1 + 1) (v0 := .int .i64 q3.n) (v1 := .bool q3.e) (v2 := .slice A3 q3.m.length c3) (by omega) p3 (by decide)
  have q9 := p3.set3 (v0 := .int .i64 q3.n) (v1 := .bool q3.e) (v2 := .slice A3 q3.m.length c3)
  have hb9 := hb0.trans (below3 (W := w3) (g := w.heap.size + 1 + 1 + 1) (v0 := .int .i64 q3.n) (v1 := .bool q3.e) (v2 := .slice A3 q3.m.length c3) (by omega) hb0.size)
  obtain ⟨z0, z1, z2, fz⟩ := octbox q9
  refine bodyPost_ret (v := .agg #[.int .i64 q3.n, .bool q3.e, .slice A3 q3.m.length c3]) (by simp [results, Tryz.results59, go_sem, z0, z1, z2]) rfl ?_
  exact ⟨_, _, rfl, s9, hb9⟩

set_option maxRecDepth 8000 in
set_option maxHeartbeats 4000000 in
theorem assumes_5b (n : Int) (m : List Int) (N : Nat) (hN : (N : Int) = 2 * n) (hn : N ≤ 128) (hc : Cells N m) (av an bv bn : Int) (ha : av < n) (hb : bv < n) (h0 : av < 0) (h1 : 0 ≤ bv) (ia : I64 an) (ib : I64 bn) (A : Option Addr) (cap : Nat) (w : World) (B : Nat) (hB : B ≤ w.heap.size) (hx : Sx w B A m) (hm : m.length ≤ 17592186044416) :
    Calls Tryz.prog 59 #[.agg #[.int .i64 n, .bool false, .slice A m.length cap], .int .i64 5, .agg #[.int .i64 av, .int .i64 an], .agg #[.int .i64 bv, .int .i64 bn]] w (SxRes w B (closeO (atMostO ⟨n, false, m⟩ bv bn av an true))) := by
  have HOK := hid (OkO.of_cells hN hn hc)
  have HN := hid hN
  have HAB := hid (And.intro ha hb)
  have t1 : decide (av < 0) = true := by rw [decide_eq_true_eq]; omega
  have t2 : decide (bv < 0) = false := by rw [decide_eq_false_iff_not]; omega
  clear hN ha hb
  obtain ⟨k0, k1, k2, k3, hbk, hszk⟩ := new_four w #[.int .i64 n, .bool false, .slice A m.length cap] #[.int .i64 av, .int .i64 an] #[.int .i64 bv, .int .i64 bn] #[.int .i64 0, .bool false, .slice none 0 0] 24 26 26 24
  obtain ⟨k0_0, k0_1, k0_2, k0_f⟩ := octbox k0
  obtain ⟨k1_0, k1_1, k1_f⟩ := opbox k1
  obtain ⟨k2_0, k2_1, k2_f⟩ := opbox k2
  obtain ⟨p0, p1, p2, p3, hb0, hsz⟩ := new_four w #[.int .i64 n, .bool false, .slice A m.length cap] #[.int .i64 bv, .int .i64 bn] #[.int .i64 av, .int .i64 an] #[.int .i64 0, .bool false, .slice none 0 0] 24 26 26 24
  replace hx := hx.later hb0 hB
  have HSZ := hid hsz
  clear hsz
  obtain ⟨p0_0, p0_1, p0_2, p0_f⟩ := octbox p0
  obtain ⟨p1_0, p1_1, p1_f⟩ := opbox p1
  obtain ⟨p2_0, p2_1, p2_f⟩ := opbox p2
  go_enter Tryz.func59, Tryz.ntmps59
  go_wp2_with fail
  clear p0_0 p0_1 p0_2 p0_f p1_0 p1_1 p1_f p2_0 p2_1 p2_f k0 k1 k2 k3 hbk hszk k0_0 k0_1 k0_2 k0_f k1_0 k1_1 k1_f k2_0 k2_1 k2_f
  generalize (((w.alloc (Obj.cells #[.int .i64 n, .bool false, .slice A m.length cap] 24)).alloc (Obj.cells #[.int .i64 bv, .int .i64 bn] 26)).alloc (Obj.cells #[.int .i64 av, .int .i64 an] 26)).alloc (Obj.cells #[.int .i64 0, .bool false, .slice none 0 0] 24) = w1 at *
  have hB1 := Nat.le_trans hB hb0.size
  have HX := hid (atMost_ok n ⟨n, false, m⟩ HOK.out bv bn av an true (by have := HAB.out; omega) (by have := HAB.out; omega) (by omega) ib ia A cap w1 (hx.rd hB1) hm)
  (try dsimp only at HX)
  (with_reducible refine HX.out.mono ?_)
  clear HX
  rintro e_w2 w2 ⟨A1, c1, rfl, al1, hb_w2⟩
  have sx1 := Sx.alias al1 hx hb_w2 hB1
  replace p0 := p0.later hb_w2
  replace p1 := p1.later hb_w2
  replace p2 := p2.later hb_w2
  replace p3 := p3.later hb_w2
  replace hx := hx.later hb_w2 (Nat.le_trans hB hb0.size)
  replace hb0 := bup hb0 hb_w2
  have ok1 := OkO.atMost HOK.out (av := bv) (an := bn) (bv := av) (bn := an) (s := true) (by have := HAB.out; omega) (by have := HAB.out; omega) (by omega)
  have hm1 := OkO.small ok1
  generalize atMostO ⟨n, false, m⟩ bv bn av an true = q1 at *
  go_wp2_with fail
  have hB3 := Nat.le_trans hB hb0.size
  have HX := hid (tclosed_ok q1 ok1.ok A1 c1 w2 (sx1.rd hB3) hm1)
  (try dsimp only at HX)
  (with_reducible refine HX.out.mono ?_)
  clear HX
  rintro e_w3 w3 ⟨A3, c3, rfl, own3, hb_w3⟩
  have sx3 := Sx.of_own own3 hB3
  replace p0 := p0.later hb_w3
  replace p1 := p1.later hb_w3
  replace p2 := p2.later hb_w3
  replace p3 := p3.later hb_w3
  replace hx := hx.later hb_w3 (Nat.le_trans hB hb0.size)
  replace sx1 := sx1.later hb_w3 (Nat.le_trans hB hb0.size)
  replace hb0 := bup hb0 hb_w3
  generalize closeO q1 = q3 at *
  obtain ⟨p3_0, p3_1, p3_2, p3_f⟩ := octbox p3
  go_wp2
  clear p3_0 p3_1 p3_2 p3_f
  have hBz := hb0.size
  have s9 := sx3.far3 (g := w.heap.size + 1 + 1 + 1) (v0 := .int .i64 q3.n) (v1 := .bool q3.e) (v2 := .slice A3 q3.m.length c3) (by omega) p3 (by decide)
  have q9 := p3.set3 (v0 := .int .i64 q3.n) (v1 := .bool q3.e) (v2 := .slice A3 q3.m.length c3)
  have hb9 := hb0.trans (below3 (W := w3) (g := w.heap.size + 1 + 1 + 1) (v0 := .int .i64 q3.n) (v1 := .bool q3.e) (v2 := .slice A3 q3.m.length c3) (by omega) hb0.size)
  obtain ⟨z0, z1, z2, fz⟩ := octbox q9
  refine bodyPost_ret (v := .agg #[.int .i64 q3.n, .bool q3.e, .slice A3 q3.m.length c3]) (by simp [results, Tryz.results59, go_sem, z0, z1, z2]) rfl ?_
  exact ⟨_, _, rfl, s9, hb9⟩

set_option maxRecDepth 8000 in
set_option maxHeartbeats 4000000 in
theorem assumes_6a (n : Int) (m : List Int) (N : Nat) (hN : (N : Int) = 2 * n) (hn : N ≤ 128) (hc : Cells N m) (av an bv bn : Int) (ha : av < n) (hb : bv < n) (h0 : 0 ≤ av) (ia : I64 an) (ib : I64 bn) (A : Option Addr) (cap : Nat) (w : World) (B : Nat) (hB : B ≤ w.heap.size) (hx : Sx w B A m) (hm : m.length ≤ 17592186044416) :
    Calls Tryz.prog 59 #[.agg #[.int .i64 n, .bool false, .slice A m.length cap], .int .i64 6, .agg #[.int .i64 av, .int .i64 an], .agg #[.int .i64 bv, .int .i64 bn]] w (SxRes w B (closeO (atMostO ⟨n, false, m⟩ bv bn av an false))) := by
  have HOK := hid (OkO.of_cells hN hn hc)
  have HN := hid hN
  have HAB := hid (And.intro ha hb)
  have t1 : decide (av < 0) = false := by rw [decide_eq_false_iff_not]; omega
  clear hN ha hb
  obtain ⟨k0, k1, k2, k3, hbk, hszk⟩ := new_four w #[.int .i64 n, .bool false, .slice A m.length cap] #[.int .i64 av, .int .i64 an] #[.int .i64 bv, .int .i64 bn] #[.int .i64 0, .bool false, .slice none 0 0] 24 26 26 24
  obtain ⟨k0_0, k0_1, k0_2, k0_f⟩ := octbox k0
  obtain ⟨k1_0, k1_1, k1_f⟩ := opbox k1
  obtain ⟨k2_0, k2_1, k2_f⟩ := opbox k2
  obtain ⟨p0, p1, p2, p3, hb0, hsz⟩ := new_four w #[.int .i64 n, .bool false, .slice A m.length cap] #[.int .i64 bv, .int .i64 bn] #[.int .i64 av, .int .i64 an] #[.int .i64 0, .bool false, .slice none 0 0] 24 26 26 24
  replace hx := hx.later hb0 hB
  have HSZ := hid hsz
  clear hsz
  obtain ⟨p0_0, p0_1, p0_2, p0_f⟩ := octbox p0
  obtain ⟨p1_0, p1_1, p1_f⟩ := opbox p1
  obtain ⟨p2_0, p2_1, p2_f⟩ := opbox p2
  go_enter Tryz.func59, Tryz.ntmps59
  go_wp2_with fail
  clear p0_0 p0_1 p0_2 p0_f p1_0 p1_1 p1_f p2_0 p2_1 p2_f k0 k1 k2 k3 hbk hszk k0_0 k0_1 k0_2 k0_f k1_0 k1_1 k1_f k2_0 k2_1 k2_f
  generalize (((w.alloc (Obj.cells #[.int .i64 n, .bool false, .slice A m.length cap] 24)).alloc (Obj.cells #[.int .i64 bv, .int .i64 bn] 26)).alloc (Obj.cells #[.int .i64 av, .int .i64 an] 26)).alloc (Obj.cells #[.int .i64 0, .bool false, .slice none 0 0] 24) = w1 at *
  have hB1 := Nat.le_trans hB hb0.size
  have HX := hid (atMost_ok n ⟨n, false, m⟩ HOK.out bv bn av an false (by have := HAB.out; omega) (by have := HAB.out; omega) (by omega) ib ia A cap w1 (hx.rd hB1) hm)
  (try dsimp only at HX)
  (with_reducible refine HX.out.mono ?_)
  clear HX
  rintro e_w2 w2 ⟨A1, c1, rfl, al1, hb_w2⟩
  have sx1 := Sx.alias al1 hx hb_w2 hB1
  replace p0 := p0.later hb_w2
  replace p1 := p1.later hb_w2
  replace p2 := p2.later hb_w2
  replace p3 := p3.later hb_w2
  replace hx := hx.later hb_w2 (Nat.le_trans hB hb0.size)
  replace hb0 := bup hb0 hb_w2
  have ok1 := OkO.atMost HOK.out (av := bv) (an := bn) (bv := av) (bn := an) (s := false) (by have := HAB.out; omega) (by have := HAB.out; omega) (by omega)
  have hm1 := OkO.small ok1
  generalize atMostO ⟨n, false, m⟩ bv bn av an false = q1 at *
  go_wp2_with fail
  have hB3 := Nat.le_trans hB hb0.size
  have HX := hid (tclosed_ok q1 ok1.ok A1 c1 w2 (sx1.rd hB3) hm1)
  (try dsimp only at HX)
  (with_reducible refine HX.out.mono ?_)
  clear HX
  rintro e_w3 w3 ⟨A3, c3, rfl, own3, hb_w3⟩
  have sx3 := Sx.of_own own3 hB3
  replace p0 := p0.later hb_w3
  replace p1 := p1.later hb_w3
  replace p2 := p2.later hb_w3
  replace p3 := p3.later hb_w3
  replace hx := hx.later hb_w3 (Nat.le_trans hB hb0.size)
  replace sx1 := sx1.later hb_w3 (Nat.le_trans hB hb0.size)
  replace hb0 := bup hb0 hb_w3
  generalize closeO q1 = q3 at *
  obtain ⟨p3_0, p3_1, p3_2, p3_f⟩ := octbox p3
  go_wp2
  clear p3_0 p3_1 p3_2 p3_f
  have hBz := hb0.size
  have s9 := sx3.far3 (g := w.heap.size + 1 + 1 + 1) (v0 := .int .i64 q3.n) (v1 := .bool q3.e) (v2 := .slice A3 q3.m.length c3) (by omega) p3 (by decide)
  have q9 := p3.set3 (v0 := .int .i64 q3.n) (v1 := .bool q3.e) (v2 := .slice A3 q3.m.length c3)
  have hb9 := hb0.trans (below3 (W := w3) (g := w.heap.size + 1 + 1 + 1) (v0 := .int .i64 q3.n) (v1 := .bool q3.e) (v2 := .slice A3 q3.m.length c3) (by omega) hb0.size)
  obtain ⟨z0, z1, z2, fz⟩ := octbox q9
  refine bodyPost_ret (v := .agg #[.int .i64 q3.n, .bool q3.e, .slice A3 q3.m.length c3]) (by simp [results, Tryz.results59, go_sem, z0, z1, z2]) rfl ?_
  exact ⟨_, _, rfl, s9, hb9⟩

set_option maxRecDepth 8000 in
set_option maxHeartbeats 4000000 in
theorem assumes_6b (n : Int) (m : List Int) (N : Nat) (hN : (N : Int) = 2 * n) (hn : N ≤ 128) (hc : Cells N m) (av an bv bn : Int) (ha : av < n) (hb : bv < n) (h0 : av < 0) (h1 : 0 ≤ bv) (ia : I64 an) (ib : I64 bn) (A : Option Addr) (cap : Nat) (w : World) (B : Nat) (hB : B ≤ w.heap.size) (hx : Sx w B A m) (hm : m.length ≤ 17592186044416) :
    Calls Tryz.prog 59 #[.agg #[.int .i64 n, .bool false, .slice A m.length cap], .int .i64 6, .agg #[.int .i64 av, .int .i64 an], .agg #[.int .i64 bv, .int .i64 bn]] w (SxRes w B (closeO (atMostO ⟨n, false, m⟩ bv bn av an false))) := by
  have HOK := hid (OkO.of_cells hN hn hc)
  have HN := hid hN
  have HAB := hid (And.intro ha hb)
  have t1 : decide (av < 0) = true := by rw [decide_eq_true_eq]; omega
  have t2 : decide (bv < 0) = false := by rw [decide_eq_false_iff_not]; omega
  clear hN ha hb
  obtain ⟨k0, k1, k2, k3, hbk, hszk⟩ := new_four w #[.int .i64 n, .bool false, .slice A m.length cap] #[.int .i64 av, .int .i64 an] #[.int .i64 bv, .int .i64 bn] #[.int .i64 0, .bool false, .slice none 0 0] 24 26 26 24
  obtain ⟨k0_0, k0_1, k0_2, k0_f⟩ := octbox k0
  obtain ⟨k1_0, k1_1, k1_f⟩ := opbox k1
  obtain ⟨k2_0, k2_1, k2_f⟩ := opbox k2
  obtain ⟨p0, p1, p2, p3, hb0, hsz⟩ := new_four w #[.int .i64 n, .bool false, .slice A m.length cap] #[.int .i64 bv, .int .i64 bn] #[.int .i64 av, .int .i64 an] #[.int .i64 0, .bool false, .slice none 0 0] 24 26 26 24
  replace hx := hx.later hb0 hB
  have HSZ := hid hsz
  clear hsz
  obtain ⟨p0_0, p0_1, p0_2, p0_f⟩ := octbox p0
  obtain ⟨p1_0, p1_1, p1_f⟩ := opbox p1
  obtain ⟨p2_0, p2_1, p2_f⟩ := opbox p2
  go_enter Tryz.func59, Tryz.ntmps59
  go_wp2_with fail
  clear p0_0 p0_1 p0_2 p0_f p1_0 p1_1 p1_f p2_0 p2_1 p2_f k0 k1 k2 k3 hbk hszk k0_0 k0_1 k0_2 k0_f k1_0 k1_1 k1_f k2_0 k2_1 k2_f
  generalize (((w.alloc (Obj.cells #[.int .i64 n, .bool false, .slice A m.length cap] 24)).alloc (Obj.cells #[.int .i64 bv, .int .i64 bn] 26)).alloc (Obj.cells #[.int .i64 av, .int .i64 an] 26)).alloc (Obj.cells #[.int .i64 0, .bool false, .slice none 0 0] 24) = w1 at *
  have hB1 := Nat.le_trans hB hb0.size
  have HX := hid (atMost_ok n ⟨n, false, m⟩ HOK.out bv bn av an false (by have := HAB.out; omega) (by have := HAB.out; omega) (by omega) ib ia A cap w1 (hx.rd hB1) hm)
  (try dsimp only at HX)
  (with_reducible refine HX.out.mono ?_)
  clear HX
  rintro e_w2 w2 ⟨A1, c1, rfl, al1, hb_w2⟩
  have sx1 := Sx.alias al1 hx hb_w2 hB1
  replace p0 := p0.later hb_w2
  replace p1 := p1.later hb_w2
  replace p2 := p2.later hb_w2
  replace p3 := p3.later hb_w2
  replace hx := hx.later hb_w2 (Nat.le_trans hB hb0.size)
  replace hb0 := bup hb0 hb_w2
  have ok1 := OkO.atMost HOK.out (av := bv) (an := bn) (bv := av) (bn := an) (s := false) (by have := HAB.out; omega) (by have := HAB.out; omega) (by omega)
  have hm1 := OkO.small ok1
  generalize atMostO ⟨n, false, m⟩ bv bn av an false = q1 at *
  go_wp2_with fail
  have hB3 := Nat.le_trans hB hb0.size
  have HX := hid (tclosed_ok q1 ok1.ok A1 c1 w2 (sx1.rd hB3) hm1)
  (try dsimp only at HX)
  (with_reducible refine HX.out.mono ?_)
  clear HX
  rintro e_w3 w3 ⟨A3, c3, rfl, own3, hb_w3⟩
  have sx3 := Sx.of_own own3 hB3
  replace p0 := p0.later hb_w3
  replace p1 := p1.later hb_w3
  replace p2 := p2.later hb_w3
  replace p3 := p3.later hb_w3
  replace hx := hx.later hb_w3 (Nat.le_trans hB hb0.size)
  replace sx1 := sx1.later hb_w3 (Nat.le_trans hB hb0.size)
  replace hb0 := bup hb0 hb_w3
  generalize closeO q1 = q3 at *
  obtain ⟨p3_0, p3_1, p3_2, p3_f⟩ := octbox p3
  go_wp2
  clear p3_0 p3_1 p3_2 p3_f
  have hBz := hb0.size
  have s9 := sx3.far3 (g := w.heap.size + 1 + 1 + 1) (v0 := .int .i64 q3.n) (v1 := .bool q3.e) (v2 := .slice A3 q3.m.length c3) (by omega) p3 (by decide)
  have q9 := p3.set3 (v0 := .int .i64 q3.n) (v1 := .bool q3.e) (v2 := .slice A3 q3.m.length c3)
  have hb9 := hb0.trans (below3 (W := w3) (g := w.heap.size + 1 + 1 + 1) (v0 := .int .i64 q3.n) (v1 := .bool q3.e) (v2 := .slice A3 q3.m.length c3) (by omega) hb0.size)
  obtain ⟨z0, z1, z2, fz⟩ := octbox q9
  refine bodyPost_ret (v := .agg #[.int .i64 q3.n, .bool q3.e, .slice A3 q3.m.length c3]) (by simp [results, Tryz.results59, go_sem, z0, z1, z2]) rfl ?_
  exact ⟨_, _, rfl, s9, hb9⟩

set_option maxRecDepth 8000 in
set_option maxHeartbeats 4000000 in
theorem assumes_4a (n : Int) (m : List Int) (N : Nat) (hN : (N : Int) = 2 * n) (hn : N ≤ 128) (hc : Cells N m) (av an bv bn : Int) (ha : av < n) (hb : bv < n) (h0 : 0 ≤ av) (ia : I64 an) (ib : I64 bn) (A : Option Addr) (cap : Nat) (w : World) (B : Nat) (hB : B ≤ w.heap.size) (hx : Sx w B A m) (hm : m.length ≤ 17592186044416) :
    Calls Tryz.prog 59 #[.agg #[.int .i64 n, .bool false, .slice A m.length cap], .int .i64 4, .agg #[.int .i64 av, .int .i64 an], .agg #[.int .i64 bv, .int .i64 bn]] w (SxRes w B (closeO (unlikeO ⟨n, false, m⟩ av an bv bn))) := by
  have HOK := hid (OkO.of_cells hN hn hc)
  have HN := hid hN
  have HAB := hid (And.intro ha hb)
  have t1 : decide (av < 0) = false := by rw [decide_eq_false_iff_not]; omega
  clear hN ha hb
  obtain ⟨p0, p1, p2, p3, hb0, hsz⟩ := new_four w #[.int .i64 n, .bool false, .slice A m.length cap] #[.int .i64 av, .int .i64 an] #[.int .i64 bv, .int .i64 bn] #[.int .i64 0, .bool false, .slice none 0 0] 24 26 26 24
  replace hx := hx.later hb0 hB
  have HSZ := hid hsz
  clear hsz
  obtain ⟨p0_0, p0_1, p0_2, p0_f⟩ := octbox p0
  obtain ⟨p1_0, p1_1, p1_f⟩ := opbox p1
  obtain ⟨p2_0, p2_1, p2_f⟩ := opbox p2
  go_enter Tryz.func59, Tryz.ntmps59
  go_wp2_with fail
  clear p0_0 p0_1 p0_2 p0_f p1_0 p1_1 p1_f p2_0 p2_1 p2_f
  generalize (((w.alloc (Obj.cells #[.int .i64 n, .bool false, .slice A m.length cap] 24)).alloc (Obj.cells #[.int .i64 av, .int .i64 an] 26)).alloc (Obj.cells #[.int .i64 bv, .int .i64 bn] 26)).alloc (Obj.cells #[.int .i64 0, .bool false, .slice none 0 0] 24) = w1 at *
  have hB1 := Nat.le_trans hB hb0.size
  have HX := hid (unlike_ok n m N HN.out hn hc av an bv bn (by have := HAB.out; omega) (by have := HAB.out; omega) (by omega) ia ib A cap w1 B hB1 hx hm)
  (try dsimp only at HX)
  (with_reducible refine HX.out.mono ?_)
  clear HX
  rintro e_w2 w2 ⟨A1, c1, rfl, sx1, hb_w2⟩
  replace p0 := p0.later hb_w2
  replace p1 := p1.later hb_w2
  replace p2 := p2.later hb_w2
  replace p3 := p3.later hb_w2
  replace hx := hx.later hb_w2 (Nat.le_trans hB hb0.size)
  replace hb0 := bup hb0 hb_w2
  have ok1 := OkO.unlike HOK.out (av := av) (an := an) (bv := bv) (bn := bn) (by have := HAB.out; omega) (by have := HAB.out; omega) (by omega)
  have hm1 := OkO.small ok1
  generalize unlikeO ⟨n, false, m⟩ av an bv bn = q1 at *
  go_wp2_with fail
  have hB3 := Nat.le_trans hB hb0.size
  have HX := hid (tclosed_ok q1 ok1.ok A1 c1 w2 (sx1.rd hB3) hm1)
  (try dsimp only at HX)
  (with_reducible refine HX.out.mono ?_)
  clear HX
  rintro e_w3 w3 ⟨A3, c3, rfl, own3, hb_w3⟩
  have sx3 := Sx.of_own own3 hB3
  replace p0 := p0.later hb_w3
  replace p1 := p1.later hb_w3
  replace p2 := p2.later hb_w3
  replace p3 := p3.later hb_w3
  replace hx := hx.later hb_w3 (Nat.le_trans hB hb0.size)
  replace sx1 := sx1.later hb_w3 (Nat.le_trans hB hb0.size)
  replace hb0 := bup hb0 hb_w3
  generalize closeO q1 = q3 at *
  obtain ⟨p3_0, p3_1, p3_2, p3_f⟩ := octbox p3
  go_wp2
  clear p3_0 p3_1 p3_2 p3_f
  have hBz := hb0.size
  have s9 := sx3.far3 (g := w.heap.size + 1 + 1 + 1) (v0 := .int .i64 q3.n) (v1 := .bool q3.e) (v2 := .slice A3 q3.m.length c3) (by omega) p3 (by decide)
  have q9 := p3.set3 (v0 := .int .i64 q3.n) (v1 := .bool q3.e) (v2 := .slice A3 q3.m.length c3)
  have hb9 := hb0.trans (below3 (W := w3) (g := w.heap.size + 1 + 1 + 1) (v0 := .int .i64 q3.n) (v1 := .bool q3.e) (v2 := .slice A3 q3.m.length c3) (by omega) hb0.size)
  obtain ⟨z0, z1, z2, fz⟩ := octbox q9
  refine bodyPost_ret (v := .agg #[.int .i64 q3.n, .bool q3.e, .slice A3 q3.m.length c3]) (by simp [results, Tryz.results59, go_sem, z0, z1, z2]) rfl ?_
  exact ⟨_, _, rfl, s9, hb9⟩

set_option maxRecDepth 8000 in
set_option maxHeartbeats 4000000 in
theorem assumes_4b (n : Int) (m : List Int) (N : Nat) (hN : (N : Int) = 2 * n) (hn : N ≤ 128) (hc : Cells N m) (av an bv bn : Int) (ha : av < n) (hb : bv < n) (h0 : av < 0) (h1 : 0 ≤ bv) (ia : I64 an) (ib : I64 bn) (A : Option Addr) (cap : Nat) (w : World) (B : Nat) (hB : B ≤ w.heap.size) (hx : Sx w B A m) (hm : m.length ≤ 17592186044416) :
    Calls Tryz.prog 59 #[.agg #[.int .i64 n, .bool false, .slice A m.length cap], .int .i64 4, .agg #[.int .i64 av, .int .i64 an], .agg #[.int .i64 bv, .int .i64 bn]] w (SxRes w B (closeO (unlikeO ⟨n, false, m⟩ av an bv bn))) := by
  have HOK := hid (OkO.of_cells hN hn hc)
  have HN := hid hN
  have HAB := hid (And.intro ha hb)
  have t1 : decide (av < 0) = true := by rw [decide_eq_true_eq]; omega
  have t2 : decide (bv < 0) = false := by rw [decide_eq_false_iff_not]; omega
  clear hN ha hb
  obtain ⟨p0, p1, p2, p3, hb0, hsz⟩ := new_four w #[.int .i64 n, .bool false, .slice A m.length cap] #[.int .i64 av, .int .i64 an] #[.int .i64 bv, .int .i64 bn] #[.int .i64 0, .bool false, .slice none 0 0] 24 26 26 24
  replace hx := hx.later hb0 hB
  have HSZ := hid hsz
  clear hsz
  obtain ⟨p0_0, p0_1, p0_2, p0_f⟩ := octbox p0
  obtain ⟨p1_0, p1_1, p1_f⟩ := opbox p1
  obtain ⟨p2_0, p2_1, p2_f⟩ := opbox p2
  go_enter Tryz.func59, Tryz.ntmps59
  go_wp2_with fail
  clear p0_0 p0_1 p0_2 p0_f p1_0 p1_1 p1_f p2_0 p2_1 p2_f
  generalize (((w.alloc (Obj.cells #[.int .i64 n, .bool false, .slice A m.length cap] 24)).alloc (Obj.cells #[.int .i64 av, .int .i64 an] 26)).alloc (Obj.cells #[.int .i64 bv, .int .i64 bn] 26)).alloc (Obj.cells #[.int .i64 0, .bool false, .slice none 0 0] 24) = w1 at *
  have hB1 := Nat.le_trans hB hb0.size
  have HX := hid (unlike_ok n m N HN.out hn hc av an bv bn (by have := HAB.out; omega) (by have := HAB.out; omega) (by omega) ia ib A cap w1 B hB1 hx hm)
  (try dsimp only at HX)
  (with_reducible refine HX.out.mono ?_)
  clear HX
  rintro e_w2 w2 ⟨A1, c1, rfl, sx1, hb_w2⟩
  replace p0 := p0.later hb_w2
  replace p1 := p1.later hb_w2
  replace p2 := p2.later hb_w2
  replace p3 := p3.later hb_w2
  replace hx := hx.later hb_w2 (Nat.le_trans hB hb0.size)
  replace hb0 := bup hb0 hb_w2
  have ok1 := OkO.unlike HOK.out (av := av) (an := an) (bv := bv) (bn := bn) (by have := HAB.out; omega) (by have := HAB.out; omega) (by omega)
  have hm1 := OkO.small ok1
  generalize unlikeO ⟨n, false, m⟩ av an bv bn = q1 at *
  go_wp2_with fail
  have hB3 := Nat.le_trans hB hb0.size
  have HX := hid (tclosed_ok q1 ok1.ok A1 c1 w2 (sx1.rd hB3) hm1)
  (try dsimp only at HX)
  (with_reducible refine HX.out.mono ?_)
  clear HX
  rintro e_w3 w3 ⟨A3, c3, rfl, own3, hb_w3⟩
  have sx3 := Sx.of_own own3 hB3
  replace p0 := p0.later hb_w3
  replace p1 := p1.later hb_w3
  replace p2 := p2.later hb_w3
  replace p3 := p3.later hb_w3
  replace hx := hx.later hb_w3 (Nat.le_trans hB hb0.size)
  replace sx1 := sx1.later hb_w3 (Nat.le_trans hB hb0.size)
  replace hb0 := bup hb0 hb_w3
  generalize closeO q1 = q3 at *
  obtain ⟨p3_0, p3_1, p3_2, p3_f⟩ := octbox p3
  go_wp2
  clear p3_0 p3_1 p3_2 p3_f
  have hBz := hb0.size
  have s9 := sx3.far3 (g := w.heap.size + 1 + 1 + 1) (v0 := .int .i64 q3.n) (v1 := .bool q3.e) (v2 := .slice A3 q3.m.length c3) (by omega) p3 (by decide)
  have q9 := p3.set3 (v0 := .int .i64 q3.n) (v1 := .bool q3.e) (v2 := .slice A3 q3.m.length c3)
  have hb9 := hb0.trans (below3 (W := w3) (g := w.heap.size + 1 + 1 + 1) (v0 := .int .i64 q3.n) (v1 := .bool q3.e) (v2 := .slice A3 q3.m.length c3) (by omega) hb0.size)
  obtain ⟨z0, z1, z2, fz⟩ := octbox q9
  refine bodyPost_ret (v := .agg #[.int .i64 q3.n, .bool q3.e, .slice A3 q3.m.length c3]) (by simp [results, Tryz.results59, go_sem, z0, z1, z2]) rfl ?_
  exact ⟨_, _, rfl, s9, hb9⟩

set_option maxRecDepth 8000 in
set_option maxHeartbeats 4000000 in
theorem assumes_3a (n : Int) (m : List Int) (N : Nat) (hN : (N : Int) = 2 * n) (hn : N ≤ 128) (hc : Cells N m) (av an bv bn : Int) (ha : av < n) (hb : bv < n) (h0 : 0 ≤ av) (ia : I64 an) (ib : I64 bn) (A : Option Addr) (cap : Nat) (w : World) (B : Nat) (hB : B ≤ w.heap.size) (hx : Sx w B A m) (hm : m.length ≤ 17592186044416) :
    Calls Tryz.prog 59 #[.agg #[.int .i64 n, .bool false, .slice A m.length cap], .int .i64 3, .agg #[.int .i64 av, .int .i64 an], .agg #[.int .i64 bv, .int .i64 bn]] w (SxRes w B (closeO (atMostO (atMostO ⟨n, false, m⟩ av an bv bn false) bv bn av an false))) := by
  have HOK := hid (OkO.of_cells hN hn hc)
  have HN := hid hN
  have HAB := hid (And.intro ha hb)
  have t1 : decide (av < 0) = false := by rw [decide_eq_false_iff_not]; omega
  clear hN ha hb
  obtain ⟨p0, p1, p2, p3, hb0, hsz⟩ := new_four w #[.int .i64 n, .bool false, .slice A m.length cap] #[.int .i64 av, .int .i64 an] #[.int .i64 bv, .int .i64 bn] #[.int .i64 0, .bool false, .slice none 0 0] 24 26 26 24
  replace hx := hx.later hb0 hB
  have HSZ := hid hsz
  clear hsz
  obtain ⟨p0_0, p0_1, p0_2, p0_f⟩ := octbox p0
  obtain ⟨p1_0, p1_1, p1_f⟩ := opbox p1
  obtain ⟨p2_0, p2_1, p2_f⟩ := opbox p2
  go_enter Tryz.func59, Tryz.ntmps59
  go_wp2_with fail
  clear p0_0 p0_1 p0_2 p0_f p1_0 p1_1 p1_f p2_0 p2_1 p2_f
  generalize (((w.alloc (Obj.cells #[.int .i64 n, .bool false, .slice A m.length cap] 24)).alloc (Obj.cells #[.int .i64 av, .int .i64 an] 26)).alloc (Obj.cells #[.int .i64 bv, .int .i64 bn] 26)).alloc (Obj.cells #[.int .i64 0, .bool false, .slice none 0 0] 24) = w1 at *
  have hB1 := Nat.le_trans hB hb0.size
  have hxr := hx.rd hB1
  have ok1 := OkO.atMost HOK.out (av := av) (an := an) (bv := bv) (bn := bn) (s := false) (by have := HAB.out; omega) (by have := HAB.out; omega) (by omega)
  have hm1 := OkO.small ok1
  have HAM := hid (fun W (h : Rd W W.heap.size A m) => atMost_ok n ⟨n, false, m⟩ HOK.out av an bv bn false (by have := HAB.out; omega) (by have := HAB.out; omega) (by omega) ia ib A cap W h hm)
  dsimp only at HAM
  generalize atMostO ⟨n, false, m⟩ av an bv bn false = q1 at *
  have f0 := laterE (show w1.cell? ⟨w.heap.size, 0, none⟩ = some (.int .i64 n) from p0.cell 0)
  have f1 := laterE (show w1.cell? ⟨w.heap.size, 1, none⟩ = some (.bool false) from p0.cell 1)
  have f2 := laterE (show w1.cell? ⟨w.heap.size, 2, none⟩ = some (.slice A m.length cap) from p0.cell 2)
  have j0 := laterE (show w1.cell? ⟨w.heap.size + 1, 0, none⟩ = some (.int .i64 av) from p1.cell 0)
  have j1 := laterE (show w1.cell? ⟨w.heap.size + 1, 1, none⟩ = some (.int .i64 an) from p1.cell 1)
  have l0 := laterE (show w1.cell? ⟨w.heap.size + 1 + 1, 0, none⟩ = some (.int .i64 bv) from p2.cell 0)
  have l1 := laterE (show w1.cell? ⟨w.heap.size + 1 + 1, 1, none⟩ = some (.int .i64 bn) from p2.cell 1)
  refine wp_region_flowE 6 [Sp.val (.agg #[.int .i64 n, .bool false, .slice A m.length cap]), Sp.val (.agg #[.int .i64 av, .int .i64 an]), Sp.val (.agg #[.int .i64 bv, .int .i64 bn]), Sp.any (IsAl A m q1), Sp.val (.agg #[.int .i64 bv, .int .i64 bn]), Sp.val (.agg #[.int .i64 av, .int .i64 an])] (by kernel_rfl) (by kernel_rfl) ?_
  (refine FlowE.take (by rfl) (fun W hW R hR => ?_) (fun _ _ => ?_); (go_simp; (try go_bits); with_reducible exact hR); simp only [Act.put, List.setIfInBounds_toArray, List.set_cons_zero, List.set_cons_succ])
  (refine FlowE.take (by rfl) (fun W hW R hR => ?_) (fun _ _ => ?_); (go_simp; (try go_bits); with_reducible exact hR); simp only [Act.put, List.setIfInBounds_toArray, List.set_cons_zero, List.set_cons_succ])
  (refine FlowE.take (by rfl) (fun W hW R hR => ?_) (fun _ _ => ?_); (go_simp; (try go_bits); with_reducible exact hR); simp only [Act.put, List.setIfInBounds_toArray, List.set_cons_zero, List.set_cons_succ])
  refine FlowE.call 123 #[.agg #[.int .i64 n, .bool false, .slice A m.length cap], .agg #[.int .i64 av, .int .i64 an], .agg #[.int .i64 bv, .int .i64 bn], .bool false] (by rfl) (fun W hW => by go_simp) (fun W hW => (HAM.out W (hxr.up (Ext.trans (Below.refl _ _).drew hW))).mono fun _ _ ⟨A1, c1, he, ho, hb⟩ => ⟨_, he, hb, A1, c1, rfl, ho⟩) (fun v3 l3 h3 => ?_)
  simp only [Act.put, List.setIfInBounds_toArray, List.set_cons_zero, List.set_cons_succ]
  (refine FlowE.take (by rfl) (fun W hW R hR => ?_) (fun _ _ => ?_); (go_simp; (try go_bits); with_reducible exact hR); simp only [Act.put, List.setIfInBounds_toArray, List.set_cons_zero, List.set_cons_succ])
  (refine FlowE.take (by rfl) (fun W hW R hR => ?_) (fun _ _ => ?_); (go_simp; (try go_bits); with_reducible exact hR); simp only [Act.put, List.setIfInBounds_toArray, List.set_cons_zero, List.set_cons_succ])
  refine FlowE.tail (fun W hW hf hd => ?_)
  replace hW : Below w1.heap.size w1 W := Ext.trans (Below.refl _ _).drew hW
  have hxW := hx.later hW hB1
  obtain ⟨A1, c1, rfl, sx1⟩ := fact_al (show Sp.fact w1.drew (Sp.any (IsAl A m q1)) v3 l3 h3 W from hf 3) hxW (show B ≤ w1.drew.heap.size from hB1)
  clear hf hd f0 f1 f2 j0 j1 l0 l1 hxr HAM hxW
  replace p0 := p0.later hW
  replace p1 := p1.later hW
  replace p2 := p2.later hW
  replace p3 := p3.later hW
  replace hx := hx.later hW (Nat.le_trans hB hb0.size)
  replace hb0 := bup hb0 hW
  clear hW hB1
  go_wp2_with fail
  have hB4 := Nat.le_trans hB hb0.size
  have ok2 := OkO.atMost ok1 (av := bv) (an := bn) (bv := av) (bn := an) (s := false) (by have := HAB.out; omega) (by have := HAB.out; omega) (by omega)
  have hm2 := OkO.small ok2
  have HX := hid (atMost_ok n q1 ok1 bv bn av an false (by have := HAB.out; omega) (by have := HAB.out; omega) (by omega) ib ia A1 c1 W (sx1.rd hB4) hm1)
  (try dsimp only at HX)
  (with_reducible refine HX.out.mono ?_)
  clear HX
  rintro e_w2 w2 ⟨A2, c2, rfl, al2, hb_w2⟩
  have sx2 := Sx.alias al2 sx1 hb_w2 hB4
  replace p0 := p0.later hb_w2
  replace p1 := p1.later hb_w2
  replace p2 := p2.later hb_w2
  replace p3 := p3.later hb_w2
  replace hx := hx.later hb_w2 (Nat.le_trans hB hb0.size)
  replace sx1 := sx1.later hb_w2 (Nat.le_trans hB hb0.size)
  replace hb0 := bup hb0 hb_w2
  generalize atMostO q1 bv bn av an false = q2 at *
  go_wp2_with fail
  have hB3 := Nat.le_trans hB hb0.size
  have HX := hid (tclosed_ok q2 ok2.ok A2 c2 w2 (sx2.rd hB3) hm2)
  (try dsimp only at HX)
  (with_reducible refine HX.out.mono ?_)
  clear HX
  rintro e_w3 w3 ⟨A3, c3, rfl, own3, hb_w3⟩
  have sx3 := Sx.of_own own3 hB3
  replace p0 := p0.later hb_w3
  replace p1 := p1.later hb_w3
  replace p2 := p2.later hb_w3
  replace p3 := p3.later hb_w3
  replace hx := hx.later hb_w3 (Nat.le_trans hB hb0.size)
  replace sx1 := sx1.later hb_w3 (Nat.le_trans hB hb0.size)
  replace sx2 := sx2.later hb_w3 (Nat.le_trans hB hb0.size)
  replace hb0 := bup hb0 hb_w3
  generalize closeO q2 = q3 at *
  obtain ⟨p3_0, p3_1, p3_2, p3_f⟩ := octbox p3
  go_wp2
  clear p3_0 p3_1 p3_2 p3_f
  have hBz := hb0.size
  have s9 := sx3.far3 (g := w.heap.size + 1 + 1 + 1) (v0 := .int .i64 q3.n) (v1 := .bool q3.e) (v2 := .slice A3 q3.m.length c3) (by omega) p3 (by decide)
  have q9 := p3.set3 (v0 := .int .i64 q3.n) (v1 := .bool q3.e) (v2 := .slice A3 q3.m.length c3)
  have hb9 := hb0.trans (below3 (W := w3) (g := w.heap.size + 1 + 1 + 1) (v0 := .int .i64 q3.n) (v1 := .bool q3.e) (v2 := .slice A3 q3.m.length c3) (by omega) hb0.size)
  obtain ⟨z0, z1, z2, fz⟩ := octbox q9
  refine bodyPost_ret (v := .agg #[.int .i64 q3.n, .bool q3.e, .slice A3 q3.m.length c3]) (by simp [results, Tryz.results59, go_sem, z0, z1, z2]) rfl ?_
  exact ⟨_, _, rfl, s9, hb9⟩

set_option maxRecDepth 8000 in
set_option maxHeartbeats 4000000 in
theorem assumes_3b (n : Int) (m : List Int) (N : Nat) (hN : (N : Int) = 2 * n) (hn : N ≤ 128) (hc : Cells N m) (av an bv bn : Int) (ha : av < n) (hb : bv < n) (h0 : av < 0) (h1 : 0 ≤ bv) (ia : I64 an) (ib : I64 bn) (A : Option Addr) (cap : Nat) (w : World) (B : Nat) (hB : B ≤ w.heap.size) (hx : Sx w B A m) (hm : m.length ≤ 17592186044416) :
    Calls Tryz.prog 59 #[.agg #[.int .i64 n, .bool false, .slice A m.length cap], .int .i64 3, .agg #[.int .i64 av, .int .i64 an], .agg #[.int .i64 bv, .int .i64 bn]] w (SxRes w B (closeO (atMostO (atMostO ⟨n, false, m⟩ av an bv bn false) bv bn av an false))) := by
  have HOK := hid (OkO.of_cells hN hn hc)
  have HN := hid hN
  have HAB := hid (And.intro ha hb)
  have t1 : decide (av < 0) = true := by rw [decide_eq_true_eq]; omega
  have t2 : decide (bv < 0) = false := by rw [decide_eq_false_iff_not]; omega
  clear hN ha hb
  obtain ⟨p0, p1, p2, p3, hb0, hsz⟩ := new_four w #[.int .i64 n, .bool false, .slice A m.length cap] #[.int .i64 av, .int .i64 an] #[.int .i64 bv, .int .i64 bn] #[.int .i64 0, .bool false, .slice none 0 0] 24 26 26 24
  replace hx := hx.later hb0 hB
  have HSZ := hid hsz
  clear hsz
  obtain ⟨p0_0, p0_1, p0_2, p0_f⟩ := octbox p0
  obtain ⟨p1_0, p1_1, p1_f⟩ := opbox p1
  obtain ⟨p2_0, p2_1, p2_f⟩ := opbox p2
  go_enter Tryz.func59, Tryz.ntmps59
  go_wp2_with fail
  clear p0_0 p0_1 p0_2 p0_f p1_0 p1_1 p1_f p2_0 p2_1 p2_f
  generalize (((w.alloc (Obj.cells #[.int .i64 n, .bool false, .slice A m.length cap] 24)).alloc (Obj.cells #[.int .i64 av, .int .i64 an] 26)).alloc (Obj.cells #[.int .i64 bv, .int .i64 bn] 26)).alloc (Obj.cells #[.int .i64 0, .bool false, .slice none 0 0] 24) = w1 at *
  have hB1 := Nat.le_trans hB hb0.size
  have hxr := hx.rd hB1
  have ok1 := OkO.atMost HOK.out (av := av) (an := an) (bv := bv) (bn := bn) (s := false) (by have := HAB.out; omega) (by have := HAB.out; omega) (by omega)
  have hm1 := OkO.small ok1
  have HAM := hid (fun W (h : Rd W W.heap.size A m) => atMost_ok n ⟨n, false, m⟩ HOK.out av an bv bn false (by have := HAB.out; omega) (by have := HAB.out; omega) (by omega) ia ib A cap W h hm)
  dsimp only at HAM
  generalize atMostO ⟨n, false, m⟩ av an bv bn false = q1 at *
  have f0 := laterE (show w1.cell? ⟨w.heap.size, 0, none⟩ = some (.int .i64 n) from p0.cell 0)
  have f1 := laterE (show w1.cell? ⟨w.heap.size, 1, none⟩ = some (.bool false) from p0.cell 1)
  have f2 := laterE (show w1.cell? ⟨w.heap.size, 2, none⟩ = some (.slice A m.length cap) from p0.cell 2)
  have j0 := laterE (show w1.cell? ⟨w.heap.size + 1, 0, none⟩ = some (.int .i64 av) from p1.cell 0)
  have j1 := laterE (show w1.cell? ⟨w.heap.size + 1, 1, none⟩ = some (.int .i64 an) from p1.cell 1)
  have l0 := laterE (show w1.cell? ⟨w.heap.size + 1 + 1, 0, none⟩ = some (.int .i64 bv) from p2.cell 0)
  have l1 := laterE (show w1.cell? ⟨w.heap.size + 1 + 1, 1, none⟩ = some (.int .i64 bn) from p2.cell 1)
  refine wp_region_flowE 6 [Sp.val (.agg #[.int .i64 n, .bool false, .slice A m.length cap]), Sp.val (.agg #[.int .i64 av, .int .i64 an]), Sp.val (.agg #[.int .i64 bv, .int .i64 bn]), Sp.any (IsAl A m q1), Sp.val (.agg #[.int .i64 bv, .int .i64 bn]), Sp.val (.agg #[.int .i64 av, .int .i64 an])] (by kernel_rfl) (by kernel_rfl) ?_
  (refine FlowE.take (by rfl) (fun W hW R hR => ?_) (fun _ _ => ?_); (go_simp; (try go_bits); with_reducible exact hR); simp only [Act.put, List.setIfInBounds_toArray, List.set_cons_zero, List.set_cons_succ])
  (refine FlowE.take (by rfl) (fun W hW R hR => ?_) (fun _ _ => ?_); (go_simp; (try go_bits); with_reducible exact hR); simp only [Act.put, List.setIfInBounds_toArray, List.set_cons_zero, List.set_cons_succ])
  (refine FlowE.take (by rfl) (fun W hW R hR => ?_) (fun _ _ => ?_); (go_simp; (try go_bits); with_reducible exact hR); simp only [Act.put, List.setIfInBounds_toArray, List.set_cons_zero, List.set_cons_succ])
  refine FlowE.call 123 #[.agg #[.int .i64 n, .bool false, .slice A m.length cap], .agg #[.int .i64 av, .int .i64 an], .agg #[.int .i64 bv, .int .i64 bn], .bool false] (by rfl) (fun W hW => by go_simp) (fun W hW => (HAM.out W (hxr.up (Ext.trans (Below.refl _ _).drew hW))).mono fun _ _ ⟨A1, c1, he, ho, hb⟩ => ⟨_, he, hb, A1, c1, rfl, ho⟩) (fun v3 l3 h3 => ?_)
  simp only [Act.put, List.setIfInBounds_toArray, List.set_cons_zero, List.set_cons_succ]
  (refine FlowE.take (by rfl) (fun W hW R hR => ?_) (fun _ _ => ?_); (go_simp; (try go_bits); with_reducible exact hR); simp only [Act.put, List.setIfInBounds_toArray, List.set_cons_zero, List.set_cons_succ])
  (refine FlowE.take (by rfl) (fun W hW R hR => ?_) (fun _ _ => ?_); (go_simp; (try go_bits); with_reducible exact hR); simp only [Act.put, List.setIfInBounds_toArray, List.set_cons_zero, List.set_cons_succ])
  refine FlowE.tail (fun W hW hf hd => ?_)
  replace hW : Below w1.heap.size w1 W := Ext.trans (Below.refl _ _).drew hW
  have hxW := hx.later hW hB1
  obtain ⟨A1, c1, rfl, sx1⟩ := fact_al (show Sp.fact w1.drew (Sp.any (IsAl A m q1)) v3 l3 h3 W from hf 3) hxW (show B ≤ w1.drew.heap.size from hB1)
  clear hf hd f0 f1 f2 j0 j1 l0 l1 hxr HAM hxW
  replace p0 := p0.later hW
  replace p1 := p1.later hW
  replace p2 := p2.later hW
  replace p3 := p3.later hW
  replace hx := hx.later hW (Nat.le_trans hB hb0.size)
  replace hb0 := bup hb0 hW
  clear hW hB1
  go_wp2_with fail
  have hB4 := Nat.le_trans hB hb0.size
  have ok2 := OkO.atMost ok1 (av := bv) (an := bn) (bv := av) (bn := an) (s := false) (by have := HAB.out; omega) (by have := HAB.out; omega) (by omega)
  have hm2 := OkO.small ok2
  have HX := hid (atMost_ok n q1 ok1 bv bn av an false (by have := HAB.out; omega) (by have := HAB.out; omega) (by omega) ib ia A1 c1 W (sx1.rd hB4) hm1)
  (try dsimp only at HX)
  (with_reducible refine HX.out.mono ?_)
  clear HX
  rintro e_w2 w2 ⟨A2, c2, rfl, al2, hb_w2⟩
  have sx2 := Sx.alias al2 sx1 hb_w2 hB4
  replace p0 := p0.later hb_w2
  replace p1 := p1.later hb_w2
  replace p2 := p2.later hb_w2
  replace p3 := p3.later hb_w2
  replace hx := hx.later hb_w2 (Nat.le_trans hB hb0.size)
  replace sx1 := sx1.later hb_w2 (Nat.le_trans hB hb0.size)
  replace hb0 := bup hb0 hb_w2
  generalize atMostO q1 bv bn av an false = q2 at *
  go_wp2_with fail
  have hB3 := Nat.le_trans hB hb0.size
  have HX := hid (tclosed_ok q2 ok2.ok A2 c2 w2 (sx2.rd hB3) hm2)
  (try dsimp only at HX)
  (with_reducible refine HX.out.mono ?_)
  clear HX
  rintro e_w3 w3 ⟨A3, c3, rfl, own3, hb_w3⟩
  have sx3 := Sx.of_own own3 hB3
  replace p0 := p0.later hb_w3
  replace p1 := p1.later hb_w3
  replace p2 := p2.later hb_w3
  replace p3 := p3.later hb_w3
  replace hx := hx.later hb_w3 (Nat.le_trans hB hb0.size)
  replace sx1 := sx1.later hb_w3 (Nat.le_trans hB hb0.size)
  replace sx2 := sx2.later hb_w3 (Nat.le_trans hB hb0.size)
  replace hb0 := bup hb0 hb_w3
  generalize closeO q2 = q3 at *
  obtain ⟨p3_0, p3_1, p3_2, p3_f⟩ := octbox p3
  go_wp2
  clear p3_0 p3_1 p3_2 p3_f
  have hBz := hb0.size
  have s9 := sx3.far3 (g := w.heap.size + 1 + 1 + 1) (v0 := .int .i64 q3.n) (v1 := .bool q3.e) (v2 := .slice A3 q3.m.length c3) (by omega) p3 (by decide)
  have q9 := p3.set3 (v0 := .int .i64 q3.n) (v1 := .bool q3.e) (v2 := .slice A3 q3.m.length c3)
  have hb9 := hb0.trans (below3 (W := w3) (g := w.heap.size + 1 + 1 + 1) (v0 := .int .i64 q3.n) (v1 := .bool q3.e) (v2 := .slice A3 q3.m.length c3) (by omega) hb0.size)
  obtain ⟨z0, z1, z2, fz⟩ := octbox q9
  refine bodyPost_ret (v := .agg #[.int .i64 q3.n, .bool q3.e, .slice A3 q3.m.length c3]) (by simp [results, Tryz.results59, go_sem, z0, z1, z2]) rfl ?_
  exact ⟨_, _, rfl, s9, hb9⟩

set_option maxRecDepth 8000 in
set_option maxHeartbeats 4000000 in
theorem assumes_nt (n : Int) (m : List Int) (N : Nat) (hN : (N : Int) = 2 * n) (hn : N ≤ 128) (hc : Cells N m) (op av an bv bn : Int) (ha : av < n) (hb : bv < n) (h0 : av < 0) (h1 : bv < 0) (hq : cmpB op an bn = true) (_ia : I64 an) (_ib : I64 bn) (A : Option Addr) (cap : Nat) (w : World) (B : Nat) (hB : B ≤ w.heap.size) (hx : Sx w B A m) (_hm : m.length ≤ 17592186044416) :
    Calls Tryz.prog 59 #[.agg #[.int .i64 n, .bool false, .slice A m.length cap], .int .i64 op, .agg #[.int .i64 av, .int .i64 an], .agg #[.int .i64 bv, .int .i64 bn]] w (SxRes w B (⟨n, false, m⟩)) := by
  have HOK := hid (OkO.of_cells hN hn hc)
  have HN := hid hN
  have HAB := hid (And.intro ha hb)
  have t1 : decide (av < 0) = true := by rw [decide_eq_true_eq]; omega
  have t2 : decide (bv < 0) = true := by rw [decide_eq_true_eq]; omega
  clear hN ha hb
  obtain ⟨p0, p1, p2, p3, hb0, hsz⟩ := new_four w #[.int .i64 n, .bool false, .slice A m.length cap] #[.int .i64 av, .int .i64 an] #[.int .i64 bv, .int .i64 bn] #[.int .i64 0, .bool false, .slice none 0 0] 24 26 26 24
  replace hx := hx.later hb0 hB
  have HSZ := hid hsz
  clear hsz
  obtain ⟨p0_0, p0_1, p0_2, p0_f⟩ := octbox p0
  obtain ⟨p1_0, p1_1, p1_f⟩ := opbox p1
  obtain ⟨p2_0, p2_1, p2_f⟩ := opbox p2
  go_enter Tryz.func59, Tryz.ntmps59
  have HC := hid (fun W => ncmp_any op an bn W)
  rw [hq] at HC
  clear hq
  go_wp2_with fail
  clear p0_0 p0_1 p0_2 p0_f p1_0 p1_1 p1_f p2_0 p2_1 p2_f
  generalize (((w.alloc (Obj.cells #[.int .i64 n, .bool false, .slice A m.length cap] 24)).alloc (Obj.cells #[.int .i64 av, .int .i64 an] 26)).alloc (Obj.cells #[.int .i64 bv, .int .i64 bn] 26)).alloc (Obj.cells #[.int .i64 0, .bool false, .slice none 0 0] 24) = w1 at *
  have hB1 := Nat.le_trans hB hb0.size
  (with_reducible refine (HC.out w1).mono ?_)
  rintro e_w2 w2 ⟨rfl, hb_w2⟩
  replace p0 := p0.later hb_w2
  replace p1 := p1.later hb_w2
  replace p2 := p2.later hb_w2
  replace p3 := p3.later hb_w2
  replace hx := hx.later hb_w2 (Nat.le_trans hB hb0.size)
  replace hb0 := bup hb0 hb_w2
  obtain ⟨p0_0, p0_1, p0_2, p0_f⟩ := octbox p0
  obtain ⟨p3_0, p3_1, p3_2, p3_f⟩ := octbox p3
  go_wp2
  clear p0_0 p0_1 p0_2 p0_f p3_0 p3_1 p3_2 p3_f
  have hBz := hb0.size
  have s9 := hx.far3 (g := w.heap.size + 1 + 1 + 1) (v0 := .int .i64 n) (v1 := .bool false) (v2 := .slice A m.length cap) (by omega) p3 (by decide)
  have q9 := p3.set3 (v0 := .int .i64 n) (v1 := .bool false) (v2 := .slice A m.length cap)
  have hb9 := hb0.trans (below3 (W := w2) (g := w.heap.size + 1 + 1 + 1) (v0 := .int .i64 n) (v1 := .bool false) (v2 := .slice A m.length cap) (by omega) hb0.size)
  obtain ⟨z0, z1, z2, fz⟩ := octbox q9
  refine bodyPost_ret (v := .agg #[.int .i64 n, .bool false, .slice A m.length cap]) (by simp [results, Tryz.results59, go_sem, z0, z1, z2]) rfl ?_
  exact ⟨_, _, rfl, s9, hb9⟩

set_option maxRecDepth 8000 in
set_option maxHeartbeats 4000000 in
theorem assumes_nf (n : Int) (m : List Int) (N : Nat) (hN : (N : Int) = 2 * n) (hn : N ≤ 128) (hc : Cells N m) (op av an bv bn : Int) (ha : av < n) (hb : bv < n) (h0 : av < 0) (h1 : bv < 0) (hq : cmpB op an bn = false) (_ia : I64 an) (_ib : I64 bn) (A : Option Addr) (cap : Nat) (w : World) (B : Nat) (hB : B ≤ w.heap.size) (hx : Sx w B A m) (_hm : m.length ≤ 17592186044416) :
    Calls Tryz.prog 59 #[.agg #[.int .i64 n, .bool false, .slice A m.length cap], .int .i64 op, .agg #[.int .i64 av, .int .i64 an], .agg #[.int .i64 bv, .int .i64 bn]] w (SxRes w B (emptyO n)) := by
  have HOK := hid (OkO.of_cells hN hn hc)
  have HN := hid hN
  have HAB := hid (And.intro ha hb)
  have t1 : decide (av < 0) = true := by rw [decide_eq_true_eq]; omega
  have t2 : decide (bv < 0) = true := by rw [decide_eq_true_eq]; omega
  clear hN ha hb
  obtain ⟨p0, p1, p2, p3, hb0, hsz⟩ := new_four w #[.int .i64 n, .bool false, .slice A m.length cap] #[.int .i64 av, .int .i64 an] #[.int .i64 bv, .int .i64 bn] #[.int .i64 0, .bool false, .slice none 0 0] 24 26 26 24
  replace hx := hx.later hb0 hB
  have HSZ := hid hsz
  clear hsz
  obtain ⟨p0_0, p0_1, p0_2, p0_f⟩ := octbox p0
  obtain ⟨p1_0, p1_1, p1_f⟩ := opbox p1
  obtain ⟨p2_0, p2_1, p2_f⟩ := opbox p2
  go_enter Tryz.func59, Tryz.ntmps59
  have HC := hid (fun W => ncmp_any op an bn W)
  rw [hq] at HC
  clear hq
  go_wp2_with fail
  clear p0_0 p0_1 p0_2 p0_f p1_0 p1_1 p1_f p2_0 p2_1 p2_f
  generalize (((w.alloc (Obj.cells #[.int .i64 n, .bool false, .slice A m.length cap] 24)).alloc (Obj.cells #[.int .i64 av, .int .i64 an] 26)).alloc (Obj.cells #[.int .i64 bv, .int .i64 bn] 26)).alloc (Obj.cells #[.int .i64 0, .bool false, .slice none 0 0] 24) = w1 at *
  have hB1 := Nat.le_trans hB hb0.size
  (with_reducible refine (HC.out w1).mono ?_)
  rintro e_w2 w2 ⟨rfl, hb_w2⟩
  replace p0 := p0.later hb_w2
  replace p1 := p1.later hb_w2
  replace p2 := p2.later hb_w2
  replace p3 := p3.later hb_w2
  replace hx := hx.later hb_w2 (Nat.le_trans hB hb0.size)
  replace hb0 := bup hb0 hb_w2
  obtain ⟨p0_0, p0_1, p0_2, p0_f⟩ := octbox p0
  go_wp2_with fail
  clear p0_0 p0_1 p0_2 p0_f
  have hB3 := Nat.le_trans hB hb0.size
  (with_reducible refine (tempty_ok n w2 (by have := HN.out; omega) (by have := HN.out; omega)).mono ?_)
  rintro e_w3 w3 ⟨A3, c3, rfl, own3, hb_w3⟩
  have sx3 := Sx.of_own own3 hB3
  replace p0 := p0.later hb_w3
  replace p1 := p1.later hb_w3
  replace p2 := p2.later hb_w3
  replace p3 := p3.later hb_w3
  replace hx := hx.later hb_w3 (Nat.le_trans hB hb0.size)
  replace hb0 := bup hb0 hb_w3
  generalize emptyO n = q3 at *
  obtain ⟨p3_0, p3_1, p3_2, p3_f⟩ := octbox p3
  go_wp2
  clear p3_0 p3_1 p3_2 p3_f
  have hBz := hb0.size
  have s9 := sx3.far3 (g := w.heap.size + 1 + 1 + 1) (v0 := .int .i64 q3.n) (v1 := .bool q3.e) (v2 := .slice A3 q3.m.length c3) (by omega) p3 (by decide)
  have q9 := p3.set3 (v0 := .int .i64 q3.n) (v1 := .bool q3.e) (v2 := .slice A3 q3.m.length c3)
  have hb9 := hb0.trans (below3 (W := w3) (g := w.heap.size + 1 + 1 + 1) (v0 := .int .i64 q3.n) (v1 := .bool q3.e) (v2 := .slice A3 q3.m.length c3) (by omega) hb0.size)
  obtain ⟨z0, z1, z2, fz⟩ := octbox q9
  refine bodyPost_ret (v := .agg #[.int .i64 q3.n, .bool q3.e, .slice A3 q3.m.length c3]) (by simp [results, Tryz.results59, go_sem, z0, z1, z2]) rfl ?_
  exact ⟨_, _, rfl, s9, hb9⟩

theorem assumes_ok (n : Int) (m : List Int) (N : Nat) (hN : (N : Int) = 2 * n) (hn : N ≤ 128) (hc : Cells N m) (op av an bv bn : Int) (hop : 1 ≤ op ∧ op ≤ 6) (ha : av < n) (hb : bv < n) (ia : I64 an) (ib : I64 bn) (A : Option Addr) (cap : Nat) (w : World) (B : Nat) (hB : B ≤ w.heap.size) (hx : Sx w B A m) (hm : m.length ≤ 17592186044416) :
    Calls Tryz.prog 59 #[.agg #[.int .i64 n, .bool false, .slice A m.length cap], .int .i64 op, .agg #[.int .i64 av, .int .i64 an], .agg #[.int .i64 bv, .int .i64 bn]] w (SxRes w B (assumesO ⟨n, false, m⟩ op av an bv bn)) := by
  unfold assumesO
  by_cases h : av < 0 ∧ bv < 0
  · rw [if_pos h]
    cases hq : cmpB op an bn
    · rw [if_neg (by simp)]
      exact assumes_nf n m N hN hn hc op av an bv bn ha hb h.1 h.2 hq ia ib A cap w B hB hx hm
    · rw [if_pos rfl]
      exact assumes_nt n m N hN hn hc op av an bv bn ha hb h.1 h.2 hq ia ib A cap w B hB hx hm
  · rw [if_neg h]
    by_cases h0 : 0 ≤ av
    · obtain rfl | rfl | rfl | rfl | rfl | rfl : op = 1 ∨ op = 2 ∨ op = 3 ∨ op = 4 ∨ op = 5 ∨ op = 6 := by omega
      · exact assumes_1a n m N hN hn hc av an bv bn ha hb h0 ia ib A cap w B hB hx hm
      · exact assumes_2a n m N hN hn hc av an bv bn ha hb h0 ia ib A cap w B hB hx hm
      · exact assumes_3a n m N hN hn hc av an bv bn ha hb h0 ia ib A cap w B hB hx hm
      · exact assumes_4a n m N hN hn hc av an bv bn ha hb h0 ia ib A cap w B hB hx hm
      · exact assumes_5a n m N hN hn hc av an bv bn ha hb h0 ia ib A cap w B hB hx hm
      · exact assumes_6a n m N hN hn hc av an bv bn ha hb h0 ia ib A cap w B hB hx hm
    · obtain rfl | rfl | rfl | rfl | rfl | rfl : op = 1 ∨ op = 2 ∨ op = 3 ∨ op = 4 ∨ op = 5 ∨ op = 6 := by omega
      · exact assumes_1b n m N hN hn hc av an bv bn ha hb (by omega) (by omega) ia ib A cap w B hB hx hm
      · exact assumes_2b n m N hN hn hc av an bv bn ha hb (by omega) (by omega) ia ib A cap w B hB hx hm
      · exact assumes_3b n m N hN hn hc av an bv bn ha hb (by omega) (by omega) ia ib A cap w B hB hx hm
      · exact assumes_4b n m N hN hn hc av an bv bn ha hb (by omega) (by omega) ia ib A cap w B hB hx hm
      · exact assumes_5b n m N hN hn hc av an bv bn ha hb (by omega) (by omega) ia ib A cap w B hB hx hm
      · exact assumes_6b n m N hN hn hc av an bv bn ha hb (by omega) (by omega) ia ib A cap w B hB hx hm
end Go.Proofs.YtnmpgijiimglcaaGreat
