import Derived.Test.YtnmpgijiimglcaaGreatBSe17
import Derived.Test.YtnmpgijiimglcaaGreatBSe19
import Derived.Test.YtnmpgijiimglcaaGreatBSe02
import Derived.Test.YtnmpgijiimglcaaGreatBSe08
import Derived.Test.YtnmpgijiimglcaaGreatBSe09
import Derived.Test.YtnmpgijiimglcaaGreatBSe06
import Derived.Test.YtnmpgijiimglcaaGreatBSe11
namespace Go.Proofs.YtnmpgijiimglcaaGreat
set_option maxRecDepth 100000
set_option maxHeartbeats 8000000
section

end
section

end
section
open Go.RowKit
attribute [local go_sem ↓] Go.wp_at_zero Go.wp_at_succ
def IsAl (A : Option Addr) (m : List Int) (o : O) (v : Value) (wa wb : World) : Prop := ∃ A1 c1, v = .agg #[o.n, o.e, .slice A1 o.m.length c1] ∧ ((A1 = A ∧ o.m = m) ∨ Own wb wa.heap.size A1 c1 o.m)
theorem zkp {w0 W : World} {A : Option Addr} {m : List Int} {o : O} {v : Value} {lo hi B : Nat} (h : Sp.fact w0 (Sp.any (IsAl A m o)) v lo hi W) (hx : Sx W B A m) (hB : B ≤ w0.heap.size) :
  ∃ A1 c1, v = .agg #[o.n, o.e, .slice A1 o.m.length c1] ∧ Sx W B A1 o.m := by
 obtain ⟨wa, wb, h1, _, h3, _, _, A1, c1, h6, h7⟩ := h
 refine ⟨A1, c1, h6, ?_⟩
 rcases h7 with ⟨rfl, hm⟩ | h7
 ·rw [hm]; exact hx
 ·exact .inr ⟨c1, (h7.below h3).less (Nat.le_trans hB h1.size)⟩
theorem zea (op : Int) (s : Bool) (hos : op = 1 ∧ s = true ∨ op = 2 ∧ s = false) (n : Int) (m : List Int) (N : Nat) (hN : (N : Int) = 2 * n) (hn : N ≤ 128) (hc : Cells N m) (av an bv bn : Int) (ha : av < n) (hb : bv < n) (h0 : 0 ≤ av ∨ 0 ≤ bv) (ia : I64 an) (ib : I64 bn) (A : Option Addr) (cap : Nat) (w : World) (B : Nat) (hB : B ≤ w.heap.size) (hx : Sx w B A m) (hm : m.length ≤ 17592186044416) :
  Calls Tryz.prog 59 #[.agg #[n, false, .slice A m.length cap], op, .agg #[av, an], .agg #[bv, bn]] w (zar w B (closeO (atMostO ⟨n, false, m⟩ av an bv bn s))) := by
 have c4 := hid (OkO.of_cells hN hn hc)
 have HN := hid hN
 have a7 := hid (And.intro ha hb)
 have t12 : decide (av < 0) = false ∨ (decide (av < 0) = true ∧ decide (bv < 0) = false) := by
  by_cases q : 0 ≤ av
  ·left; rw [decide_eq_false_iff_not]; omega
  ·right; rw [decide_eq_true_eq, decide_eq_false_iff_not]; omega
 clear hN ha hb
 obtain ⟨p0, p1, p2, p3, a2, c0⟩ := zax w #[n, false, .slice A m.length cap] #[av, an] #[bv, bn] #[.int .i64 0, false, .slice none 0 0] 24 26 26 24
 replace hx := hx.later a2 hB
 have d1 := hid c0
 clear c0
 have a4 := zaa p0
 obtain ⟨b4, b7, b5⟩ := zai p1
 obtain ⟨b2, b3, b0⟩ := zai p2
 have c7 := hid (fun W (h : Rd W W.heap.size A m) => zaZ n ⟨n, false, m⟩ c4.out av an bv bn s (by have := a7.out; omega) (by have := a7.out; omega) (by omega) ia ib A cap W h hm)
 (try dsimp only at c7)
 have ok1 := OkO.atMost c4.out (av := av) (an := an) (bv := bv) (bn := bn) (s := s) (by have := a7.out; omega) (by have := a7.out; omega) (by omega)
 have d0 := OkO.small ok1
 generalize atMostO ⟨n, false, m⟩ av an bv bn s = q1 at *
 rcases hos with ⟨rfl, rfl⟩ | ⟨rfl, rfl⟩ <;> rcases t12 with t1 | ⟨t1, t2⟩
 all_goals
  go_enter Tryz.func59, Tryz.ntmps59
  go_wp2_with fail
  clear a4 b4 b7 b5 b2 b3 b0
  generalize (((w.alloc (Obj.cells #[n, false, .slice A m.length cap] 24)).alloc (Obj.cells #[av, an] 26)).alloc (Obj.cells #[bv, bn] 26)).alloc (Obj.cells #[.int .i64 0, false, .slice none 0 0] 24) = w1 at *
  have hB1 := Nat.le_trans hB a2.size
  have HX := hid (c7.out w1 (hx.rd hB1))
  (try dsimp only at HX)
  (with_reducible refine HX.out.mono ?_)
  clear HX
  rintro c5 w2 ⟨A1, c1, rfl, al1, a0⟩
  have b9 := Sx.alias al1 hx a0 hB1
  replace p0 := p0.later a0
  replace p1 := p1.later a0
  replace p2 := p2.later a0
  replace p3 := p3.later a0
  replace hx := hx.later a0 (Nat.le_trans hB a2.size)
  replace a2 := bup a2 a0
  go_wp2_with fail
  have hB3 := Nat.le_trans hB a2.size
  have HX := hid (zaT q1 ok1.ok A1 c1 w2 (b9.rd hB3) d0)
  (try dsimp only at HX)
  (with_reducible refine HX.out.mono ?_)
  clear HX
  rintro c9 w3 ⟨A3, c3, rfl, b8, a1⟩
  have c8 := Sx.of_own b8 hB3
  replace p0 := p0.later a1
  replace p1 := p1.later a1
  replace p2 := p2.later a1
  replace p3 := p3.later a1
  replace hx := hx.later a1 (Nat.le_trans hB a2.size)
  replace b9 := b9.later a1 (Nat.le_trans hB a2.size)
  replace a2 := bup a2 a1
  generalize closeO q1 = q3 at *
  have b6 := zaa p3
  go_wp2
  clear b6
  have hBz := a2.size
  have s9 := c8.far3 (g := w.heap.size + 1 + 1 + 1) (v0 := .int .i64 q3.n) (v1 := .bool q3.e) (v2 := .slice A3 q3.m.length c3) (by omega) p3 (by decide)
  have q9 := p3.set3 (v0 := .int .i64 q3.n) (v1 := .bool q3.e) (v2 := .slice A3 q3.m.length c3)
  have c6 := a2.trans (zah (W := w3) (g := w.heap.size + 1 + 1 + 1) (v0 := .int .i64 q3.n) (v1 := .bool q3.e) (v2 := .slice A3 q3.m.length c3) (by omega) a2.size)
  obtain ⟨z0, z1, z2, fz⟩ := zaa q9
  refine bodyPost_ret (v := .agg #[q3.n, q3.e, .slice A3 q3.m.length c3]) (by simp [results, Tryz.results59, go_sem, z0, z1, z2]) rfl ?_
  exact ⟨_, _, rfl, s9, c6⟩
theorem zeb (op : Int) (s : Bool) (hos : op = 5 ∧ s = true ∨ op = 6 ∧ s = false) (n : Int) (m : List Int) (N : Nat) (hN : (N : Int) = 2 * n) (hn : N ≤ 128) (hc : Cells N m) (av an bv bn : Int) (ha : av < n) (hb : bv < n) (h0 : 0 ≤ av ∨ 0 ≤ bv) (ia : I64 an) (ib : I64 bn) (A : Option Addr) (cap : Nat) (w : World) (B : Nat) (hB : B ≤ w.heap.size) (hx : Sx w B A m) (hm : m.length ≤ 17592186044416) :
  Calls Tryz.prog 59 #[.agg #[n, false, .slice A m.length cap], op, .agg #[av, an], .agg #[bv, bn]] w (zar w B (closeO (atMostO ⟨n, false, m⟩ bv bn av an s))) := by
 have c4 := hid (OkO.of_cells hN hn hc)
 have HN := hid hN
 have a7 := hid (And.intro ha hb)
 have t12 : decide (av < 0) = false ∨ (decide (av < 0) = true ∧ decide (bv < 0) = false) := by
  by_cases q : 0 ≤ av
  ·left; rw [decide_eq_false_iff_not]; omega
  ·right; rw [decide_eq_true_eq, decide_eq_false_iff_not]; omega
 clear hN ha hb
 obtain ⟨k0, k1, k2, k3, hbk, d5⟩ := zax w #[n, false, .slice A m.length cap] #[av, an] #[bv, bn] #[.int .i64 0, false, .slice none 0 0] 24 26 26 24
 have d8 := zaa k0
 obtain ⟨d7, d4, d2⟩ := zai k1
 obtain ⟨e0, d9, e3⟩ := zai k2
 obtain ⟨p0, p1, p2, p3, a2, c0⟩ := zax w #[n, false, .slice A m.length cap] #[bv, bn] #[av, an] #[.int .i64 0, false, .slice none 0 0] 24 26 26 24
 replace hx := hx.later a2 hB
 have d1 := hid c0
 clear c0
 have a4 := zaa p0
 obtain ⟨b4, b7, b5⟩ := zai p1
 obtain ⟨b2, b3, b0⟩ := zai p2
 have c7 := hid (fun W (h : Rd W W.heap.size A m) => zaZ n ⟨n, false, m⟩ c4.out bv bn av an s (by have := a7.out; omega) (by have := a7.out; omega) (by omega) ib ia A cap W h hm)
 (try dsimp only at c7)
 have ok1 := OkO.atMost c4.out (av := bv) (an := bn) (bv := av) (bn := an) (s := s) (by have := a7.out; omega) (by have := a7.out; omega) (by omega)
 have d0 := OkO.small ok1
 generalize atMostO ⟨n, false, m⟩ bv bn av an s = q1 at *
 rcases hos with ⟨rfl, rfl⟩ | ⟨rfl, rfl⟩ <;> rcases t12 with t1 | ⟨t1, t2⟩
 all_goals
  go_enter Tryz.func59, Tryz.ntmps59
  go_wp2_with fail
  clear a4 b4 b7 b5 b2 b3 b0 k0 k1 k2 k3 hbk d5 d8 d7 d4 d2 e0 d9 e3
  generalize (((w.alloc (Obj.cells #[n, false, .slice A m.length cap] 24)).alloc (Obj.cells #[bv, bn] 26)).alloc (Obj.cells #[av, an] 26)).alloc (Obj.cells #[.int .i64 0, false, .slice none 0 0] 24) = w1 at *
  have hB1 := Nat.le_trans hB a2.size
  have HX := hid (c7.out w1 (hx.rd hB1))
  (try dsimp only at HX)
  (with_reducible refine HX.out.mono ?_)
  clear HX
  rintro c5 w2 ⟨A1, c1, rfl, al1, a0⟩
  have b9 := Sx.alias al1 hx a0 hB1
  replace p0 := p0.later a0
  replace p1 := p1.later a0
  replace p2 := p2.later a0
  replace p3 := p3.later a0
  replace hx := hx.later a0 (Nat.le_trans hB a2.size)
  replace a2 := bup a2 a0
  go_wp2_with fail
  have hB3 := Nat.le_trans hB a2.size
  have HX := hid (zaT q1 ok1.ok A1 c1 w2 (b9.rd hB3) d0)
  (try dsimp only at HX)
  (with_reducible refine HX.out.mono ?_)
  clear HX
  rintro c9 w3 ⟨A3, c3, rfl, b8, a1⟩
  have c8 := Sx.of_own b8 hB3
  replace p0 := p0.later a1
  replace p1 := p1.later a1
  replace p2 := p2.later a1
  replace p3 := p3.later a1
  replace hx := hx.later a1 (Nat.le_trans hB a2.size)
  replace b9 := b9.later a1 (Nat.le_trans hB a2.size)
  replace a2 := bup a2 a1
  generalize closeO q1 = q3 at *
  have b6 := zaa p3
  go_wp2
  clear b6
  have hBz := a2.size
  have s9 := c8.far3 (g := w.heap.size + 1 + 1 + 1) (v0 := .int .i64 q3.n) (v1 := .bool q3.e) (v2 := .slice A3 q3.m.length c3) (by omega) p3 (by decide)
  have q9 := p3.set3 (v0 := .int .i64 q3.n) (v1 := .bool q3.e) (v2 := .slice A3 q3.m.length c3)
  have c6 := a2.trans (zah (W := w3) (g := w.heap.size + 1 + 1 + 1) (v0 := .int .i64 q3.n) (v1 := .bool q3.e) (v2 := .slice A3 q3.m.length c3) (by omega) a2.size)
  obtain ⟨z0, z1, z2, fz⟩ := zaa q9
  refine bodyPost_ret (v := .agg #[q3.n, q3.e, .slice A3 q3.m.length c3]) (by simp [results, Tryz.results59, go_sem, z0, z1, z2]) rfl ?_
  exact ⟨_, _, rfl, s9, c6⟩
theorem zie (n : Int) (m : List Int) (N : Nat) (hN : (N : Int) = 2 * n) (hn : N ≤ 128) (hc : Cells N m) (av an bv bn : Int) (ha : av < n) (hb : bv < n) (h0 : 0 ≤ av ∨ 0 ≤ bv) (ia : I64 an) (ib : I64 bn) (A : Option Addr) (cap : Nat) (w : World) (B : Nat) (hB : B ≤ w.heap.size) (hx : Sx w B A m) (hm : m.length ≤ 17592186044416) :
  Calls Tryz.prog 59 #[.agg #[n, false, .slice A m.length cap], .int .i64 4, .agg #[av, an], .agg #[bv, bn]] w (zar w B (closeO (unlikeO ⟨n, false, m⟩ av an bv bn))) := by
 have c4 := hid (OkO.of_cells hN hn hc)
 have HN := hid hN
 have a7 := hid (And.intro ha hb)
 have t12 : decide (av < 0) = false ∨ (decide (av < 0) = true ∧ decide (bv < 0) = false) := by
  by_cases q : 0 ≤ av
  ·left; rw [decide_eq_false_iff_not]; omega
  ·right; rw [decide_eq_true_eq, decide_eq_false_iff_not]; omega
 clear hN ha hb
 obtain ⟨p0, p1, p2, p3, a2, c0⟩ := zax w #[n, false, .slice A m.length cap] #[av, an] #[bv, bn] #[.int .i64 0, false, .slice none 0 0] 24 26 26 24
 replace hx := hx.later a2 hB
 have d1 := hid c0
 clear c0
 have a4 := zaa p0
 obtain ⟨b4, b7, b5⟩ := zai p1
 obtain ⟨b2, b3, b0⟩ := zai p2
 rcases t12 with t1 | ⟨t1, t2⟩
 all_goals
  go_enter Tryz.func59, Tryz.ntmps59
  go_wp2_with fail
  clear a4 b4 b7 b5 b2 b3 b0
  generalize (((w.alloc (Obj.cells #[n, false, .slice A m.length cap] 24)).alloc (Obj.cells #[av, an] 26)).alloc (Obj.cells #[bv, bn] 26)).alloc (Obj.cells #[.int .i64 0, false, .slice none 0 0] 24) = w1 at *
  have hB1 := Nat.le_trans hB a2.size
  have HX := hid (ziC n m N HN.out hn hc av an bv bn (by have := a7.out; omega) (by have := a7.out; omega) (by omega) ia ib A cap w1 B hB1 hx hm)
  (try dsimp only at HX)
  (with_reducible refine HX.out.mono ?_)
  clear HX
  rintro c5 w2 ⟨A1, c1, rfl, b9, a0⟩
  replace p0 := p0.later a0
  replace p1 := p1.later a0
  replace p2 := p2.later a0
  replace p3 := p3.later a0
  replace hx := hx.later a0 (Nat.le_trans hB a2.size)
  replace a2 := bup a2 a0
  have ok1 := OkO.unlike c4.out (av := av) (an := an) (bv := bv) (bn := bn) (by have := a7.out; omega) (by have := a7.out; omega) (by omega)
  have d0 := OkO.small ok1
  generalize unlikeO ⟨n, false, m⟩ av an bv bn = q1 at *
  go_wp2_with fail
  have hB3 := Nat.le_trans hB a2.size
  have HX := hid (zaT q1 ok1.ok A1 c1 w2 (b9.rd hB3) d0)
  (try dsimp only at HX)
  (with_reducible refine HX.out.mono ?_)
  clear HX
  rintro c9 w3 ⟨A3, c3, rfl, b8, a1⟩
  have c8 := Sx.of_own b8 hB3
  replace p0 := p0.later a1
  replace p1 := p1.later a1
  replace p2 := p2.later a1
  replace p3 := p3.later a1
  replace hx := hx.later a1 (Nat.le_trans hB a2.size)
  replace b9 := b9.later a1 (Nat.le_trans hB a2.size)
  replace a2 := bup a2 a1
  generalize closeO q1 = q3 at *
  have b6 := zaa p3
  go_wp2
  clear b6
  have hBz := a2.size
  have s9 := c8.far3 (g := w.heap.size + 1 + 1 + 1) (v0 := .int .i64 q3.n) (v1 := .bool q3.e) (v2 := .slice A3 q3.m.length c3) (by omega) p3 (by decide)
  have q9 := p3.set3 (v0 := .int .i64 q3.n) (v1 := .bool q3.e) (v2 := .slice A3 q3.m.length c3)
  have c6 := a2.trans (zah (W := w3) (g := w.heap.size + 1 + 1 + 1) (v0 := .int .i64 q3.n) (v1 := .bool q3.e) (v2 := .slice A3 q3.m.length c3) (by omega) a2.size)
  obtain ⟨z0, z1, z2, fz⟩ := zaa q9
  refine bodyPost_ret (v := .agg #[q3.n, q3.e, .slice A3 q3.m.length c3]) (by simp [results, Tryz.results59, go_sem, z0, z1, z2]) rfl ?_
  exact ⟨_, _, rfl, s9, c6⟩
theorem ziq (n : Int) (m : List Int) (N : Nat) (hN : (N : Int) = 2 * n) (hn : N ≤ 128) (hc : Cells N m) (av an bv bn : Int) (ha : av < n) (hb : bv < n) (h0 : 0 ≤ av ∨ 0 ≤ bv) (ia : I64 an) (ib : I64 bn) (A : Option Addr) (cap : Nat) (w : World) (B : Nat) (hB : B ≤ w.heap.size) (hx : Sx w B A m) (hm : m.length ≤ 17592186044416) :
  Calls Tryz.prog 59 #[.agg #[n, false, .slice A m.length cap], .int .i64 3, .agg #[av, an], .agg #[bv, bn]] w (zar w B (closeO (atMostO (atMostO ⟨n, false, m⟩ av an bv bn false) bv bn av an false))) := by
 have c4 := hid (OkO.of_cells hN hn hc)
 have HN := hid hN
 have a7 := hid (And.intro ha hb)
 have t12 : decide (av < 0) = false ∨ (decide (av < 0) = true ∧ decide (bv < 0) = false) := by
  by_cases q : 0 ≤ av
  ·left; rw [decide_eq_false_iff_not]; omega
  ·right; rw [decide_eq_true_eq, decide_eq_false_iff_not]; omega
 clear hN ha hb
 obtain ⟨p0, p1, p2, p3, a2, c0⟩ := zax w #[n, false, .slice A m.length cap] #[av, an] #[bv, bn] #[.int .i64 0, false, .slice none 0 0] 24 26 26 24
 replace hx := hx.later a2 hB
 have d1 := hid c0
 clear c0
 have a4 := zaa p0
 obtain ⟨b4, b7, b5⟩ := zai p1
 obtain ⟨b2, b3, b0⟩ := zai p2
 rcases t12 with t1 | ⟨t1, t2⟩
 all_goals
  go_enter Tryz.func59, Tryz.ntmps59
  go_wp2_with fail
  clear a4 b4 b7 b5 b2 b3 b0
  generalize (((w.alloc (Obj.cells #[n, false, .slice A m.length cap] 24)).alloc (Obj.cells #[av, an] 26)).alloc (Obj.cells #[bv, bn] 26)).alloc (Obj.cells #[.int .i64 0, false, .slice none 0 0] 24) = w1 at *
  have hB1 := Nat.le_trans hB a2.size
  have hxr := hx.rd hB1
  have ok1 := OkO.atMost c4.out (av := av) (an := an) (bv := bv) (bn := bn) (s := false) (by have := a7.out; omega) (by have := a7.out; omega) (by omega)
  have d0 := OkO.small ok1
  have c7 := hid (fun W (h : Rd W W.heap.size A m) => zaZ n ⟨n, false, m⟩ c4.out av an bv bn false (by have := a7.out; omega) (by have := a7.out; omega) (by omega) ia ib A cap W h hm)
  dsimp only at c7
  generalize atMostO ⟨n, false, m⟩ av an bv bn false = q1 at *
  have f0 := zab (show w1.cell? ⟨w.heap.size, 0, none⟩ = some (.int .i64 n) from p0.cell 0)
  have f1 := zab (show w1.cell? ⟨w.heap.size, 1, none⟩ = some (.bool false) from p0.cell 1)
  have f2 := zab (show w1.cell? ⟨w.heap.size, 2, none⟩ = some (.slice A m.length cap) from p0.cell 2)
  have j0 := zab (show w1.cell? ⟨w.heap.size + 1, 0, none⟩ = some (.int .i64 av) from p1.cell 0)
  have j1 := zab (show w1.cell? ⟨w.heap.size + 1, 1, none⟩ = some (.int .i64 an) from p1.cell 1)
  have l0 := zab (show w1.cell? ⟨w.heap.size + 1 + 1, 0, none⟩ = some (.int .i64 bv) from p2.cell 0)
  have l1 := zab (show w1.cell? ⟨w.heap.size + 1 + 1, 1, none⟩ = some (.int .i64 bn) from p2.cell 1)
  refine zac 6 [Sp.val (.agg #[n, false, .slice A m.length cap]), Sp.val (.agg #[av, an]), Sp.val (.agg #[bv, bn]), Sp.any (IsAl A m q1), Sp.val (.agg #[bv, bn]), Sp.val (.agg #[av, an])] (by kernel_rfl) (by kernel_rfl) ?_
  (refine fe_t (fun _ _ => ?_))
  (refine fe_t (fun _ _ => ?_))
  (refine fe_t (fun _ _ => ?_))
  refine zaf.call 123 #[.agg #[n, false, .slice A m.length cap], .agg #[av, an], .agg #[bv, bn], false] (by rfl) (fun W hW => by go_simp) (fun W hW => (c7.out W (hxr.up (Ext.trans (Below.refl _ _).drew hW))).mono fun _ _ ⟨A1, c1, he, ho, hb⟩ => ⟨_, he, hb, A1, c1, rfl, ho⟩) (fun v3 l3 h3 => ?_)
  refine fe_p ?_
  (refine fe_t (fun _ _ => ?_))
  (refine fe_t (fun _ _ => ?_))
  refine zaf.tail (fun W hW hf hd => ?_)
  replace hW : Below w1.heap.size w1 W := Ext.trans (Below.refl _ _).drew hW
  have hxW := hx.later hW hB1
  obtain ⟨A1, c1, rfl, b9⟩ := zkp (show Sp.fact w1.drew (Sp.any (IsAl A m q1)) v3 l3 h3 W from hf 3) hxW (show B ≤ w1.drew.heap.size from hB1)
  clear hf hd f0 f1 f2 j0 j1 l0 l1 hxr c7 hxW
  replace p0 := p0.later hW
  replace p1 := p1.later hW
  replace p2 := p2.later hW
  replace p3 := p3.later hW
  replace hx := hx.later hW (Nat.le_trans hB a2.size)
  replace a2 := bup a2 hW
  clear hW hB1
  go_wp2_with fail
  have hB4 := Nat.le_trans hB a2.size
  have ok2 := OkO.atMost ok1 (av := bv) (an := bn) (bv := av) (bn := an) (s := false) (by have := a7.out; omega) (by have := a7.out; omega) (by omega)
  have hm2 := OkO.small ok2
  have HX := hid (zaZ n q1 ok1 bv bn av an false (by have := a7.out; omega) (by have := a7.out; omega) (by omega) ib ia A1 c1 W (b9.rd hB4) d0)
  (try dsimp only at HX)
  (with_reducible refine HX.out.mono ?_)
  clear HX
  rintro c5 w2 ⟨A2, c2, rfl, al2, a0⟩
  have d6 := Sx.alias al2 b9 a0 hB4
  replace p0 := p0.later a0
  replace p1 := p1.later a0
  replace p2 := p2.later a0
  replace p3 := p3.later a0
  replace hx := hx.later a0 (Nat.le_trans hB a2.size)
  replace b9 := b9.later a0 (Nat.le_trans hB a2.size)
  replace a2 := bup a2 a0
  generalize atMostO q1 bv bn av an false = q2 at *
  go_wp2_with fail
  have hB3 := Nat.le_trans hB a2.size
  have HX := hid (zaT q2 ok2.ok A2 c2 w2 (d6.rd hB3) hm2)
  (try dsimp only at HX)
  (with_reducible refine HX.out.mono ?_)
  clear HX
  rintro c9 w3 ⟨A3, c3, rfl, b8, a1⟩
  have c8 := Sx.of_own b8 hB3
  replace p0 := p0.later a1
  replace p1 := p1.later a1
  replace p2 := p2.later a1
  replace p3 := p3.later a1
  replace hx := hx.later a1 (Nat.le_trans hB a2.size)
  replace b9 := b9.later a1 (Nat.le_trans hB a2.size)
  replace d6 := d6.later a1 (Nat.le_trans hB a2.size)
  replace a2 := bup a2 a1
  generalize closeO q2 = q3 at *
  have b6 := zaa p3
  go_wp2
  clear b6
  have hBz := a2.size
  have s9 := c8.far3 (g := w.heap.size + 1 + 1 + 1) (v0 := .int .i64 q3.n) (v1 := .bool q3.e) (v2 := .slice A3 q3.m.length c3) (by omega) p3 (by decide)
  have q9 := p3.set3 (v0 := .int .i64 q3.n) (v1 := .bool q3.e) (v2 := .slice A3 q3.m.length c3)
  have c6 := a2.trans (zah (W := w3) (g := w.heap.size + 1 + 1 + 1) (v0 := .int .i64 q3.n) (v1 := .bool q3.e) (v2 := .slice A3 q3.m.length c3) (by omega) a2.size)
  obtain ⟨z0, z1, z2, fz⟩ := zaa q9
  refine bodyPost_ret (v := .agg #[q3.n, q3.e, .slice A3 q3.m.length c3]) (by simp [results, Tryz.results59, go_sem, z0, z1, z2]) rfl ?_
  exact ⟨_, _, rfl, s9, c6⟩
theorem zgI (n : Int) (m : List Int) (N : Nat) (hN : (N : Int) = 2 * n) (hn : N ≤ 128) (hc : Cells N m) (op av an bv bn : Int) (ha : av < n) (hb : bv < n) (h0 : av < 0) (h1 : bv < 0) (hq : cmpB op an bn = true) (_ia : I64 an) (_ib : I64 bn) (A : Option Addr) (cap : Nat) (w : World) (B : Nat) (hB : B ≤ w.heap.size) (hx : Sx w B A m) (_hm : m.length ≤ 17592186044416) :
  Calls Tryz.prog 59 #[.agg #[n, false, .slice A m.length cap], op, .agg #[av, an], .agg #[bv, bn]] w (zar w B (⟨n, false, m⟩)) := by
 have c4 := hid (OkO.of_cells hN hn hc)
 have HN := hid hN
 have a7 := hid (And.intro ha hb)
 have t1 : decide (av < 0) = true := by rw [decide_eq_true_eq]; omega
 have t2 : decide (bv < 0) = true := by rw [decide_eq_true_eq]; omega
 clear hN ha hb
 obtain ⟨p0, p1, p2, p3, a2, c0⟩ := zax w #[n, false, .slice A m.length cap] #[av, an] #[bv, bn] #[.int .i64 0, false, .slice none 0 0] 24 26 26 24
 replace hx := hx.later a2 hB
 have d1 := hid c0
 clear c0
 have a4 := zaa p0
 obtain ⟨b4, b7, b5⟩ := zai p1
 obtain ⟨b2, b3, b0⟩ := zai p2
 go_enter Tryz.func59, Tryz.ntmps59
 have HC := hid (fun W => zfW op an bn W)
 rw [hq] at HC
 clear hq
 go_wp2_with fail
 clear a4 b4 b7 b5 b2 b3 b0
 generalize (((w.alloc (Obj.cells #[n, false, .slice A m.length cap] 24)).alloc (Obj.cells #[av, an] 26)).alloc (Obj.cells #[bv, bn] 26)).alloc (Obj.cells #[.int .i64 0, false, .slice none 0 0] 24) = w1 at *
 have hB1 := Nat.le_trans hB a2.size
 (with_reducible refine (HC.out w1).mono ?_)
 rintro c5 w2 ⟨rfl, a0⟩
 replace p0 := p0.later a0
 replace p1 := p1.later a0
 replace p2 := p2.later a0
 replace p3 := p3.later a0
 replace hx := hx.later a0 (Nat.le_trans hB a2.size)
 replace a2 := bup a2 a0
 have a4 := zaa p0
 have b6 := zaa p3
 go_wp2
 clear a4 b6
 have hBz := a2.size
 have s9 := hx.far3 (g := w.heap.size + 1 + 1 + 1) (v0 := .int .i64 n) (v1 := .bool false) (v2 := .slice A m.length cap) (by omega) p3 (by decide)
 have q9 := p3.set3 (v0 := .int .i64 n) (v1 := .bool false) (v2 := .slice A m.length cap)
 have c6 := a2.trans (zah (W := w2) (g := w.heap.size + 1 + 1 + 1) (v0 := .int .i64 n) (v1 := .bool false) (v2 := .slice A m.length cap) (by omega) a2.size)
 obtain ⟨z0, z1, z2, fz⟩ := zaa q9
 refine bodyPost_ret (v := .agg #[n, false, .slice A m.length cap]) (by simp [results, Tryz.results59, go_sem, z0, z1, z2]) rfl ?_
 exact ⟨_, _, rfl, s9, c6⟩
theorem zgN (n : Int) (m : List Int) (N : Nat) (hN : (N : Int) = 2 * n) (hn : N ≤ 128) (hc : Cells N m) (op av an bv bn : Int) (ha : av < n) (hb : bv < n) (h0 : av < 0) (h1 : bv < 0) (hq : cmpB op an bn = false) (_ia : I64 an) (_ib : I64 bn) (A : Option Addr) (cap : Nat) (w : World) (B : Nat) (hB : B ≤ w.heap.size) (hx : Sx w B A m) (_hm : m.length ≤ 17592186044416) :
  Calls Tryz.prog 59 #[.agg #[n, false, .slice A m.length cap], op, .agg #[av, an], .agg #[bv, bn]] w (zar w B (emptyO n)) := by
 have c4 := hid (OkO.of_cells hN hn hc)
 have HN := hid hN
 have a7 := hid (And.intro ha hb)
 have t1 : decide (av < 0) = true := by rw [decide_eq_true_eq]; omega
 have t2 : decide (bv < 0) = true := by rw [decide_eq_true_eq]; omega
 clear hN ha hb
 obtain ⟨p0, p1, p2, p3, a2, c0⟩ := zax w #[n, false, .slice A m.length cap] #[av, an] #[bv, bn] #[.int .i64 0, false, .slice none 0 0] 24 26 26 24
 replace hx := hx.later a2 hB
 have d1 := hid c0
 clear c0
 have a4 := zaa p0
 obtain ⟨b4, b7, b5⟩ := zai p1
 obtain ⟨b2, b3, b0⟩ := zai p2
 go_enter Tryz.func59, Tryz.ntmps59
 have HC := hid (fun W => zfW op an bn W)
 rw [hq] at HC
 clear hq
 go_wp2_with fail
 clear a4 b4 b7 b5 b2 b3 b0
 generalize (((w.alloc (Obj.cells #[n, false, .slice A m.length cap] 24)).alloc (Obj.cells #[av, an] 26)).alloc (Obj.cells #[bv, bn] 26)).alloc (Obj.cells #[.int .i64 0, false, .slice none 0 0] 24) = w1 at *
 have hB1 := Nat.le_trans hB a2.size
 (with_reducible refine (HC.out w1).mono ?_)
 rintro c5 w2 ⟨rfl, a0⟩
 replace p0 := p0.later a0
 replace p1 := p1.later a0
 replace p2 := p2.later a0
 replace p3 := p3.later a0
 replace hx := hx.later a0 (Nat.le_trans hB a2.size)
 replace a2 := bup a2 a0
 have a4 := zaa p0
 go_wp2_with fail
 clear a4
 have hB3 := Nat.le_trans hB a2.size
 (with_reducible refine (zbK n w2 (by have := HN.out; omega) (by have := HN.out; omega)).mono ?_)
 rintro c9 w3 ⟨A3, c3, rfl, b8, a1⟩
 have c8 := Sx.of_own b8 hB3
 replace p0 := p0.later a1
 replace p1 := p1.later a1
 replace p2 := p2.later a1
 replace p3 := p3.later a1
 replace hx := hx.later a1 (Nat.le_trans hB a2.size)
 replace a2 := bup a2 a1
 generalize emptyO n = q3 at *
 have b6 := zaa p3
 go_wp2
 clear b6
 have hBz := a2.size
 have s9 := c8.far3 (g := w.heap.size + 1 + 1 + 1) (v0 := .int .i64 q3.n) (v1 := .bool q3.e) (v2 := .slice A3 q3.m.length c3) (by omega) p3 (by decide)
 have q9 := p3.set3 (v0 := .int .i64 q3.n) (v1 := .bool q3.e) (v2 := .slice A3 q3.m.length c3)
 have c6 := a2.trans (zah (W := w3) (g := w.heap.size + 1 + 1 + 1) (v0 := .int .i64 q3.n) (v1 := .bool q3.e) (v2 := .slice A3 q3.m.length c3) (by omega) a2.size)
 obtain ⟨z0, z1, z2, fz⟩ := zaa q9
 refine bodyPost_ret (v := .agg #[q3.n, q3.e, .slice A3 q3.m.length c3]) (by simp [results, Tryz.results59, go_sem, z0, z1, z2]) rfl ?_
 exact ⟨_, _, rfl, s9, c6⟩
theorem zgB (n : Int) (m : List Int) (N : Nat) (hN : (N : Int) = 2 * n) (hn : N ≤ 128) (hc : Cells N m) (op av an bv bn : Int) (hop : 1 ≤ op ∧ op ≤ 6) (ha : av < n) (hb : bv < n) (ia : I64 an) (ib : I64 bn) (A : Option Addr) (cap : Nat) (w : World) (B : Nat) (hB : B ≤ w.heap.size) (hx : Sx w B A m) (hm : m.length ≤ 17592186044416) :
  Calls Tryz.prog 59 #[.agg #[n, false, .slice A m.length cap], op, .agg #[av, an], .agg #[bv, bn]] w (zar w B (zdu ⟨n, false, m⟩ op av an bv bn)) := by
 unfold zdu
 by_cases h : av < 0 ∧ bv < 0
 ·rw [if_pos h]
  cases hq : cmpB op an bn
  ·rw [if_neg (by simp)]
   exact zgN n m N hN hn hc op av an bv bn ha hb h.1 h.2 hq ia ib A cap w B hB hx hm
  ·rw [if_pos rfl]
   exact zgI n m N hN hn hc op av an bv bn ha hb h.1 h.2 hq ia ib A cap w B hB hx hm
 ·rw [if_neg h]
  have h0 : 0 ≤ av ∨ 0 ≤ bv := by omega
  obtain rfl | rfl | rfl | rfl | rfl | rfl : op = 1 ∨ op = 2 ∨ op = 3 ∨ op = 4 ∨ op = 5 ∨ op = 6 := by omega
  ·exact zea 1 true (.inl ⟨rfl, rfl⟩) n m N hN hn hc av an bv bn ha hb h0 ia ib A cap w B hB hx hm
  ·exact zea 2 false (.inr ⟨rfl, rfl⟩) n m N hN hn hc av an bv bn ha hb h0 ia ib A cap w B hB hx hm
  ·exact ziq n m N hN hn hc av an bv bn ha hb h0 ia ib A cap w B hB hx hm
  ·exact zie n m N hN hn hc av an bv bn ha hb h0 ia ib A cap w B hB hx hm
  ·exact zeb 5 true (.inl ⟨rfl, rfl⟩) n m N hN hn hc av an bv bn ha hb h0 ia ib A cap w B hB hx hm
  ·exact zeb 6 false (.inr ⟨rfl, rfl⟩) n m N hN hn hc av an bv bn ha hb h0 ia ib A cap w B hB hx hm
end
end Go.Proofs.YtnmpgijiimglcaaGreat
