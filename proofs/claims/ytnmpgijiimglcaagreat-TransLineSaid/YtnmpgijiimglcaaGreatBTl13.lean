import Derived.Test.YtnmpgijiimglcaaGreatBTl12
namespace Go.Proofs.YtnmpgijiimglcaaGreat
section
open Go.RowKit
set_option maxRecDepth 100000
set_option maxHeartbeats 8000000
attribute [local go_sem ↓] Go.wp_at_zero Go.wp_at_succ
theorem with_ok (n : Int) (o : O) (ok : OkO n o) (i j : Nat) (hi : (i : Int) < 2 * n) (hj : (j : Int) < 2 * n) (c : Int) (A : Option Addr) (cap : Nat) (w : World) (hx : Rd w w.heap.size A o.m) (hm : o.m.length ≤ 17592186044416) :
  Calls Tryz.prog 50 #[.agg #[o.n, o.e, .slice A o.m.length cap], (i : Int), (j : Int), c] w (OctErr w (withO o i j c) 0) := by
 have a3 := ok.rng
 have hk := ok.ok
 by_cases hcase : o.e = false ∧ i ≠ j
 ·rcases ok.form with rfl | ⟨N, m, hN, hn, rfl, hc⟩
  ·exact absurd hcase.1 (by simp [emptyO])
  ·have := with_loop n m N i j c A cap w hN hn hc (by omega) (by omega) hcase.2 hx hm
   unfold withO
   rw [if_neg (by simp), if_neg hcase.2]
   dsimp only
   rw [show (2 * n).toNat = N by omega]
   exact this
 obtain ⟨n', e, m⟩ := o
 obtain rfl : n' = n := ok.n_
 dsimp only at *
 obtain ⟨p0, p1, a0, a7⟩ := new_two w #[n', e, .slice A m.length cap] #[.int .i64 0, false, .slice none 0 0] 24 24
 have a1 := hx.up a0
 have HK := hid hk
 have a9 := hid a7
 have HC := hid (check_any ⟨n', e, m⟩ A cap _ a1 (by dsimp only; omega))
 rw [HK.out] at HC
 have HOK := hid ok
 have HCS := hid hcase
 clear hk a7 ok hcase
 go_enter Tryz.func50, Tryz.ntmps50
 go_wp2_with fail
 generalize (w.alloc (Obj.cells #[n', e, .slice A m.length cap] 24)).alloc (Obj.cells #[.int .i64 0, false, .slice none 0 0] 24) = w0 at *
 (with_reducible refine HC.out.mono ?_)
 clear HC
 rintro e1 w1 ⟨rfl, a2⟩
 replace p0 := p0.later a2
 replace p1 := p1.later a2
 replace a1 := a1.up a2
 replace a0 := bup a0 a2
 obtain ⟨x0, x1, x2, fx⟩ := octbox p0
 have HW := hid (within_any n' e A m.length cap (i : Int) (j : Int) w1 a3.1 a3.2)
 rw [show decide (0 ≤ (i : Int) ∧ (i : Int) < 2 * n' ∧ 0 ≤ (j : Int) ∧ (j : Int) < 2 * n') = true by rw [decide_eq_true_eq]; omega] at HW
 go_wp2_with fail
 (with_reducible refine HW.out.mono ?_)
 clear HW x0 x1 x2 fx
 rintro e2 w2 ⟨rfl, a5⟩
 replace p0 := p0.later a5
 replace p1 := p1.later a5
 replace a1 := a1.up a5
 replace a0 := bup a0 a5
 obtain ⟨x0, x1, x2, fx⟩ := octbox p0
 cases e with
 | true =>
  have a6 : Hid (withO ⟨n', true, m⟩ i j c = ⟨n', true, m⟩) := hid (by
   have := (check_ok HOK.out.ok).2.2.1 rfl
   dsimp only at this
   subst this; rfl)
  have a8 := hid (dcopied_any n' true m A cap w2 a1 hm)
  go_wp2_with fail
  (with_reducible refine a8.out.mono ?_)
  clear a8 x0 x1 x2 fx
  rintro e4 w4 ⟨A1, c1, rfl, own, a4⟩
  replace p1 := p1.later a4
  replace a0 := bup a0 a4
  obtain ⟨x0, x1, x2, fx⟩ := octbox p1
  go_wp2
  clear x0 x1 x2 fx
  have q3 := p1.set3 (v0 := .int .i64 n') (v1 := .bool true) (v2 := .slice A1 m.length c1)
  have o3 := own.far3 (g := w.heap.size + 1) (v0 := .int .i64 n') (v1 := .bool true) (v2 := .slice A1 m.length c1) (own_blk' own p1 (by decide))
  obtain ⟨z0, z1, z2, fz⟩ := octbox q3
  refine bodyPost_ret (v := .tuple #[.agg #[n', true, .slice A1 m.length c1], .int .i64 0]) (by simp [results, Tryz.results50, go_sem, z0, z1, z2]) rfl ?_
  rw [a6.out]
  exact ⟨A1, c1, rfl, o3.less (show w.heap.size ≤ w2.heap.size by have := a5.size; have := a2.size; have := a9.out; omega), a0.trans (below3 (by omega) a0.size)⟩
 | false =>
  have hij : i = j := by have := HCS.out; simp at this; exact this
  subst hij
  have tij : ((i : Int) == (i : Int)) = true := by simp
  have n3 := new1 w2 (.cells #[(i : Int), (i : Int)] 116)
  obtain ⟨y0, y1, y2, fy⟩ := octbox (p0.later n3)
  cases tc : decide (c < 0)
  ·have a6 : Hid (withO ⟨n', false, m⟩ i i c = ⟨n', false, m⟩) := hid (by
    unfold withO; rw [if_neg (by simp), if_pos rfl, if_neg (by simpa using tc)])
   go_wp2_with fail
   have hx3 := a1.up n3
   replace p1 := p1.later n3
   replace a0 := bup a0 n3
   clear x0 x1 x2 fx y0 y1 y2 fy a1
   have hg2 : w.heap.size + 2 ≤ w2.heap.size := by have := a5.size; have := a2.size; have := a9.out; omega
   have hg3 := n3.size
   generalize w2.alloc (.cells #[(i : Int), (i : Int)] 116) = w3 at *
   have a8 := hid (dcopied_any n' false m A cap w3 hx3 hm)
   (with_reducible refine a8.out.mono ?_)
   clear a8
   rintro e4 w4 ⟨A1, c1, rfl, own, a4⟩
   replace p1 := p1.later a4
   replace a0 := bup a0 a4
   obtain ⟨x0, x1, x2, fx⟩ := octbox p1
   go_wp2
   clear x0 x1 x2 fx
   have q3 := p1.set3 (v0 := .int .i64 n') (v1 := .bool false) (v2 := .slice A1 m.length c1)
   have o3 := own.far3 (g := w.heap.size + 1) (v0 := .int .i64 n') (v1 := .bool false) (v2 := .slice A1 m.length c1) (own_blk' own p1 (by decide))
   obtain ⟨z0, z1, z2, fz⟩ := octbox q3
   refine bodyPost_ret (v := .tuple #[.agg #[n', false, .slice A1 m.length c1], .int .i64 0]) (by simp [results, Tryz.results50, go_sem, z0, z1, z2]) rfl ?_
   rw [a6.out]
   exact ⟨A1, c1, rfl, o3.less (show w.heap.size ≤ w3.heap.size by omega), a0.trans (below3 (by omega) a0.size)⟩
  ·have a6 : Hid (withO ⟨n', false, m⟩ i i c = ⟨n', true, []⟩) := hid (by
    unfold withO emptyO; rw [if_neg (by simp), if_pos rfl, if_pos (by simpa using tc)])
   go_wp2_with fail
   replace p1 := p1.later n3
   replace a0 := bup a0 n3
   clear x0 x1 x2 fx y0 y1 y2 fy a1
   generalize w2.alloc (.cells #[(i : Int), (i : Int)] 116) = w3 at *
   refine (dempty_any n' w3 a3.1 a3.2).mono ?_
   rintro e4 w4 ⟨rfl, a4⟩
   replace p1 := p1.later a4
   replace a0 := bup a0 a4
   obtain ⟨x0, x1, x2, fx⟩ := octbox p1
   go_wp2
   clear x0 x1 x2 fx
   have q3 := p1.set3 (v0 := .int .i64 n') (v1 := .bool true) (v2 := .slice none 0 0)
   obtain ⟨z0, z1, z2, fz⟩ := octbox q3
   refine bodyPost_ret (v := .tuple #[.agg #[n', true, .slice none 0 0], .int .i64 0]) (by simp [results, Tryz.results50, go_sem, z0, z1, z2]) rfl ?_
   rw [a6.out]
   exact ⟨none, 0, rfl, own_nil _ _, a0.trans (below3 (by omega) a0.size)⟩
theorem limits_ok (n : Int) (o : O) (ok : OkO n o) (i j : Nat) (hi : (i : Int) < 2 * n) (hj : (j : Int) < 2 * n) (c : Int) (A : Option Addr) (cap : Nat) (w : World) (hx : Rd w w.heap.size A o.m) (hm : o.m.length ≤ 17592186044416) :
  Calls Tryz.prog 186 #[.agg #[o.n, o.e, .slice A o.m.length cap], (i : Int), (j : Int), c] w (OctOwn w (withO o i j c)) := by
 obtain ⟨p0, p1, a0, a7⟩ := new_two w #[o.n, o.e, .slice A o.m.length cap] #[.int .i64 0, false, .slice none 0 0] 24 24
 have a1 := hx.up a0
 have HC := hid (with_ok n o ok i j hi hj c A cap _ a1 hm)
 have a9 := hid a7
 clear a7
 generalize withO o i j c = r at *
 go_enter Tryz.func186, Tryz.ntmps186
 go_wp2_with fail
 generalize (w.alloc (Obj.cells #[o.n, o.e, .slice A o.m.length cap] 24)).alloc (Obj.cells #[.int .i64 0, false, .slice none 0 0] 24) = w0 at *
 (with_reducible refine HC.out.mono ?_)
 clear HC
 rintro e1 w1 ⟨A1, c1, rfl, own, a2⟩
 replace p1 := p1.later a2
 replace a0 := bup a0 a2
 have n3 := new1 w1 (.cells #[r.n, r.e, .slice A1 r.m.length c1] 24)
 replace p1 := p1.later n3
 replace own := own.below n3
 replace a0 := bup a0 n3
 obtain ⟨x0, x1, x2, fx⟩ := octbox p1
 go_wp2
 clear x0 x1 x2 fx
 have q3 := p1.set3 (v0 := .int .i64 r.n) (v1 := .bool r.e) (v2 := .slice A1 r.m.length c1)
 have o3 := own.far3 (g := w.heap.size + 1) (v0 := .int .i64 r.n) (v1 := .bool r.e) (v2 := .slice A1 r.m.length c1) (own_blk' own p1 (by decide))
 obtain ⟨z0, z1, z2, fz⟩ := octbox q3
 refine bodyPost_ret (v := .agg #[r.n, r.e, .slice A1 r.m.length c1]) (by simp [results, Tryz.results186, go_sem, z0, z1, z2]) rfl ⟨A1, c1, rfl, o3.less (show w.heap.size ≤ w0.heap.size by have := a9.out; omega), a0.trans (below3 (by omega) a0.size)⟩
end
section
open Go.RowKit
set_option maxRecDepth 100000
set_option maxHeartbeats 8000000
attribute [local go_sem ↓] Go.wp_at_zero Go.wp_at_succ
theorem tclosed_ok (o : O) (ok : check o = 0) (A : Option Addr) (cap : Nat) (w : World) (hx : Rd w w.heap.size A o.m) (hm : o.m.length ≤ 17592186044416) :
  Calls Tryz.prog 58 #[.agg #[o.n, o.e, .slice A o.m.length cap]] w (OctOwn w (closeO o)) := by
 obtain ⟨p0, p1, a0, a2⟩ := new_two w #[o.n, o.e, .slice A o.m.length cap] #[.int .i64 0, false, .slice none 0 0] 24 24
 have a3 := hx.up a0
 have HC := hid (close_any o A cap _ a3 hm)
 rw [if_pos ok, ok] at HC
 have a4 := hid a2
 clear a2 ok
 generalize closeO o = r at *
 go_enter Tryz.func58, Tryz.ntmps58
 go_wp2_with fail
 generalize (w.alloc (Obj.cells #[o.n, o.e, .slice A o.m.length cap] 24)).alloc (Obj.cells #[.int .i64 0, false, .slice none 0 0] 24) = w0 at *
 (with_reducible refine HC.out.mono ?_)
 clear HC
 rintro e1 w1 ⟨A1, c1, s1, rfl, own, a1⟩
 replace p1 := p1.later a1
 replace a0 := bup a0 a1
 have n3 := new1 w1 (.cells #[r.n, r.e, .slice A1 r.m.length c1] 24)
 replace p1 := p1.later n3
 replace own := own.below n3
 replace a0 := bup a0 n3
 obtain ⟨x0, x1, x2, fx⟩ := octbox p1
 go_wp2
 clear x0 x1 x2 fx
 have q3 := p1.set3 (v0 := .int .i64 r.n) (v1 := .bool r.e) (v2 := .slice A1 r.m.length c1)
 have o3 := own.far3 (g := w.heap.size + 1) (v0 := .int .i64 r.n) (v1 := .bool r.e) (v2 := .slice A1 r.m.length c1) (own_blk' own p1 (by decide))
 obtain ⟨z0, z1, z2, fz⟩ := octbox q3
 refine bodyPost_ret (v := .agg #[r.n, r.e, .slice A1 r.m.length c1]) (by simp [results, Tryz.results58, go_sem, z0, z1, z2]) rfl ⟨A1, c1, rfl, o3.less (show w.heap.size ≤ w0.heap.size by have := a4.out; omega), a0.trans (below3 (by omega) a0.size)⟩
theorem oclosed_ok (o : O) (ok : check o = 0) (A : Option Addr) (cap : Nat) (w : World) (hx : Rd w w.heap.size A o.m) (hm : o.m.length ≤ 17592186044416) :
  Calls Tryz.prog 228 #[.agg #[o.n, o.e, .slice A o.m.length cap]] w (OctOwn w (closeO o)) := by
 obtain ⟨p0, p1, a0, a2⟩ := new_two w #[o.n, o.e, .slice A o.m.length cap] #[.int .i64 0, false, .slice none 0 0] 24 24
 have a3 := hx.up a0
 have HC := hid (close_any o A cap _ a3 hm)
 rw [if_pos ok, ok] at HC
 have a4 := hid a2
 clear a2 ok
 generalize closeO o = r at *
 go_enter Tryz.func228, Tryz.ntmps228
 go_wp2_with fail
 generalize (w.alloc (Obj.cells #[o.n, o.e, .slice A o.m.length cap] 24)).alloc (Obj.cells #[.int .i64 0, false, .slice none 0 0] 24) = w0 at *
 (with_reducible refine HC.out.mono ?_)
 clear HC
 rintro e1 w1 ⟨A1, c1, s1, rfl, own, a1⟩
 replace p1 := p1.later a1
 replace a0 := bup a0 a1
 have n3 := new1 w1 (.cells #[r.n, r.e, .slice A1 r.m.length c1] 24)
 replace p1 := p1.later n3
 replace own := own.below n3
 replace a0 := bup a0 n3
 obtain ⟨x0, x1, x2, fx⟩ := octbox p1
 go_wp2
 clear x0 x1 x2 fx
 have q3 := p1.set3 (v0 := .int .i64 r.n) (v1 := .bool r.e) (v2 := .slice A1 r.m.length c1)
 have o3 := own.far3 (g := w.heap.size + 1) (v0 := .int .i64 r.n) (v1 := .bool r.e) (v2 := .slice A1 r.m.length c1) (own_blk' own p1 (by decide))
 obtain ⟨z0, z1, z2, fz⟩ := octbox q3
 refine bodyPost_ret (v := .agg #[r.n, r.e, .slice A1 r.m.length c1]) (by simp [results, Tryz.results228, go_sem, z0, z1, z2]) rfl ⟨A1, c1, rfl, o3.less (show w.heap.size ≤ w0.heap.size by have := a4.out; omega), a0.trans (below3 (by omega) a0.size)⟩
theorem tempty_ok (n : Int) (w : World) (h0 : 0 ≤ n) (h1 : n ≤ 64) :
  Calls Tryz.prog 122 #[n] w (OctOwn w (emptyO n)) := by
 have n0 := new1 w (.cells #[.int .i64 0, false, .slice none 0 0] 24)
 have p1 := Blk.new w 24 #[.int .i64 0, false, .slice none 0 0]
 go_enter Tryz.func122, Tryz.ntmps122
 go_wp2_with fail
 generalize w.alloc (Obj.cells #[.int .i64 0, false, .slice none 0 0] 24) = w0 at *
 (with_reducible refine (dempty_any n _ h0 h1).mono ?_)
 rintro e1 w1 ⟨rfl, a1⟩
 replace p1 := p1.later a1
 replace n0 := bup n0 a1
 have n3 := new1 w1 (.cells #[n, true, .slice none 0 0] 24)
 replace p1 := p1.later n3
 replace n0 := bup n0 n3
 obtain ⟨x0, x1, x2, fx⟩ := octbox p1
 go_wp2
 clear x0 x1 x2 fx
 have q3 := p1.set3 (v0 := .int .i64 n) (v1 := .bool true) (v2 := .slice none 0 0)
 obtain ⟨z0, z1, z2, fz⟩ := octbox q3
 refine bodyPost_ret (v := .agg #[n, true, .slice none 0 0]) (by simp [results, Tryz.results122, go_sem, z0, z1, z2]) rfl ⟨none, 0, rfl, own_nil _ _, n0.trans (below3 (by omega) n0.size)⟩
theorem plus_ok (v : Nat) (hv : v ≤ 1000) (w : World) : Calls Tryz.prog 135 #[(v : Int)] w (IntRes ((2 * v : Nat) : Int) w) := by
 go_enter Tryz.func135, Tryz.ntmps135
 go_wp2
 go_ret
 exact ⟨ret64 (by omega), rfl⟩
theorem minus_ok (v : Nat) (hv : v ≤ 1000) (w : World) : Calls Tryz.prog 138 #[(v : Int)] w (IntRes ((2 * v + 1 : Nat) : Int) w) := by
 go_enter Tryz.func138, Tryz.ntmps138
 go_wp2
 go_ret
 exact ⟨ret64 (by omega), rfl⟩
theorem twice_ok (n : Int) (w : World) : Calls Tryz.prog 205 #[n] w (IntRes (twiceB n) w) := by
 cases t1 : decide (2305843009213693952 < n) <;> cases t2 : decide (n < -2305843009213693952)
 all_goals
  have T1 := hid t1
  have T2 := hid t2
  simp only [decide_eq_true_eq, decide_eq_false_iff_not] at t1 t2
  go_enter Tryz.func205, Tryz.ntmps205
  go_wp2
  go_ret
  refine ⟨ret64 ?_, rfl⟩
  have t1 := T1.out
  have t2 := T2.out
  simp only [decide_eq_true_eq, decide_eq_false_iff_not] at t1 t2
  unfold twiceB
  first | rw [if_pos t1] | rw [if_neg t1, if_pos t2] | rw [if_neg t1, if_neg t2]
theorem negated_ok (n : Int) (h : I64 n) (w : World) : Calls Tryz.prog 206 #[n] w (IntRes (negB n) w) := by
 unfold I64 at h
 cases t1 : (n == -9223372036854775808)
 all_goals
  have t2 := t1
  simp only [beq_iff_eq, beq_eq_false_iff_ne] at t2
  have T2 := hid t2
  have hb : n = -9223372036854775808 ∨ -9223372036854775807 ≤ n := by omega
  have HB := hid hb
  clear t2 hb
  go_enter Tryz.func206, Tryz.ntmps206
  go_wp2
  go_ret
  refine ⟨ret64 ?_, rfl⟩
  unfold negB
  have t2 := T2.out
  have := HB.out
  first | rw [if_pos t2] | (rw [if_neg t2]; first | rfl | (unfold wrap64; omega))
theorem upTo_ok (n : Int) (w : World) : Calls Tryz.prog 187 #[n] w fun e w' => e = .returned (Rg.val ⟨0, n, false, true⟩) ∧ Below w.heap.size w w' := by
 unfold Rg.val
 go_enter Tryz.func187, Tryz.ntmps187
 go_wp2
 refine bodyPost_ret (v := .agg #[.int .i64 0, n, false, true]) (by simp [results, Tryz.results187, go_sem]) rfl (And.intro rfl ?_)
 repeat (first | exact Below.refl _ _ | refine Below.setCell ?_ (by simp) _ | refine Below.alloc ?_ (by simp) _)
theorem from_ok (n : Int) (w : World) : Calls Tryz.prog 188 #[n] w fun e w' => e = .returned (Rg.val ⟨n, 0, true, false⟩) ∧ Below w.heap.size w w' := by
 unfold Rg.val
 go_enter Tryz.func188, Tryz.ntmps188
 go_wp2
 refine bodyPost_ret (v := .agg #[n, .int .i64 0, true, false]) (by simp [results, Tryz.results188, go_sem]) rfl (And.intro rfl ?_)
 repeat (first | exact Below.refl _ _ | refine Below.setCell ?_ (by simp) _ | refine Below.alloc ?_ (by simp) _)
theorem only_ok (n : Int) (w : World) : Calls Tryz.prog 133 #[n] w fun e w' => e = .returned (Rg.val ⟨n, n, true, true⟩) ∧ Below w.heap.size w w' := by
 unfold Rg.val
 go_enter Tryz.func133, Tryz.ntmps133
 go_wp2
 refine bodyPost_ret (v := .agg #[n, n, true, true]) (by simp [results, Tryz.results133, go_sem]) rfl (And.intro rfl ?_)
 repeat (first | exact Below.refl _ _ | refine Below.setCell ?_ (by simp) _ | refine Below.alloc ?_ (by simp) _)
end
end Go.Proofs.YtnmpgijiimglcaaGreat
