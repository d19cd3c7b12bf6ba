/-
  dbm.With, trans.limits, trans.closed, trans.empty: of octagons that may be.
  trans's and order's small functions: closed, empty, plus, minus, twice, negated, upTo, from, only.
-/
import Derived.Test.YtnmpgijiimglcaaGreatWith
namespace Go.Proofs.YtnmpgijiimglcaaGreat
section
open Go.RowKit
attribute [local go_sem ↓] Go.wp_at_zero Go.wp_at_succ

set_option maxRecDepth 8000 in
set_option maxHeartbeats 4000000 in
theorem with_ok (n : Int) (o : O) (ok : OkO n o) (i j : Nat) (hi : (i : Int) < 2 * n) (hj : (j : Int) < 2 * n) (c : Int) (A : Option Addr) (cap : Nat) (w : World) (hx : Rd w w.heap.size A o.m) (hm : o.m.length ≤ 17592186044416) :
    Calls Tryz.prog 50 #[.agg #[.int .i64 o.n, .bool o.e, .slice A o.m.length cap], .int .i64 (i : Int), .int .i64 (j : Int), .int .i64 c] w (OctErr w (withO o i j c) 0) := by
  have hrng := ok.rng
  have hk := ok.ok
  by_cases hcase : o.e = false ∧ i ≠ j
  · rcases ok.form with rfl | ⟨N, m, hN, hn, rfl, hc⟩
    · exact absurd hcase.1 (by simp [emptyO])
    · have := with_loop n m N i j c A cap w hN hn hc (by omega) (by omega) hcase.2 hx hm
      unfold withO
      rw [if_neg (by simp), if_neg hcase.2]
      dsimp only
      rw [show (2 * n).toNat = N by omega]
      exact this
  obtain ⟨n', e, m⟩ := o
  obtain rfl : n' = n := ok.n_
  dsimp only at *
  obtain ⟨p0, p1, hb0, hsz⟩ := new_two w #[.int .i64 n', .bool e, .slice A m.length cap] #[.int .i64 0, .bool false, .slice none 0 0] 24 24
  have hx0 := hx.up hb0
  have HK := hid hk
  have HSZ := hid hsz
  have HC := hid (check_any ⟨n', e, m⟩ A cap _ hx0 (by dsimp only; omega))
  rw [HK.out] at HC
  have HOK := hid ok
  have HCS := hid hcase
  clear hk hsz ok hcase
  go_enter Tryz.func50, Tryz.ntmps50
  go_wp2_with fail
  generalize (w.alloc (Obj.cells #[.int .i64 n', .bool e, .slice A m.length cap] 24)).alloc (Obj.cells #[.int .i64 0, .bool false, .slice none 0 0] 24) = w0 at *
  (with_reducible refine HC.out.mono ?_)
  clear HC
  rintro e1 w1 ⟨rfl, hb1⟩
  replace p0 := p0.later hb1
  replace p1 := p1.later hb1
  replace hx0 := hx0.up hb1
  replace hb0 := bup hb0 hb1
  obtain ⟨x0, x1, x2, fx⟩ := octbox p0
  have HW := hid (within_any n' e A m.length cap (i : Int) (j : Int) w1 hrng.1 hrng.2)
  rw [show decide (0 ≤ (i : Int) ∧ (i : Int) < 2 * n' ∧ 0 ≤ (j : Int) ∧ (j : Int) < 2 * n') = true by rw [decide_eq_true_eq]; omega] at HW
  go_wp2_with fail
  (with_reducible refine HW.out.mono ?_)
  clear HW x0 x1 x2 fx
  rintro e2 w2 ⟨rfl, hb2⟩
  replace p0 := p0.later hb2
  replace p1 := p1.later hb2
  replace hx0 := hx0.up hb2
  replace hb0 := bup hb0 hb2
  obtain ⟨x0, x1, x2, fx⟩ := octbox p0
  cases e with
  | true =>
    have HWO : Hid (withO ⟨n', true, m⟩ i j c = ⟨n', true, m⟩) := hid (by
      have := (check_ok HOK.out.ok).2.2.1 rfl
      dsimp only at this
      subst this; rfl)
    have HCP := hid (dcopied_any n' true m A cap w2 hx0 hm)
    go_wp2_with fail
    (with_reducible refine HCP.out.mono ?_)
    clear HCP x0 x1 x2 fx
    rintro e4 w4 ⟨A1, c1, rfl, own, hb4⟩
    replace p1 := p1.later hb4
    replace hb0 := bup hb0 hb4
    obtain ⟨x0, x1, x2, fx⟩ := octbox p1
    go_wp2
    clear x0 x1 x2 fx
    have q3 := p1.set3 (v0 := .int .i64 n') (v1 := .bool true) (v2 := .slice A1 m.length c1)
    have o3 := own.far3 (g := w.heap.size + 1) (v0 := .int .i64 n') (v1 := .bool true) (v2 := .slice A1 m.length c1) (own_blk' own p1 (by decide))
    obtain ⟨z0, z1, z2, fz⟩ := octbox q3
    refine bodyPost_ret (v := .tuple #[.agg #[.int .i64 n', .bool true, .slice A1 m.length c1], .int .i64 0]) (by simp [results, Tryz.results50, go_sem, z0, z1, z2]) rfl ?_
    rw [HWO.out]
    exact ⟨A1, c1, rfl, o3.less (show w.heap.size ≤ w2.heap.size by have := hb2.size; have := hb1.size; have := HSZ.out; omega), hb0.trans (below3 (by omega) hb0.size)⟩
  | false =>
    have hij : i = j := by have := HCS.out; simp at this; exact this
    subst hij
    have tij : ((i : Int) == (i : Int)) = true := by simp
    have n3 := new1 w2 (.cells #[.int .i64 (i : Int), .int .i64 (i : Int)] 116)
    obtain ⟨y0, y1, y2, fy⟩ := octbox (p0.later n3)
    cases tc : decide (c < 0)
    · have HWO : Hid (withO ⟨n', false, m⟩ i i c = ⟨n', false, m⟩) := hid (by
        unfold withO; rw [if_neg (by simp), if_pos rfl, if_neg (by simpa using tc)])
      go_wp2_with fail
      have hx3 := hx0.up n3
      replace p1 := p1.later n3
      replace hb0 := bup hb0 n3
      clear x0 x1 x2 fx y0 y1 y2 fy hx0
      have hg2 : w.heap.size + 2 ≤ w2.heap.size := by have := hb2.size; have := hb1.size; have := HSZ.out; omega
      have hg3 := n3.size
      generalize w2.alloc (.cells #[.int .i64 (i : Int), .int .i64 (i : Int)] 116) = w3 at *
      have HCP := hid (dcopied_any n' false m A cap w3 hx3 hm)
      (with_reducible refine HCP.out.mono ?_)
      clear HCP
      rintro e4 w4 ⟨A1, c1, rfl, own, hb4⟩
      replace p1 := p1.later hb4
      replace hb0 := bup hb0 hb4
      obtain ⟨x0, x1, x2, fx⟩ := octbox p1
      go_wp2
      clear x0 x1 x2 fx
      have q3 := p1.set3 (v0 := .int .i64 n') (v1 := .bool false) (v2 := .slice A1 m.length c1)
      have o3 := own.far3 (g := w.heap.size + 1) (v0 := .int .i64 n') (v1 := .bool false) (v2 := .slice A1 m.length c1) (own_blk' own p1 (by decide))
      obtain ⟨z0, z1, z2, fz⟩ := octbox q3
      refine bodyPost_ret (v := .tuple #[.agg #[.int .i64 n', .bool false, .slice A1 m.length c1], .int .i64 0]) (by simp [results, Tryz.results50, go_sem, z0, z1, z2]) rfl ?_
      rw [HWO.out]
      exact ⟨A1, c1, rfl, o3.less (show w.heap.size ≤ w3.heap.size by omega), hb0.trans (below3 (by omega) hb0.size)⟩
    · have HWO : Hid (withO ⟨n', false, m⟩ i i c = ⟨n', true, []⟩) := hid (by
        unfold withO emptyO; rw [if_neg (by simp), if_pos rfl, if_pos (by simpa using tc)])
      go_wp2_with fail
      replace p1 := p1.later n3
      replace hb0 := bup hb0 n3
      clear x0 x1 x2 fx y0 y1 y2 fy hx0
      generalize w2.alloc (.cells #[.int .i64 (i : Int), .int .i64 (i : Int)] 116) = w3 at *
      refine (dempty_any n' w3 hrng.1 hrng.2).mono ?_
      rintro e4 w4 ⟨rfl, hb4⟩
      replace p1 := p1.later hb4
      replace hb0 := bup hb0 hb4
      obtain ⟨x0, x1, x2, fx⟩ := octbox p1
      go_wp2
      clear x0 x1 x2 fx
      have q3 := p1.set3 (v0 := .int .i64 n') (v1 := .bool true) (v2 := .slice none 0 0)
      obtain ⟨z0, z1, z2, fz⟩ := octbox q3
      refine bodyPost_ret (v := .tuple #[.agg #[.int .i64 n', .bool true, .slice none 0 0], .int .i64 0]) (by simp [results, Tryz.results50, go_sem, z0, z1, z2]) rfl ?_
      rw [HWO.out]
      exact ⟨none, 0, rfl, own_nil _ _, hb0.trans (below3 (by omega) hb0.size)⟩

set_option maxHeartbeats 1000000 in
theorem limits_ok (n : Int) (o : O) (ok : OkO n o) (i j : Nat) (hi : (i : Int) < 2 * n) (hj : (j : Int) < 2 * n) (c : Int) (A : Option Addr) (cap : Nat) (w : World) (hx : Rd w w.heap.size A o.m) (hm : o.m.length ≤ 17592186044416) :
    Calls Tryz.prog 186 #[.agg #[.int .i64 o.n, .bool o.e, .slice A o.m.length cap], .int .i64 (i : Int), .int .i64 (j : Int), .int .i64 c] w (OctOwn w (withO o i j c)) := by
  obtain ⟨p0, p1, hb0, hsz⟩ := new_two w #[.int .i64 o.n, .bool o.e, .slice A o.m.length cap] #[.int .i64 0, .bool false, .slice none 0 0] 24 24
  have hx0 := hx.up hb0
  have HC := hid (with_ok n o ok i j hi hj c A cap _ hx0 hm)
  have HSZ := hid hsz
  clear hsz
  generalize withO o i j c = r at *
  go_enter Tryz.func186, Tryz.ntmps186
  go_wp2_with fail
  generalize (w.alloc (Obj.cells #[.int .i64 o.n, .bool o.e, .slice A o.m.length cap] 24)).alloc (Obj.cells #[.int .i64 0, .bool false, .slice none 0 0] 24) = w0 at *
  (with_reducible refine HC.out.mono ?_)
  clear HC
  rintro e1 w1 ⟨A1, c1, rfl, own, hb1⟩
  replace p1 := p1.later hb1
  replace hb0 := bup hb0 hb1
  have n3 := new1 w1 (.cells #[.int .i64 r.n, .bool r.e, .slice A1 r.m.length c1] 24)
  replace p1 := p1.later n3
  replace own := own.below n3
  replace hb0 := bup hb0 n3
  obtain ⟨x0, x1, x2, fx⟩ := octbox p1
  go_wp2
  clear x0 x1 x2 fx
  have q3 := p1.set3 (v0 := .int .i64 r.n) (v1 := .bool r.e) (v2 := .slice A1 r.m.length c1)
  have o3 := own.far3 (g := w.heap.size + 1) (v0 := .int .i64 r.n) (v1 := .bool r.e) (v2 := .slice A1 r.m.length c1) (own_blk' own p1 (by decide))
  obtain ⟨z0, z1, z2, fz⟩ := octbox q3
  refine bodyPost_ret (v := .agg #[.int .i64 r.n, .bool r.e, .slice A1 r.m.length c1]) (by simp [results, Tryz.results186, go_sem, z0, z1, z2]) rfl ⟨A1, c1, rfl, o3.less (show w.heap.size ≤ w0.heap.size by have := HSZ.out; omega), hb0.trans (below3 (by omega) hb0.size)⟩
end
section
open Go.RowKit
attribute [local go_sem ↓] Go.wp_at_zero Go.wp_at_succ

set_option maxHeartbeats 1000000 in
theorem tclosed_ok (o : O) (ok : check o = 0) (A : Option Addr) (cap : Nat) (w : World) (hx : Rd w w.heap.size A o.m) (hm : o.m.length ≤ 17592186044416) :
    Calls Tryz.prog 58 #[.agg #[.int .i64 o.n, .bool o.e, .slice A o.m.length cap]] w (OctOwn w (closeO o)) := by
  obtain ⟨p0, p1, hb0, hsz⟩ := new_two w #[.int .i64 o.n, .bool o.e, .slice A o.m.length cap] #[.int .i64 0, .bool false, .slice none 0 0] 24 24
  have hx0 := hx.up hb0
  have HC := hid (close_any o A cap _ hx0 hm)
  rw [if_pos ok, ok] at HC
  have HSZ := hid hsz
  clear hsz ok
  generalize closeO o = r at *
  go_enter Tryz.func58, Tryz.ntmps58
  go_wp2_with fail
  generalize (w.alloc (Obj.cells #[.int .i64 o.n, .bool o.e, .slice A o.m.length cap] 24)).alloc (Obj.cells #[.int .i64 0, .bool false, .slice none 0 0] 24) = w0 at *
  (with_reducible refine HC.out.mono ?_)
  clear HC
  rintro e1 w1 ⟨A1, c1, s1, rfl, own, hb1⟩
  replace p1 := p1.later hb1
  replace hb0 := bup hb0 hb1
  have n3 := new1 w1 (.cells #[.int .i64 r.n, .bool r.e, .slice A1 r.m.length c1] 24)
  replace p1 := p1.later n3
  replace own := own.below n3
  replace hb0 := bup hb0 n3
  obtain ⟨x0, x1, x2, fx⟩ := octbox p1
  go_wp2
  clear x0 x1 x2 fx
  have q3 := p1.set3 (v0 := .int .i64 r.n) (v1 := .bool r.e) (v2 := .slice A1 r.m.length c1)
  have o3 := own.far3 (g := w.heap.size + 1) (v0 := .int .i64 r.n) (v1 := .bool r.e) (v2 := .slice A1 r.m.length c1) (own_blk' own p1 (by decide))
  obtain ⟨z0, z1, z2, fz⟩ := octbox q3
  refine bodyPost_ret (v := .agg #[.int .i64 r.n, .bool r.e, .slice A1 r.m.length c1]) (by simp [results, Tryz.results58, go_sem, z0, z1, z2]) rfl ⟨A1, c1, rfl, o3.less (show w.heap.size ≤ w0.heap.size by have := HSZ.out; omega), hb0.trans (below3 (by omega) hb0.size)⟩

set_option maxHeartbeats 1000000 in
theorem oclosed_ok (o : O) (ok : check o = 0) (A : Option Addr) (cap : Nat) (w : World) (hx : Rd w w.heap.size A o.m) (hm : o.m.length ≤ 17592186044416) :
    Calls Tryz.prog 228 #[.agg #[.int .i64 o.n, .bool o.e, .slice A o.m.length cap]] w (OctOwn w (closeO o)) := by
  obtain ⟨p0, p1, hb0, hsz⟩ := new_two w #[.int .i64 o.n, .bool o.e, .slice A o.m.length cap] #[.int .i64 0, .bool false, .slice none 0 0] 24 24
  have hx0 := hx.up hb0
  have HC := hid (close_any o A cap _ hx0 hm)
  rw [if_pos ok, ok] at HC
  have HSZ := hid hsz
  clear hsz ok
  generalize closeO o = r at *
  go_enter Tryz.func228, Tryz.ntmps228
  go_wp2_with fail
  generalize (w.alloc (Obj.cells #[.int .i64 o.n, .bool o.e, .slice A o.m.length cap] 24)).alloc (Obj.cells #[.int .i64 0, .bool false, .slice none 0 0] 24) = w0 at *
  (with_reducible refine HC.out.mono ?_)
  clear HC
  rintro e1 w1 ⟨A1, c1, s1, rfl, own, hb1⟩
  replace p1 := p1.later hb1
  replace hb0 := bup hb0 hb1
  have n3 := new1 w1 (.cells #[.int .i64 r.n, .bool r.e, .slice A1 r.m.length c1] 24)
  replace p1 := p1.later n3
  replace own := own.below n3
  replace hb0 := bup hb0 n3
  obtain ⟨x0, x1, x2, fx⟩ := octbox p1
  go_wp2
  clear x0 x1 x2 fx
  have q3 := p1.set3 (v0 := .int .i64 r.n) (v1 := .bool r.e) (v2 := .slice A1 r.m.length c1)
  have o3 := own.far3 (g := w.heap.size + 1) (v0 := .int .i64 r.n) (v1 := .bool r.e) (v2 := .slice A1 r.m.length c1) (own_blk' own p1 (by decide))
  obtain ⟨z0, z1, z2, fz⟩ := octbox q3
  refine bodyPost_ret (v := .agg #[.int .i64 r.n, .bool r.e, .slice A1 r.m.length c1]) (by simp [results, Tryz.results228, go_sem, z0, z1, z2]) rfl ⟨A1, c1, rfl, o3.less (show w.heap.size ≤ w0.heap.size by have := HSZ.out; omega), hb0.trans (below3 (by omega) hb0.size)⟩

set_option maxHeartbeats 1000000 in
theorem tempty_ok (n : Int) (w : World) (h0 : 0 ≤ n) (h1 : n ≤ 64) :
    Calls Tryz.prog 122 #[.int .i64 n] w (OctOwn w (emptyO n)) := by
  have n0 := new1 w (.cells #[.int .i64 0, .bool false, .slice none 0 0] 24)
  have p1 := Blk.new w 24 #[.int .i64 0, .bool false, .slice none 0 0]
  go_enter Tryz.func122, Tryz.ntmps122
  go_wp2_with fail
  generalize w.alloc (Obj.cells #[.int .i64 0, .bool false, .slice none 0 0] 24) = w0 at *
  (with_reducible refine (dempty_any n _ h0 h1).mono ?_)
  rintro e1 w1 ⟨rfl, hb1⟩
  replace p1 := p1.later hb1
  replace n0 := bup n0 hb1
  have n3 := new1 w1 (.cells #[.int .i64 n, .bool true, .slice none 0 0] 24)
  replace p1 := p1.later n3
  replace n0 := bup n0 n3
  obtain ⟨x0, x1, x2, fx⟩ := octbox p1
  go_wp2
  clear x0 x1 x2 fx
  have q3 := p1.set3 (v0 := .int .i64 n) (v1 := .bool true) (v2 := .slice none 0 0)
  obtain ⟨z0, z1, z2, fz⟩ := octbox q3
  refine bodyPost_ret (v := .agg #[.int .i64 n, .bool true, .slice none 0 0]) (by simp [results, Tryz.results122, go_sem, z0, z1, z2]) rfl ⟨none, 0, rfl, own_nil _ _, n0.trans (below3 (by omega) n0.size)⟩

theorem plus_ok (v : Nat) (hv : v ≤ 1000) (w : World) : Calls Tryz.prog 135 #[.int .i64 (v : Int)] w (IntRes ((2 * v : Nat) : Int) w) := by
  go_enter Tryz.func135, Tryz.ntmps135
  go_wp2
  go_ret
  exact ⟨ret64 (by omega), rfl⟩
theorem minus_ok (v : Nat) (hv : v ≤ 1000) (w : World) : Calls Tryz.prog 138 #[.int .i64 (v : Int)] w (IntRes ((2 * v + 1 : Nat) : Int) w) := by
  go_enter Tryz.func138, Tryz.ntmps138
  go_wp2
  go_ret
  exact ⟨ret64 (by omega), rfl⟩

theorem twice_ok (n : Int) (w : World) : Calls Tryz.prog 205 #[.int .i64 n] w (IntRes (twiceB n) w) := by
  cases t1 : decide (2305843009213693952 < n) <;> cases t2 : decide (n < -2305843009213693952)
  all_goals
    have T1 := hid t1
    have T2 := hid t2
    simp only [decide_eq_true_eq, decide_eq_false_iff_not] at t1 t2
    go_enter Tryz.func205, Tryz.ntmps205
    go_wp2
    go_ret
    refine ⟨ret64 ?_, rfl⟩
    have t1 := T1.out
    have t2 := T2.out
    simp only [decide_eq_true_eq, decide_eq_false_iff_not] at t1 t2
    unfold twiceB
    first | rw [if_pos t1] | rw [if_neg t1, if_pos t2] | rw [if_neg t1, if_neg t2]

theorem negated_ok (n : Int) (h : I64 n) (w : World) : Calls Tryz.prog 206 #[.int .i64 n] w (IntRes (negB n) w) := by
  unfold I64 at h
  cases t1 : (n == -9223372036854775808)
  all_goals
    have t2 := t1
    simp only [beq_iff_eq, beq_eq_false_iff_ne] at t2
    have T2 := hid t2
    have hb : n = -9223372036854775808 ∨ -9223372036854775807 ≤ n := by omega
    have HB := hid hb
    clear t2 hb
    go_enter Tryz.func206, Tryz.ntmps206
    go_wp2
    go_ret
    refine ⟨ret64 ?_, rfl⟩
    unfold negB
    have t2 := T2.out
    have := HB.out
    first | rw [if_pos t2] | (rw [if_neg t2]; first | rfl | (unfold wrap64; omega))

set_option maxHeartbeats 400000 in
theorem upTo_ok (n : Int) (w : World) : Calls Tryz.prog 187 #[.int .i64 n] w fun e w' => e = .returned (Rg.val ⟨0, n, false, true⟩) ∧ Below w.heap.size w w' := by
  unfold Rg.val
  go_enter Tryz.func187, Tryz.ntmps187
  go_wp2
  refine bodyPost_ret (v := .agg #[.int .i64 0, .int .i64 n, .bool false, .bool true]) (by simp [results, Tryz.results187, go_sem]) rfl (And.intro rfl ?_)
  repeat (first | exact Below.refl _ _ | refine Below.setCell ?_ (by simp) _ | refine Below.alloc ?_ (by simp) _)

set_option maxHeartbeats 400000 in
theorem from_ok (n : Int) (w : World) : Calls Tryz.prog 188 #[.int .i64 n] w fun e w' => e = .returned (Rg.val ⟨n, 0, true, false⟩) ∧ Below w.heap.size w w' := by
  unfold Rg.val
  go_enter Tryz.func188, Tryz.ntmps188
  go_wp2
  refine bodyPost_ret (v := .agg #[.int .i64 n, .int .i64 0, .bool true, .bool false]) (by simp [results, Tryz.results188, go_sem]) rfl (And.intro rfl ?_)
  repeat (first | exact Below.refl _ _ | refine Below.setCell ?_ (by simp) _ | refine Below.alloc ?_ (by simp) _)
end
end Go.Proofs.YtnmpgijiimglcaaGreat
