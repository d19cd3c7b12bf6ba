/-
  gnomonref15: what the document's ranges tell of a closed octagon.
-/
import Derived.Test.YtnmpgijiimglcaaGreatBTA27
import Derived.Test.YtnmpgijiimglcaaGreatBTA05
namespace Go.Proofs.YtnmpgijiimglcaaGreat
open Go.RowKit
attribute [local go_sem ↓] Go.wp_at_zero Go.wp_at_succ

theorem idxq_ok {n : Int} {N i j : Nat} (hN : (N : Int) = 2 * n) (hi : i < N) (hj : j < N) (hn : N ≤ 128) :
    0 ≤ (i : Int) * 2 * n ∧ (i : Int) * 2 * n ≤ 16384 ∧ ((i : Int) * 2 * n + (j : Int)).toNat = i * N + j ∧ i * N + j < N * N ∧ 0 ≤ (i : Int) * 2 * n + (j : Int) ∧ (i : Int) * 2 * n + (j : Int) < ((N * N : Nat) : Int) := by
  rw [show (i : Int) * 2 * n = 2 * n * (i : Int) by rw [Int.mul_assoc, Int.mul_comm]]
  exact idx_ok hN hi hj hn
set_option maxRecDepth 8000 in
set_option maxHeartbeats 1000000 in
theorem rcell_ok (n : Int) (m : List Int) (N i j : Nat) (A : Option Addr) (cap : Nat) (w : World) (hN : (N : Int) = 2 * n) (hn : N ≤ 128) (hl : m.length = N * N) (hi : i < N) (hj : j < N) (hx : Rd w w.heap.size A m) :
    Calls Tryz.prog 180 #[.agg #[.int .i64 n, .bool false, .slice A m.length cap], .int .i64 (i : Int), .int .i64 (j : Int)] w (BelVal (.int .i64 (G N m i j)) w) := by
  obtain ⟨p0, hb0, hsz⟩ := new_one w #[.int .i64 n, .bool false, .slice A m.length cap] 24
  have hx0 := hx.up hb0
  obtain ⟨q1, q2, q3, q4, q5, q6⟩ := idxq_ok hN hi hj hn
  rw [← hl] at q4 q6
  obtain ⟨g1, o1, rfl, hg1, c4⟩ := hx0 (i * N + j) q4
  obtain ⟨v, hv⟩ : ∃ v, v = G N m i j := ⟨_, rfl⟩
  rw [← hv]
  rw [show gI m ((i * N + j : Nat) : Int) = v from hv.symm] at c4
  have hn0 : 0 ≤ n ∧ n ≤ 64 := by omega
  have hi2 : (i : Int) ≤ 128 := by omega
  have hj2 : (j : Int) ≤ 128 := by omega
  clear hv hsz hl hx hx0 hN hn
  obtain ⟨x0, x1, x2, fx⟩ := octbox p0
  go_enter Tryz.func180, Tryz.ntmps180
  go_wp2
  go_ret
  exact ⟨rfl, hb0⟩

set_option maxHeartbeats 1000000 in
theorem rsides_00 (u d : Int) (hu : u ≠ 9223372036854775807) (hd : d ≠ 9223372036854775807) (hr : -9223372036854775808 < d ∧ d ≤ 9223372036854775807) (w : World) : Calls Tryz.prog 179 #[.int .i64 u, .int .i64 d] w (BelVal (.agg #[.int .i64 (-d), .int .i64 u, .bool true, .bool true]) w) := by
  have t1 : (u != 9223372036854775807) = true := by simp [hu]
  have t2 : (d != 9223372036854775807) = true := by simp [hd]
  have hw : wrap64 (-d) = -d := IntWalk.wrap64_in _ (by omega)
  obtain ⟨h1, h2⟩ := hr
  clear hu hd
  go_enter Tryz.func179, Tryz.ntmps179
  go_wp2
  refine bodyPost_ret (v := .agg #[.int .i64 (-d), .int .i64 u, .bool true, .bool true]) (by simp [results, Tryz.results179, go_sem]) rfl (And.intro rfl ?_)
  repeat (first | exact Below.refl _ _ | refine Below.setCell ?_ (by simp; try omega) _ | refine Below.alloc ?_ (by simp; try omega) _)

set_option maxHeartbeats 1000000 in
theorem rsides_01 (u d : Int) (hu : u ≠ 9223372036854775807) (hd : d = 9223372036854775807) (hr : -9223372036854775808 < d ∧ d ≤ 9223372036854775807) (w : World) : Calls Tryz.prog 179 #[.int .i64 u, .int .i64 d] w (BelVal (.agg #[.int .i64 0, .int .i64 u, .bool false, .bool true]) w) := by
  have t1 : (u != 9223372036854775807) = true := by simp [hu]
  have t2 : (d != 9223372036854775807) = false := by simp [hd]
  have hw : wrap64 (-d) = -d := IntWalk.wrap64_in _ (by omega)
  obtain ⟨h1, h2⟩ := hr
  clear hu hd
  go_enter Tryz.func179, Tryz.ntmps179
  go_wp2
  refine bodyPost_ret (v := .agg #[.int .i64 0, .int .i64 u, .bool false, .bool true]) (by simp [results, Tryz.results179, go_sem]) rfl (And.intro rfl ?_)
  repeat (first | exact Below.refl _ _ | refine Below.setCell ?_ (by simp; try omega) _ | refine Below.alloc ?_ (by simp; try omega) _)

set_option maxHeartbeats 1000000 in
theorem rsides_10 (u d : Int) (hu : u = 9223372036854775807) (hd : d ≠ 9223372036854775807) (hr : -9223372036854775808 < d ∧ d ≤ 9223372036854775807) (w : World) : Calls Tryz.prog 179 #[.int .i64 u, .int .i64 d] w (BelVal (.agg #[.int .i64 (-d), .int .i64 0, .bool true, .bool false]) w) := by
  have t1 : (u != 9223372036854775807) = false := by simp [hu]
  have t2 : (d != 9223372036854775807) = true := by simp [hd]
  have hw : wrap64 (-d) = -d := IntWalk.wrap64_in _ (by omega)
  obtain ⟨h1, h2⟩ := hr
  clear hu hd
  go_enter Tryz.func179, Tryz.ntmps179
  go_wp2
  refine bodyPost_ret (v := .agg #[.int .i64 (-d), .int .i64 0, .bool true, .bool false]) (by simp [results, Tryz.results179, go_sem]) rfl (And.intro rfl ?_)
  repeat (first | exact Below.refl _ _ | refine Below.setCell ?_ (by simp; try omega) _ | refine Below.alloc ?_ (by simp; try omega) _)

set_option maxHeartbeats 1000000 in
theorem rsides_11 (u d : Int) (hu : u = 9223372036854775807) (hd : d = 9223372036854775807) (hr : -9223372036854775808 < d ∧ d ≤ 9223372036854775807) (w : World) : Calls Tryz.prog 179 #[.int .i64 u, .int .i64 d] w (BelVal (.agg #[.int .i64 0, .int .i64 0, .bool false, .bool false]) w) := by
  have t1 : (u != 9223372036854775807) = false := by simp [hu]
  have t2 : (d != 9223372036854775807) = false := by simp [hd]
  have hw : wrap64 (-d) = -d := IntWalk.wrap64_in _ (by omega)
  obtain ⟨h1, h2⟩ := hr
  clear hu hd
  go_enter Tryz.func179, Tryz.ntmps179
  go_wp2
  refine bodyPost_ret (v := .agg #[.int .i64 0, .int .i64 0, .bool false, .bool false]) (by simp [results, Tryz.results179, go_sem]) rfl (And.intro rfl ?_)
  repeat (first | exact Below.refl _ _ | refine Below.setCell ?_ (by simp; try omega) _ | refine Below.alloc ?_ (by simp; try omega) _)

theorem rsides_ok (u d : Int) (hr : -9223372036854775808 < d ∧ d ≤ 9223372036854775807) (w : World) : Calls Tryz.prog 179 #[.int .i64 u, .int .i64 d] w (BelVal (sidesR u d).val w) := by
  unfold sidesR Rg.val
  by_cases hu : u = 9223372036854775807
  · by_cases hd : d = 9223372036854775807
    · rw [if_pos hu, if_pos hd]; simpa [hu, hd] using rsides_11 u d hu hd hr w
    · rw [if_pos hu, if_neg hd]; simpa [hu, hd] using rsides_10 u d hu hd hr w
  · by_cases hd : d = 9223372036854775807
    · rw [if_neg hu, if_pos hd]; simpa [hu, hd] using rsides_01 u d hu hd hr w
    · rw [if_neg hu, if_neg hd]; simpa [hu, hd] using rsides_00 u d hu hd hr w

set_option maxRecDepth 8000 in
set_option maxHeartbeats 2000000 in
theorem rvar_ok (n : Int) (m : List Int) (N v : Nat) (A : Option Addr) (cap : Nat) (w : World) (hN : (N : Int) = 2 * n) (hn : N ≤ 128) (hc : Cells N m) (hv : 2 * v + 1 < N) (hx : Rd w w.heap.size A m) :
    Calls Tryz.prog 148 #[.agg #[.int .i64 n, .bool false, .slice A m.length cap], .int .i64 (v : Int)] w (BelVal (varR N m v).val w) := by
  have HR : sidesR (half (G N m (2 * v) (2 * v + 1))) (half (G N m (2 * v + 1) (2 * v))) = varR N m v := rfl
  have hl := hc.len
  have HS := hid (fun W => rsides_ok (half (G N m (2 * v) (2 * v + 1))) (half (G N m (2 * v + 1) (2 * v))) (⟨by have := half_ge (G N m (2 * v + 1) (2 * v)); omega, half_le64 _⟩) W)
  rw [show sidesR (half (G N m (2 * v) (2 * v + 1))) (half (G N m (2 * v + 1) (2 * v))) = varR N m v from HR] at HS
  obtain ⟨gu, hgu⟩ : ∃ g, g = G N m (2 * v) (2 * v + 1) := ⟨_, rfl⟩
  obtain ⟨gd, hgd⟩ : ∃ g, g = G N m (2 * v + 1) (2 * v) := ⟨_, rfl⟩
  rw [← hgu, ← hgd] at HS
  have HCu := hid (fun W (h : Rd W W.heap.size A m) => rcell_ok n m N (2 * v) (2 * v + 1) A cap W hN hn hl (by omega) (by omega) h)
  rw [show ((2 * v : Nat) : Int) = 2 * (v : Int) by omega, show ((2 * v + 1 : Nat) : Int) = 2 * (v : Int) + 1 by omega, show G N m (2 * v) (2 * v + 1) = gu from hgu.symm] at HCu
  have HCd := hid (fun W (h : Rd W W.heap.size A m) => rcell_ok n m N (2 * v + 1) (2 * v) A cap W hN hn hl (by omega) (by omega) h)
  rw [show ((2 * v + 1 : Nat) : Int) = 2 * (v : Int) + 1 by omega, show ((2 * v : Nat) : Int) = 2 * (v : Int) by omega, show G N m (2 * v + 1) (2 * v) = gd from hgd.symm] at HCd
  obtain ⟨r, hr⟩ : ∃ r, r = varR N m v := ⟨_, rfl⟩
  rw [← hr] at HS ⊢
  clear hr hgu hgd HR
  obtain ⟨r0, r1, r2, r3⟩ := r
  unfold Rg.val at *
  dsimp only at *
  obtain ⟨p0, p1, hb0, hsz⟩ := new_two w #[.int .i64 n, .bool false, .slice A m.length cap] #[.int .i64 0, .int .i64 0, .bool false, .bool false] 24 49
  have hx0 := hx.up hb0
  have hb_v : 0 ≤ (v : Int) ∧ (v : Int) ≤ 64 := by omega
  clear hsz hx hl hN hn hc
  go_enter Tryz.func148, Tryz.ntmps148
  obtain ⟨x0, x1, x2, fx⟩ := octbox p0
  go_wp2_with fail
  generalize (w.alloc (Obj.cells #[.int .i64 n, .bool false, .slice A m.length cap] 24)).alloc (Obj.cells #[.int .i64 0, .int .i64 0, .bool false, .bool false] 49) = w0 at *
  have f0 := later x0
  have f1 := later x1
  have f2 := later x2
  clear x0 x1 x2 fx
  refine wp_region_flow 17 (fun X => Below w0.heap.size w0 X) (by kernel_rfl) (by kernel_rfl) (Below.refl _ _).drew ?_
  (repeat (first | (refine Flow.skip (by rfl) ?_; simp only [Act.put, List.setIfInBounds_toArray, List.set_cons_zero, List.set_cons_succ]) | (refine' Flow.take _ (by rfl) (fun W hW R hR => ?_) ?_; rotate_left; (go_simp; (try go_bits); with_reducible exact hR); simp only [Act.put, List.setIfInBounds_toArray, List.set_cons_zero, List.set_cons_succ])))
  (refine Flow.call 180 #[.agg #[.int .i64 n, .bool false, .slice A m.length cap], .int .i64 (2 * (v : Int)), .int .i64 (2 * (v : Int) + 1)] (.int .i64 gu) (by rfl) (fun X hX => by go_simp) (fun X hX => (HCu.out X (hx0.up hX)).mono fun e' w' ⟨he, hb'⟩ => ⟨he, bstep hX hX.size hb'⟩) ?_; simp only [Act.put, List.setIfInBounds_toArray, List.set_cons_zero, List.set_cons_succ])
  (repeat (first | (refine Flow.skip (by rfl) ?_; simp only [Act.put, List.setIfInBounds_toArray, List.set_cons_zero, List.set_cons_succ]) | (refine' Flow.take _ (by rfl) (fun W hW R hR => ?_) ?_; rotate_left; (go_simp; (try go_bits); with_reducible exact hR); simp only [Act.put, List.setIfInBounds_toArray, List.set_cons_zero, List.set_cons_succ])))
  (refine Flow.call 178 #[.int .i64 gu] (.int .i64 (half gu)) (by rfl) (fun X hX => by go_simp) (fun X hX => (rhalf_any gu _).mono fun e' w' ⟨he, hw⟩ => ⟨he, hw ▸ hX⟩) ?_; simp only [Act.put, List.setIfInBounds_toArray, List.set_cons_zero, List.set_cons_succ])
  (repeat (first | (refine Flow.skip (by rfl) ?_; simp only [Act.put, List.setIfInBounds_toArray, List.set_cons_zero, List.set_cons_succ]) | (refine' Flow.take _ (by rfl) (fun W hW R hR => ?_) ?_; rotate_left; (go_simp; (try go_bits); with_reducible exact hR); simp only [Act.put, List.setIfInBounds_toArray, List.set_cons_zero, List.set_cons_succ])))
  (refine Flow.call 180 #[.agg #[.int .i64 n, .bool false, .slice A m.length cap], .int .i64 (2 * (v : Int) + 1), .int .i64 (2 * (v : Int))] (.int .i64 gd) (by rfl) (fun X hX => by go_simp) (fun X hX => (HCd.out X (hx0.up hX)).mono fun e' w' ⟨he, hb'⟩ => ⟨he, bstep hX hX.size hb'⟩) ?_; simp only [Act.put, List.setIfInBounds_toArray, List.set_cons_zero, List.set_cons_succ])
  (repeat (first | (refine Flow.skip (by rfl) ?_; simp only [Act.put, List.setIfInBounds_toArray, List.set_cons_zero, List.set_cons_succ]) | (refine' Flow.take _ (by rfl) (fun W hW R hR => ?_) ?_; rotate_left; (go_simp; (try go_bits); with_reducible exact hR); simp only [Act.put, List.setIfInBounds_toArray, List.set_cons_zero, List.set_cons_succ])))
  (refine Flow.call 178 #[.int .i64 gd] (.int .i64 (half gd)) (by rfl) (fun X hX => by go_simp) (fun X hX => (rhalf_any gd _).mono fun e' w' ⟨he, hw⟩ => ⟨he, hw ▸ hX⟩) ?_; simp only [Act.put, List.setIfInBounds_toArray, List.set_cons_zero, List.set_cons_succ])
  (repeat (first | (refine Flow.skip (by rfl) ?_; simp only [Act.put, List.setIfInBounds_toArray, List.set_cons_zero, List.set_cons_succ]) | (refine' Flow.take _ (by rfl) (fun W hW R hR => ?_) ?_; rotate_left; (go_simp; (try go_bits); with_reducible exact hR); simp only [Act.put, List.setIfInBounds_toArray, List.set_cons_zero, List.set_cons_succ])))
  (refine Flow.call 179 #[.int .i64 (half gu), .int .i64 (half gd)] (.agg #[.int .i64 r0, .int .i64 r1, .bool r2, .bool r3]) (by rfl) (fun X hX => by go_simp) (fun X hX => (HS.out X).mono fun e' w' ⟨he, hb'⟩ => ⟨he, bstep hX hX.size hb'⟩) ?_; simp only [Act.put, List.setIfInBounds_toArray, List.set_cons_zero, List.set_cons_succ])
  (repeat (first | (refine Flow.skip (by rfl) ?_; simp only [Act.put, List.setIfInBounds_toArray, List.set_cons_zero, List.set_cons_succ]) | (refine' Flow.take _ (by rfl) (fun W hW R hR => ?_) ?_; rotate_left; (go_simp; (try go_bits); with_reducible exact hR); simp only [Act.put, List.setIfInBounds_toArray, List.set_cons_zero, List.set_cons_succ])))
  intro w1 hb1
  clear f0 f1 f2
  replace p1 := p1.later hb1
  replace hb0 := bup hb0 hb1
  obtain ⟨z0, z1, z2, z3, fz⟩ := rgbox p1
  go_wp2
  clear z0 z1 z2 z3 fz
  have q := (((p1.set_ 0 (.int .i64 r0)).set_ 1 (.int .i64 r1)).set_ 2 (.bool r2)).set_ 3 (.bool r3)
  obtain ⟨z0, z1, z2, z3, fz⟩ := rgbox (show Blk _ _ _ #[.int .i64 r0, .int .i64 r1, .bool r2, .bool r3] from q)
  refine bodyPost_ret (v := .agg #[.int .i64 r0, .int .i64 r1, .bool r2, .bool r3]) (by simp [results, Tryz.results148, go_sem, z0, z1, z2, z3]) rfl (And.intro rfl ?_)
  refine hb0.trans ?_
  have := hb0.size
  repeat (first | exact Below.refl _ _ | refine Below.setCell ?_ (by simp; try omega) _ | refine Below.alloc ?_ (by simp; try omega) _)
end Go.Proofs.YtnmpgijiimglcaaGreat
