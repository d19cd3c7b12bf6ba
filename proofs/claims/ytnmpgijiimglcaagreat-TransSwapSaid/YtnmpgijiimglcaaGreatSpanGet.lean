/-
  dbm.Get, and span's reading of a closed octagon: what they answer.
-/
import Derived.Test.YtnmpgijiimglcaaGreatBTS19
namespace Go.Proofs.YtnmpgijiimglcaaGreat
open Go.RowKit
attribute [local go_sem ↓] Go.wp_at_zero Go.wp_at_succ

theorem new_one (w : World) (cs : Array Value) (t : TypeId) : Blk (w.alloc (.cells cs t)) w.heap.size t cs ∧ Below w.heap.size w (w.alloc (.cells cs t)) ∧ (w.alloc (.cells cs t)).heap.size = w.heap.size + 1 :=
  ⟨Blk.new w t cs, new1 w _, by simp⟩

theorem opbox {w : World} {g : Nat} {t : TypeId} {a b : Value} (h : Blk w g t #[a, b]) : w.cell? ⟨g, 0, none⟩ = some a ∧ w.cell? ⟨g, 1, none⟩ = some b ∧ ∀ j, w.frozen? ⟨g, j, none⟩ = false :=
  ⟨h.cell 0, h.cell 1, h.fr⟩
set_option maxRecDepth 8000 in
set_option maxHeartbeats 2000000 in
theorem get_ok (n : Int) (m : List Int) (N i j : Nat) (A : Option Addr) (cap : Nat) (w : World) (hN : (N : Int) = 2 * n) (hn : N ≤ 128) (hc : Cells N m) (hi : i < N) (hj : j < N) (hx : Rd w w.heap.size A m) (hm : m.length ≤ 17592186044416) :
    Calls Tryz.prog 216 #[.agg #[.int .i64 n, .bool false, .slice A m.length cap], .int .i64 (i : Int), .int .i64 (j : Int)] w fun e w' => e = .returned (.tuple #[.int .i64 (G N m i j), .int .i64 0]) ∧ Below w.heap.size w w' := by
  obtain ⟨p0, hb0, hsz⟩ := new_one w #[.int .i64 n, .bool false, .slice A m.length cap] 24
  have hx0 := hx.up hb0
  have hk : check ⟨n, false, m⟩ = 0 := check_of hN hn hc
  have HK := hid hk
  have HN := hid hN
  clear hk hsz
  have hn0 : 0 ≤ n := by omega
  have hn1 : n ≤ 64 := by omega
  go_enter Tryz.func216, Tryz.ntmps216
  go_wp2_with fail
  generalize w.alloc (Obj.cells #[.int .i64 n, .bool false, .slice A m.length cap] 24) = w0 at *
  have HC := hid (check_any ⟨n, false, m⟩ A cap w0 hx0 (by dsimp only; omega))
  rw [HK.out] at HC
  (with_reducible refine HC.out.mono ?_)
  clear HC
  rintro e1 w1 ⟨rfl, hb1⟩
  replace p0 := p0.later hb1
  replace hx0 := hx0.up hb1
  replace hb0 := bup hb0 hb1
  obtain ⟨x0, x1, x2, fx⟩ := octbox p0
  have HW := hid (within_any n false A m.length cap (i : Int) (j : Int) w1 hn0 hn1)
  rw [show decide (0 ≤ (i : Int) ∧ (i : Int) < 2 * n ∧ 0 ≤ (j : Int) ∧ (j : Int) < 2 * n) = true by rw [decide_eq_true_eq]; have := HN.out; omega] at HW
  go_wp2_with fail
  (with_reducible refine HW.out.mono ?_)
  clear HW x0 x1 x2 fx
  rintro e2 w2 ⟨rfl, hb2⟩
  replace p0 := p0.later hb2
  replace hx0 := hx0.up hb2
  replace hb0 := bup hb0 hb2
  obtain ⟨x0, x1, x2, fx⟩ := octbox p0
  obtain ⟨q1, q2, q3, q4, q5, q6⟩ := idx_ok (i := i) (j := j) HN.out hi hj hn
  have hl := hc.len
  rw [← hl] at q4 q6
  clear hl
  obtain ⟨g1, o1, rfl, hg1, c4⟩ := hx0 (i * N + j) q4
  obtain ⟨v, hv⟩ : ∃ v, v = G N m i j := ⟨_, rfl⟩
  have HV := hid hv
  rw [show gI m ((i * N + j : Nat) : Int) = v from hv.symm] at c4
  clear hv
  go_wp2_with fail
  have f0 := later x0
  have f1 := later x1
  have f2 := later x2
  have f4 := later c4
  clear x0 x1 x2 fx c4
  refine wp_region_flow 8 (fun X => Below w2.heap.size w2 X) (by kernel_rfl) (by kernel_rfl) (Below.refl _ _).drew ?_
  (repeat (first | (refine Flow.skip (by rfl) ?_; simp only [Act.put, List.setIfInBounds_toArray, List.set_cons_zero, List.set_cons_succ]) | (refine' Flow.take _ (by rfl) (fun W hW R hR => ?_) ?_; rotate_left; (go_simp; (try go_bits); with_reducible exact hR); simp only [Act.put, List.setIfInBounds_toArray, List.set_cons_zero, List.set_cons_succ])))
  (refine Flow.call 85 #[.agg #[.int .i64 (i : Int), .int .i64 (j : Int)], .int .i64 n] (.int .i64 (2 * n * (i : Int) + (j : Int))) (by rfl) (fun X hX => by go_simp) (fun X hX => (at_any _ _ _ _ hn0 hn1 (by omega) (by omega) (by omega) (by omega)).mono fun e' w' ⟨he, hb'⟩ => ⟨he, bstep hX hX.size hb'⟩) ?_; simp only [Act.put, List.setIfInBounds_toArray, List.set_cons_zero, List.set_cons_succ])
  (repeat (first | (refine Flow.skip (by rfl) ?_; simp only [Act.put, List.setIfInBounds_toArray, List.set_cons_zero, List.set_cons_succ]) | (refine' Flow.take _ (by rfl) (fun W hW R hR => ?_) ?_; rotate_left; (go_simp; (try go_bits); with_reducible exact hR); simp only [Act.put, List.setIfInBounds_toArray, List.set_cons_zero, List.set_cons_succ])))
  intro w3 hb3
  have c4 := f4 w3 hb3
  clear f0 f1 f2 f4
  go_wp2
  exact bodyPost_ret (v := .tuple #[.int .i64 v, .int .i64 0]) (by simp [results, Tryz.results216, go_sem]) rfl ⟨by rw [HV.out], bup hb0 hb3⟩

set_option maxHeartbeats 400000 in
theorem endat_ok (n : Int) (w : World) : Calls Tryz.prog 172 #[.int .i64 n] w fun e w' => e = .returned (.agg #[.int .i64 n, .bool true]) ∧ Below w.heap.size w w' := by
  go_enter Tryz.func172, Tryz.ntmps172
  go_wp2
  refine bodyPost_ret (v := .agg #[.int .i64 n, .bool true]) (by simp [results, Tryz.results172, go_sem]) rfl (And.intro rfl ?_)
  repeat (first | exact Below.refl _ _ | refine Below.setCell ?_ (by simp) _ | refine Below.alloc ?_ (by simp) _)

set_option maxHeartbeats 400000 in
theorem upper_ok (c : Int) (w : World) : Calls Tryz.prog 218 #[.int .i64 c] w fun e w' => e = .returned (.agg #[.int .i64 c, .bool (!decide (c = 9223372036854775807))]) ∧ Below w.heap.size w w' := by
  obtain ⟨t, ht⟩ : ∃ t, t = !decide (c = 9223372036854775807) := ⟨_, rfl⟩
  have hq : (c != 9223372036854775807) = t := by rw [ht]; cases h : decide (c = 9223372036854775807) <;> simp_all
  rw [← ht]
  clear ht
  go_enter Tryz.func218, Tryz.ntmps218
  go_wp2
  refine bodyPost_ret (v := .agg #[.int .i64 c, .bool t]) (by simp [results, Tryz.results218, go_sem, hq]) rfl (And.intro rfl ?_)
  repeat (first | exact Below.refl _ _ | refine Below.setCell ?_ (by simp) _ | refine Below.alloc ?_ (by simp) _)

/-- The end that a cell's contrary says. -/
def lowV (c : Int) : Int := if c = 9223372036854775807 then 0 else -c
set_option maxHeartbeats 400000 in
theorem lower_ok (c : Int) (hc : -9223372036854775808 < c ∧ c ≤ 9223372036854775807) (w : World) : Calls Tryz.prog 217 #[.int .i64 c] w fun e w' => e = .returned (.agg #[.int .i64 (lowV c), .bool (!decide (c = 9223372036854775807))]) ∧ Below w.heap.size w w' := by
  unfold lowV
  by_cases h : c = 9223372036854775807
  · subst h
    rw [if_pos rfl]
    go_enter Tryz.func217, Tryz.ntmps217
    go_wp2
    refine bodyPost_ret (v := .agg #[.int .i64 0, .bool false]) (by simp [results, Tryz.results217, go_sem]) rfl (And.intro rfl ?_)
    repeat (first | exact Below.refl _ _ | refine Below.setCell ?_ (by simp) _ | refine Below.alloc ?_ (by simp) _)
  · rw [if_neg h, show (!decide (c = 9223372036854775807)) = true by simp [h]]
    have t1 : (c == 9223372036854775807) = false := by rw [beq_eq_false_iff_ne]; exact h
    have hw : wrap64 (-c) = -c := IntWalk.wrap64_in _ (by omega)
    obtain ⟨h1, h2⟩ := hc
    obtain ⟨p0, hb0, hsz⟩ := new_one w #[.int .i64 0, .bool false] 185
    clear h hsz
    go_enter Tryz.func217, Tryz.ntmps217
    go_wp2_with fail
    generalize w.alloc (Obj.cells #[.int .i64 0, .bool false] 185) = w0 at *
    (with_reducible refine (endat_ok (-c) w0).mono ?_)
    rintro e1 w1 ⟨rfl, hb1⟩
    replace p0 := p0.later hb1
    replace hb0 := bup hb0 hb1
    obtain ⟨x0, x1, fx⟩ := opbox p0
    go_wp2
    clear x0 x1 fx
    have q0 := (p0.set_ 0 (.int .i64 (-c))).set_ 1 (.bool true)
    obtain ⟨x0, x1, fx⟩ := opbox (show Blk _ _ _ #[.int .i64 (-c), .bool true] from q0)
    refine bodyPost_ret (v := .agg #[.int .i64 (-c), .bool true]) (by simp [results, Tryz.results217, go_sem, x0, x1]) rfl (And.intro rfl ?_)
    refine hb0.trans ?_
    repeat (first | exact Below.refl _ _ | refine Below.setCell ?_ (by simp) _ | refine Below.alloc ?_ (by simp) _)
  done
end Go.Proofs.YtnmpgijiimglcaaGreat
