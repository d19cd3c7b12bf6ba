/-
  dbm.Cells: the contract of the iterator that it hands back.
-/
import Derived.RangeFuncNested
import Derived.RangeFuncBound
import Derived.RangeFuncCalls
import Derived.RangeFuncLeaves
import Derived.Shelf.Abstract
import Derived.Shelf.RegionOpen
import Derived.WalkKit
import Derived.OwnWalkIn
import Derived.TacticsInMore
import Derived.LoopNIn
import Derived.LoopIn
import Derived.Test.YtanbplidigokgaaCellEq
import Derived.Test.YtanbplidigokgaaFlowIn
namespace Go.Proofs.Ytanbplidigokgaa
open Go.RowKit
attribute [local go_sem] Oper.semAt_some
attribute [local go_sem ↓] Go.wp_at_zero Go.wp_at_succ

/-- These blocks are as they were; none is gone. -/
def Same (p : Nat → Prop) (W W' : World) : Prop := W.heap.size ≤ W'.heap.size ∧ ∀ k, p k → W'.heap[k]? = W.heap[k]?
section
variable {p : Nat → Prop} {W W' W2 : World}
theorem Same.refl : Same p W W := ⟨Nat.le_refl _, fun _ _ => rfl⟩
theorem Same.trans (h : Same p W W') (k : Same p W' W2) : Same p W W2 := ⟨Nat.le_trans h.1 k.1, fun i hi => (k.2 i hi).trans (h.2 i hi)⟩
theorem Same.below {B : Nat} (h : Below B W W') (hp : ∀ k, p k → k < B) : Same p W W' := ⟨h.size, fun k hk => h.block k (hp k hk)⟩
theorem Same.blk {g : Nat} {t : TypeId} {cs : Array Value} (h : Same p W W') (hg : p g) (hk : Blk W g t cs) : Blk W' g t cs := (h.2 g hg).trans hk
theorem Same.rd {A : Option Addr} {xs : List Int} (h : Same p W W') (hA : ∀ a, A = some a → p a.block) (hr : Rd W W.heap.size A xs) : Rd W' W'.heap.size A xs := fun k hk => by
  obtain ⟨b, off, rfl, hb, hc⟩ := hr k hk
  have := h.2 b (hA _ rfl)
  exact ⟨b, off, rfl, Nat.lt_of_lt_of_le hb h.1, (World.cell?_of_block (w := W) (w' := W') (a := ⟨b, off + k, none⟩) this).trans hc⟩
end

/-- A cell off the diagonal. -/
abbrev Cel (N : Nat) := { q : Nat × Nat // q.1 < N ∧ q.2 < N ∧ q.1 ≠ q.2 }
def celOf (N i j : Nat) : List (Cel N) := if h : i < N ∧ j < N ∧ i ≠ j then [⟨(i, j), h⟩] else []
def keepC (N : Nat) (m : List Int) (i j : Nat) : Bool := decide (i ≠ j) && (firstB i j && decide (gI m ((i * N + j : Nat) : Int) ≠ 9223372036854775807))
def rowC (N : Nat) (m : List Int) (i : Nat) : Nat → List (Cel N)
  | 0 => []
  | t + 1 => rowC N m i t ++ (if keepC N m i t then celOf N i t else [])
def matC (N : Nat) (m : List Int) : Nat → List (Cel N)
  | 0 => []
  | t + 1 => matC N m t ++ rowC N m t N
def encC (N : Nat) (m : List Int) (x : Cel N) : Array Value := #[.agg #[.int .i64 (x.1.1 : Int), .int .i64 (x.1.2 : Int)], .int .i64 (gI m ((x.1.1 * N + x.1.2 : Nat) : Int))]
theorem celOf_len (N i j : Nat) : (celOf N i j).length ≤ 1 := by unfold celOf; split <;> simp
theorem rowC_len (N : Nat) (m : List Int) (i : Nat) : ∀ t, (rowC N m i t).length ≤ t
  | 0 => by simp [rowC]
  | t + 1 => by
    have h1 := rowC_len N m i t
    have h2 := celOf_len N i t
    unfold rowC
    rw [List.length_append]
    split
    · omega
    · simp; omega
theorem matC_len (N : Nat) (m : List Int) : ∀ t, (matC N m t).length ≤ t * N
  | 0 => by simp [matC]
  | t + 1 => by
    have h1 := matC_len N m t
    have h2 := rowC_len N m t N
    unfold matC
    rw [List.length_append, Nat.add_mul]
    omega

theorem pre_rowC (N : Nat) (m : List Int) (i : Nat) {j : Nat} : ∀ {l : Nat}, j ≤ l → rowC N m i j <+: rowC N m i l
  | 0, h => by obtain rfl : j = 0 := by omega
               exact List.prefix_refl _
  | l + 1, h => by
    by_cases e : j = l + 1
    · subst e; exact List.prefix_refl _
    · rw [rowC]; exact (pre_rowC N m i (by omega)).trans (List.prefix_append _ _)
theorem pre_matC (N : Nat) (m : List Int) {j : Nat} : ∀ {l : Nat}, j ≤ l → matC N m j <+: matC N m l
  | 0, h => by obtain rfl : j = 0 := by omega
               exact List.prefix_refl _
  | l + 1, h => by
    by_cases e : j = l + 1
    · subst e; exact List.prefix_refl _
    · rw [matC]; exact (pre_matC N m (by omega)).trans (List.prefix_append _ _)
/-- The cells up to one that is told. -/
theorem cut_pre {N : Nat} {m : List Int} {i j : Nat} (hi : i < N) (hj : j < N) (hij : i ≠ j) (h : keepC N m i j = true) : matC N m i ++ rowC N m i j ++ [⟨(i, j), hi, hj, hij⟩] <+: matC N m N := by
  have e : matC N m i ++ rowC N m i j ++ [⟨(i, j), hi, hj, hij⟩] = matC N m i ++ rowC N m i (j + 1) := by
    rw [rowC, h, if_pos rfl, celOf, dif_pos ⟨hi, hj, hij⟩, List.append_assoc]
  rw [e]
  have h1 : matC N m i ++ rowC N m i (j + 1) <+: matC N m (i + 1) := by
    rw [matC]; exact (List.prefix_append_right_inj _).2 (pre_rowC N m i (by omega))
  exact h1.trans (pre_matC N m (by omega))

attribute [local go_sem] run_neq_cell run_equalIn_cell2
theorem bup' {w0 X w' : World} (hX : Below w0.heap.size w0 X) (hb : Below X.heap.size X w') : Below w0.heap.size w0 w' := bup hX hb
theorem ahead_first (i j : Nat) (w : World) (b : Bool) (h : (!firstB i j) = b) :
    Calls Try.prog 73 #[.agg #[.int .i64 ((nx j : Nat) : Int), .int .i64 ((nx i : Nat) : Int)], .agg #[.int .i64 (i : Int), .int .i64 (j : Int)]] w (SomeB b w) := by
  rw [← h, ← firstB_ahead]; exact ahead_any _ _ _ _ w
theorem mirror_nx (i j : Nat) (w : World) (hi : i ≤ 1000) (hj : j ≤ 1000) :
    Calls Try.prog 72 #[.agg #[.int .i64 (i : Int), .int .i64 (j : Int)]] w fun e w' => e = .returned (.agg #[.int .i64 ((nx j : Nat) : Int), .int .i64 ((nx i : Nat) : Int)]) ∧ Below w.heap.size w w' := by
  rw [← xor1_nx, ← xor1_nx]
  exact mirror_any _ _ w (by omega) (by omega) (by omega) (by omega)

set_option maxRecDepth 100000 in
set_option maxHeartbeats 4000000 in
theorem dcells1_in (nn l gb : Nat) (n : Int) (m : List Int) (N : Nat) (A : Option Addr) (c : Nat) (p : Nat → Prop) (hpb : p gb) (hpA : ∀ a, A = some a → p a.block)
    (hN : (N : Int) = 2 * n) (hn : N ≤ 128) (hl : m.length = N * N) (hm : m.length ≤ 17592186044416) (hk : check ⟨n, false, m⟩ = 0)
    (J Jx : List (Cel N) → World → Prop) (W : World) (hJ : AbidesFrom W.heap.size J)
    (hY : ∀ pre x W1, J pre W1 → pre.length < N * N + 1 → YieldAt (wideAt none) (nn - 1) Try.prog l (encC N m x) W1 fun e W' =>
      (e = .returned (.bool true) ∧ J (pre ++ [x]) W' ∧ Same p W1 W') ∨ (e = .returned (.bool false) ∧ Jx (pre ++ [x]) W'))
    (hb : Blk W gb 24 #[.int .i64 n, .bool false, .slice A m.length c]) (hr : Rd W W.heap.size A m) (h0 : J [] W) :
    CallsIn (wideAt none) nn Try.prog 71 #[.func (.yield l) #[] #[], .pointer (some ⟨gb, 0, none⟩)] W fun e W' => (∃ v, e = .returned v) ∧
      ((∃ xs, xs = matC N m N ∧ J xs W') ∨ (∃ pre, pre <+: matC N m N ∧ Jx pre W')) := by
  have hn0 : 0 ≤ 2 * n := by omega
  have hn1 : 2 * n ≤ 128 := by omega
  have HN := hid hN
  have HL := hid hl
  have HK := hid hk
  have HY := hid hY
  have HJ := hid hJ
  clear hN hl hk hY hJ
  obtain ⟨x0, x1, x2, fx⟩ := octbox hb
  refine callsIn_of_wp Try.func71 rfl trivial ?_ rfl
  simp only [Try.ntmps71, List.size_toArray, List.length_cons, List.length_nil, Nat.reduceAdd, Nat.reduceSub, Array.replicate_succ, Array.replicate_zero, List.push_toArray, List.append_toArray, List.nil_append, List.cons_append]
  gi_wp2_with fail
  refine (callsIn_at (check_any ⟨n, false, m⟩ A c W hr (by dsimp only; omega))).mono ?_
  rw [HK.out]
  rintro e1 w1 ⟨rfl, hb1⟩
  clear x0 x1 x2 fx
  have jstep : Hid (∀ s X Y, J s X → W.heap.size ≤ X.heap.size → Below X.heap.size X Y → J s Y) := hid fun s X Y h _ hb => HJ.out s X Y none h (grown_of_below hb none) (fun r e => by cases e)
  have hj1 := jstep.out _ _ _ h0 (Nat.le_refl _) hb1
  have hs1 : W.heap.size ≤ w1.heap.size := hb1.size
  have hr1 := hr.up hb1
  have hk1 := hb.later hb1
  clear hb1 h0 hr hb
  obtain ⟨x0, x1, x2, fx⟩ := octbox hk1
  gi_wp2
  clear x0 x1 x2 fx
  gi_loopw [17] (fun t wr => ∃ i : Nat, i ≤ N ∧ t = .int .i64 i ∧ J (matC N m i) wr ∧ Blk wr gb 24 #[.int .i64 n, .bool false, .slice A m.length c] ∧ Rd wr wr.heap.size A m ∧ W.heap.size ≤ wr.heap.size) (fun t _ => N - (intOf t).toNat)
  case atStart => exact ⟨0, by omega, rfl, hj1, hk1, hr1, hs1⟩
  case round =>
    clear hj1 hk1 hr1 hs1
    obtain ⟨i, hi, rfl, hj1, hk1, hr1, hs1⟩ := hrel
    by_cases hiN : i < N
    · have t1 : (i : Int) < 2 * n := by have := HN.out; omega
      obtain ⟨x0, x1, x2, fx⟩ := octbox hk1
      gi_wp2
      clear x0 x1 x2 fx
      gi_loopw [23] (fun t wr => ∃ j : Nat, j ≤ N ∧ t = .int .i64 j ∧ J (matC N m i ++ rowC N m i j) wr ∧ Blk wr gb 24 #[.int .i64 n, .bool false, .slice A m.length c] ∧ Rd wr wr.heap.size A m ∧ W.heap.size ≤ wr.heap.size) (fun t _ => N - (intOf t).toNat)
      case atStart => exact ⟨0, by omega, rfl, by rw [show matC N m i ++ rowC N m i 0 = matC N m i by simp [rowC]]; exact hj1, hk1, hr1, hs1⟩
      case round =>
        clear hj1 hk1 hr1 hs1
        obtain ⟨j, hj, rfl, hj1, hk1, hr1, hs1⟩ := hrel
        by_cases hjN : j < N
        · have t2 : (j : Int) < 2 * n := by have := HN.out; omega
          have hni := nx_lt HN.out hiN
          have hnj := nx_lt HN.out hjN
          obtain ⟨a1, a2, a3, a4, a5, a6⟩ := idx_ok HN.out hiN hjN hn
          rw [← HL.out] at a4 a6
          have n5 := new1 wr (.cells #[.int .i64 (i : Int), .int .i64 (j : Int)] 93)
          have k5 := Blk.new wr 93 #[.int .i64 (i : Int), .int .i64 (j : Int)]
          gi_wp2_with fail
          refine (callsIn_at (mirror_nx i j _ (by omega) (by omega))).mono ?_
          replace hj1 := jstep.out _ _ _ hj1 hs1 n5
          have hs5 := Nat.le_trans hs1 n5.size
          replace hk1 := hk1.later n5
          replace hr1 := hr1.up n5
          clear n5
          generalize wr.alloc (.cells #[.int .i64 (i : Int), .int .i64 (j : Int)] 93) = w4 at *
          generalize wr.heap.size = g5 at *
          rintro e5 w5 ⟨rfl, hb5⟩
          replace hk1 := hk1.later hb5
          replace hr1 := hr1.up hb5
          replace k5 := k5.later hb5
          replace hj1 := jstep.out _ _ _ hj1 hs5 hb5
          replace hs5 := Nat.le_trans hs5 hb5.size
          have n6 := new1 w5 (.cells #[.int .i64 ((nx j : Nat) : Int), .int .i64 ((nx i : Nat) : Int)] 93)
          have k6 := Blk.new w5 93 #[.int .i64 ((nx j : Nat) : Int), .int .i64 ((nx i : Nat) : Int)]
          replace hj1 := jstep.out _ _ _ hj1 hs5 n6
          replace hs5 := Nat.le_trans hs5 n6.size
          replace hk1 := hk1.later n6
          replace hr1 := hr1.up n6
          replace k5 := k5.later n6
          clear hb5
          gi_wp2
          generalize w5.alloc (.cells #[.int .i64 ((nx j : Nat) : Int), .int .i64 ((nx i : Nat) : Int)] 93) = w6 at *
          generalize w5.heap.size = g6 at *
          clear n6
          have l0 := later (hk1.cell 0)
          have l2 := later (hk1.cell 2)
          have l50 := later (k5.cell 0)
          have l51 := later (k5.cell 1)
          have l60 := later (k6.cell 0)
          have l61 := later (k6.cell 1)
          have HA1 := hid a1
          have HA2 := hid a2
          have HA3 := hid a3
          have HA5 := hid a5
          have HA6 := hid a6
          clear a1 a2 a3 a5 a6
          have go_on : Hid (keepC N m i j = false → rowC N m i (j + 1) = rowC N m i j) := hid (fun h => by show rowC N m i j ++ _ = _; rw [h]; simp)
          by_cases hij : i = j
          · have tij : ((i : Int) == (j : Int)) = true := by rw [beq_iff_eq]; omega
            have hkp : keepC N m i j = false := by unfold keepC; rw [decide_eq_false (by simpa using hij)]; rfl
            have HRC := hid (go_on.out hkp)
            clear hij hkp
            refine wpIn_region_flow 20 (fun X => Below w6.heap.size w6 X) (by kernel_rfl) (by kernel_rfl) (by kernel_rfl) (Below.refl _ _).drew ?_
            (repeat (first | (refine FlowI.skip (by rfl) ?_; simp only [Act.put, List.setIfInBounds_toArray, List.set_cons_zero, List.set_cons_succ]) | (refine' FlowI.take _ (by rfl) (fun W hW R hR => ?_) ?_; rotate_left; (go_simp; (try go_bits); with_reducible exact hR); simp only [Act.put, List.setIfInBounds_toArray, List.set_cons_zero, List.set_cons_succ])))
            intro w7 hb7
            replace hj1 := jstep.out _ _ _ hj1 hs5 hb7
            replace hk1 := hk1.later hb7
            replace hr1 := hr1.up hb7
            replace hs5 := Nat.le_trans hs5 hb7.size
            clear l0 l2 l50 l51 l60 l61
            gi_wp2
            go_roundw
            case rel => exact ⟨j + 1, by omega, by go_num, by rw [HRC.out]; exact hj1, hk1, hr1, hs5⟩
            case measure => simp [intOf]; omega
          · have tij : ((i : Int) == (j : Int)) = false := by rw [beq_eq_false_iff_ne]; omega
            have HIJ := hid hij
            clear hij
            cases hfb : firstB i j
            · -- it stands behind the cell across
              have hkp : keepC N m i j = false := by unfold keepC; rw [hfb]; simp
              have HRC := hid (go_on.out hkp)
              have HFB := hid hfb
              have hne : ¬ (i = nx j ∧ j = nx i) := fun h => by
                have := HFB.out; unfold firstB at this; rw [decide_eq_false_iff_not] at this; exact this (.inr ⟨h.1, by omega⟩)
              clear hkp hfb
              cases e1 : ((i : Int) == ((nx j : Nat) : Int)) <;> cases e2 : ((j : Int) == ((nx i : Nat) : Int))
              rotate_right
              · exact absurd ⟨by rw [beq_iff_eq] at e1; omega, by rw [beq_iff_eq] at e2; omega⟩ hne
              all_goals
                clear hne
                refine wpIn_region_flow 20 (fun X => Below w6.heap.size w6 X) (by kernel_rfl) (by kernel_rfl) (by kernel_rfl) (Below.refl _ _).drew ?_
                (repeat (first | (refine FlowI.skip (by rfl) ?_; simp only [Act.put, List.setIfInBounds_toArray, List.set_cons_zero, List.set_cons_succ]) | (refine' FlowI.take _ (by rfl) (fun W hW R hR => ?_) ?_; rotate_left; (go_simp; (try go_bits); with_reducible exact hR); simp only [Act.put, List.setIfInBounds_toArray, List.set_cons_zero, List.set_cons_succ])))
                (refine FlowI.call 73 #[.agg #[.int .i64 ((nx j : Nat) : Int), .int .i64 ((nx i : Nat) : Int)], .agg #[.int .i64 (i : Int), .int .i64 (j : Int)]] (.bool (true)) (by rfl) (fun X hX => by go_simp) (fun X hX => (ahead_first i j X true (by rw [HFB.out]; rfl)).mono fun e' w' ⟨he, hb'⟩ => ⟨he, bup' hX hb'⟩) ?_; simp only [Act.put, List.setIfInBounds_toArray, List.set_cons_zero, List.set_cons_succ])
                (repeat (first | (refine FlowI.skip (by rfl) ?_; simp only [Act.put, List.setIfInBounds_toArray, List.set_cons_zero, List.set_cons_succ]) | (refine' FlowI.take _ (by rfl) (fun W hW R hR => ?_) ?_; rotate_left; (go_simp; (try go_bits); with_reducible exact hR); simp only [Act.put, List.setIfInBounds_toArray, List.set_cons_zero, List.set_cons_succ])))
                intro w7 hb7
                replace hj1 := jstep.out _ _ _ hj1 hs5 hb7
                replace hk1 := hk1.later hb7
                replace hr1 := hr1.up hb7
                replace hs5 := Nat.le_trans hs5 hb7.size
                clear l0 l2 l50 l51 l60 l61
                gi_wp2
                go_roundw
                case rel => exact ⟨j + 1, by omega, by go_num, by rw [HRC.out]; exact hj1, hk1, hr1, hs5⟩
                case measure => simp [intOf]; omega
            · have HFB := hid hfb
              clear hfb
              cases e1 : ((i : Int) == ((nx j : Nat) : Int)) <;> cases e2 : ((j : Int) == ((nx i : Nat) : Int))
              rotate_right
              · refine wpIn_region_flow 20 (fun X => Below w6.heap.size w6 X) (by kernel_rfl) (by kernel_rfl) (by kernel_rfl) (Below.refl _ _).drew ?_
                (repeat (first | (refine FlowI.skip (by rfl) ?_; simp only [Act.put, List.setIfInBounds_toArray, List.set_cons_zero, List.set_cons_succ]) | (refine' FlowI.take _ (by rfl) (fun W hW R hR => ?_) ?_; rotate_left; (go_simp; (try go_bits); with_reducible exact hR); simp only [Act.put, List.setIfInBounds_toArray, List.set_cons_zero, List.set_cons_succ])))
                (refine FlowI.call 74 #[.agg #[.int .i64 (i : Int), .int .i64 (j : Int)], .int .i64 n] (.int .i64 (2 * n * (i : Int) + (j : Int))) (by rfl) (fun X hX => by go_simp) (fun X hX => (at_any (i : Int) (j : Int) n X (by omega) (by omega) (by omega) (by omega) (by omega) (by omega)).mono fun e' w' ⟨he, hb'⟩ => ⟨he, bup' hX hb'⟩) ?_; simp only [Act.put, List.setIfInBounds_toArray, List.set_cons_zero, List.set_cons_succ])
                (repeat (first | (refine FlowI.skip (by rfl) ?_; simp only [Act.put, List.setIfInBounds_toArray, List.set_cons_zero, List.set_cons_succ]) | (refine' FlowI.take _ (by rfl) (fun W hW R hR => ?_) ?_; rotate_left; (go_simp; (try go_bits); with_reducible exact hR); simp only [Act.put, List.setIfInBounds_toArray, List.set_cons_zero, List.set_cons_succ])))
                intro w7 hb7
                replace hj1 := jstep.out _ _ _ hj1 hs5 hb7
                replace hk1 := hk1.later hb7
                replace hr1 := hr1.up hb7
                replace hs5 := Nat.le_trans hs5 hb7.size
                clear l0 l2 l50 l51 l60 l61
                obtain ⟨bA, oA, rfl, _, hc⟩ := hr1 (i * N + j) a4
                obtain ⟨vx, hvx⟩ : ∃ v, v = gI m ((i * N + j : Nat) : Int) := ⟨_, rfl⟩
                rw [← hvx] at hc
                have HVX := hid hvx
                clear hvx
                have a1 := HA1.out
                have a2 := HA2.out
                have a3 := HA3.out
                have a5 := HA5.out
                have a6 := HA6.out
                cases hv : (vx == 9223372036854775807)
                · have hkp : keepC N m i j = true := by
                    unfold keepC
                    rw [decide_eq_true (by simpa using HIJ.out), HFB.out, decide_eq_true (by rw [← HVX.out]; simpa using hv)]; rfl
                  have HKP := hid hkp
                  clear hkp
                  gi_wp2
                  clear a1 a2 a3 a5 a6
                  have c0 := later (k5.cell 0)
                  clear c0
                  have hk5 := k5.later hb7
                  have l0 := later (hk1.cell 0)
                  have l2 := later (hk1.cell 2)
                  have l50 := later (hk5.cell 0)
                  have l51 := later (hk5.cell 1)
                  have lc := later hc
                  have a1 := HA1.out
                  have a2 := HA2.out
                  have a3 := HA3.out
                  have a5 := HA5.out
                  have a6 := HA6.out
                  refine wpIn_region_flow 10 (fun X => Below w7.heap.size w7 X) (by kernel_rfl) (by kernel_rfl) (by kernel_rfl) (Below.refl _ _).drew ?_
                  (repeat (first | (refine FlowI.skip (by rfl) ?_; simp only [Act.put, List.setIfInBounds_toArray, List.set_cons_zero, List.set_cons_succ]) | (refine' FlowI.take _ (by rfl) (fun W hW R hR => ?_) ?_; rotate_left; (go_simp; (try go_bits); with_reducible exact hR); simp only [Act.put, List.setIfInBounds_toArray, List.set_cons_zero, List.set_cons_succ])))
                  (refine FlowI.call 74 #[.agg #[.int .i64 (i : Int), .int .i64 (j : Int)], .int .i64 n] (.int .i64 (2 * n * (i : Int) + (j : Int))) (by rfl) (fun X hX => by go_simp) (fun X hX => (at_any (i : Int) (j : Int) n X (by omega) (by omega) (by omega) (by omega) (by omega) (by omega)).mono fun e' w' ⟨he, hb'⟩ => ⟨he, bup' hX hb'⟩) ?_; simp only [Act.put, List.setIfInBounds_toArray, List.set_cons_zero, List.set_cons_succ])
                  (repeat (first | (refine FlowI.skip (by rfl) ?_; simp only [Act.put, List.setIfInBounds_toArray, List.set_cons_zero, List.set_cons_succ]) | (refine' FlowI.take _ (by rfl) (fun W hW R hR => ?_) ?_; rotate_left; (go_simp; (try go_bits); with_reducible exact hR); simp only [Act.put, List.setIfInBounds_toArray, List.set_cons_zero, List.set_cons_succ])))
                  intro w9 hb9
                  replace hj1 := jstep.out _ _ _ hj1 hs5 hb9
                  replace hk1 := hk1.later hb9
                  replace hr1 := hr1.up hb9
                  replace hs5 := Nat.le_trans hs5 hb9.size
                  clear l0 l2 l50 l51 lc a1 a2 a3 a5 a6
                  obtain ⟨fn, tmps, assign, body, hy, hR⟩ := HY.out (matC N m i ++ rowC N m i j) ⟨(i, j), hiN, hjN, HIJ.out⟩ w9 hj1 (by
                    have h1 := matC_len N m i
                    have h2 := rowC_len N m i j
                    have h3 := lt_sq hiN hjN
                    rw [List.length_append]; omega)
                  unfold encC at hy
                  dsimp only at hy
                  rw [← HVX.out] at hy
                  gi_wp2
                  refine hR.mono ?_
                  rintro ee W9 (⟨rfl, hJ9, hs9⟩ | ⟨rfl, hJ9⟩)
                  · have hrow : matC N m i ++ rowC N m i (j + 1) = matC N m i ++ rowC N m i j ++ [⟨(i, j), hiN, hjN, HIJ.out⟩] := by
                      show matC N m i ++ (rowC N m i j ++ (if keepC N m i j then celOf N i j else [])) = _
                      rw [HKP.out, if_pos rfl, celOf, dif_pos ⟨hiN, hjN, HIJ.out⟩, List.append_assoc]
                    have HROW := hid hrow
                    clear hrow hy hR
                    replace hk1 := hs9.blk hpb hk1
                    replace hr1 := hs9.rd hpA hr1
                    replace hs5 := Nat.le_trans hs5 hs9.1
                    gi_wp2
                    go_roundw
                    case rel => exact ⟨j + 1, by omega, by go_num, by rw [HROW.out]; exact hJ9, hk1, hr1, hs5⟩
                    case measure => simp [intOf]; omega
                  · clear hy hR
                    gi_wp2
                    refine bodyPost_ret (results_none rfl _ _ _) rfl ?_
                    exact ⟨⟨_, rfl⟩, .inr ⟨_, cut_pre hiN hjN HIJ.out HKP.out, hJ9⟩⟩
                · have hkp : keepC N m i j = false := by
                    unfold keepC
                    rw [decide_eq_false (p := gI m ((i * N + j : Nat) : Int) ≠ 9223372036854775807) (by rw [← HVX.out]; simpa using hv)]; simp
                  have HRC := hid (go_on.out hkp)
                  clear hkp
                  gi_wp2
                  go_roundw
                  case rel => exact ⟨j + 1, by omega, by go_num, by rw [HRC.out]; exact hj1, hk1, hr1, hs5⟩
                  case measure => simp [intOf]; omega
              all_goals
                refine wpIn_region_flow 20 (fun X => Below w6.heap.size w6 X) (by kernel_rfl) (by kernel_rfl) (by kernel_rfl) (Below.refl _ _).drew ?_
                (repeat (first | (refine FlowI.skip (by rfl) ?_; simp only [Act.put, List.setIfInBounds_toArray, List.set_cons_zero, List.set_cons_succ]) | (refine' FlowI.take _ (by rfl) (fun W hW R hR => ?_) ?_; rotate_left; (go_simp; (try go_bits); with_reducible exact hR); simp only [Act.put, List.setIfInBounds_toArray, List.set_cons_zero, List.set_cons_succ])))
                (refine FlowI.call 73 #[.agg #[.int .i64 ((nx j : Nat) : Int), .int .i64 ((nx i : Nat) : Int)], .agg #[.int .i64 (i : Int), .int .i64 (j : Int)]] (.bool (false)) (by rfl) (fun X hX => by go_simp) (fun X hX => (ahead_first i j X false (by rw [HFB.out]; rfl)).mono fun e' w' ⟨he, hb'⟩ => ⟨he, bup' hX hb'⟩) ?_; simp only [Act.put, List.setIfInBounds_toArray, List.set_cons_zero, List.set_cons_succ])
                (repeat (first | (refine FlowI.skip (by rfl) ?_; simp only [Act.put, List.setIfInBounds_toArray, List.set_cons_zero, List.set_cons_succ]) | (refine' FlowI.take _ (by rfl) (fun W hW R hR => ?_) ?_; rotate_left; (go_simp; (try go_bits); with_reducible exact hR); simp only [Act.put, List.setIfInBounds_toArray, List.set_cons_zero, List.set_cons_succ])))
                (refine FlowI.call 74 #[.agg #[.int .i64 (i : Int), .int .i64 (j : Int)], .int .i64 n] (.int .i64 (2 * n * (i : Int) + (j : Int))) (by rfl) (fun X hX => by go_simp) (fun X hX => (at_any (i : Int) (j : Int) n X (by omega) (by omega) (by omega) (by omega) (by omega) (by omega)).mono fun e' w' ⟨he, hb'⟩ => ⟨he, bup' hX hb'⟩) ?_; simp only [Act.put, List.setIfInBounds_toArray, List.set_cons_zero, List.set_cons_succ])
                (repeat (first | (refine FlowI.skip (by rfl) ?_; simp only [Act.put, List.setIfInBounds_toArray, List.set_cons_zero, List.set_cons_succ]) | (refine' FlowI.take _ (by rfl) (fun W hW R hR => ?_) ?_; rotate_left; (go_simp; (try go_bits); with_reducible exact hR); simp only [Act.put, List.setIfInBounds_toArray, List.set_cons_zero, List.set_cons_succ])))
                intro w7 hb7
                replace hj1 := jstep.out _ _ _ hj1 hs5 hb7
                replace hk1 := hk1.later hb7
                replace hr1 := hr1.up hb7
                replace hs5 := Nat.le_trans hs5 hb7.size
                clear l0 l2 l50 l51 l60 l61
                obtain ⟨bA, oA, rfl, _, hc⟩ := hr1 (i * N + j) a4
                obtain ⟨vx, hvx⟩ : ∃ v, v = gI m ((i * N + j : Nat) : Int) := ⟨_, rfl⟩
                rw [← hvx] at hc
                have HVX := hid hvx
                clear hvx
                have a1 := HA1.out
                have a2 := HA2.out
                have a3 := HA3.out
                have a5 := HA5.out
                have a6 := HA6.out
                cases hv : (vx == 9223372036854775807)
                · have hkp : keepC N m i j = true := by
                    unfold keepC
                    rw [decide_eq_true (by simpa using HIJ.out), HFB.out, decide_eq_true (by rw [← HVX.out]; simpa using hv)]; rfl
                  have HKP := hid hkp
                  clear hkp
                  gi_wp2
                  clear a1 a2 a3 a5 a6
                  have c0 := later (k5.cell 0)
                  clear c0
                  have hk5 := k5.later hb7
                  have l0 := later (hk1.cell 0)
                  have l2 := later (hk1.cell 2)
                  have l50 := later (hk5.cell 0)
                  have l51 := later (hk5.cell 1)
                  have lc := later hc
                  have a1 := HA1.out
                  have a2 := HA2.out
                  have a3 := HA3.out
                  have a5 := HA5.out
                  have a6 := HA6.out
                  refine wpIn_region_flow 10 (fun X => Below w7.heap.size w7 X) (by kernel_rfl) (by kernel_rfl) (by kernel_rfl) (Below.refl _ _).drew ?_
                  (repeat (first | (refine FlowI.skip (by rfl) ?_; simp only [Act.put, List.setIfInBounds_toArray, List.set_cons_zero, List.set_cons_succ]) | (refine' FlowI.take _ (by rfl) (fun W hW R hR => ?_) ?_; rotate_left; (go_simp; (try go_bits); with_reducible exact hR); simp only [Act.put, List.setIfInBounds_toArray, List.set_cons_zero, List.set_cons_succ])))
                  (refine FlowI.call 74 #[.agg #[.int .i64 (i : Int), .int .i64 (j : Int)], .int .i64 n] (.int .i64 (2 * n * (i : Int) + (j : Int))) (by rfl) (fun X hX => by go_simp) (fun X hX => (at_any (i : Int) (j : Int) n X (by omega) (by omega) (by omega) (by omega) (by omega) (by omega)).mono fun e' w' ⟨he, hb'⟩ => ⟨he, bup' hX hb'⟩) ?_; simp only [Act.put, List.setIfInBounds_toArray, List.set_cons_zero, List.set_cons_succ])
                  (repeat (first | (refine FlowI.skip (by rfl) ?_; simp only [Act.put, List.setIfInBounds_toArray, List.set_cons_zero, List.set_cons_succ]) | (refine' FlowI.take _ (by rfl) (fun W hW R hR => ?_) ?_; rotate_left; (go_simp; (try go_bits); with_reducible exact hR); simp only [Act.put, List.setIfInBounds_toArray, List.set_cons_zero, List.set_cons_succ])))
                  intro w9 hb9
                  replace hj1 := jstep.out _ _ _ hj1 hs5 hb9
                  replace hk1 := hk1.later hb9
                  replace hr1 := hr1.up hb9
                  replace hs5 := Nat.le_trans hs5 hb9.size
                  clear l0 l2 l50 l51 lc a1 a2 a3 a5 a6
                  obtain ⟨fn, tmps, assign, body, hy, hR⟩ := HY.out (matC N m i ++ rowC N m i j) ⟨(i, j), hiN, hjN, HIJ.out⟩ w9 hj1 (by
                    have h1 := matC_len N m i
                    have h2 := rowC_len N m i j
                    have h3 := lt_sq hiN hjN
                    rw [List.length_append]; omega)
                  unfold encC at hy
                  dsimp only at hy
                  rw [← HVX.out] at hy
                  gi_wp2
                  refine hR.mono ?_
                  rintro ee W9 (⟨rfl, hJ9, hs9⟩ | ⟨rfl, hJ9⟩)
                  · have hrow : matC N m i ++ rowC N m i (j + 1) = matC N m i ++ rowC N m i j ++ [⟨(i, j), hiN, hjN, HIJ.out⟩] := by
                      show matC N m i ++ (rowC N m i j ++ (if keepC N m i j then celOf N i j else [])) = _
                      rw [HKP.out, if_pos rfl, celOf, dif_pos ⟨hiN, hjN, HIJ.out⟩, List.append_assoc]
                    have HROW := hid hrow
                    clear hrow hy hR
                    replace hk1 := hs9.blk hpb hk1
                    replace hr1 := hs9.rd hpA hr1
                    replace hs5 := Nat.le_trans hs5 hs9.1
                    gi_wp2
                    go_roundw
                    case rel => exact ⟨j + 1, by omega, by go_num, by rw [HROW.out]; exact hJ9, hk1, hr1, hs5⟩
                    case measure => simp [intOf]; omega
                  · clear hy hR
                    gi_wp2
                    refine bodyPost_ret (results_none rfl _ _ _) rfl ?_
                    exact ⟨⟨_, rfl⟩, .inr ⟨_, cut_pre hiN hjN HIJ.out HKP.out, hJ9⟩⟩
                · have hkp : keepC N m i j = false := by
                    unfold keepC
                    rw [decide_eq_false (p := gI m ((i * N + j : Nat) : Int) ≠ 9223372036854775807) (by rw [← HVX.out]; simpa using hv)]; simp
                  have HRC := hid (go_on.out hkp)
                  clear hkp
                  gi_wp2
                  go_roundw
                  case rel => exact ⟨j + 1, by omega, by go_num, by rw [HRC.out]; exact hj1, hk1, hr1, hs5⟩
                  case measure => simp [intOf]; omega
        · have t2 : ¬ (j : Int) < 2 * n := by have := HN.out; omega
          have hje : N = j := by omega
          subst hje
          gi_wp2
          go_roundw
          case rel => exact ⟨i + 1, by omega, by go_num, hj1, hk1, hr1, hs1⟩
          case measure => simp [intOf]; omega
    · have t1 : ¬ (i : Int) < 2 * n := by have := HN.out; omega
      have hie : N = i := by omega
      subst hie
      gi_wp2
      go_end0
      first
        | exact ⟨⟨_, rfl⟩, .inl hj1⟩
        | exact ⟨⟨_, rfl⟩, .inl ⟨_, rfl, hj1⟩⟩
end Go.Proofs.Ytanbplidigokgaa
