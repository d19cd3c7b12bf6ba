/-
  gnomonref12.Check: what is wrong with an octagon: the same as dbm.Check tells.
-/
import Derived.Test.YtkncebcekhfnfaaGreatBWE06
namespace Go.Proofs.YtkncebcekhfnfaaGreat
open Go.RowKit

set_option maxHeartbeats 400000 in
theorem across_any (i : Int) (w : World) (h0 : 0 ≤ i) (h1 : i ≤ 1000) :
    Calls Tryz.prog 68 #[.int .i64 i] w fun e w' => e = .returned (.int .i64 (xor1 i)) ∧ w = w' := by
  by_cases h : i % 2 = 0
  · have t : (i % 2 == 0) = true := by simpa using h
    clear h
    go_enter Tryz.func68, Tryz.ntmps68
    go_wp2
    go_ret
    exact ⟨ret64 (by unfold xor1; rw [if_pos (by simpa using t)]), rfl⟩
  · have t : (i % 2 == 0) = false := by simpa using h
    have t1 : 1 ≤ i := by omega
    clear h
    go_enter Tryz.func68, Tryz.ntmps68
    go_wp2
    go_ret
    exact ⟨ret64 (by unfold xor1; rw [if_neg (by simpa using t)]), rfl⟩

set_option maxHeartbeats 1000000 in
theorem rcheck_loops (n : Int) (m : List Int) (A : Option Addr) (cap : Nat) (w : World) (hr : Rd w w.heap.size A m) (hm : m.length ≤ 281474976710656) (hn : 0 ≤ n) (hn' : n ≤ 64) (hl : (m.length : Int) = 4 * n * n) :
    Calls Tryz.prog 56 #[.agg #[.int .i64 n, .bool false, .slice A m.length cap]] w fun e w' => e = .returned (.int .i64 (check ⟨n, false, m⟩)) ∧ Below w.heap.size w w' := by
  have t0 : ¬ n < 0 := by omega
  have t64 : ¬ 64 < n := by omega
  have tl : ((m.length : Int) != 4 * n * n) = false := by simpa using hl
  have tq : 0 ≤ 4 * n * n := Int.mul_nonneg (by omega) hn
  have tq' : 4 * n * n ≤ 4 * 64 * 64 := Int.mul_le_mul (by omega) (by omega) hn (by omega)
  have HL := hid hl; clear hl
  go_enter Tryz.func56, Tryz.ntmps56
  go_wp2
  have HB : Below (w.heap.size + 1) (w.alloc (Obj.cells #[Value.int IntKind.i64 n, Value.bool false, Value.slice A m.length cap] 53)) (w.alloc (Obj.cells #[Value.int IntKind.i64 n, Value.bool false, Value.slice A m.length cap] 53)) := Below.refl _ _
  have c2 : (w.alloc (Obj.cells #[Value.int IntKind.i64 n, Value.bool false, Value.slice A m.length cap] 53)).cell? ⟨w.heap.size, 2, none⟩ = some (.slice A m.length cap) := by simp [go_sem]
  have hr1 : Rd (w.alloc (Obj.cells #[Value.int IntKind.i64 n, Value.bool false, Value.slice A m.length cap] 53)) (w.heap.size + 1) A m := (hr.below ((Below.refl _ _).alloc (Nat.le_refl _) _)).more (Nat.le_succ _)
  have hb1 : Below w.heap.size w (w.alloc (Obj.cells #[Value.int IntKind.i64 n, Value.bool false, Value.slice A m.length cap] 53)) := (Below.refl _ _).alloc (Nat.le_refl _) _
  generalize w.alloc (Obj.cells #[Value.int IntKind.i64 n, Value.bool false, Value.slice A m.length cap] 53) = w1 at *
  go_loopw [4] (fun i wr => ∃ k : Nat, (k : Int) ≤ 2 * n ∧ i = .int .i64 k ∧ rowsOk ⟨n, false, m⟩ k = true ∧ Below (w.heap.size + 1) w1 wr) (fun i _ => (2 * n).toNat - (Go.RowKit.intOf i).toNat)
  case atStart => exact ⟨0, by omega, rfl, rfl, HB⟩
  case round =>
    obtain ⟨k, hk, rfl, hok, hbr⟩ := hrel
    by_cases hlt : (k : Int) < 2 * n
    · go_wp2
      go_loopw [5] (fun j wq => ∃ l : Nat, (l : Int) ≤ 2 * n ∧ j = .int .i64 l ∧ rowOk ⟨n, false, m⟩ k l = true ∧ Below (w.heap.size + 1) w1 wq) (fun j _ => (2 * n).toNat - (Go.RowKit.intOf j).toNat)
      case atStart => exact ⟨0, by omega, rfl, rfl, hbr⟩
      case round =>
        obtain ⟨l, hl, rfl, hokl, hbq⟩ := hrel
        by_cases hlt' : (l : Int) < 2 * n
        · have f2 : ∀ W, Below (w.heap.size + 1) w1 W → W.cell? ⟨w.heap.size, 2, none⟩ = some (.slice A m.length cap) := fun W hW => (hW.cell (p := ⟨w.heap.size, 2, none⟩) (Nat.lt_succ_self _)).trans c2
          have q2 := f2 _ hbq
          have ib := idx_bd (n := n) (k := k) (l := l) hn hn' (by omega) hlt (by omega) hlt' HL.out
          have eq0 : 2 * n * k = (k : Int) * (2 * n) := Int.mul_comm _ _
          have nc1 : 0 ≤ 2 * n * k := Int.mul_nonneg (by omega) (by omega)
          have nc2 : 2 * n * k ≤ 16384 := by have := HL.out; omega
          rw [eq0] at ib nc1 nc2
          obtain ⟨b, off, hA, hbB, hcell⟩ := hr1.at_ ib.1 ib.2
          rw [← eq0, show gI m (2 * n * k + l) = gI m (2 * n * k + l) from rfl] at hcell
          subst hA
          have lt1 : ∀ {o : Nat} {v : Value}, w1.cell? ⟨b, o, none⟩ = some v → b < w.heap.size + 1 → ∀ W, Below (w.heap.size + 1) w1 W → W.cell? ⟨b, o, none⟩ = some v := fun {o v} hc hB W hW => (hW.cell (p := ⟨b, o, none⟩) hB).trans hc
          have m0 : ∀ W, Below (w.heap.size + 1) w1 W → W.cell? ⟨b, off + ((k : Int) * (2 * n) + l).toNat, none⟩ = some (.int .i64 (gI m (2 * n * k + l))) := by rw [← eq0]; exact lt1 hcell hbB
          have mq := m0 _ hbq
          obtain ⟨ib1, ib2⟩ := ib
          clear hcell eq0
          go_wp2
          cases tb : isBound (gI m (2 * n * k + l))
          · refine wp_region_flow 27 (fun W => Below (w.heap.size + 1) w1 W) (by kernel_rfl) (by kernel_rfl) hbq.drew ?_
            (repeat (first | (refine Flow.skip (by rfl) ?_; simp only [Act.put, List.setIfInBounds_toArray, List.set_cons_zero, List.set_cons_succ]) | (refine' Flow.take _ (by rfl) (fun W hW R hR => ?_) ?_; rotate_left; (go_simp; (try go_bits); with_reducible exact hR); simp only [Act.put, List.setIfInBounds_toArray, List.set_cons_zero, List.set_cons_succ])))
            refine Flow.call 93 #[.int .i64 (gI m (2 * n * k + l))] (.bool false) (by rfl) (fun W hW => by go_simp) (fun W hW => (ris_any _ _).mono fun e w' ⟨he, hb⟩ => ⟨he.trans (retb tb), hb ▸ hW⟩) ?_
            simp only [Act.put, List.setIfInBounds_toArray, List.set_cons_zero, List.set_cons_succ]
            (repeat (first | (refine Flow.skip (by rfl) ?_; simp only [Act.put, List.setIfInBounds_toArray, List.set_cons_zero, List.set_cons_succ]) | (refine' Flow.take _ (by rfl) (fun W hW R hR => ?_) ?_; rotate_left; (go_simp; (try go_bits); with_reducible exact hR); simp only [Act.put, List.setIfInBounds_toArray, List.set_cons_zero, List.set_cons_succ])))
            intro w4 hb4
            go_wp2
            go_ret
            exact ⟨ret64 (check_bad hn hn' HL.out hlt hlt' (by unfold cellOk; simp only [tb, Bool.false_and])).symm, hb1.trans (hb4.mono (Nat.le_succ _))⟩
          · have mb := xor1_bd (n := n) (i := l) (by omega) hlt'
            have mk := xor1_bd (n := n) (i := k) (by omega) hlt
            have ib := idx_bd (n := n) (k := xor1 l) (l := xor1 k) hn hn' mb.1 mb.2 mk.1 mk.2 HL.out
            obtain ⟨b', off', hA', hbB', hcell'⟩ := hr1.at_ ib.1 ib.2
            obtain ⟨rfl, rfl⟩ : b = b' ∧ off = off' := by simpa using hA'
            have eq1 : 2 * n * xor1 l = xor1 l * (2 * n) := Int.mul_comm _ _
            have nb1 : 0 ≤ 2 * n * xor1 l := Int.mul_nonneg (by omega) mb.1
            have nb2 : 2 * n * xor1 l ≤ 16384 := by have := HL.out; omega
            have m1 : ∀ W, Below (w.heap.size + 1) w1 W → W.cell? ⟨b, off + (xor1 l * (2 * n) + xor1 k).toNat, none⟩ = some (.int .i64 (gI m (2 * n * xor1 l + xor1 k))) := by rw [← eq1]; exact lt1 hcell' hbB'
            rw [eq1] at ib nb1 nb2
            obtain ⟨jb1, jb2⟩ := ib
            clear hcell' eq1
            obtain ⟨mb1, mb2⟩ := mb
            obtain ⟨mk1, mk2⟩ := mk
            by_cases ekl : k = l
            · subst ekl
              have tkl : ((k : Int) == (k : Int)) = true := by simp
              cases tv : (gI m (2 * n * k + k) != 0)
              · cases tm : ((gI m (2 * n * k + k)) == (gI m (2 * n * xor1 k + xor1 k)))
                · have tm' : ((gI m (2 * n * k + k)) != (gI m (2 * n * xor1 k + xor1 k))) = true := by simpa using tm
                  refine wp_region_flow 27 (fun W => Below (w.heap.size + 1) w1 W) (by kernel_rfl) (by kernel_rfl) hbq.drew ?_
                  (repeat (first | (refine Flow.skip (by rfl) ?_; simp only [Act.put, List.setIfInBounds_toArray, List.set_cons_zero, List.set_cons_succ]) | (refine' Flow.take _ (by rfl) (fun W hW R hR => ?_) ?_; rotate_left; (go_simp; (try go_bits); with_reducible exact hR); simp only [Act.put, List.setIfInBounds_toArray, List.set_cons_zero, List.set_cons_succ])))
                  refine Flow.call 93 #[.int .i64 (gI m (2 * n * k + k))] (.bool true) (by rfl) (fun W hW => by go_simp) (fun W hW => (ris_any _ _).mono fun e w' ⟨he, hb⟩ => ⟨he.trans (retb tb), hb ▸ hW⟩) ?_
                  simp only [Act.put, List.setIfInBounds_toArray, List.set_cons_zero, List.set_cons_succ]
                  (repeat (first | (refine Flow.skip (by rfl) ?_; simp only [Act.put, List.setIfInBounds_toArray, List.set_cons_zero, List.set_cons_succ]) | (refine' Flow.take _ (by rfl) (fun W hW R hR => ?_) ?_; rotate_left; (go_simp; (try go_bits); with_reducible exact hR); simp only [Act.put, List.setIfInBounds_toArray, List.set_cons_zero, List.set_cons_succ])))
                  refine Flow.call 68 #[.int .i64 (k : Int)] (.int .i64 (xor1 k)) (by rfl) (fun W hW => by go_simp) (fun W hW => (across_any _ _ (by omega) (by omega)).mono fun e w' ⟨he, hb⟩ => ⟨he, hb ▸ hW⟩) ?_
                  simp only [Act.put, List.setIfInBounds_toArray, List.set_cons_zero, List.set_cons_succ]
                  (repeat (first | (refine Flow.skip (by rfl) ?_; simp only [Act.put, List.setIfInBounds_toArray, List.set_cons_zero, List.set_cons_succ]) | (refine' Flow.take _ (by rfl) (fun W hW R hR => ?_) ?_; rotate_left; (go_simp; (try go_bits); with_reducible exact hR); simp only [Act.put, List.setIfInBounds_toArray, List.set_cons_zero, List.set_cons_succ])))
                  refine Flow.call 68 #[.int .i64 (k : Int)] (.int .i64 (xor1 k)) (by rfl) (fun W hW => by go_simp) (fun W hW => (across_any _ _ (by omega) (by omega)).mono fun e w' ⟨he, hb⟩ => ⟨he, hb ▸ hW⟩) ?_
                  simp only [Act.put, List.setIfInBounds_toArray, List.set_cons_zero, List.set_cons_succ]
                  (repeat (first | (refine Flow.skip (by rfl) ?_; simp only [Act.put, List.setIfInBounds_toArray, List.set_cons_zero, List.set_cons_succ]) | (refine' Flow.take _ (by rfl) (fun W hW R hR => ?_) ?_; rotate_left; (go_simp; (try go_bits); with_reducible exact hR); simp only [Act.put, List.setIfInBounds_toArray, List.set_cons_zero, List.set_cons_succ])))
                  intro w4 hb4
                  go_wp2
                  go_ret
                  exact ⟨ret64 (check_bad hn hn' HL.out hlt hlt (by unfold cellOk; simp only [tm, Bool.and_false])).symm, hb1.trans (hb4.mono (Nat.le_succ _))⟩
                · have tm' : ((gI m (2 * n * k + k)) != (gI m (2 * n * xor1 k + xor1 k))) = false := by simpa using tm
                  refine wp_region_flow 27 (fun W => Below (w.heap.size + 1) w1 W) (by kernel_rfl) (by kernel_rfl) hbq.drew ?_
                  (repeat (first | (refine Flow.skip (by rfl) ?_; simp only [Act.put, List.setIfInBounds_toArray, List.set_cons_zero, List.set_cons_succ]) | (refine' Flow.take _ (by rfl) (fun W hW R hR => ?_) ?_; rotate_left; (go_simp; (try go_bits); with_reducible exact hR); simp only [Act.put, List.setIfInBounds_toArray, List.set_cons_zero, List.set_cons_succ])))
                  refine Flow.call 93 #[.int .i64 (gI m (2 * n * k + k))] (.bool true) (by rfl) (fun W hW => by go_simp) (fun W hW => (ris_any _ _).mono fun e w' ⟨he, hb⟩ => ⟨he.trans (retb tb), hb ▸ hW⟩) ?_
                  simp only [Act.put, List.setIfInBounds_toArray, List.set_cons_zero, List.set_cons_succ]
                  (repeat (first | (refine Flow.skip (by rfl) ?_; simp only [Act.put, List.setIfInBounds_toArray, List.set_cons_zero, List.set_cons_succ]) | (refine' Flow.take _ (by rfl) (fun W hW R hR => ?_) ?_; rotate_left; (go_simp; (try go_bits); with_reducible exact hR); simp only [Act.put, List.setIfInBounds_toArray, List.set_cons_zero, List.set_cons_succ])))
                  refine Flow.call 68 #[.int .i64 (k : Int)] (.int .i64 (xor1 k)) (by rfl) (fun W hW => by go_simp) (fun W hW => (across_any _ _ (by omega) (by omega)).mono fun e w' ⟨he, hb⟩ => ⟨he, hb ▸ hW⟩) ?_
                  simp only [Act.put, List.setIfInBounds_toArray, List.set_cons_zero, List.set_cons_succ]
                  (repeat (first | (refine Flow.skip (by rfl) ?_; simp only [Act.put, List.setIfInBounds_toArray, List.set_cons_zero, List.set_cons_succ]) | (refine' Flow.take _ (by rfl) (fun W hW R hR => ?_) ?_; rotate_left; (go_simp; (try go_bits); with_reducible exact hR); simp only [Act.put, List.setIfInBounds_toArray, List.set_cons_zero, List.set_cons_succ])))
                  refine Flow.call 68 #[.int .i64 (k : Int)] (.int .i64 (xor1 k)) (by rfl) (fun W hW => by go_simp) (fun W hW => (across_any _ _ (by omega) (by omega)).mono fun e w' ⟨he, hb⟩ => ⟨he, hb ▸ hW⟩) ?_
                  simp only [Act.put, List.setIfInBounds_toArray, List.set_cons_zero, List.set_cons_succ]
                  (repeat (first | (refine Flow.skip (by rfl) ?_; simp only [Act.put, List.setIfInBounds_toArray, List.set_cons_zero, List.set_cons_succ]) | (refine' Flow.take _ (by rfl) (fun W hW R hR => ?_) ?_; rotate_left; (go_simp; (try go_bits); with_reducible exact hR); simp only [Act.put, List.setIfInBounds_toArray, List.set_cons_zero, List.set_cons_succ])))
                  intro w4 hb4
                  go_wp2
                  go_roundw
                  case rel => exact ⟨k + 1, by omega, by go_num, rowOk_succ hokl (by unfold cellOk; simp only [tm, tb, tv, Bool.and_false, Bool.not_false, Bool.and_true]), hb4⟩
                  case measure => simp [Go.RowKit.intOf]; omega
              · refine wp_region_flow 27 (fun W => Below (w.heap.size + 1) w1 W) (by kernel_rfl) (by kernel_rfl) hbq.drew ?_
                (repeat (first | (refine Flow.skip (by rfl) ?_; simp only [Act.put, List.setIfInBounds_toArray, List.set_cons_zero, List.set_cons_succ]) | (refine' Flow.take _ (by rfl) (fun W hW R hR => ?_) ?_; rotate_left; (go_simp; (try go_bits); with_reducible exact hR); simp only [Act.put, List.setIfInBounds_toArray, List.set_cons_zero, List.set_cons_succ])))
                refine Flow.call 93 #[.int .i64 (gI m (2 * n * k + k))] (.bool true) (by rfl) (fun W hW => by go_simp) (fun W hW => (ris_any _ _).mono fun e w' ⟨he, hb⟩ => ⟨he.trans (retb tb), hb ▸ hW⟩) ?_
                simp only [Act.put, List.setIfInBounds_toArray, List.set_cons_zero, List.set_cons_succ]
                (repeat (first | (refine Flow.skip (by rfl) ?_; simp only [Act.put, List.setIfInBounds_toArray, List.set_cons_zero, List.set_cons_succ]) | (refine' Flow.take _ (by rfl) (fun W hW R hR => ?_) ?_; rotate_left; (go_simp; (try go_bits); with_reducible exact hR); simp only [Act.put, List.setIfInBounds_toArray, List.set_cons_zero, List.set_cons_succ])))
                intro w4 hb4
                go_wp2
                go_ret
                exact ⟨ret64 (check_bad hn hn' HL.out hlt hlt (by unfold cellOk; simp only [tv, decide_true, Bool.and_self, Bool.not_true, Bool.and_false, Bool.false_and])).symm, hb1.trans (hb4.mono (Nat.le_succ _))⟩
            · have tkl : ((k : Int) == (l : Int)) = false := by rw [beq_eq_false_iff_ne]; omega
              have tkd : decide ((k : Int) = (l : Int)) = false := decide_eq_false (by omega)
              cases tm : ((gI m (2 * n * k + l)) == (gI m (2 * n * xor1 l + xor1 k)))
              · have tm' : ((gI m (2 * n * k + l)) != (gI m (2 * n * xor1 l + xor1 k))) = true := by simpa using tm
                refine wp_region_flow 27 (fun W => Below (w.heap.size + 1) w1 W) (by kernel_rfl) (by kernel_rfl) hbq.drew ?_
                (repeat (first | (refine Flow.skip (by rfl) ?_; simp only [Act.put, List.setIfInBounds_toArray, List.set_cons_zero, List.set_cons_succ]) | (refine' Flow.take _ (by rfl) (fun W hW R hR => ?_) ?_; rotate_left; (go_simp; (try go_bits); with_reducible exact hR); simp only [Act.put, List.setIfInBounds_toArray, List.set_cons_zero, List.set_cons_succ])))
                refine Flow.call 93 #[.int .i64 (gI m (2 * n * k + l))] (.bool true) (by rfl) (fun W hW => by go_simp) (fun W hW => (ris_any _ _).mono fun e w' ⟨he, hb⟩ => ⟨he.trans (retb tb), hb ▸ hW⟩) ?_
                simp only [Act.put, List.setIfInBounds_toArray, List.set_cons_zero, List.set_cons_succ]
                (repeat (first | (refine Flow.skip (by rfl) ?_; simp only [Act.put, List.setIfInBounds_toArray, List.set_cons_zero, List.set_cons_succ]) | (refine' Flow.take _ (by rfl) (fun W hW R hR => ?_) ?_; rotate_left; (go_simp; (try go_bits); with_reducible exact hR); simp only [Act.put, List.setIfInBounds_toArray, List.set_cons_zero, List.set_cons_succ])))
                refine Flow.call 68 #[.int .i64 (l : Int)] (.int .i64 (xor1 l)) (by rfl) (fun W hW => by go_simp) (fun W hW => (across_any _ _ (by omega) (by omega)).mono fun e w' ⟨he, hb⟩ => ⟨he, hb ▸ hW⟩) ?_
                simp only [Act.put, List.setIfInBounds_toArray, List.set_cons_zero, List.set_cons_succ]
                (repeat (first | (refine Flow.skip (by rfl) ?_; simp only [Act.put, List.setIfInBounds_toArray, List.set_cons_zero, List.set_cons_succ]) | (refine' Flow.take _ (by rfl) (fun W hW R hR => ?_) ?_; rotate_left; (go_simp; (try go_bits); with_reducible exact hR); simp only [Act.put, List.setIfInBounds_toArray, List.set_cons_zero, List.set_cons_succ])))
                refine Flow.call 68 #[.int .i64 (k : Int)] (.int .i64 (xor1 k)) (by rfl) (fun W hW => by go_simp) (fun W hW => (across_any _ _ (by omega) (by omega)).mono fun e w' ⟨he, hb⟩ => ⟨he, hb ▸ hW⟩) ?_
                simp only [Act.put, List.setIfInBounds_toArray, List.set_cons_zero, List.set_cons_succ]
                (repeat (first | (refine Flow.skip (by rfl) ?_; simp only [Act.put, List.setIfInBounds_toArray, List.set_cons_zero, List.set_cons_succ]) | (refine' Flow.take _ (by rfl) (fun W hW R hR => ?_) ?_; rotate_left; (go_simp; (try go_bits); with_reducible exact hR); simp only [Act.put, List.setIfInBounds_toArray, List.set_cons_zero, List.set_cons_succ])))
                intro w4 hb4
                go_wp2
                go_ret
                exact ⟨ret64 (check_bad hn hn' HL.out hlt hlt' (by unfold cellOk; simp only [tm, Bool.and_false])).symm, hb1.trans (hb4.mono (Nat.le_succ _))⟩
              · have tm' : ((gI m (2 * n * k + l)) != (gI m (2 * n * xor1 l + xor1 k))) = false := by simpa using tm
                refine wp_region_flow 27 (fun W => Below (w.heap.size + 1) w1 W) (by kernel_rfl) (by kernel_rfl) hbq.drew ?_
                (repeat (first | (refine Flow.skip (by rfl) ?_; simp only [Act.put, List.setIfInBounds_toArray, List.set_cons_zero, List.set_cons_succ]) | (refine' Flow.take _ (by rfl) (fun W hW R hR => ?_) ?_; rotate_left; (go_simp; (try go_bits); with_reducible exact hR); simp only [Act.put, List.setIfInBounds_toArray, List.set_cons_zero, List.set_cons_succ])))
                refine Flow.call 93 #[.int .i64 (gI m (2 * n * k + l))] (.bool true) (by rfl) (fun W hW => by go_simp) (fun W hW => (ris_any _ _).mono fun e w' ⟨he, hb⟩ => ⟨he.trans (retb tb), hb ▸ hW⟩) ?_
                simp only [Act.put, List.setIfInBounds_toArray, List.set_cons_zero, List.set_cons_succ]
                (repeat (first | (refine Flow.skip (by rfl) ?_; simp only [Act.put, List.setIfInBounds_toArray, List.set_cons_zero, List.set_cons_succ]) | (refine' Flow.take _ (by rfl) (fun W hW R hR => ?_) ?_; rotate_left; (go_simp; (try go_bits); with_reducible exact hR); simp only [Act.put, List.setIfInBounds_toArray, List.set_cons_zero, List.set_cons_succ])))
                refine Flow.call 68 #[.int .i64 (l : Int)] (.int .i64 (xor1 l)) (by rfl) (fun W hW => by go_simp) (fun W hW => (across_any _ _ (by omega) (by omega)).mono fun e w' ⟨he, hb⟩ => ⟨he, hb ▸ hW⟩) ?_
                simp only [Act.put, List.setIfInBounds_toArray, List.set_cons_zero, List.set_cons_succ]
                (repeat (first | (refine Flow.skip (by rfl) ?_; simp only [Act.put, List.setIfInBounds_toArray, List.set_cons_zero, List.set_cons_succ]) | (refine' Flow.take _ (by rfl) (fun W hW R hR => ?_) ?_; rotate_left; (go_simp; (try go_bits); with_reducible exact hR); simp only [Act.put, List.setIfInBounds_toArray, List.set_cons_zero, List.set_cons_succ])))
                refine Flow.call 68 #[.int .i64 (k : Int)] (.int .i64 (xor1 k)) (by rfl) (fun W hW => by go_simp) (fun W hW => (across_any _ _ (by omega) (by omega)).mono fun e w' ⟨he, hb⟩ => ⟨he, hb ▸ hW⟩) ?_
                simp only [Act.put, List.setIfInBounds_toArray, List.set_cons_zero, List.set_cons_succ]
                (repeat (first | (refine Flow.skip (by rfl) ?_; simp only [Act.put, List.setIfInBounds_toArray, List.set_cons_zero, List.set_cons_succ]) | (refine' Flow.take _ (by rfl) (fun W hW R hR => ?_) ?_; rotate_left; (go_simp; (try go_bits); with_reducible exact hR); simp only [Act.put, List.setIfInBounds_toArray, List.set_cons_zero, List.set_cons_succ])))
                intro w4 hb4
                go_wp2
                go_roundw
                case rel => exact ⟨l + 1, by omega, by go_num, rowOk_succ hokl (by unfold cellOk; simp only [tm, tb, tkd, Bool.false_and, Bool.not_false, Bool.and_true]), hb4⟩
                case measure => simp [Go.RowKit.intOf]; omega
        · have hll : l = (2 * n).toNat := by omega
          have hrow : rowOk ⟨n, false, m⟩ k (2 * n).toNat = true := by rw [← hll]; exact hokl
          have hnl : ¬ (l : Int) < 2 * n := hlt'
          clear hll
          go_wp2
          go_roundw
          case rel => exact ⟨k + 1, by omega, by go_num, rowsOk_succ hok hrow, hbq⟩
          case measure => simp [Go.RowKit.intOf]; omega
    · have hkk : k = (2 * n).toNat := by omega
      have hrow : rowsOk ⟨n, false, m⟩ (2 * n).toNat = true := by rw [← hkk]; exact hok
      clear hkk
      go_wp2
      go_ret
      exact ⟨ret64 (check_good hn hn' HL.out hrow).symm, hb1.trans (hbr.mono (Nat.le_succ _))⟩

set_option maxHeartbeats 1000000 in
theorem rcheck_any (o : O) (A : Option Addr) (cap : Nat) (w : World) (hr : Rd w w.heap.size A o.m) (hm : o.m.length ≤ 281474976710656) :
    Calls Tryz.prog 56 #[.agg #[.int .i64 o.n, .bool o.e, .slice A o.m.length cap]] w fun e w' => e = .returned (.int .i64 (check o)) ∧ Below w.heap.size w w' := by
  obtain ⟨n, e, m⟩ := o
  dsimp only at *
  by_cases hn0 : n < 0
  · go_enter Tryz.func56, Tryz.ntmps56
    go_wp2
    go_ret
    exact ⟨ret64 (check_n (by dsimp only; omega)).symm, (Below.refl _ _).alloc (Nat.le_refl _) _⟩
  by_cases hn6 : 64 < n
  · go_enter Tryz.func56, Tryz.ntmps56
    go_wp2
    go_ret
    exact ⟨ret64 (check_n (by dsimp only; omega)).symm, (Below.refl _ _).alloc (Nat.le_refl _) _⟩
  have hn : 0 ≤ n ∧ n ≤ 64 := by omega
  cases e
  · by_cases hl : (m.length : Int) = 4 * n * n
    · exact rcheck_loops n m A cap w hr hm hn.1 hn.2 hl
    · have tl : ((m.length : Int) != 4 * n * n) = true := by simpa using hl
      obtain ⟨hn1, hn2⟩ := hn
      have tq : 0 ≤ 4 * n * n := Int.mul_nonneg (by omega) hn1
      have tq' : 4 * n * n ≤ 4 * 64 * 64 := Int.mul_le_mul (by omega) (by omega) hn1 (by omega)
      go_enter Tryz.func56, Tryz.ntmps56
      go_wp2
      go_ret
      exact ⟨ret64 (check_l hl).symm, (Below.refl _ _).alloc (Nat.le_refl _) _⟩
  · by_cases hl : m.length = 0
    · obtain rfl : m = [] := List.eq_nil_of_length_eq_zero hl
      clear hl
      go_enter Tryz.func56, Tryz.ntmps56
      go_wp2
      go_ret
      exact ⟨ret64 (check_e0 hn).symm, (Below.refl _ _).alloc (Nat.le_refl _) _⟩
    · have tl : ((m.length : Int) != 0) = true := by simpa using hl
      have hp : 0 < m.length := by omega
      clear hl
      go_enter Tryz.func56, Tryz.ntmps56
      go_wp2
      go_ret
      exact ⟨ret64 (check_e1 hp).symm, (Below.refl _ _).alloc (Nat.le_refl _) _⟩
end Go.Proofs.YtkncebcekhfnfaaGreat
