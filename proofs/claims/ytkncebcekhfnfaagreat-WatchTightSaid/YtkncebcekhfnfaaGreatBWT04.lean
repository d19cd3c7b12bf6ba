/-
  dbm.Check: what is wrong with an octagon.
-/
import Derived.Test.YtkncebcekhfnfaaGreatBWT02
namespace Go.Proofs.YtkncebcekhfnfaaGreat
open Go.RowKit
attribute [local go_sem ↓] Go.wp_at_zero Go.wp_at_succ

def cellOk (o : O) (i j : Int) : Bool := isBound (gI o.m (2 * o.n * i + j)) && !(decide (i = j) && (gI o.m (2 * o.n * i + j) != 0)) && (gI o.m (2 * o.n * i + j) == gI o.m (2 * o.n * xor1 j + xor1 i))
def sizeBad (o : O) : Bool := !(decide (0 ≤ o.n ∧ o.n ≤ 64)) || (o.e && decide (0 < o.m.length)) || (!o.e && !(decide ((o.m.length : Int) = 4 * o.n * o.n)))
def rowOk (o : O) (i : Int) (k : Nat) : Bool := (List.range k).all fun j => cellOk o i j
def rowsOk (o : O) (k : Nat) : Bool := (List.range k).all fun i => rowOk o i (2 * o.n).toNat
def check (o : O) : Int := if sizeBad o then 120 else if o.e then 0 else if rowsOk o (2 * o.n).toNat then 0 else 121

theorem rowOk_succ {o : O} {i : Int} {k : Nat} (h : rowOk o i k = true) (h1 : cellOk o i k = true) : rowOk o i (k + 1) = true := by
  unfold rowOk at *; rw [List.range_succ, List.all_append, h]; simpa using h1
theorem rowsOk_succ {o : O} {k : Nat} (h : rowsOk o k = true) (h1 : rowOk o k (2 * o.n).toNat = true) : rowsOk o (k + 1) = true := by
  unfold rowsOk at *; rw [List.range_succ, List.all_append, h]; simpa using h1
theorem sizeOk {n : Int} {m : List Int} (hn : 0 ≤ n) (hn' : n ≤ 64) (hl : (m.length : Int) = 4 * n * n) : sizeBad ⟨n, false, m⟩ = false := by
  unfold sizeBad; simp [hn, hn', hl]
theorem check_good {n : Int} {m : List Int} (hn : 0 ≤ n) (hn' : n ≤ 64) (hl : (m.length : Int) = 4 * n * n) (h : rowsOk ⟨n, false, m⟩ (2 * n).toNat = true) : check ⟨n, false, m⟩ = 0 := by
  unfold check; rw [sizeOk hn hn' hl]; simp [h]
theorem check_bad {n : Int} {m : List Int} {k l : Nat} (hn : 0 ≤ n) (hn' : n ≤ 64) (hl : (m.length : Int) = 4 * n * n) (hk : (k : Int) < 2 * n) (hl' : (l : Int) < 2 * n) (h : cellOk ⟨n, false, m⟩ k l = false) : check ⟨n, false, m⟩ = 121 := by
  have h1 : rowOk ⟨n, false, m⟩ k (2 * n).toNat = false := by
    unfold rowOk; rw [List.all_eq_false]; exact ⟨l, by simp; omega, by simp [h]⟩
  have h2 : rowsOk ⟨n, false, m⟩ (2 * n).toNat = false := by
    unfold rowsOk; rw [List.all_eq_false]; exact ⟨k, by simp; omega, by simp [h1]⟩
  unfold check; rw [sizeOk hn hn' hl]; simp [h2]
theorem idx_bd {n k l L : Int} (hn : 0 ≤ n) (_ : n ≤ 64) (h0 : 0 ≤ k) (h1 : k < 2 * n) (h2 : 0 ≤ l) (h3 : l < 2 * n) (hl : L = 4 * n * n) : 0 ≤ 2 * n * k + l ∧ 2 * n * k + l < L := by
  have e1 : 0 ≤ 2 * n * k := Int.mul_nonneg (by omega) h0
  have e2 : 2 * n * (k + 1) ≤ 2 * n * (2 * n) := Int.mul_le_mul_of_nonneg_left (by omega) (by omega)
  have e3 : 2 * n * (2 * n) = 4 * n * n := by rw [Int.mul_assoc, Int.mul_assoc, Int.mul_comm n (2 * n), Int.mul_assoc, ← Int.mul_assoc 2 2]; rfl
  have e4 : 2 * n * (k + 1) = 2 * n * k + 2 * n := by rw [Int.mul_add, Int.mul_one]
  omega
set_option maxHeartbeats 1000000 in
theorem check_loops (n : Int) (m : List Int) (A : Option Addr) (cap : Nat) (w : World) (hr : Rd w w.heap.size A m) (_hm : m.length ≤ 281474976710656) (hn : 0 ≤ n) (hn' : n ≤ 64) (hl : (m.length : Int) = 4 * n * n) :
    Calls Tryz.prog 48 #[.agg #[.int .i64 n, .bool false, .slice A m.length cap]] w fun e w' => e = .returned (.int .i64 (check ⟨n, false, m⟩)) ∧ Below w.heap.size w w' := by
  have tn := decide_eq_true (And.intro hn hn')
  have tl : ((m.length : Int) != 4 * n * n) = false := by simpa using hl
  have tq : 0 ≤ 4 * n * n := Int.mul_nonneg (by omega) hn
  have tq' : 4 * n * n ≤ 4 * 64 * 64 := Int.mul_le_mul (by omega) (by omega) hn (by omega)
  have HL := hid hl; clear hl
  go_enter Tryz.func48, Tryz.ntmps48
  go_wp2_with (go_at_call 61; refine (dright_any _ _).mono ?_; rintro e w' ⟨rfl, rfl⟩)
  have HB : Below (w.heap.size + 1) (w.alloc (Obj.cells #[Value.int IntKind.i64 n, Value.bool false, Value.slice A m.length cap] 53)) (w.alloc (Obj.cells #[Value.int IntKind.i64 n, Value.bool false, Value.slice A m.length cap] 53)) := Below.refl _ _
  have c0 : (w.alloc (Obj.cells #[Value.int IntKind.i64 n, Value.bool false, Value.slice A m.length cap] 53)).cell? ⟨w.heap.size, 0, none⟩ = some (.int .i64 n) := by simp [go_sem]
  have c2 : (w.alloc (Obj.cells #[Value.int IntKind.i64 n, Value.bool false, Value.slice A m.length cap] 53)).cell? ⟨w.heap.size, 2, none⟩ = some (.slice A m.length cap) := by simp [go_sem]
  have hr1 : Rd (w.alloc (Obj.cells #[Value.int IntKind.i64 n, Value.bool false, Value.slice A m.length cap] 53)) (w.heap.size + 1) A m := (hr.below ((Below.refl _ _).alloc (Nat.le_refl _) _)).more (Nat.le_succ _)
  have hs1 : w.heap.size + 1 = (w.alloc (Obj.cells #[Value.int IntKind.i64 n, Value.bool false, Value.slice A m.length cap] 53)).heap.size := by simp
  have hb1 : Below w.heap.size w (w.alloc (Obj.cells #[Value.int IntKind.i64 n, Value.bool false, Value.slice A m.length cap] 53)) := (Below.refl _ _).alloc (Nat.le_refl _) _
  generalize hw1 : w.alloc (Obj.cells #[Value.int IntKind.i64 n, Value.bool false, Value.slice A m.length cap] 53) = w1 at *
  go_loopw [43] (fun i wr => ∃ k : Nat, (k : Int) ≤ 2 * n ∧ i = .int .i64 k ∧ rowsOk ⟨n, false, m⟩ k = true ∧ Below (w.heap.size + 1) w1 wr) (fun i _ => (2 * n).toNat - (Go.RowKit.intOf i).toNat)
  case atStart => exact ⟨0, by omega, rfl, rfl, HB⟩
  case round =>
    obtain ⟨k, hk, rfl, hok, hbr⟩ := hrel
    have d0 := (hbr.cell (p := ⟨w.heap.size, 0, none⟩) (by simp)).trans c0
    by_cases hlt : (k : Int) < 2 * n
    · go_wp2
      go_loopw [49] (fun j wq => ∃ l : Nat, (l : Int) ≤ 2 * n ∧ j = .int .i64 l ∧ rowOk ⟨n, false, m⟩ k l = true ∧ Below (w.heap.size + 1) w1 wq) (fun j _ => (2 * n).toNat - (Go.RowKit.intOf j).toNat)
      case atStart => exact ⟨0, by omega, rfl, rfl, hbr⟩
      case round =>
        obtain ⟨l, hl, rfl, hokl, hbq⟩ := hrel
        have q0 := (hbq.cell (p := ⟨w.heap.size, 0, none⟩) (by simp)).trans c0
        by_cases hlt' : (l : Int) < 2 * n
        · go_wp2
          have e0 : (wr.alloc (Obj.cells #[Value.int IntKind.i64 ↑k, Value.int IntKind.i64 ↑l] 107)).cell? ⟨w.heap.size, 0, none⟩ = some (.int .i64 n) := cell_later ((Below.refl _ _).alloc (Nat.le_refl _) _) q0
          have q2 := (hbq.cell (p := ⟨w.heap.size, 2, none⟩) (by simp)).trans c2
          have e2 : (wr.alloc (Obj.cells #[Value.int IntKind.i64 ↑k, Value.int IntKind.i64 ↑l] 107)).cell? ⟨w.heap.size, 2, none⟩ = some (.slice A m.length cap) := cell_later ((Below.refl _ _).alloc (Nat.le_refl _) _) q2
          have a0 : (wr.alloc (Obj.cells #[Value.int IntKind.i64 ↑k, Value.int IntKind.i64 ↑l] 107)).cell? ⟨wr.heap.size, 0, none⟩ = some (.int .i64 k) := by simp [go_sem]
          have a1 : (wr.alloc (Obj.cells #[Value.int IntKind.i64 ↑k, Value.int IntKind.i64 ↑l] 107)).cell? ⟨wr.heap.size, 1, none⟩ = some (.int .i64 l) := by simp [go_sem]
          have hb2 : Below (w.heap.size + 1) wr (wr.alloc (Obj.cells #[Value.int IntKind.i64 ↑k, Value.int IntKind.i64 ↑l] 107)) := (Below.refl _ _).alloc (by have := hbq.size; omega) _
          generalize hw2 : wr.alloc (Obj.cells #[Value.int IntKind.i64 ↑k, Value.int IntKind.i64 ↑l] 107) = w2 at *
          have hs2 : w.heap.size + 1 ≤ w2.heap.size := by have := hbq.size; have := hb2.size; omega
          have f0 := later e0
          have f2 := later e2
          have g0 := later a0
          have g1 := later a1
          clear e0 e2 a0 a1 q0 q2
          have ib := idx_bd (n := n) (k := k) (l := l) hn hn' (by omega) hlt (by omega) hlt' HL.out
          obtain ⟨b, off, hA, hbB, hcell⟩ := hr1.at_ ib.1 ib.2
          subst hA
          have m0 := later (((hbq.trans hb2).cell (p := ⟨b, off + (2 * n * k + l).toNat, none⟩) hbB).trans hcell)
          obtain ⟨ib1, ib2⟩ := ib
          refine wp_region_flow 9 (fun W => Below w2.heap.size w2 W) (by kernel_rfl) (by kernel_rfl) ?_ ?_
          · exact (Below.refl _ _).drew
          (repeat (first | (refine Flow.skip (by rfl) ?_; simp only [Act.put, List.setIfInBounds_toArray, List.set_cons_zero, List.set_cons_succ]) | (refine' Flow.take _ (by rfl) (fun W hW R hR => ?_) ?_; rotate_left; (go_simp; (try go_bits); with_reducible exact hR); simp only [Act.put, List.setIfInBounds_toArray, List.set_cons_zero, List.set_cons_succ])))
          refine Flow.call 52 #[.agg #[.int .i64 (k : Int), .int .i64 (l : Int)], .int .i64 n] (.int .i64 (2 * n * k + l)) (by rfl) (fun W hW => by go_simp) (fun W hW => (at_any _ _ _ _ hn hn' (by omega) (by omega) (by omega) (by omega)).mono fun e w' ⟨he, hb⟩ => ⟨he, bstep hW hW.size hb⟩) ?_
          simp only [Act.put, List.setIfInBounds_toArray, List.set_cons_zero, List.set_cons_succ]
          (repeat (first | (refine Flow.skip (by rfl) ?_; simp only [Act.put, List.setIfInBounds_toArray, List.set_cons_zero, List.set_cons_succ]) | (refine' Flow.take _ (by rfl) (fun W hW R hR => ?_) ?_; rotate_left; (go_simp; (try go_bits); with_reducible exact hR); simp only [Act.put, List.setIfInBounds_toArray, List.set_cons_zero, List.set_cons_succ])))
          intro w3 hb3
          go_wp2
          cases tb : isBound (gI m (2 * n * k + l))
          · refine wp_region_flow 25 (fun W => Below w2.heap.size w2 W) (by kernel_rfl) (by kernel_rfl) hb3.drew ?_
            (repeat (first | (refine Flow.skip (by rfl) ?_; simp only [Act.put, List.setIfInBounds_toArray, List.set_cons_zero, List.set_cons_succ]) | (refine' Flow.take _ (by rfl) (fun W hW R hR => ?_) ?_; rotate_left; (go_simp; (try go_bits); with_reducible exact hR); simp only [Act.put, List.setIfInBounds_toArray, List.set_cons_zero, List.set_cons_succ])))
            refine Flow.call 80 #[.int .i64 (gI m (2 * n * k + l))] (.bool false) (by rfl) (fun W hW => by go_simp) (fun W hW => (is_any _ _).mono fun e w' ⟨he, hb⟩ => ⟨he.trans (retb tb), hb ▸ hW⟩) ?_
            simp only [Act.put, List.setIfInBounds_toArray, List.set_cons_zero, List.set_cons_succ]
            (repeat (first | (refine Flow.skip (by rfl) ?_; simp only [Act.put, List.setIfInBounds_toArray, List.set_cons_zero, List.set_cons_succ]) | (refine' Flow.take _ (by rfl) (fun W hW R hR => ?_) ?_; rotate_left; (go_simp; (try go_bits); with_reducible exact hR); simp only [Act.put, List.setIfInBounds_toArray, List.set_cons_zero, List.set_cons_succ])))
            intro w4 hb4
            go_wp2
            go_ret
            exact ⟨ret64 (check_bad hn hn' HL.out hlt hlt' (by unfold cellOk; simp only [tb, Bool.false_and])).symm, hb1.trans ((bstep (hbq.trans hb2) hs2 hb4).mono (Nat.le_succ _))⟩
          · have mb := xor1_bd (n := n) (i := l) (by omega) hlt'
            have mk := xor1_bd (n := n) (i := k) (by omega) hlt
            have ib := idx_bd (n := n) (k := xor1 l) (l := xor1 k) hn hn' mb.1 mb.2 mk.1 mk.2 HL.out
            obtain ⟨b', off', hA', hbB', hcell'⟩ := hr1.at_ ib.1 ib.2
            obtain ⟨rfl, rfl⟩ : b = b' ∧ off = off' := by simpa using hA'
            have m1 := later (((hbq.trans hb2).cell (p := ⟨b, off + (2 * n * xor1 l + xor1 k).toNat, none⟩) hbB').trans hcell')
            obtain ⟨jb1, jb2⟩ := ib
            obtain ⟨mb1, mb2⟩ := mb
            obtain ⟨mk1, mk2⟩ := mk
            by_cases ekl : k = l
            · subst ekl
              have tkl : ((k : Int) == (k : Int)) = true := by simp
              cases tv : (gI m (2 * n * k + k) != 0)
              · cases tm : ((gI m (2 * n * k + k)) == (gI m (2 * n * xor1 k + xor1 k)))
                · have tm' : ((gI m (2 * n * k + k)) != (gI m (2 * n * xor1 k + xor1 k))) = true := by simpa using tm
                  refine wp_region_flow 25 (fun W => Below w2.heap.size w2 W) (by kernel_rfl) (by kernel_rfl) hb3.drew ?_
                  (repeat (first | (refine Flow.skip (by rfl) ?_; simp only [Act.put, List.setIfInBounds_toArray, List.set_cons_zero, List.set_cons_succ]) | (refine' Flow.take _ (by rfl) (fun W hW R hR => ?_) ?_; rotate_left; (go_simp; (try go_bits); with_reducible exact hR); simp only [Act.put, List.setIfInBounds_toArray, List.set_cons_zero, List.set_cons_succ])))
                  refine Flow.call 80 #[.int .i64 (gI m (2 * n * k + k))] (.bool true) (by rfl) (fun W hW => by go_simp) (fun W hW => (is_any _ _).mono fun e w' ⟨he, hb⟩ => ⟨he.trans (retb tb), hb ▸ hW⟩) ?_
                  simp only [Act.put, List.setIfInBounds_toArray, List.set_cons_zero, List.set_cons_succ]
                  (repeat (first | (refine Flow.skip (by rfl) ?_; simp only [Act.put, List.setIfInBounds_toArray, List.set_cons_zero, List.set_cons_succ]) | (refine' Flow.take _ (by rfl) (fun W hW R hR => ?_) ?_; rotate_left; (go_simp; (try go_bits); with_reducible exact hR); simp only [Act.put, List.setIfInBounds_toArray, List.set_cons_zero, List.set_cons_succ])))
                  refine Flow.call 81 #[.agg #[.int .i64 (k : Int), .int .i64 (k : Int)]] (.agg #[.int .i64 (xor1 k), .int .i64 (xor1 k)]) (by rfl) (fun W hW => by go_simp) (fun W hW => (mirror_any _ _ _ (by omega) (by omega) (by omega) (by omega)).mono fun e w' ⟨he, hb⟩ => ⟨he, bstep hW hW.size hb⟩) ?_
                  simp only [Act.put, List.setIfInBounds_toArray, List.set_cons_zero, List.set_cons_succ]
                  (repeat (first | (refine Flow.skip (by rfl) ?_; simp only [Act.put, List.setIfInBounds_toArray, List.set_cons_zero, List.set_cons_succ]) | (refine' Flow.take _ (by rfl) (fun W hW R hR => ?_) ?_; rotate_left; (go_simp; (try go_bits); with_reducible exact hR); simp only [Act.put, List.setIfInBounds_toArray, List.set_cons_zero, List.set_cons_succ])))
                  refine Flow.call 52 #[.agg #[.int .i64 (xor1 k), .int .i64 (xor1 k)], .int .i64 n] (.int .i64 (2 * n * xor1 k + xor1 k)) (by rfl) (fun W hW => by go_simp) (fun W hW => (at_any _ _ _ _ hn hn' (by omega) (by omega) (by omega) (by omega)).mono fun e w' ⟨he, hb⟩ => ⟨he, bstep hW hW.size hb⟩) ?_
                  simp only [Act.put, List.setIfInBounds_toArray, List.set_cons_zero, List.set_cons_succ]
                  (repeat (first | (refine Flow.skip (by rfl) ?_; simp only [Act.put, List.setIfInBounds_toArray, List.set_cons_zero, List.set_cons_succ]) | (refine' Flow.take _ (by rfl) (fun W hW R hR => ?_) ?_; rotate_left; (go_simp; (try go_bits); with_reducible exact hR); simp only [Act.put, List.setIfInBounds_toArray, List.set_cons_zero, List.set_cons_succ])))
                  intro w4 hb4
                  go_wp2
                  go_ret
                  exact ⟨ret64 (check_bad hn hn' HL.out hlt hlt (by unfold cellOk; simp only [tm, Bool.and_false])).symm, hb1.trans ((bstep (hbq.trans hb2) hs2 hb4).mono (Nat.le_succ _))⟩
                · have tm' : ((gI m (2 * n * k + k)) != (gI m (2 * n * xor1 k + xor1 k))) = false := by simpa using tm
                  refine wp_region_flow 25 (fun W => Below w2.heap.size w2 W) (by kernel_rfl) (by kernel_rfl) hb3.drew ?_
                  (repeat (first | (refine Flow.skip (by rfl) ?_; simp only [Act.put, List.setIfInBounds_toArray, List.set_cons_zero, List.set_cons_succ]) | (refine' Flow.take _ (by rfl) (fun W hW R hR => ?_) ?_; rotate_left; (go_simp; (try go_bits); with_reducible exact hR); simp only [Act.put, List.setIfInBounds_toArray, List.set_cons_zero, List.set_cons_succ])))
                  refine Flow.call 80 #[.int .i64 (gI m (2 * n * k + k))] (.bool true) (by rfl) (fun W hW => by go_simp) (fun W hW => (is_any _ _).mono fun e w' ⟨he, hb⟩ => ⟨he.trans (retb tb), hb ▸ hW⟩) ?_
                  simp only [Act.put, List.setIfInBounds_toArray, List.set_cons_zero, List.set_cons_succ]
                  (repeat (first | (refine Flow.skip (by rfl) ?_; simp only [Act.put, List.setIfInBounds_toArray, List.set_cons_zero, List.set_cons_succ]) | (refine' Flow.take _ (by rfl) (fun W hW R hR => ?_) ?_; rotate_left; (go_simp; (try go_bits); with_reducible exact hR); simp only [Act.put, List.setIfInBounds_toArray, List.set_cons_zero, List.set_cons_succ])))
                  refine Flow.call 81 #[.agg #[.int .i64 (k : Int), .int .i64 (k : Int)]] (.agg #[.int .i64 (xor1 k), .int .i64 (xor1 k)]) (by rfl) (fun W hW => by go_simp) (fun W hW => (mirror_any _ _ _ (by omega) (by omega) (by omega) (by omega)).mono fun e w' ⟨he, hb⟩ => ⟨he, bstep hW hW.size hb⟩) ?_
                  simp only [Act.put, List.setIfInBounds_toArray, List.set_cons_zero, List.set_cons_succ]
                  (repeat (first | (refine Flow.skip (by rfl) ?_; simp only [Act.put, List.setIfInBounds_toArray, List.set_cons_zero, List.set_cons_succ]) | (refine' Flow.take _ (by rfl) (fun W hW R hR => ?_) ?_; rotate_left; (go_simp; (try go_bits); with_reducible exact hR); simp only [Act.put, List.setIfInBounds_toArray, List.set_cons_zero, List.set_cons_succ])))
                  refine Flow.call 52 #[.agg #[.int .i64 (xor1 k), .int .i64 (xor1 k)], .int .i64 n] (.int .i64 (2 * n * xor1 k + xor1 k)) (by rfl) (fun W hW => by go_simp) (fun W hW => (at_any _ _ _ _ hn hn' (by omega) (by omega) (by omega) (by omega)).mono fun e w' ⟨he, hb⟩ => ⟨he, bstep hW hW.size hb⟩) ?_
                  simp only [Act.put, List.setIfInBounds_toArray, List.set_cons_zero, List.set_cons_succ]
                  (repeat (first | (refine Flow.skip (by rfl) ?_; simp only [Act.put, List.setIfInBounds_toArray, List.set_cons_zero, List.set_cons_succ]) | (refine' Flow.take _ (by rfl) (fun W hW R hR => ?_) ?_; rotate_left; (go_simp; (try go_bits); with_reducible exact hR); simp only [Act.put, List.setIfInBounds_toArray, List.set_cons_zero, List.set_cons_succ])))
                  intro w4 hb4
                  go_wp2
                  go_roundw
                  case rel => exact ⟨k + 1, by omega, by go_num, rowOk_succ hokl (by unfold cellOk; simp only [tm, tb, tv, Bool.and_false, Bool.not_false, Bool.and_true]), bstep (hbq.trans hb2) hs2 hb4⟩
                  case measure => simp [Go.RowKit.intOf]; omega
              · refine wp_region_flow 25 (fun W => Below w2.heap.size w2 W) (by kernel_rfl) (by kernel_rfl) hb3.drew ?_
                (repeat (first | (refine Flow.skip (by rfl) ?_; simp only [Act.put, List.setIfInBounds_toArray, List.set_cons_zero, List.set_cons_succ]) | (refine' Flow.take _ (by rfl) (fun W hW R hR => ?_) ?_; rotate_left; (go_simp; (try go_bits); with_reducible exact hR); simp only [Act.put, List.setIfInBounds_toArray, List.set_cons_zero, List.set_cons_succ])))
                refine Flow.call 80 #[.int .i64 (gI m (2 * n * k + k))] (.bool true) (by rfl) (fun W hW => by go_simp) (fun W hW => (is_any _ _).mono fun e w' ⟨he, hb⟩ => ⟨he.trans (retb tb), hb ▸ hW⟩) ?_
                simp only [Act.put, List.setIfInBounds_toArray, List.set_cons_zero, List.set_cons_succ]
                (repeat (first | (refine Flow.skip (by rfl) ?_; simp only [Act.put, List.setIfInBounds_toArray, List.set_cons_zero, List.set_cons_succ]) | (refine' Flow.take _ (by rfl) (fun W hW R hR => ?_) ?_; rotate_left; (go_simp; (try go_bits); with_reducible exact hR); simp only [Act.put, List.setIfInBounds_toArray, List.set_cons_zero, List.set_cons_succ])))
                intro w4 hb4
                go_wp2
                go_ret
                exact ⟨ret64 (check_bad hn hn' HL.out hlt hlt (by unfold cellOk; simp only [tv, decide_true, Bool.and_self, Bool.not_true, Bool.and_false, Bool.false_and])).symm, hb1.trans ((bstep (hbq.trans hb2) hs2 hb4).mono (Nat.le_succ _))⟩
            · have tkl : ((k : Int) == (l : Int)) = false := by rw [beq_eq_false_iff_ne]; omega
              have tkd : decide ((k : Int) = (l : Int)) = false := decide_eq_false (by omega)
              cases tm : ((gI m (2 * n * k + l)) == (gI m (2 * n * xor1 l + xor1 k)))
              · have tm' : ((gI m (2 * n * k + l)) != (gI m (2 * n * xor1 l + xor1 k))) = true := by simpa using tm
                refine wp_region_flow 25 (fun W => Below w2.heap.size w2 W) (by kernel_rfl) (by kernel_rfl) hb3.drew ?_
                (repeat (first | (refine Flow.skip (by rfl) ?_; simp only [Act.put, List.setIfInBounds_toArray, List.set_cons_zero, List.set_cons_succ]) | (refine' Flow.take _ (by rfl) (fun W hW R hR => ?_) ?_; rotate_left; (go_simp; (try go_bits); with_reducible exact hR); simp only [Act.put, List.setIfInBounds_toArray, List.set_cons_zero, List.set_cons_succ])))
                refine Flow.call 80 #[.int .i64 (gI m (2 * n * k + l))] (.bool true) (by rfl) (fun W hW => by go_simp) (fun W hW => (is_any _ _).mono fun e w' ⟨he, hb⟩ => ⟨he.trans (retb tb), hb ▸ hW⟩) ?_
                simp only [Act.put, List.setIfInBounds_toArray, List.set_cons_zero, List.set_cons_succ]
                (repeat (first | (refine Flow.skip (by rfl) ?_; simp only [Act.put, List.setIfInBounds_toArray, List.set_cons_zero, List.set_cons_succ]) | (refine' Flow.take _ (by rfl) (fun W hW R hR => ?_) ?_; rotate_left; (go_simp; (try go_bits); with_reducible exact hR); simp only [Act.put, List.setIfInBounds_toArray, List.set_cons_zero, List.set_cons_succ])))
                refine Flow.call 81 #[.agg #[.int .i64 (k : Int), .int .i64 (l : Int)]] (.agg #[.int .i64 (xor1 l), .int .i64 (xor1 k)]) (by rfl) (fun W hW => by go_simp) (fun W hW => (mirror_any _ _ _ (by omega) (by omega) (by omega) (by omega)).mono fun e w' ⟨he, hb⟩ => ⟨he, bstep hW hW.size hb⟩) ?_
                simp only [Act.put, List.setIfInBounds_toArray, List.set_cons_zero, List.set_cons_succ]
                (repeat (first | (refine Flow.skip (by rfl) ?_; simp only [Act.put, List.setIfInBounds_toArray, List.set_cons_zero, List.set_cons_succ]) | (refine' Flow.take _ (by rfl) (fun W hW R hR => ?_) ?_; rotate_left; (go_simp; (try go_bits); with_reducible exact hR); simp only [Act.put, List.setIfInBounds_toArray, List.set_cons_zero, List.set_cons_succ])))
                refine Flow.call 52 #[.agg #[.int .i64 (xor1 l), .int .i64 (xor1 k)], .int .i64 n] (.int .i64 (2 * n * xor1 l + xor1 k)) (by rfl) (fun W hW => by go_simp) (fun W hW => (at_any _ _ _ _ hn hn' (by omega) (by omega) (by omega) (by omega)).mono fun e w' ⟨he, hb⟩ => ⟨he, bstep hW hW.size hb⟩) ?_
                simp only [Act.put, List.setIfInBounds_toArray, List.set_cons_zero, List.set_cons_succ]
                (repeat (first | (refine Flow.skip (by rfl) ?_; simp only [Act.put, List.setIfInBounds_toArray, List.set_cons_zero, List.set_cons_succ]) | (refine' Flow.take _ (by rfl) (fun W hW R hR => ?_) ?_; rotate_left; (go_simp; (try go_bits); with_reducible exact hR); simp only [Act.put, List.setIfInBounds_toArray, List.set_cons_zero, List.set_cons_succ])))
                intro w4 hb4
                go_wp2
                go_ret
                exact ⟨ret64 (check_bad hn hn' HL.out hlt hlt' (by unfold cellOk; simp only [tm, Bool.and_false])).symm, hb1.trans ((bstep (hbq.trans hb2) hs2 hb4).mono (Nat.le_succ _))⟩
              · have tm' : ((gI m (2 * n * k + l)) != (gI m (2 * n * xor1 l + xor1 k))) = false := by simpa using tm
                refine wp_region_flow 25 (fun W => Below w2.heap.size w2 W) (by kernel_rfl) (by kernel_rfl) hb3.drew ?_
                (repeat (first | (refine Flow.skip (by rfl) ?_; simp only [Act.put, List.setIfInBounds_toArray, List.set_cons_zero, List.set_cons_succ]) | (refine' Flow.take _ (by rfl) (fun W hW R hR => ?_) ?_; rotate_left; (go_simp; (try go_bits); with_reducible exact hR); simp only [Act.put, List.setIfInBounds_toArray, List.set_cons_zero, List.set_cons_succ])))
                refine Flow.call 80 #[.int .i64 (gI m (2 * n * k + l))] (.bool true) (by rfl) (fun W hW => by go_simp) (fun W hW => (is_any _ _).mono fun e w' ⟨he, hb⟩ => ⟨he.trans (retb tb), hb ▸ hW⟩) ?_
                simp only [Act.put, List.setIfInBounds_toArray, List.set_cons_zero, List.set_cons_succ]
                (repeat (first | (refine Flow.skip (by rfl) ?_; simp only [Act.put, List.setIfInBounds_toArray, List.set_cons_zero, List.set_cons_succ]) | (refine' Flow.take _ (by rfl) (fun W hW R hR => ?_) ?_; rotate_left; (go_simp; (try go_bits); with_reducible exact hR); simp only [Act.put, List.setIfInBounds_toArray, List.set_cons_zero, List.set_cons_succ])))
                refine Flow.call 81 #[.agg #[.int .i64 (k : Int), .int .i64 (l : Int)]] (.agg #[.int .i64 (xor1 l), .int .i64 (xor1 k)]) (by rfl) (fun W hW => by go_simp) (fun W hW => (mirror_any _ _ _ (by omega) (by omega) (by omega) (by omega)).mono fun e w' ⟨he, hb⟩ => ⟨he, bstep hW hW.size hb⟩) ?_
                simp only [Act.put, List.setIfInBounds_toArray, List.set_cons_zero, List.set_cons_succ]
                (repeat (first | (refine Flow.skip (by rfl) ?_; simp only [Act.put, List.setIfInBounds_toArray, List.set_cons_zero, List.set_cons_succ]) | (refine' Flow.take _ (by rfl) (fun W hW R hR => ?_) ?_; rotate_left; (go_simp; (try go_bits); with_reducible exact hR); simp only [Act.put, List.setIfInBounds_toArray, List.set_cons_zero, List.set_cons_succ])))
                refine Flow.call 52 #[.agg #[.int .i64 (xor1 l), .int .i64 (xor1 k)], .int .i64 n] (.int .i64 (2 * n * xor1 l + xor1 k)) (by rfl) (fun W hW => by go_simp) (fun W hW => (at_any _ _ _ _ hn hn' (by omega) (by omega) (by omega) (by omega)).mono fun e w' ⟨he, hb⟩ => ⟨he, bstep hW hW.size hb⟩) ?_
                simp only [Act.put, List.setIfInBounds_toArray, List.set_cons_zero, List.set_cons_succ]
                (repeat (first | (refine Flow.skip (by rfl) ?_; simp only [Act.put, List.setIfInBounds_toArray, List.set_cons_zero, List.set_cons_succ]) | (refine' Flow.take _ (by rfl) (fun W hW R hR => ?_) ?_; rotate_left; (go_simp; (try go_bits); with_reducible exact hR); simp only [Act.put, List.setIfInBounds_toArray, List.set_cons_zero, List.set_cons_succ])))
                intro w4 hb4
                go_wp2
                go_roundw
                case rel => exact ⟨l + 1, by omega, by go_num, rowOk_succ hokl (by unfold cellOk; simp only [tm, tb, tkd, Bool.false_and, Bool.not_false, Bool.and_true]), bstep (hbq.trans hb2) hs2 hb4⟩
                case measure => simp [Go.RowKit.intOf]; omega
        · have hll : l = (2 * n).toNat := by omega
          have hrow : rowOk ⟨n, false, m⟩ k (2 * n).toNat = true := by rw [← hll]; exact hokl
          have hnl : ¬ (l : Int) < 2 * n := hlt'
          clear hll
          go_wp2
          go_roundw
          case rel => exact ⟨k + 1, by omega, by go_num, rowsOk_succ hok hrow, hbq⟩
          case measure => simp [Go.RowKit.intOf]; omega
    · have hkk : k = (2 * n).toNat := by omega
      have hrow : rowsOk ⟨n, false, m⟩ (2 * n).toNat = true := by rw [← hkk]; exact hok
      clear hkk
      go_wp2
      go_ret
      exact ⟨ret64 (check_good hn hn' HL.out hrow).symm, hb1.trans (hbr.mono (Nat.le_succ _))⟩
end Go.Proofs.YtkncebcekhfnfaaGreat
