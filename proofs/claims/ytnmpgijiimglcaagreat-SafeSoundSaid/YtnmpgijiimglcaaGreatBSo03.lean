import Derived.Test.YtnmpgijiimglcaaGreatBSo01
import Derived.Test.YtnmpgijiimglcaaGreatBSo00
import Derived.Test.YtnmpgijiimglcaaGreatBSo02
namespace Go.Proofs.YtnmpgijiimglcaaGreat
section
open Go.RowKit
set_option maxRecDepth 100000
set_option maxHeartbeats 8000000
attribute [local go_sem ↓] Go.wp_at_zero Go.wp_at_succ
def cellOk (o : O) (i j : Int) : Bool := isBound (gI o.m (2 * o.n * i + j)) && !(decide (i = j) && (gI o.m (2 * o.n * i + j) != 0)) && (gI o.m (2 * o.n * i + j) == gI o.m (2 * o.n * xor1 j + xor1 i))
def sizeBad (o : O) : Bool := !(decide (0 ≤ o.n ∧ o.n ≤ 64)) || (o.e && decide (0 < o.m.length)) || (!o.e && !(decide ((o.m.length : Int) = 4 * o.n * o.n)))
def rowOk (o : O) (i : Int) (k : Nat) : Bool := (List.range k).all fun j => cellOk o i j
def rowsOk (o : O) (k : Nat) : Bool := (List.range k).all fun i => rowOk o i (2 * o.n).toNat
def check (o : O) : Int := if sizeBad o then 120 else if o.e then 0 else if rowsOk o (2 * o.n).toNat then 0 else 121
theorem rowOk_succ {o : O} {i : Int} {k : Nat} (h : rowOk o i k = true) (h1 : cellOk o i k = true) : rowOk o i (k + 1) = true := by
 unfold rowOk at *; rw [List.range_succ, List.all_append, h]; simpa using h1
theorem rowsOk_succ {o : O} {k : Nat} (h : rowsOk o k = true) (h1 : rowOk o k (2 * o.n).toNat = true) : rowsOk o (k + 1) = true := by
 unfold rowsOk at *; rw [List.range_succ, List.all_append, h]; simpa using h1
theorem sizeOk {n : Int} {m : List Int} (hn : 0 ≤ n) (hn' : n ≤ 64) (hl : (m.length : Int) = 4 * n * n) : sizeBad ⟨n, false, m⟩ = false := by
 unfold sizeBad; simp [hn, hn', hl]
theorem check_good {n : Int} {m : List Int} (hn : 0 ≤ n) (hn' : n ≤ 64) (hl : (m.length : Int) = 4 * n * n) (h : rowsOk ⟨n, false, m⟩ (2 * n).toNat = true) : check ⟨n, false, m⟩ = 0 := by
 unfold check; rw [sizeOk hn hn' hl]; simp [h]
theorem check_bad {n : Int} {m : List Int} {k l : Nat} (hn : 0 ≤ n) (hn' : n ≤ 64) (hl : (m.length : Int) = 4 * n * n) (hk : (k : Int) < 2 * n) (hl' : (l : Int) < 2 * n) (h : cellOk ⟨n, false, m⟩ k l = false) : check ⟨n, false, m⟩ = 121 := by
 have h1 : rowOk ⟨n, false, m⟩ k (2 * n).toNat = false := by
  unfold rowOk; rw [List.all_eq_false]; exact ⟨l, by simp; omega, by simp [h]⟩
 have h2 : rowsOk ⟨n, false, m⟩ (2 * n).toNat = false := by
  unfold rowsOk; rw [List.all_eq_false]; exact ⟨k, by simp; omega, by simp [h1]⟩
 unfold check; rw [sizeOk hn hn' hl]; simp [h2]
theorem idx_bd {n k l L : Int} (hn : 0 ≤ n) (_ : n ≤ 64) (h0 : 0 ≤ k) (h1 : k < 2 * n) (h2 : 0 ≤ l) (h3 : l < 2 * n) (hl : L = 4 * n * n) : 0 ≤ 2 * n * k + l ∧ 2 * n * k + l < L := by
 have e1 : 0 ≤ 2 * n * k := Int.mul_nonneg (by omega) h0
 have e2 : 2 * n * (k + 1) ≤ 2 * n * (2 * n) := Int.mul_le_mul_of_nonneg_left (by omega) (by omega)
 have e3 : 2 * n * (2 * n) = 4 * n * n := by rw [Int.mul_assoc, Int.mul_assoc, Int.mul_comm n (2 * n), Int.mul_assoc, ← Int.mul_assoc 2 2]; rfl
 have e4 : 2 * n * (k + 1) = 2 * n * k + 2 * n := by rw [Int.mul_add, Int.mul_one]
 omega
theorem check_loops (n : Int) (m : List Int) (A : Option Addr) (cap : Nat) (w : World) (hr : Rd w w.heap.size A m) (_hm : m.length ≤ 281474976710656) (hn : 0 ≤ n) (hn' : n ≤ 64) (hl : (m.length : Int) = 4 * n * n) :
  Calls Tryz.prog 56 #[.agg #[n, false, .slice A m.length cap]] w fun e w' => e = .returned (.int .i64 (check ⟨n, false, m⟩)) ∧ Below w.heap.size w w' := by
 have tn := decide_eq_true (And.intro hn hn')
 have tl : ((m.length : Int) != 4 * n * n) = false := by simpa using hl
 have tq : 0 ≤ 4 * n * n := Int.mul_nonneg (by omega) hn
 have tq' : 4 * n * n ≤ 4 * 64 * 64 := Int.mul_le_mul (by omega) (by omega) hn (by omega)
 have HL := hid hl; clear hl
 go_enter Tryz.func56, Tryz.ntmps56
 go_wp2_with (go_at_call 119; refine (dright_any _ _).mono ?_; rintro e w' ⟨rfl, rfl⟩)
 have HB : Below (w.heap.size + 1) (w.alloc (Obj.cells #[Value.int IntKind.i64 n, Value.bool false, Value.slice A m.length cap] 24)) (w.alloc (Obj.cells #[Value.int IntKind.i64 n, Value.bool false, Value.slice A m.length cap] 24)) := Below.refl _ _
 have c0 : (w.alloc (Obj.cells #[Value.int IntKind.i64 n, Value.bool false, Value.slice A m.length cap] 24)).cell? ⟨w.heap.size, 0, none⟩ = some (.int .i64 n) := by simp [go_sem]
 have c2 : (w.alloc (Obj.cells #[Value.int IntKind.i64 n, Value.bool false, Value.slice A m.length cap] 24)).cell? ⟨w.heap.size, 2, none⟩ = some (.slice A m.length cap) := by simp [go_sem]
 have hr1 : Rd (w.alloc (Obj.cells #[Value.int IntKind.i64 n, Value.bool false, Value.slice A m.length cap] 24)) (w.heap.size + 1) A m := (hr.below ((Below.refl _ _).alloc (Nat.le_refl _) _)).more (Nat.le_succ _)
 have hs1 : w.heap.size + 1 = (w.alloc (Obj.cells #[Value.int IntKind.i64 n, Value.bool false, Value.slice A m.length cap] 24)).heap.size := by simp
 have b0 : Below w.heap.size w (w.alloc (Obj.cells #[Value.int IntKind.i64 n, Value.bool false, Value.slice A m.length cap] 24)) := (Below.refl _ _).alloc (Nat.le_refl _) _
 generalize hw1 : w.alloc (Obj.cells #[Value.int IntKind.i64 n, Value.bool false, Value.slice A m.length cap] 24) = w1 at *
 go_loopw [43] (fun i wr => ∃ k : Nat, (k : Int) ≤ 2 * n ∧ i = .int .i64 k ∧ rowsOk ⟨n, false, m⟩ k = true ∧ Below (w.heap.size + 1) w1 wr) (fun i _ => (2 * n).toNat - (RowKit.intOf i).toNat)
 case atStart => exact ⟨0, by omega, rfl, rfl, HB⟩
 case round =>
  obtain ⟨k, hk, rfl, hok, b2⟩ := hrel
  have d0 := (b2.cell (p := ⟨w.heap.size, 0, none⟩) (by simp)).trans c0
  by_cases hlt : (k : Int) < 2 * n
  ·go_wp2
   go_loopw [49] (fun j wq => ∃ l : Nat, (l : Int) ≤ 2 * n ∧ j = .int .i64 l ∧ rowOk ⟨n, false, m⟩ k l = true ∧ Below (w.heap.size + 1) w1 wq) (fun j _ => (2 * n).toNat - (RowKit.intOf j).toNat)
   case atStart => exact ⟨0, by omega, rfl, rfl, b2⟩
   case round =>
    obtain ⟨l, hl, rfl, a7, a2⟩ := hrel
    have q0 := (a2.cell (p := ⟨w.heap.size, 0, none⟩) (by simp)).trans c0
    by_cases hlt' : (l : Int) < 2 * n
    ·go_wp2
     have e0 : (wr.alloc (Obj.cells #[Value.int IntKind.i64 ↑k, Value.int IntKind.i64 ↑l] 116)).cell? ⟨w.heap.size, 0, none⟩ = some (.int .i64 n) := cell_later ((Below.refl _ _).alloc (Nat.le_refl _) _) q0
     have q2 := (a2.cell (p := ⟨w.heap.size, 2, none⟩) (by simp)).trans c2
     have e2 : (wr.alloc (Obj.cells #[Value.int IntKind.i64 ↑k, Value.int IntKind.i64 ↑l] 116)).cell? ⟨w.heap.size, 2, none⟩ = some (.slice A m.length cap) := cell_later ((Below.refl _ _).alloc (Nat.le_refl _) _) q2
     have a0 : (wr.alloc (Obj.cells #[Value.int IntKind.i64 ↑k, Value.int IntKind.i64 ↑l] 116)).cell? ⟨wr.heap.size, 0, none⟩ = some (.int .i64 k) := by simp [go_sem]
     have a1 : (wr.alloc (Obj.cells #[Value.int IntKind.i64 ↑k, Value.int IntKind.i64 ↑l] 116)).cell? ⟨wr.heap.size, 1, none⟩ = some (.int .i64 l) := by simp [go_sem]
     have a4 : Below (w.heap.size + 1) wr (wr.alloc (Obj.cells #[Value.int IntKind.i64 ↑k, Value.int IntKind.i64 ↑l] 116)) := (Below.refl _ _).alloc (by have := a2.size; omega) _
     generalize hw2 : wr.alloc (Obj.cells #[Value.int IntKind.i64 ↑k, Value.int IntKind.i64 ↑l] 116) = w2 at *
     have a9 : w.heap.size + 1 ≤ w2.heap.size := by have := a2.size; have := a4.size; omega
     have f0 := later e0
     have f2 := later e2
     have g0 := later a0
     have g1 := later a1
     clear e0 e2 a0 a1 q0 q2
     have ib := idx_bd (n := n) (k := k) (l := l) hn hn' (by omega) hlt (by omega) hlt' HL.out
     obtain ⟨b, off, hA, hbB, b1⟩ := hr1.at_ ib.1 ib.2
     subst hA
     have m0 := later (((a2.trans a4).cell (p := ⟨b, off + (2 * n * k + l).toNat, none⟩) hbB).trans b1)
     obtain ⟨ib1, ib2⟩ := ib
     refine wp_region_flow 9 (fun W => Below w2.heap.size w2 W) (by kernel_rfl) (by kernel_rfl) ?_ ?_
     ·exact (Below.refl _ _).drew
     (repeat (first | refine fl_s ?_ | refine fl_t ?_))
     refine Flow.call 85 #[.agg #[(k : Int), (l : Int)], n] (.int .i64 (2 * n * k + l)) (by rfl) (fun W hW => by go_simp) (fun W hW => (at_any _ _ _ _ hn hn' (by omega) (by omega) (by omega) (by omega)).mono fun e w' ⟨he, hb⟩ => ⟨he, bstep hW hW.size hb⟩) ?_
     simp only [Act.put, List.setIfInBounds_toArray, List.set_cons_zero, List.set_cons_succ]
     (repeat (first | refine fl_s ?_ | refine fl_t ?_))
     intro w3 a8
     go_wp2
     cases tb : isBound (gI m (2 * n * k + l))
     ·refine wp_region_flow 25 (fun W => Below w2.heap.size w2 W) (by kernel_rfl) (by kernel_rfl) a8.drew ?_
      (repeat (first | refine fl_s ?_ | refine fl_t ?_))
      refine Flow.call 120 #[.int .i64 (gI m (2 * n * k + l))] (.bool false) (by rfl) (fun W hW => by go_simp) (fun W hW => (is_any _ _).mono fun e w' ⟨he, hb⟩ => ⟨he.trans (retb tb), hb ▸ hW⟩) ?_
      simp only [Act.put, List.setIfInBounds_toArray, List.set_cons_zero, List.set_cons_succ]
      (repeat (first | refine fl_s ?_ | refine fl_t ?_))
      intro w4 a3
      go_wp2
      go_ret
      exact ⟨ret64 (check_bad hn hn' HL.out hlt hlt' (by unfold cellOk; simp only [tb, Bool.false_and])).symm, b0.trans ((bstep (a2.trans a4) a9 a3).mono (Nat.le_succ _))⟩
     ·have mb := xor1_bd (n := n) (i := l) (by omega) hlt'
      have mk := xor1_bd (n := n) (i := k) (by omega) hlt
      have ib := idx_bd (n := n) (k := xor1 l) (l := xor1 k) hn hn' mb.1 mb.2 mk.1 mk.2 HL.out
      obtain ⟨b', off', hA', hbB', a6⟩ := hr1.at_ ib.1 ib.2
      obtain ⟨rfl, rfl⟩ : b = b' ∧ off = off' := by simpa using hA'
      have m1 := later (((a2.trans a4).cell (p := ⟨b, off + (2 * n * xor1 l + xor1 k).toNat, none⟩) hbB').trans a6)
      obtain ⟨jb1, jb2⟩ := ib
      obtain ⟨mb1, mb2⟩ := mb
      obtain ⟨mk1, mk2⟩ := mk
      by_cases ekl : k = l
      ·subst ekl
       have tkl : ((k : Int) == (k : Int)) = true := by simp
       cases tv : (gI m (2 * n * k + k) != 0)
       ·cases tm : ((gI m (2 * n * k + k)) == (gI m (2 * n * xor1 k + xor1 k)))
        ·have tm' : ((gI m (2 * n * k + k)) != (gI m (2 * n * xor1 k + xor1 k))) = true := by simpa using tm
         refine wp_region_flow 25 (fun W => Below w2.heap.size w2 W) (by kernel_rfl) (by kernel_rfl) a8.drew ?_
         (repeat (first | refine fl_s ?_ | refine fl_t ?_))
         refine Flow.call 120 #[.int .i64 (gI m (2 * n * k + k))] (.bool true) (by rfl) (fun W hW => by go_simp) (fun W hW => (is_any _ _).mono fun e w' ⟨he, hb⟩ => ⟨he.trans (retb tb), hb ▸ hW⟩) ?_
         simp only [Act.put, List.setIfInBounds_toArray, List.set_cons_zero, List.set_cons_succ]
         (repeat (first | refine fl_s ?_ | refine fl_t ?_))
         refine Flow.call 116 #[.agg #[(k : Int), (k : Int)]] (.agg #[.int .i64 (xor1 k), .int .i64 (xor1 k)]) (by rfl) (fun W hW => by go_simp) (fun W hW => (mirror_any _ _ _ (by omega) (by omega) (by omega) (by omega)).mono fun e w' ⟨he, hb⟩ => ⟨he, bstep hW hW.size hb⟩) ?_
         simp only [Act.put, List.setIfInBounds_toArray, List.set_cons_zero, List.set_cons_succ]
         (repeat (first | refine fl_s ?_ | refine fl_t ?_))
         refine Flow.call 85 #[.agg #[.int .i64 (xor1 k), .int .i64 (xor1 k)], n] (.int .i64 (2 * n * xor1 k + xor1 k)) (by rfl) (fun W hW => by go_simp) (fun W hW => (at_any _ _ _ _ hn hn' (by omega) (by omega) (by omega) (by omega)).mono fun e w' ⟨he, hb⟩ => ⟨he, bstep hW hW.size hb⟩) ?_
         simp only [Act.put, List.setIfInBounds_toArray, List.set_cons_zero, List.set_cons_succ]
         (repeat (first | refine fl_s ?_ | refine fl_t ?_))
         intro w4 a3
         go_wp2
         go_ret
         exact ⟨ret64 (check_bad hn hn' HL.out hlt hlt (by unfold cellOk; simp only [tm, Bool.and_false])).symm, b0.trans ((bstep (a2.trans a4) a9 a3).mono (Nat.le_succ _))⟩
        ·have tm' : ((gI m (2 * n * k + k)) != (gI m (2 * n * xor1 k + xor1 k))) = false := by simpa using tm
         refine wp_region_flow 25 (fun W => Below w2.heap.size w2 W) (by kernel_rfl) (by kernel_rfl) a8.drew ?_
         (repeat (first | refine fl_s ?_ | refine fl_t ?_))
         refine Flow.call 120 #[.int .i64 (gI m (2 * n * k + k))] (.bool true) (by rfl) (fun W hW => by go_simp) (fun W hW => (is_any _ _).mono fun e w' ⟨he, hb⟩ => ⟨he.trans (retb tb), hb ▸ hW⟩) ?_
         simp only [Act.put, List.setIfInBounds_toArray, List.set_cons_zero, List.set_cons_succ]
         (repeat (first | refine fl_s ?_ | refine fl_t ?_))
         refine Flow.call 116 #[.agg #[(k : Int), (k : Int)]] (.agg #[.int .i64 (xor1 k), .int .i64 (xor1 k)]) (by rfl) (fun W hW => by go_simp) (fun W hW => (mirror_any _ _ _ (by omega) (by omega) (by omega) (by omega)).mono fun e w' ⟨he, hb⟩ => ⟨he, bstep hW hW.size hb⟩) ?_
         simp only [Act.put, List.setIfInBounds_toArray, List.set_cons_zero, List.set_cons_succ]
         (repeat (first | refine fl_s ?_ | refine fl_t ?_))
         refine Flow.call 85 #[.agg #[.int .i64 (xor1 k), .int .i64 (xor1 k)], n] (.int .i64 (2 * n * xor1 k + xor1 k)) (by rfl) (fun W hW => by go_simp) (fun W hW => (at_any _ _ _ _ hn hn' (by omega) (by omega) (by omega) (by omega)).mono fun e w' ⟨he, hb⟩ => ⟨he, bstep hW hW.size hb⟩) ?_
         simp only [Act.put, List.setIfInBounds_toArray, List.set_cons_zero, List.set_cons_succ]
         (repeat (first | refine fl_s ?_ | refine fl_t ?_))
         intro w4 a3
         go_wp2
         go_roundw
         case rel => exact ⟨k + 1, by omega, by go_num, rowOk_succ a7 (by unfold cellOk; simp only [tm, tb, tv, Bool.and_false, Bool.not_false, Bool.and_true]), bstep (a2.trans a4) a9 a3⟩
         case measure => simp [RowKit.intOf]; omega
       ·refine wp_region_flow 25 (fun W => Below w2.heap.size w2 W) (by kernel_rfl) (by kernel_rfl) a8.drew ?_
        (repeat (first | refine fl_s ?_ | refine fl_t ?_))
        refine Flow.call 120 #[.int .i64 (gI m (2 * n * k + k))] (.bool true) (by rfl) (fun W hW => by go_simp) (fun W hW => (is_any _ _).mono fun e w' ⟨he, hb⟩ => ⟨he.trans (retb tb), hb ▸ hW⟩) ?_
        simp only [Act.put, List.setIfInBounds_toArray, List.set_cons_zero, List.set_cons_succ]
        (repeat (first | refine fl_s ?_ | refine fl_t ?_))
        intro w4 a3
        go_wp2
        go_ret
        exact ⟨ret64 (check_bad hn hn' HL.out hlt hlt (by unfold cellOk; simp only [tv, decide_true, Bool.and_self, Bool.not_true, Bool.and_false, Bool.false_and])).symm, b0.trans ((bstep (a2.trans a4) a9 a3).mono (Nat.le_succ _))⟩
      ·have tkl : ((k : Int) == (l : Int)) = false := by rw [beq_eq_false_iff_ne]; omega
       have tkd : decide ((k : Int) = (l : Int)) = false := decide_eq_false (by omega)
       cases tm : ((gI m (2 * n * k + l)) == (gI m (2 * n * xor1 l + xor1 k)))
       ·have tm' : ((gI m (2 * n * k + l)) != (gI m (2 * n * xor1 l + xor1 k))) = true := by simpa using tm
        refine wp_region_flow 25 (fun W => Below w2.heap.size w2 W) (by kernel_rfl) (by kernel_rfl) a8.drew ?_
        (repeat (first | refine fl_s ?_ | refine fl_t ?_))
        refine Flow.call 120 #[.int .i64 (gI m (2 * n * k + l))] (.bool true) (by rfl) (fun W hW => by go_simp) (fun W hW => (is_any _ _).mono fun e w' ⟨he, hb⟩ => ⟨he.trans (retb tb), hb ▸ hW⟩) ?_
        simp only [Act.put, List.setIfInBounds_toArray, List.set_cons_zero, List.set_cons_succ]
        (repeat (first | refine fl_s ?_ | refine fl_t ?_))
        refine Flow.call 116 #[.agg #[(k : Int), (l : Int)]] (.agg #[.int .i64 (xor1 l), .int .i64 (xor1 k)]) (by rfl) (fun W hW => by go_simp) (fun W hW => (mirror_any _ _ _ (by omega) (by omega) (by omega) (by omega)).mono fun e w' ⟨he, hb⟩ => ⟨he, bstep hW hW.size hb⟩) ?_
        simp only [Act.put, List.setIfInBounds_toArray, List.set_cons_zero, List.set_cons_succ]
        (repeat (first | refine fl_s ?_ | refine fl_t ?_))
        refine Flow.call 85 #[.agg #[.int .i64 (xor1 l), .int .i64 (xor1 k)], n] (.int .i64 (2 * n * xor1 l + xor1 k)) (by rfl) (fun W hW => by go_simp) (fun W hW => (at_any _ _ _ _ hn hn' (by omega) (by omega) (by omega) (by omega)).mono fun e w' ⟨he, hb⟩ => ⟨he, bstep hW hW.size hb⟩) ?_
        simp only [Act.put, List.setIfInBounds_toArray, List.set_cons_zero, List.set_cons_succ]
        (repeat (first | refine fl_s ?_ | refine fl_t ?_))
        intro w4 a3
        go_wp2
        go_ret
        exact ⟨ret64 (check_bad hn hn' HL.out hlt hlt' (by unfold cellOk; simp only [tm, Bool.and_false])).symm, b0.trans ((bstep (a2.trans a4) a9 a3).mono (Nat.le_succ _))⟩
       ·have tm' : ((gI m (2 * n * k + l)) != (gI m (2 * n * xor1 l + xor1 k))) = false := by simpa using tm
        refine wp_region_flow 25 (fun W => Below w2.heap.size w2 W) (by kernel_rfl) (by kernel_rfl) a8.drew ?_
        (repeat (first | refine fl_s ?_ | refine fl_t ?_))
        refine Flow.call 120 #[.int .i64 (gI m (2 * n * k + l))] (.bool true) (by rfl) (fun W hW => by go_simp) (fun W hW => (is_any _ _).mono fun e w' ⟨he, hb⟩ => ⟨he.trans (retb tb), hb ▸ hW⟩) ?_
        simp only [Act.put, List.setIfInBounds_toArray, List.set_cons_zero, List.set_cons_succ]
        (repeat (first | refine fl_s ?_ | refine fl_t ?_))
        refine Flow.call 116 #[.agg #[(k : Int), (l : Int)]] (.agg #[.int .i64 (xor1 l), .int .i64 (xor1 k)]) (by rfl) (fun W hW => by go_simp) (fun W hW => (mirror_any _ _ _ (by omega) (by omega) (by omega) (by omega)).mono fun e w' ⟨he, hb⟩ => ⟨he, bstep hW hW.size hb⟩) ?_
        simp only [Act.put, List.setIfInBounds_toArray, List.set_cons_zero, List.set_cons_succ]
        (repeat (first | refine fl_s ?_ | refine fl_t ?_))
        refine Flow.call 85 #[.agg #[.int .i64 (xor1 l), .int .i64 (xor1 k)], n] (.int .i64 (2 * n * xor1 l + xor1 k)) (by rfl) (fun W hW => by go_simp) (fun W hW => (at_any _ _ _ _ hn hn' (by omega) (by omega) (by omega) (by omega)).mono fun e w' ⟨he, hb⟩ => ⟨he, bstep hW hW.size hb⟩) ?_
        simp only [Act.put, List.setIfInBounds_toArray, List.set_cons_zero, List.set_cons_succ]
        (repeat (first | refine fl_s ?_ | refine fl_t ?_))
        intro w4 a3
        go_wp2
        go_roundw
        case rel => exact ⟨l + 1, by omega, by go_num, rowOk_succ a7 (by unfold cellOk; simp only [tm, tb, tkd, Bool.false_and, Bool.not_false, Bool.and_true]), bstep (a2.trans a4) a9 a3⟩
        case measure => simp [RowKit.intOf]; omega
    ·have hll : l = (2 * n).toNat := by omega
     have a5 : rowOk ⟨n, false, m⟩ k (2 * n).toNat = true := by rw [← hll]; exact a7
     have hnl : ¬ (l : Int) < 2 * n := hlt'
     clear hll
     go_wp2
     go_roundw
     case rel => exact ⟨k + 1, by omega, by go_num, rowsOk_succ hok a5, a2⟩
     case measure => simp [RowKit.intOf]; omega
  ·have hkk : k = (2 * n).toNat := by omega
   have a5 : rowsOk ⟨n, false, m⟩ (2 * n).toNat = true := by rw [← hkk]; exact hok
   clear hkk
   go_wp2
   go_ret
   exact ⟨ret64 (check_good hn hn' HL.out a5).symm, b0.trans (b2.mono (Nat.le_succ _))⟩
end
section
open Go.RowKit
set_option maxRecDepth 100000
set_option maxHeartbeats 8000000
theorem check_n {o : O} (h : ¬ (0 ≤ o.n ∧ o.n ≤ 64)) : check o = 120 := by
 unfold check sizeBad; rw [decide_eq_false h]; rfl
theorem check_e1 {n : Int} {m : List Int} (h : 0 < m.length) : check ⟨n, true, m⟩ = 120 := by
 unfold check sizeBad; simp [h]
theorem check_e0 {n : Int} (h : 0 ≤ n ∧ n ≤ 64) : check ⟨n, true, []⟩ = 0 := by
 unfold check sizeBad; rw [decide_eq_true h]; rfl
theorem check_l {n : Int} {m : List Int} (h : ¬ (m.length : Int) = 4 * n * n) : check ⟨n, false, m⟩ = 120 := by
 unfold check sizeBad; simp [h]
theorem check_any (o : O) (A : Option Addr) (cap : Nat) (w : World) (hr : Rd w w.heap.size A o.m) (hm : o.m.length ≤ 281474976710656) :
  Calls Tryz.prog 56 #[.agg #[o.n, o.e, .slice A o.m.length cap]] w fun e w' => e = .returned (.int .i64 (check o)) ∧ Below w.heap.size w w' := by
 obtain ⟨n, e, m⟩ := o
 dsimp only at *
 by_cases hn : 0 ≤ n ∧ n ≤ 64
 ·have tn := decide_eq_true hn
  cases e
  ·by_cases hl : (m.length : Int) = 4 * n * n
   ·exact check_loops n m A cap w hr hm hn.1 hn.2 hl
   ·have tl : ((m.length : Int) != 4 * n * n) = true := by simpa using hl
    obtain ⟨hn1, hn2⟩ := hn
    have tq : 0 ≤ 4 * n * n := Int.mul_nonneg (by omega) hn1
    have tq' : 4 * n * n ≤ 4 * 64 * 64 := Int.mul_le_mul (by omega) (by omega) hn1 (by omega)
    go_enter Tryz.func56, Tryz.ntmps56
    go_wp2_with (go_at_call 119; refine (dright_any _ _).mono ?_; rintro e w' ⟨rfl, rfl⟩)
    go_ret
    exact ⟨ret64 (check_l hl).symm, (Below.refl _ _).alloc (Nat.le_refl _) _⟩
  ·by_cases hl : 0 < m.length
   ·have tl : (0 : Int) < (m.length : Int) := by omega
    clear hn
    go_enter Tryz.func56, Tryz.ntmps56
    go_wp2_with (go_at_call 119; refine (dright_any _ _).mono ?_; rintro e w' ⟨rfl, rfl⟩)
    go_ret
    exact ⟨ret64 (check_e1 hl).symm, (Below.refl _ _).alloc (Nat.le_refl _) _⟩
   ·have hl0 : m.length = 0 := by omega
    obtain rfl : m = [] := List.eq_nil_of_length_eq_zero hl0
    clear hl hl0
    go_enter Tryz.func56, Tryz.ntmps56
    go_wp2_with (go_at_call 119; refine (dright_any _ _).mono ?_; rintro e w' ⟨rfl, rfl⟩)
    go_ret
    exact ⟨ret64 (check_e0 hn).symm, (Below.refl _ _).alloc (Nat.le_refl _) _⟩
 ·have tn := decide_eq_false hn
  go_enter Tryz.func56, Tryz.ntmps56
  go_wp2_with (go_at_call 119; refine (dright_any _ _).mono ?_; rintro e w' ⟨rfl, rfl⟩)
  go_ret
  exact ⟨ret64 (check_n hn).symm, (Below.refl _ _).alloc (Nat.le_refl _) _⟩
end
section

end
section

end
section

end
section
open Go.RowKit
set_option maxRecDepth 100000
set_option maxHeartbeats 8000000
theorem check_ok {o : O} (h : check o = 0) : 0 ≤ o.n ∧ o.n ≤ 64 ∧ (o.e = true → o.m = []) ∧ (o.e = false → (o.m.length : Int) = 4 * o.n * o.n) := by
 by_cases hs : sizeBad o = true
 ·unfold check at h; rw [if_pos hs] at h; omega
 ·unfold sizeBad at hs
  simp at hs
  obtain ⟨⟨⟨h1, h2⟩, h3⟩, h4⟩ := hs
  exact ⟨h1, h2, h3, h4⟩
end
section
open Go.RowKit
set_option maxRecDepth 100000
set_option maxHeartbeats 8000000
theorem across_any (i : Int) (w : World) (h0 : 0 ≤ i) (h1 : i ≤ 1000) :
  Calls Tryz.prog 61 #[i] w fun e w' => e = .returned (.int .i64 (xor1 i)) ∧ w = w' := by
 by_cases h : i % 2 = 0
 ·have t : (i % 2 == 0) = true := by simpa using h
  clear h
  go_enter Tryz.func61, Tryz.ntmps61
  go_wp2
  go_ret
  exact ⟨ret64 (by unfold xor1; rw [if_pos (by simpa using t)]), rfl⟩
 ·have t : (i % 2 == 0) = false := by simpa using h
  have t1 : 1 ≤ i := by omega
  clear h
  go_enter Tryz.func61, Tryz.ntmps61
  go_wp2
  go_ret
  exact ⟨ret64 (by unfold xor1; rw [if_neg (by simpa using t)]), rfl⟩
end
section

end
section

end
section

end
section

end
section

end
section
open Go.RowKit
set_option maxRecDepth 100000
set_option maxHeartbeats 8000000
attribute [local go_sem ↓] Go.wp_at_zero Go.wp_at_succ
def rep {α : Type} (f : Nat → α → α) : Nat → α → α
 | 0, x => x
 | t + 1, x => f t (rep f t x)
def AllB (xs : List Int) : Prop := ∀ i : Nat, isBound (gI xs i) = true
theorem gI_put (xs : List Int) (k : Nat) (v : Int) (i : Nat) (hk : k < xs.length) : gI (xs.set k v) i = if i = k then v else gI xs i := by
 unfold gI
 simp only [Int.toNat_natCast, List.getD, List.getElem?_set]
 by_cases h : k = i
 ·subst h; simp [hk]
 ·rw [if_neg h, if_neg (fun e => h e.symm)]
theorem AllB.set {xs : List Int} (h : AllB xs) {k : Nat} {v : Int} (hv : isBound v = true) (hk : k < xs.length) : AllB (xs.set k v) := fun i => by
 rw [gI_put xs k v i hk]
 split
 ·exact hv
 ·exact h i
theorem own_far {W : World} {base cap g i : Nat} {A : Option Addr} {m : List Int} {v : Value} (h : Own W base A cap m) (hn : ∀ k, A = some ⟨k, 0, none⟩ → k ≠ g) : Own (W.setCell ⟨g, i, none⟩ v) base A cap m := by
 refine h.grown (grown_setCell W ⟨g, i, none⟩ v) ?_
 rcases h.form with ⟨rfl, _⟩ | ⟨g', rfl, _⟩
 ·exact .inl rfl
 ·refine .inr fun e => hn g' rfl ?_
  simpa [Value.ownBlock] using e
def MX (B gx : Nat) (n : Int) (A : Option Addr) (cap : Nat) (e : Bool) (xs : List Int) (W : World) : Prop :=
 B ≤ gx ∧ (∀ g, A = some ⟨g, 0, none⟩ → g ≠ gx) ∧ (∃ s, Blk W gx 181 #[n, .slice A xs.length cap, .bool s, e]) ∧ Own W B A cap xs
def SX (w0 : World) (gx : Nat) (n : Int) (A : Option Addr) (L cap : Nat) (e : Bool) (W : World) : Prop :=
 w0.grownBy W (some gx) ∧ ∃ s, Blk W gx 181 #[n, .slice A L cap, .bool s, e]
section
variable {B gx cap gm : Nat} {n : Int} {A : Option Addr} {e : Bool} {xs : List Int} {W W' w0 : World}
theorem MX.base (h : MX B gx n A cap e xs W) : B ≤ gx := h.1
theorem MX.sx (h : MX B gx n A cap e xs W) : SX W gx n A xs.length cap e W := ⟨World.grownBy.refl _ _, h.2.2.1⟩
theorem MX.go (h : MX B gx n A cap e xs w0) (hs : SX w0 gx n A xs.length cap e W) : MX B gx n A cap e xs W := by
 refine ⟨h.1, h.2.1, hs.2, h.2.2.2.grown hs.1 ?_⟩
 rcases h.2.2.2.form with ⟨rfl, _⟩ | ⟨g, rfl, _⟩
 ·exact .inl rfl
 ·refine .inr fun e => h.2.1 g rfl ?_
  simpa [Value.ownBlock] using e
theorem SX.up {L : Nat} (h : SX w0 gx n A L cap e W) (hb : Below W.heap.size W W') : SX w0 gx n A L cap e W' :=
 ⟨h.1.trans (grown_of_below hb _), h.2.imp fun _ hk => hk.later hb⟩
theorem SX.drew {L : Nat} (h : SX w0 gx n A L cap e W) : SX w0 gx n A L cap e W.drew := h.up (Below.refl _ _).drew
theorem MX.up (h : MX B gx n A cap e xs W) (hb : Below W.heap.size W W') : MX B gx n A cap e xs W' := h.go (h.sx.up hb)
theorem SX.bel {L : Nat} (h : SX w0 gx n A L cap e W) (hB : B ≤ gx) (hB' : B ≤ w0.heap.size) : Below B w0 W := below_grown h.1 (fun k hk => by injection hk with hk; omega) hB'
theorem MX.some (h : MX B gx n A cap e xs W) (hl : 0 < xs.length) : ∃ gm, A = .some ⟨gm, 0, none⟩ ∧ B ≤ gm ∧ gm < W.heap.size ∧ gm ≠ gx := by
 rcases h.2.2.2.form with ⟨_, h0, _⟩ | ⟨g, h1, h2, h3⟩
 ·rw [h0] at hl; simp at hl
 ·exact ⟨g, h1, h2, h3, h.2.1 g h1⟩
theorem MX.n_ (h : MX B gx n A cap e xs W) : W.cell? ⟨gx, 0, none⟩ = Option.some (.int .i64 n) := by obtain ⟨s, hk⟩ := h.2.2.1; exact hk.cell 0
theorem MX.m_ (h : MX B gx n A cap e xs W) : W.cell? ⟨gx, 1, none⟩ = Option.some (.slice A xs.length cap) := by obtain ⟨s, hk⟩ := h.2.2.1; exact hk.cell 1
theorem MX.e_ (h : MX B gx n A cap e xs W) : W.cell? ⟨gx, 3, none⟩ = Option.some (.bool e) := by obtain ⟨s, hk⟩ := h.2.2.1; exact hk.cell 3
theorem MX.c_ (h : MX B gx n (.some ⟨gm, 0, none⟩) cap e xs W) {k : Nat} (hk : k < xs.length) : W.cell? ⟨gm, k, none⟩ = Option.some (.int .i64 (gI xs k)) := by
 obtain ⟨b, off, hA, _, hc⟩ := h.2.2.2.rd k hk
 simp only [Option.some.injEq, Addr.mk.injEq] at hA
 obtain ⟨rfl, rfl, _⟩ := hA
 simpa using hc
theorem MX.f_ (h : MX B gx n (.some ⟨gm, 0, none⟩) cap e xs W) (k : Nat) : W.frozen? ⟨gm, k, none⟩ = false := h.2.2.2.frozen k
theorem MX.set (h : MX B gx n (.some ⟨gm, 0, none⟩) cap e xs W) (k : Nat) (v : Int) : MX B gx n (.some ⟨gm, 0, none⟩) cap e (xs.set k v) (W.setCell ⟨gm, k, none⟩ (.int .i64 v)) := by
 refine ⟨h.1, h.2.1, ?_, h.2.2.2.store k v⟩
 obtain ⟨s, hk⟩ := h.2.2.1
 rw [List.length_set]
 exact ⟨s, hk.far (p := ⟨gm, k, none⟩) (h.2.1 gm rfl) _⟩
theorem MX.setE (h : MX B gx n A cap e xs W) (u : Bool) : MX B gx n A cap u xs (W.setCell ⟨gx, 3, none⟩ (.bool u)) := by
 obtain ⟨s, hk⟩ := h.2.2.1
 exact ⟨h.1, h.2.1, ⟨s, hk.set_ 3 (.bool u)⟩, own_far h.2.2.2 h.2.1⟩
end
theorem idx_ok {n : Int} {N i j : Nat} (hN : (N : Int) = 2 * n) (hi : i < N) (hj : j < N) (hn : N ≤ 128) :
  0 ≤ 2 * n * (i : Int) ∧ 2 * n * (i : Int) ≤ 16384 ∧ (2 * n * (i : Int) + (j : Int)).toNat = i * N + j ∧ i * N + j < N * N ∧ 0 ≤ 2 * n * (i : Int) + (j : Int) ∧ 2 * n * (i : Int) + (j : Int) < ((N * N : Nat) : Int) := by
 rw [← hN]
 have e1 : (N : Int) * (i : Int) = ((i * N : Nat) : Int) := by rw [Int.natCast_mul, Int.mul_comm]
 have h1 : i * N + N ≤ N * N := by
  have := Nat.mul_le_mul_right N (show i + 1 ≤ N from hi)
  rw [Nat.add_mul] at this; omega
 have h2 : N * N ≤ 128 * 128 := Nat.mul_le_mul hn hn
 rw [e1]
 refine ⟨by omega, by omega, by omega, by omega, by omega, by omega⟩
theorem mat_at {B gx cap gm : Nat} {n : Int} {e : Bool} {xs : List Int} {W : World} (i j N : Nat) (h : MX B gx n (some ⟨gm, 0, none⟩) cap e xs W) (hN : (N : Int) = 2 * n) (hn : N ≤ 128) (hl : xs.length = N * N) (hi : i < N) (hj : j < N) :
  Calls Tryz.prog 212 #[.pointer (some ⟨gx, 0, none⟩), (i : Int), (j : Int)] W fun e' W' => e' = .returned (.pointer (some ⟨gm, i * N + j, none⟩)) ∧ Below W.heap.size W W' := by
 obtain ⟨b1, b2, b3, b4, b5, b6⟩ := idx_ok hN hi hj hn
 rw [← hl] at b6
 have fn := later h.n_
 have fm := later h.m_
 have hn0 : 0 ≤ 2 * n := by omega
 have hn1 : 2 * n ≤ 128 := by omega
 have HN := hid hN
 have HL := hid hl
 clear hN hl b4
 go_enter Tryz.func212, Tryz.ntmps212
 go_wp2
 refine wp_region_flow 15 (fun X => Below W.heap.size W X) (by kernel_rfl) (by kernel_rfl) (Below.refl _ _).drew ?_
 (repeat (first | refine fl_s ?_ | refine fl_t ?_))
 intro w4 hb4
 go_wp2
 go_ret
 exact ⟨rfl, hb4⟩
theorem mat_sum {B gx cap : Nat} {n : Int} {A : Option Addr} {e : Bool} {xs : List Int} {W : World} (a b : Int) (h : MX B gx n A cap e xs W) :
  Calls Tryz.prog 213 #[.pointer (some ⟨gx, 0, none⟩), a, b] W fun e' W' => e' = .returned (.int .i64 (plus a b)) ∧ SX W gx n A xs.length cap e W' := by
 obtain ⟨s, hk⟩ := h.2.2.1
 have c2 := hk.cell 2
 have f2 := hk.fr 2
 have k2 := fun u => hk.set_ 2 (.bool u)
 cases s
 ·go_enter Tryz.func213, Tryz.ntmps213
  go_wp2_with fail
  refine (sat_any a b _).mono ?_
  rintro e1 w1 ⟨rfl, rfl⟩
  go_wp2_with fail
  refine (plus_any a b _).mono ?_
  rintro e1 w1 ⟨rfl, rfl⟩
  go_wp2
  go_ret
  exact ⟨rfl, grown_setCell _ ⟨gx, 2, none⟩ _, _, k2 _⟩
 ·go_enter Tryz.func213, Tryz.ntmps213
  go_wp2_with fail
  refine (plus_any a b _).mono ?_
  rintro e1 w1 ⟨rfl, rfl⟩
  go_wp2
  go_ret
  exact ⟨rfl, grown_setCell _ ⟨gx, 2, none⟩ _, _, k2 _⟩
end
section
open Go.RowKit
set_option maxRecDepth 100000
set_option maxHeartbeats 8000000
attribute [local go_sem ↓] Go.wp_at_zero Go.wp_at_succ
theorem near_of {a : Int} (h : isBound a = true) : near a = a := by
 unfold isBound at h
 rw [decide_eq_true_eq] at h
 unfold near
 rcases h with rfl | ⟨h1, h2⟩
 ·rfl
 ·rw [if_neg (by omega), if_neg (by omega)]
theorem isBound_near (a : Int) : isBound (near a) = true := by
 unfold isBound
 rw [decide_eq_true_eq]
 exact near_cases a
theorem isBound_plus (a b : Int) : isBound (plus a b) = true := by
 unfold plus
 split
 ·decide
 ·exact isBound_near _
theorem isBound_min {a b : Int} (ha : isBound a = true) (hb : isBound b = true) : isBound (min a b) = true := by
 rcases Int.le_total a b with h | h
 ·rw [Int.min_eq_left h]; exact ha
 ·rw [Int.min_eq_right h]; exact hb
theorem less_of {a b : Int} (ha : isBound a = true) (hb : isBound b = true) : less a b = min a b := by
 unfold less; rw [near_of ha, near_of hb]
def pStep (N k i j : Nat) (xs : List Int) : List Int := xs.set (i * N + j) (min (gI xs ((i * N + j : Nat) : Int)) (plus (gI xs ((i * N + k : Nat) : Int)) (gI xs ((k * N + j : Nat) : Int))))
def pRow (N k i : Nat) (t : Nat) (xs : List Int) : List Int := rep (fun j => pStep N k i j) t xs
def pMat (N k : Nat) (t : Nat) (xs : List Int) : List Int := rep (fun i => pRow N k i N) t xs
def paths (N : Nat) (t : Nat) (xs : List Int) : List Int := rep (fun k => pMat N k N) t xs
theorem paths_any {B gx cap : Nat} {n : Int} {A : Option Addr} {e : Bool} {xs : List Int} {W : World} (N : Nat) (h : MX B gx n A cap e xs W) (hN : (N : Int) = 2 * n) (hn : N ≤ 128) (hl : xs.length = N * N) (hb : AllB xs) (hB : B ≤ W.heap.size) :
  Calls Tryz.prog 165 #[.pointer (some ⟨gx, 0, none⟩)] W fun e' W' => (∃ v, e' = .returned v) ∧ MX B gx n A cap e (paths N N xs) W' ∧ AllB (paths N N xs) ∧ (paths N N xs).length = N * N ∧ Below B W W' := by
 have hn0 : 0 ≤ 2 * n := by omega
 have hn1 : 2 * n ≤ 128 := by omega
 have HN := hid hN
 have x0 := h.n_
 clear hN
 go_enter Tryz.func165, Tryz.ntmps165
 go_wp2
 clear x0
 go_loopw [11] (fun t wr => ∃ (k : Nat) (ys : List Int), k ≤ N ∧ t = .int .i64 k ∧ Hid (ys = paths N k xs) ∧ Hid (ys.length = N * N) ∧ MX B gx n A cap e ys wr ∧ AllB ys ∧ Below B W wr) (fun t _ => N - (RowKit.intOf t).toNat)
 case atStart => exact ⟨0, xs, by omega, rfl, hid rfl, hid hl, h, hb, Below.refl _ _⟩
 case round =>
  clear h hl hb
  obtain ⟨k, ys, hk, rfl, hys, hl, hM, hb, a0⟩ := hrel
  by_cases hkN : k < N
  ·have t1 : (k : Int) < 2 * n := by have := HN.out; omega
   have x0 := hM.n_
   go_wp2
   clear x0
   go_loopw [19] (fun t wr => ∃ (i : Nat) (zs : List Int), i ≤ N ∧ t = .int .i64 i ∧ Hid (zs = pMat N k i ys) ∧ Hid (zs.length = N * N) ∧ MX B gx n A cap e zs wr ∧ AllB zs ∧ Below B W wr) (fun t _ => N - (RowKit.intOf t).toNat)
   case atStart => exact ⟨0, ys, by omega, rfl, hid rfl, hl, hM, hb, a0⟩
   case round =>
    clear hM hb a0 hl
    obtain ⟨i, zs, hi, rfl, hzs, hl, hM, hb, a0⟩ := hrel
    by_cases hiN : i < N
    ·have t2 : (i : Int) < 2 * n := by have := HN.out; omega
     have x0 := hM.n_
     go_wp2
     clear x0
     go_loopw [27] (fun t wr => ∃ (j : Nat) (us : List Int), j ≤ N ∧ t = .int .i64 j ∧ Hid (us = pRow N k i j zs) ∧ Hid (us.length = N * N) ∧ MX B gx n A cap e us wr ∧ AllB us ∧ Below B W wr) (fun t _ => N - (RowKit.intOf t).toNat)
     case atStart => exact ⟨0, zs, by omega, rfl, hid rfl, hl, hM, hb, a0⟩
     case round =>
      clear hM hb a0 hl
      obtain ⟨j, us, hj, rfl, hus, hl, hM, hb, a0⟩ := hrel
      by_cases hjN : j < N
      ·have t3 : (j : Int) < 2 * n := by have := HN.out; omega
       obtain ⟨_, _, _, g1, _, _⟩ := idx_ok HN.out hiN hjN hn
       obtain ⟨_, _, _, g2, _, _⟩ := idx_ok HN.out hiN hkN hn
       obtain ⟨_, _, _, g3, _, _⟩ := idx_ok HN.out hkN hjN hn
       rw [← hl.out] at g1 g2 g3
       obtain ⟨gm, rfl, hgB, hgW, hgx⟩ := hM.some (by omega)
       go_wp2_with fail
       refine (mat_at i j N hM HN.out hn hl.out hiN hjN).mono ?_
       rintro e5 w5 ⟨rfl, a3⟩
       have hM5 := hM.up a3
       have a2 : Below B W w5 := a0.trans (a3.mono (by have := a0.size; omega))
       have fc : ∀ X, SX w5 gx n (some ⟨gm, 0, none⟩) us.length cap e X → X.cell? ⟨gm, i * N + j, none⟩ = some (.int .i64 (gI us ((i * N + j : Nat) : Int))) := fun X hX => (hM5.go hX).c_ g1
       have fd : ∀ X, SX w5 gx n (some ⟨gm, 0, none⟩) us.length cap e X → X.cell? ⟨gm, i * N + k, none⟩ = some (.int .i64 (gI us ((i * N + k : Nat) : Int))) := fun X hX => (hM5.go hX).c_ g2
       have fe : ∀ X, SX w5 gx n (some ⟨gm, 0, none⟩) us.length cap e X → X.cell? ⟨gm, k * N + j, none⟩ = some (.int .i64 (gI us ((k * N + j : Nat) : Int))) := fun X hX => (hM5.go hX).c_ g3
       clear hM a0 a3
       go_wp2
       refine wp_region_flow 20 (SX w5 gx n (some ⟨gm, 0, none⟩) us.length cap e) (by kernel_rfl) (by kernel_rfl) hM5.sx.drew ?_
       (repeat (first | refine fl_s ?_ | refine fl_t ?_))
       refine Flow.call 212 #[.pointer (some ⟨gx, 0, none⟩), (i : Int), (k : Int)] (.pointer (some ⟨gm, i * N + k, none⟩)) (by rfl) (fun X hX => by go_simp) (fun X hX => (mat_at i k N (hM5.go hX) HN.out hn hl.out hiN hkN).mono fun e' w' ⟨he, hb'⟩ => ⟨he, hX.up hb'⟩) ?_
       simp only [Act.put, List.setIfInBounds_toArray, List.set_cons_zero, List.set_cons_succ]
       (repeat (first | refine fl_s ?_ | refine fl_t ?_))
       refine Flow.call 212 #[.pointer (some ⟨gx, 0, none⟩), (k : Int), (j : Int)] (.pointer (some ⟨gm, k * N + j, none⟩)) (by rfl) (fun X hX => by go_simp) (fun X hX => (mat_at k j N (hM5.go hX) HN.out hn hl.out hkN hjN).mono fun e' w' ⟨he, hb'⟩ => ⟨he, hX.up hb'⟩) ?_
       simp only [Act.put, List.setIfInBounds_toArray, List.set_cons_zero, List.set_cons_succ]
       (repeat (first | refine fl_s ?_ | refine fl_t ?_))
       refine Flow.call 213 #[.pointer (some ⟨gx, 0, none⟩), .int .i64 (gI us ((i * N + k : Nat) : Int)), .int .i64 (gI us ((k * N + j : Nat) : Int))] (.int .i64 (plus (gI us ((i * N + k : Nat) : Int)) (gI us ((k * N + j : Nat) : Int)))) (by rfl) (fun X hX => by go_simp) (fun X hX => (mat_sum _ _ (hM5.go hX)).mono fun e' w' ⟨he, hs⟩ => ⟨he, hX.1.trans hs.1, hs.2⟩) ?_
       simp only [Act.put, List.setIfInBounds_toArray, List.set_cons_zero, List.set_cons_succ]
       refine Flow.call 117 #[.int .i64 (gI us ((i * N + j : Nat) : Int)), .int .i64 (plus (gI us ((i * N + k : Nat) : Int)) (gI us ((k * N + j : Nat) : Int)))] (.int .i64 (less (gI us ((i * N + j : Nat) : Int)) (plus (gI us ((i * N + k : Nat) : Int)) (gI us ((k * N + j : Nat) : Int))))) (by rfl) (fun X hX => by go_simp) (fun X hX => (less_any _ _ _).mono fun e' w' ⟨he, hw⟩ => ⟨he, hw ▸ hX⟩) ?_
       simp only [Act.put, List.setIfInBounds_toArray, List.set_cons_zero, List.set_cons_succ]
       (repeat (first | refine fl_s ?_ | refine fl_t ?_))
       intro w6 h6
       have hM6 := hM5.go h6
       have c6 := hM6.c_ g1
       have f6 := hM6.f_ (i * N + j)
       have a1 := less_of (hb (i * N + j)) (isBound_plus (gI us ((i * N + k : Nat) : Int)) (gI us ((k * N + j : Nat) : Int)))
       have hM7 := hM6.set (i * N + j) (less (gI us ((i * N + j : Nat) : Int)) (plus (gI us ((i * N + k : Nat) : Int)) (gI us ((k * N + j : Nat) : Int))))
       have hb7 : AllB (us.set (i * N + j) (less (gI us ((i * N + j : Nat) : Int)) (plus (gI us ((i * N + k : Nat) : Int)) (gI us ((k * N + j : Nat) : Int))))) := hb.set (by rw [a1]; exact isBound_min (hb _) (isBound_plus _ _)) g1
       have a5 : Below B W (w6.setCell ⟨gm, i * N + j, none⟩ (.int .i64 (less (gI us ((i * N + j : Nat) : Int)) (plus (gI us ((i * N + k : Nat) : Int)) (gI us ((k * N + j : Nat) : Int)))))) := (a2.trans (h6.bel hM5.base (by have := a2.size; omega))).setCell (by simpa using hgB) _
       have a4 : Hid (us.set (i * N + j) (less (gI us ((i * N + j : Nat) : Int)) (plus (gI us ((i * N + k : Nat) : Int)) (gI us ((k * N + j : Nat) : Int)))) = pRow N k i (j + 1) zs) := hid (by rw [a1]; have := hus.out; subst this; rfl)
       have HL6 := hid a1
       clear a1 fc fd fe
       go_wp2
       go_roundw
       case rel => exact ⟨j + 1, _, by omega, by go_num, a4, hid (by rw [List.length_set]; exact hl.out), hM7, hb7, a5⟩
       case measure => simp [RowKit.intOf]; omega
      ·have t3 : ¬ (j : Int) < 2 * n := by have := HN.out; omega
       have hjN' : j = N := by omega
       subst hjN'
       go_wp2
       go_roundw
       case rel => exact ⟨i + 1, us, by omega, by go_num, hid (by rw [hus.out, hzs.out]; rfl), hl, hM, hb, a0⟩
       case measure => simp [RowKit.intOf]; omega
    ·have t2 : ¬ (i : Int) < 2 * n := by have := HN.out; omega
     have hiN' : i = N := by omega
     subst hiN'
     go_wp2
     go_roundw
     case rel => exact ⟨k + 1, zs, by omega, by go_num, hid (by rw [hzs.out, hys.out]; rfl), hl, hM, hb, a0⟩
     case measure => simp [RowKit.intOf]; omega
  ·have t1 : ¬ (k : Int) < 2 * n := by have := HN.out; omega
   have hkN' : k = N := by omega
   subst hkN'
   have hy := hys.out
   subst hy
   have HLL := hl
   go_wp2
   go_end0
   exact ⟨⟨_, rfl⟩, hM, HLL.out, a0⟩
end
end Go.Proofs.YtnmpgijiimglcaaGreat
