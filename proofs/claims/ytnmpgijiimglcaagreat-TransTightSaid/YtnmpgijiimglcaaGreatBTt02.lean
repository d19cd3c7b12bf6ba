import Derived.Test.YtnmpgijiimglcaaGreatBTt01
import Derived.Test.YtnmpgijiimglcaaGreatBTt00
namespace Go.Proofs.YtnmpgijiimglcaaGreat
set_option maxRecDepth 100000
set_option maxHeartbeats 8000000
section
open Go.RowKit
theorem zhU {o : O} (h : ¬ (0 ≤ o.n ∧ o.n ≤ 64)) : check o = 120 := by
 unfold check zct; rw [decide_eq_false h]; rfl
theorem zib {n : Int} {m : List Int} (h : 0 < m.length) : check ⟨n, true, m⟩ = 120 := by
 unfold check zct; simp [h]
theorem zex {n : Int} (h : 0 ≤ n ∧ n ≤ 64) : check ⟨n, true, []⟩ = 0 := by
 unfold check zct; rw [decide_eq_true h]; rfl
theorem zkR {n : Int} {m : List Int} (h : ¬ (m.length : Int) = 4 * n * n) : check ⟨n, false, m⟩ = 120 := by
 unfold check zct; simp [h]
theorem zbH (o : O) (A : Option Addr) (cap : Nat) (w : World) (hr : Rd w w.heap.size A o.m) (hm : o.m.length ≤ 281474976710656) :
  Calls Tryz.prog 56 #[.agg #[o.n, o.e, .slice A o.m.length cap]] w fun e w' => e = .returned (.int .i64 (check o)) ∧ Below w.heap.size w w' := by
 obtain ⟨n, e, m⟩ := o
 dsimp only at *
 by_cases hn : 0 ≤ n ∧ n ≤ 64
 ·have tn := decide_eq_true hn
  cases e
  ·by_cases hl : (m.length : Int) = 4 * n * n
   ·exact zhy n m A cap w hr hm hn.1 hn.2 hl
   ·have tl : ((m.length : Int) != 4 * n * n) = true := by simpa using hl
    obtain ⟨hn1, hn2⟩ := hn
    have tq : 0 ≤ 4 * n * n := Int.mul_nonneg (by omega) hn1
    have tq' : 4 * n * n ≤ 4 * 64 * 64 := Int.mul_le_mul (by omega) (by omega) hn1 (by omega)
    go_enter Tryz.func56, Tryz.ntmps56
    go_wp2_with (go_at_call 119; refine (zbQ _ _).mono ?_; rintro e w' ⟨rfl, rfl⟩)
    go_ret
    exact ⟨zas (zkR hl).symm, (Below.refl _ _).alloc (Nat.le_refl _) _⟩
  ·by_cases hl : 0 < m.length
   ·have tl : (0 : Int) < (m.length : Int) := by omega
    clear hn
    go_enter Tryz.func56, Tryz.ntmps56
    go_wp2_with (go_at_call 119; refine (zbQ _ _).mono ?_; rintro e w' ⟨rfl, rfl⟩)
    go_ret
    exact ⟨zas (zib hl).symm, (Below.refl _ _).alloc (Nat.le_refl _) _⟩
   ·have hl0 : m.length = 0 := by omega
    obtain rfl : m = [] := List.eq_nil_of_length_eq_zero hl0
    clear hl hl0
    go_enter Tryz.func56, Tryz.ntmps56
    go_wp2_with (go_at_call 119; refine (zbQ _ _).mono ?_; rintro e w' ⟨rfl, rfl⟩)
    go_ret
    exact ⟨zas (zex hn).symm, (Below.refl _ _).alloc (Nat.le_refl _) _⟩
 ·have tn := decide_eq_false hn
  go_enter Tryz.func56, Tryz.ntmps56
  go_wp2_with (go_at_call 119; refine (zbQ _ _).mono ?_; rintro e w' ⟨rfl, rfl⟩)
  go_ret
  exact ⟨zas (zhU hn).symm, (Below.refl _ _).alloc (Nat.le_refl _) _⟩
end
section
open Go.RowKit
def zkd (o p : O) : Int := if check o ≠ 0 then check o else if check p ≠ 0 then check p else if o.n ≠ p.n then 140 else 0
end
section
open Go.RowKit
theorem zdW (a : Int) (w : World) :
  Calls Tryz.prog 60 #[a] w fun e w' => e = .returned (.bool (zag a)) ∧ w = w' := by
 go_enter Tryz.func60, Tryz.ntmps60
 go_wp2
 all_goals (go_ret; exact ⟨retb (by unfold zag; rw [Bool.eq_iff_iff]; simp [*]; try omega), rfl⟩)
end
section

end
section
open Go.RowKit
theorem zbD {o : O} (h : check o = 0) : 0 ≤ o.n ∧ o.n ≤ 64 ∧ (o.e = true → o.m = []) ∧ (o.e = false → (o.m.length : Int) = 4 * o.n * o.n) := by
 by_cases hs : zct o = true
 ·unfold check at h; rw [if_pos hs] at h; omega
 ·unfold zct at hs
  simp at hs
  obtain ⟨⟨⟨h1, h2⟩, h3⟩, h4⟩ := hs
  exact ⟨h1, h2, h3, h4⟩
def narrowO (a b : O) : O × Int :=
 if zkd a b ≠ 0 then (⟨0, false, []⟩, zkd a b) else if a.e then (a, 0) else if b.e then (b, 0) else (⟨a.n, false, zoR (fun x y _ => if x = 9223372036854775807 then y else x) a.n a.m b.m⟩, 0)
end
section
open Go.RowKit
theorem zbb (i : Int) (w : World) (h0 : 0 ≤ i) (h1 : i ≤ 1000) :
  Calls Tryz.prog 61 #[i] w fun e w' => e = .returned (.int .i64 (xor1 i)) ∧ w = w' := by
 by_cases h : i % 2 = 0
 ·have t : (i % 2 == 0) = true := by simpa using h
  clear h
  go_enter Tryz.func61, Tryz.ntmps61
  go_wp2
  go_ret
  exact ⟨zas (by unfold xor1; rw [if_pos (by simpa using t)]), rfl⟩
 ·have t : (i % 2 == 0) = false := by simpa using h
  have t1 : 1 ≤ i := by omega
  clear h
  go_enter Tryz.func61, Tryz.ntmps61
  go_wp2
  go_ret
  exact ⟨zas (by unfold xor1; rw [if_neg (by simpa using t)]), rfl⟩
theorem zgt (n : Int) (m : List Int) (A : Option Addr) (cap : Nat) (w : World) (hr : Rd w w.heap.size A m) (hm : m.length ≤ 281474976710656) (hn : 0 ≤ n) (hn' : n ≤ 64) (hl : (m.length : Int) = 4 * n * n) :
  Calls Tryz.prog 21 #[.agg #[n, false, .slice A m.length cap]] w fun e w' => e = .returned (.int .i64 (check ⟨n, false, m⟩)) ∧ Below w.heap.size w w' := by
 have t0 : ¬ n < 0 := by omega
 have t64 : ¬ 64 < n := by omega
 have tl : ((m.length : Int) != 4 * n * n) = false := by simpa using hl
 have tq : 0 ≤ 4 * n * n := Int.mul_nonneg (by omega) hn
 have tq' : 4 * n * n ≤ 4 * 64 * 64 := Int.mul_le_mul (by omega) (by omega) hn (by omega)
 have HL := hid hl; clear hl
 go_enter Tryz.func21, Tryz.ntmps21
 go_wp2
 have HB : Below (w.heap.size + 1) (w.alloc (Obj.cells #[Value.int IntKind.i64 n, Value.bool false, Value.slice A m.length cap] 24)) (w.alloc (Obj.cells #[Value.int IntKind.i64 n, Value.bool false, Value.slice A m.length cap] 24)) := Below.refl _ _
 have c2 : (w.alloc (Obj.cells #[Value.int IntKind.i64 n, Value.bool false, Value.slice A m.length cap] 24)).cell? ⟨w.heap.size, 2, none⟩ = some (.slice A m.length cap) := by simp [go_sem]
 have hr1 : Rd (w.alloc (Obj.cells #[Value.int IntKind.i64 n, Value.bool false, Value.slice A m.length cap] 24)) (w.heap.size + 1) A m := (hr.below ((Below.refl _ _).alloc (Nat.le_refl _) _)).more (Nat.le_succ _)
 have a6 : Below w.heap.size w (w.alloc (Obj.cells #[Value.int IntKind.i64 n, Value.bool false, Value.slice A m.length cap] 24)) := (Below.refl _ _).alloc (Nat.le_refl _) _
 generalize w.alloc (Obj.cells #[Value.int IntKind.i64 n, Value.bool false, Value.slice A m.length cap] 24) = w1 at *
 go_loopw [4] (fun i wr => ∃ k : Nat, (k : Int) ≤ 2 * n ∧ i = .int .i64 k ∧ zbM ⟨n, false, m⟩ k = true ∧ Below (w.heap.size + 1) w1 wr) (fun i _ => (2 * n).toNat - (RowKit.intOf i).toNat)
 case atStart => exact ⟨0, by omega, rfl, rfl, HB⟩
 case round =>
  obtain ⟨k, hk, rfl, hok, hbr⟩ := hrel
  by_cases hlt : (k : Int) < 2 * n
  ·go_wp2
   go_loopw [5] (fun j wq => ∃ l : Nat, (l : Int) ≤ 2 * n ∧ j = .int .i64 l ∧ zdG ⟨n, false, m⟩ k l = true ∧ Below (w.heap.size + 1) w1 wq) (fun j _ => (2 * n).toNat - (RowKit.intOf j).toNat)
   case atStart => exact ⟨0, by omega, rfl, rfl, hbr⟩
   case round =>
    obtain ⟨l, hl, rfl, a5, a3⟩ := hrel
    by_cases hlt' : (l : Int) < 2 * n
    ·have f2 : ∀ W, Below (w.heap.size + 1) w1 W → W.cell? ⟨w.heap.size, 2, none⟩ = some (.slice A m.length cap) := fun W hW => (hW.cell (p := ⟨w.heap.size, 2, none⟩) (Nat.lt_succ_self _)).trans c2
     have q2 := f2 _ a3
     have ib := zig (n := n) (k := k) (l := l) hn hn' (by omega) hlt (by omega) hlt' HL.out
     have eq0 : 2 * n * k = (k : Int) * (2 * n) := Int.mul_comm _ _
     have nc1 : 0 ≤ 2 * n * k := Int.mul_nonneg (by omega) (by omega)
     have nc2 : 2 * n * k ≤ 16384 := by have := HL.out; omega
     rw [eq0] at ib nc1 nc2
     obtain ⟨b, off, hA, hbB, a0⟩ := hr1.at_ ib.1 ib.2
     rw [← eq0, show gI m (2 * n * k + l) = gI m (2 * n * k + l) from rfl] at a0
     subst hA
     have lt1 : ∀ {o : Nat} {v : Value}, w1.cell? ⟨b, o, none⟩ = some v → b < w.heap.size + 1 → ∀ W, Below (w.heap.size + 1) w1 W → W.cell? ⟨b, o, none⟩ = some v := fun {o v} hc hB W hW => (hW.cell (p := ⟨b, o, none⟩) hB).trans hc
     have m0 : ∀ W, Below (w.heap.size + 1) w1 W → W.cell? ⟨b, off + ((k : Int) * (2 * n) + l).toNat, none⟩ = some (.int .i64 (gI m (2 * n * k + l))) := by rw [← eq0]; exact lt1 a0 hbB
     have mq := m0 _ a3
     obtain ⟨ib1, ib2⟩ := ib
     clear a0 eq0
     go_wp2
     cases tb : zag (gI m (2 * n * k + l))
     ·refine zab 27 (fun W => Below (w.heap.size + 1) w1 W) (by kernel_rfl) (by kernel_rfl) a3.drew ?_
      refine fl_a ?_
      refine Flow.call 60 #[.int .i64 (gI m (2 * n * k + l))] (.bool false) (by rfl) (fun W hW => by go_simp) (fun W hW => (zdW _ _).mono fun e w' ⟨he, hb⟩ => ⟨he.trans (retb tb), hb ▸ hW⟩) ?_
      simp only [Act.put, List.setIfInBounds_toArray, List.set_cons_zero, List.set_cons_succ]
      refine fl_a ?_
      intro w4 a2
      go_wp2
      go_ret
      exact ⟨zas (zbJ hn hn' HL.out hlt hlt' (by unfold zbo; simp only [tb, Bool.false_and])).symm, a6.trans (a2.mono (Nat.le_succ _))⟩
     ·have mb := zf1 (n := n) (i := l) (by omega) hlt'
      have mk := zf1 (n := n) (i := k) (by omega) hlt
      have ib := zig (n := n) (k := xor1 l) (l := xor1 k) hn hn' mb.1 mb.2 mk.1 mk.2 HL.out
      obtain ⟨b', off', hA', hbB', a1⟩ := hr1.at_ ib.1 ib.2
      obtain ⟨rfl, rfl⟩ : b = b' ∧ off = off' := by simpa using hA'
      have eq1 : 2 * n * xor1 l = xor1 l * (2 * n) := Int.mul_comm _ _
      have nb1 : 0 ≤ 2 * n * xor1 l := Int.mul_nonneg (by omega) mb.1
      have nb2 : 2 * n * xor1 l ≤ 16384 := by have := HL.out; omega
      have m1 : ∀ W, Below (w.heap.size + 1) w1 W → W.cell? ⟨b, off + (xor1 l * (2 * n) + xor1 k).toNat, none⟩ = some (.int .i64 (gI m (2 * n * xor1 l + xor1 k))) := by rw [← eq1]; exact lt1 a1 hbB'
      rw [eq1] at ib nb1 nb2
      obtain ⟨jb1, jb2⟩ := ib
      clear a1 eq1
      obtain ⟨mb1, mb2⟩ := mb
      obtain ⟨mk1, mk2⟩ := mk
      by_cases ekl : k = l
      ·subst ekl
       have tkl : ((k : Int) == (k : Int)) = true := by simp
       cases tv : (gI m (2 * n * k + k) != 0)
       ·cases tm : ((gI m (2 * n * k + k)) == (gI m (2 * n * xor1 k + xor1 k)))
        ·have tm' : ((gI m (2 * n * k + k)) != (gI m (2 * n * xor1 k + xor1 k))) = true := by simpa using tm
         refine zab 27 (fun W => Below (w.heap.size + 1) w1 W) (by kernel_rfl) (by kernel_rfl) a3.drew ?_
         refine fl_a ?_
         refine Flow.call 60 #[.int .i64 (gI m (2 * n * k + k))] (.bool true) (by rfl) (fun W hW => by go_simp) (fun W hW => (zdW _ _).mono fun e w' ⟨he, hb⟩ => ⟨he.trans (retb tb), hb ▸ hW⟩) ?_
         simp only [Act.put, List.setIfInBounds_toArray, List.set_cons_zero, List.set_cons_succ]
         refine fl_a ?_
         refine Flow.call 61 #[(k : Int)] (.int .i64 (xor1 k)) (by rfl) (fun W hW => by go_simp) (fun W hW => (zbb _ _ (by omega) (by omega)).mono fun e w' ⟨he, hb⟩ => ⟨he, hb ▸ hW⟩) ?_
         simp only [Act.put, List.setIfInBounds_toArray, List.set_cons_zero, List.set_cons_succ]
         refine fl_a ?_
         refine Flow.call 61 #[(k : Int)] (.int .i64 (xor1 k)) (by rfl) (fun W hW => by go_simp) (fun W hW => (zbb _ _ (by omega) (by omega)).mono fun e w' ⟨he, hb⟩ => ⟨he, hb ▸ hW⟩) ?_
         simp only [Act.put, List.setIfInBounds_toArray, List.set_cons_zero, List.set_cons_succ]
         refine fl_a ?_
         intro w4 a2
         go_wp2
         go_ret
         exact ⟨zas (zbJ hn hn' HL.out hlt hlt (by unfold zbo; simp only [tm, Bool.and_false])).symm, a6.trans (a2.mono (Nat.le_succ _))⟩
        ·have tm' : ((gI m (2 * n * k + k)) != (gI m (2 * n * xor1 k + xor1 k))) = false := by simpa using tm
         refine zab 27 (fun W => Below (w.heap.size + 1) w1 W) (by kernel_rfl) (by kernel_rfl) a3.drew ?_
         refine fl_a ?_
         refine Flow.call 60 #[.int .i64 (gI m (2 * n * k + k))] (.bool true) (by rfl) (fun W hW => by go_simp) (fun W hW => (zdW _ _).mono fun e w' ⟨he, hb⟩ => ⟨he.trans (retb tb), hb ▸ hW⟩) ?_
         simp only [Act.put, List.setIfInBounds_toArray, List.set_cons_zero, List.set_cons_succ]
         refine fl_a ?_
         refine Flow.call 61 #[(k : Int)] (.int .i64 (xor1 k)) (by rfl) (fun W hW => by go_simp) (fun W hW => (zbb _ _ (by omega) (by omega)).mono fun e w' ⟨he, hb⟩ => ⟨he, hb ▸ hW⟩) ?_
         simp only [Act.put, List.setIfInBounds_toArray, List.set_cons_zero, List.set_cons_succ]
         refine fl_a ?_
         refine Flow.call 61 #[(k : Int)] (.int .i64 (xor1 k)) (by rfl) (fun W hW => by go_simp) (fun W hW => (zbb _ _ (by omega) (by omega)).mono fun e w' ⟨he, hb⟩ => ⟨he, hb ▸ hW⟩) ?_
         simp only [Act.put, List.setIfInBounds_toArray, List.set_cons_zero, List.set_cons_succ]
         refine fl_a ?_
         intro w4 a2
         go_wp2
         go_roundw
         case rel => exact ⟨k + 1, by omega, by go_num, zcX a5 (by unfold zbo; simp only [tm, tb, tv, Bool.and_false, Bool.not_false, Bool.and_true]), a2⟩
         case measure => simp [RowKit.intOf]; omega
       ·refine zab 27 (fun W => Below (w.heap.size + 1) w1 W) (by kernel_rfl) (by kernel_rfl) a3.drew ?_
        refine fl_a ?_
        refine Flow.call 60 #[.int .i64 (gI m (2 * n * k + k))] (.bool true) (by rfl) (fun W hW => by go_simp) (fun W hW => (zdW _ _).mono fun e w' ⟨he, hb⟩ => ⟨he.trans (retb tb), hb ▸ hW⟩) ?_
        simp only [Act.put, List.setIfInBounds_toArray, List.set_cons_zero, List.set_cons_succ]
        refine fl_a ?_
        intro w4 a2
        go_wp2
        go_ret
        exact ⟨zas (zbJ hn hn' HL.out hlt hlt (by unfold zbo; simp only [tv, decide_true, Bool.and_self, Bool.not_true, Bool.and_false, Bool.false_and])).symm, a6.trans (a2.mono (Nat.le_succ _))⟩
      ·have tkl : ((k : Int) == (l : Int)) = false := by rw [beq_eq_false_iff_ne]; omega
       have tkd : decide ((k : Int) = (l : Int)) = false := decide_eq_false (by omega)
       cases tm : ((gI m (2 * n * k + l)) == (gI m (2 * n * xor1 l + xor1 k)))
       ·have tm' : ((gI m (2 * n * k + l)) != (gI m (2 * n * xor1 l + xor1 k))) = true := by simpa using tm
        refine zab 27 (fun W => Below (w.heap.size + 1) w1 W) (by kernel_rfl) (by kernel_rfl) a3.drew ?_
        refine fl_a ?_
        refine Flow.call 60 #[.int .i64 (gI m (2 * n * k + l))] (.bool true) (by rfl) (fun W hW => by go_simp) (fun W hW => (zdW _ _).mono fun e w' ⟨he, hb⟩ => ⟨he.trans (retb tb), hb ▸ hW⟩) ?_
        simp only [Act.put, List.setIfInBounds_toArray, List.set_cons_zero, List.set_cons_succ]
        refine fl_a ?_
        refine Flow.call 61 #[(l : Int)] (.int .i64 (xor1 l)) (by rfl) (fun W hW => by go_simp) (fun W hW => (zbb _ _ (by omega) (by omega)).mono fun e w' ⟨he, hb⟩ => ⟨he, hb ▸ hW⟩) ?_
        simp only [Act.put, List.setIfInBounds_toArray, List.set_cons_zero, List.set_cons_succ]
        refine fl_a ?_
        refine Flow.call 61 #[(k : Int)] (.int .i64 (xor1 k)) (by rfl) (fun W hW => by go_simp) (fun W hW => (zbb _ _ (by omega) (by omega)).mono fun e w' ⟨he, hb⟩ => ⟨he, hb ▸ hW⟩) ?_
        simp only [Act.put, List.setIfInBounds_toArray, List.set_cons_zero, List.set_cons_succ]
        refine fl_a ?_
        intro w4 a2
        go_wp2
        go_ret
        exact ⟨zas (zbJ hn hn' HL.out hlt hlt' (by unfold zbo; simp only [tm, Bool.and_false])).symm, a6.trans (a2.mono (Nat.le_succ _))⟩
       ·have tm' : ((gI m (2 * n * k + l)) != (gI m (2 * n * xor1 l + xor1 k))) = false := by simpa using tm
        refine zab 27 (fun W => Below (w.heap.size + 1) w1 W) (by kernel_rfl) (by kernel_rfl) a3.drew ?_
        refine fl_a ?_
        refine Flow.call 60 #[.int .i64 (gI m (2 * n * k + l))] (.bool true) (by rfl) (fun W hW => by go_simp) (fun W hW => (zdW _ _).mono fun e w' ⟨he, hb⟩ => ⟨he.trans (retb tb), hb ▸ hW⟩) ?_
        simp only [Act.put, List.setIfInBounds_toArray, List.set_cons_zero, List.set_cons_succ]
        refine fl_a ?_
        refine Flow.call 61 #[(l : Int)] (.int .i64 (xor1 l)) (by rfl) (fun W hW => by go_simp) (fun W hW => (zbb _ _ (by omega) (by omega)).mono fun e w' ⟨he, hb⟩ => ⟨he, hb ▸ hW⟩) ?_
        simp only [Act.put, List.setIfInBounds_toArray, List.set_cons_zero, List.set_cons_succ]
        refine fl_a ?_
        refine Flow.call 61 #[(k : Int)] (.int .i64 (xor1 k)) (by rfl) (fun W hW => by go_simp) (fun W hW => (zbb _ _ (by omega) (by omega)).mono fun e w' ⟨he, hb⟩ => ⟨he, hb ▸ hW⟩) ?_
        simp only [Act.put, List.setIfInBounds_toArray, List.set_cons_zero, List.set_cons_succ]
        refine fl_a ?_
        intro w4 a2
        go_wp2
        go_roundw
        case rel => exact ⟨l + 1, by omega, by go_num, zcX a5 (by unfold zbo; simp only [tm, tb, tkd, Bool.false_and, Bool.not_false, Bool.and_true]), a2⟩
        case measure => simp [RowKit.intOf]; omega
    ·have hll : l = (2 * n).toNat := by omega
     have a4 : zdG ⟨n, false, m⟩ k (2 * n).toNat = true := by rw [← hll]; exact a5
     have hnl : ¬ (l : Int) < 2 * n := hlt'
     clear hll
     go_wp2
     go_roundw
     case rel => exact ⟨k + 1, by omega, by go_num, ze5 hok a4, a3⟩
     case measure => simp [RowKit.intOf]; omega
  ·have hkk : k = (2 * n).toNat := by omega
   have a4 : zbM ⟨n, false, m⟩ (2 * n).toNat = true := by rw [← hkk]; exact hok
   clear hkk
   go_wp2
   go_ret
   exact ⟨zas (zdZ hn hn' HL.out a4).symm, a6.trans (hbr.mono (Nat.le_succ _))⟩
theorem zjl (o : O) (A : Option Addr) (cap : Nat) (w : World) (hr : Rd w w.heap.size A o.m) (hm : o.m.length ≤ 281474976710656) :
  Calls Tryz.prog 21 #[.agg #[o.n, o.e, .slice A o.m.length cap]] w fun e w' => e = .returned (.int .i64 (check o)) ∧ Below w.heap.size w w' := by
 obtain ⟨n, e, m⟩ := o
 dsimp only at *
 by_cases hn0 : n < 0
 ·go_enter Tryz.func21, Tryz.ntmps21
  go_wp2
  go_ret
  exact ⟨zas (zhU (by dsimp only; omega)).symm, (Below.refl _ _).alloc (Nat.le_refl _) _⟩
 by_cases hn6 : 64 < n
 ·go_enter Tryz.func21, Tryz.ntmps21
  go_wp2
  go_ret
  exact ⟨zas (zhU (by dsimp only; omega)).symm, (Below.refl _ _).alloc (Nat.le_refl _) _⟩
 have hn : 0 ≤ n ∧ n ≤ 64 := by omega
 cases e
 ·by_cases hl : (m.length : Int) = 4 * n * n
  ·exact zgt n m A cap w hr hm hn.1 hn.2 hl
  ·have tl : ((m.length : Int) != 4 * n * n) = true := by simpa using hl
   obtain ⟨hn1, hn2⟩ := hn
   have tq : 0 ≤ 4 * n * n := Int.mul_nonneg (by omega) hn1
   have tq' : 4 * n * n ≤ 4 * 64 * 64 := Int.mul_le_mul (by omega) (by omega) hn1 (by omega)
   go_enter Tryz.func21, Tryz.ntmps21
   go_wp2
   go_ret
   exact ⟨zas (zkR hl).symm, (Below.refl _ _).alloc (Nat.le_refl _) _⟩
 ·by_cases hl : m.length = 0
  ·obtain rfl : m = [] := List.eq_nil_of_length_eq_zero hl
   clear hl
   go_enter Tryz.func21, Tryz.ntmps21
   go_wp2
   go_ret
   exact ⟨zas (zex hn).symm, (Below.refl _ _).alloc (Nat.le_refl _) _⟩
  ·have tl : ((m.length : Int) != 0) = true := by simpa using hl
   have hp : 0 < m.length := by omega
   clear hl
   go_enter Tryz.func21, Tryz.ntmps21
   go_wp2
   go_ret
   exact ⟨zas (zib hp).symm, (Below.refl _ _).alloc (Nat.le_refl _) _⟩
end
section
open Go.RowKit
attribute [local go_sem ↓] Go.wp_at_zero Go.wp_at_succ
theorem ziB (n : Int) (w : World) :
  Calls Tryz.prog 65 #[n] w fun e w' => e = .returned (.agg #[n, true, .slice none 0 0]) ∧ Below w.heap.size w w' := by
 go_enter Tryz.func65, Tryz.ntmps65
 go_wp2
 refine bodyPost_ret (v := .agg #[n, true, .slice none 0 0]) (by simp [results, Tryz.results65, go_sem]) rfl ⟨rfl, ?_⟩
 exact (Below.refl _ _).alloc (Nat.le_refl _) _
end
section

end
section

end
section
open Go.RowKit
theorem zec (xs : List Int) {k : Nat} (h : k < xs.length) : xs.take (k + 1) = xs.take k ++ [gI xs k] := by
 rw [List.take_succ_eq_append_getElem h]; unfold gI; simp [h]
theorem zgk (xs ys : List Int) (A A' : Option Addr) (c c' : Nat) (w : World) (hx : Rd w w.heap.size A xs) (hy : Rd w w.heap.size A' ys) (hm : xs.length ≤ 17592186044416) :
  Calls Tryz.prog 55 #[.slice A xs.length c, .slice A' ys.length c'] w fun e w' => e = .returned (.bool (decide (xs = ys))) ∧ Below w.heap.size w w' := by
 by_cases hl : xs.length = ys.length
 ·have tl : ((xs.length : Int) != (ys.length : Int)) = false := by rw [bne_eq_false_iff_eq]; omega
  have HL := hid hl
  have hxl : xs.length ≤ ys.length := by omega
  have hyl : ys.length ≤ xs.length := by omega
  clear hl
  go_enter Tryz.func55, Tryz.ntmps55
  go_wp2
  go_loopw [5] (fun i wr => ∃ k : Nat, k ≤ xs.length ∧ i = .int .i64 k ∧ Hid (xs.take k = ys.take k) ∧ Below w.heap.size w wr) (fun i _ => xs.length - (RowKit.intOf i).toNat)
  case atStart => exact ⟨0, by omega, rfl, hid (by simp), Below.refl _ _⟩
  case round =>
   obtain ⟨k, hk, rfl, hs, hb⟩ := hrel
   by_cases hlt : k < xs.length
   ·obtain ⟨b, off, rfl, hB, hc⟩ := hx k hlt
    obtain ⟨b', off', rfl, hB', hc'⟩ := hy k (by omega)
    have c1 : ∀ W, Below w.heap.size w W → W.cell? ⟨b, off + k, none⟩ = some (.int .i64 (gI xs k)) := fun W hW => (hW.cell (p := ⟨b, off + k, none⟩) hB).trans hc
    have c2 : ∀ W, Below w.heap.size w W → W.cell? ⟨b', off' + k, none⟩ = some (.int .i64 (gI ys k)) := fun W hW => (hW.cell (p := ⟨b', off' + k, none⟩) hB').trans hc'
    have hi0 : (0 : Int) ≤ (k : Int) := by omega
    have hi1 : (k : Int) < (xs.length : Int) := by omega
    have hi2 : (k : Int) < (ys.length : Int) := by omega
    clear hc hc'
    cases tv : (gI xs k == gI ys k)
    ·have tv' : (gI xs k != gI ys k) = true := by rw [bne_iff_ne]; simpa using tv
     go_wp2
     refine zab 9 (fun W => Below w.heap.size w W) (by kernel_rfl) (by kernel_rfl) hb.drew ?_
     refine fl_a ?_
     intro w4 a1
     go_wp2
     go_ret
     refine ⟨retb ?_, a1⟩
     symm; rw [decide_eq_false_iff_not]; rintro rfl
     simp at tv
    ·have tv' : (gI xs k != gI ys k) = false := by rw [bne_eq_false_iff_eq]; simpa using tv
     go_wp2
     refine zab 9 (fun W => Below w.heap.size w W) (by kernel_rfl) (by kernel_rfl) hb.drew ?_
     refine fl_a ?_
     intro w4 a1
     go_wp2
     go_roundw
     case rel => exact ⟨k + 1, by omega, by go_num, hid (by rw [zec xs hlt, zec ys (by omega), hs.out, show gI xs k = gI ys k by simpa using tv]), a1⟩
     case measure => simp [RowKit.intOf]; omega
   ·have hkk : k = xs.length := by omega
    have he : xs = ys := by
     have := hs.out
     rw [List.take_of_length_le (by omega), List.take_of_length_le (by omega)] at this
     exact this
    have he := hid he
    clear hkk
    go_wp2
    go_ret
    exact ⟨retb (by rw [decide_eq_true he.out]), hb⟩
 ·have tl : ((xs.length : Int) != (ys.length : Int)) = true := by rw [bne_iff_ne]; omega
  go_enter Tryz.func55, Tryz.ntmps55
  go_wp2
  go_ret
  exact ⟨retb (by symm; rw [decide_eq_false_iff_not]; rintro rfl; exact hl rfl), Below.refl _ _⟩
def eqO (o p : O) : Bool := decide (o.n = p.n) && (decide (o.e = p.e) && decide (o.m = p.m))
theorem zkg (o p : O) (A A' : Option Addr) (c c' : Nat) (w : World) (hx : Rd w w.heap.size A o.m) (hy : Rd w w.heap.size A' p.m) (hm : o.m.length ≤ 17592186044416) :
  Calls Tryz.prog 23 #[.agg #[o.n, o.e, .slice A o.m.length c], .agg #[p.n, p.e, .slice A' p.m.length c']] w fun e w' => e = .returned (.bool (eqO o p)) ∧ Below w.heap.size w w' := by
 obtain ⟨n, e, m⟩ := o
 obtain ⟨n', e', m'⟩ := p
 dsimp only at *
 have a0 : ∀ o1 o2, Below w.heap.size w ((w.alloc o1).alloc o2) := fun o1 o2 => ((Below.refl _ _).alloc (Nat.le_refl _) _).alloc (by simp) _
 by_cases hn : n = n'
 ·have tn : (n == n') = true := by simpa using hn
  have HN := hid hn; clear hn
  by_cases he : e = e'
  ·subst he
   go_enter Tryz.func23, Tryz.ntmps23
   go_wp2_with (go_at_call 55; refine (zgk m m' A A' c c' _ ((hx.below (a0 _ _)).more (by simp; omega)) ((hy.below (a0 _ _)).more (by simp; omega)) hm).mono ?_; rintro e' w1 ⟨rfl, hb1⟩)
   go_ret
   exact ⟨retb (by unfold eqO; rw [decide_eq_true HN.out]; simp), (a0 _ _).trans (hb1.mono (by simp; omega))⟩
  ·have te : (e == e') = false := by simpa using he
   have HE := hid he; clear he
   go_enter Tryz.func23, Tryz.ntmps23
   go_wp2
   go_ret
   exact ⟨retb (by unfold eqO; rw [decide_eq_false HE.out]; simp), a0 _ _⟩
 ·have tn : (n == n') = false := by simpa using hn
  have HN := hid hn; clear hn
  go_enter Tryz.func23, Tryz.ntmps23
  go_wp2
  go_ret
  exact ⟨retb (by unfold eqO; rw [decide_eq_false HN.out]; simp), a0 _ _⟩
end
section
open Go.RowKit
attribute [local go_sem ↓] Go.wp_at_zero Go.wp_at_succ
theorem Blk.rd {w : World} {g : Nat} {t : TypeId} {xs : List Int} (h : Blk w g t (i64s xs).toArray) : Rd w w.heap.size (some ⟨g, 0, none⟩) xs := fun k hk =>
 ⟨g, 0, rfl, h.lt, by rw [Nat.zero_add, h.cell k, List.getElem?_toArray, zc1 xs hk]⟩
theorem kN : narrowO ⟨1, false, [0, 9223372036854775807, 9223372036854775807, 0]⟩ ⟨1, false, [0, 18, 9223372036854775807, 0]⟩ = (⟨1, false, [0, 18, 9223372036854775807, 0]⟩, 0) := by
 have h1 : (narrowO ⟨1, false, [0, 9223372036854775807, 9223372036854775807, 0]⟩ ⟨1, false, [0, 18, 9223372036854775807, 0]⟩).1.m = [0, 18, 9223372036854775807, 0] := by decide +kernel
 have h2 : (narrowO ⟨1, false, [0, 9223372036854775807, 9223372036854775807, 0]⟩ ⟨1, false, [0, 18, 9223372036854775807, 0]⟩).1.n = 1 := by decide +kernel
 have h3 : (narrowO ⟨1, false, [0, 9223372036854775807, 9223372036854775807, 0]⟩ ⟨1, false, [0, 18, 9223372036854775807, 0]⟩).1.e = false := by decide +kernel
 have h4 : (narrowO ⟨1, false, [0, 9223372036854775807, 9223372036854775807, 0]⟩ ⟨1, false, [0, 18, 9223372036854775807, 0]⟩).2 = 0 := by decide +kernel
 generalize narrowO ⟨1, false, [0, 9223372036854775807, 9223372036854775807, 0]⟩ ⟨1, false, [0, 18, 9223372036854775807, 0]⟩ = q at *
 obtain ⟨⟨n, e, m⟩, x⟩ := q
 dsimp only at h1 h2 h3 h4
 rw [h1, h2, h3, h4]
end
section
open Go.RowKit
attribute [local go_sem ↓] Go.wp_at_zero Go.wp_at_succ
def rep {α : Type} (f : Nat → α → α) : Nat → α → α
 | 0, x => x
 | t + 1, x => f t (rep f t x)
def AllB (xs : List Int) : Prop := ∀ i : Nat, zag (gI xs i) = true
theorem zic (xs : List Int) (k : Nat) (v : Int) (i : Nat) (hk : k < xs.length) : gI (xs.set k v) i = if i = k then v else gI xs i := by
 unfold gI
 simp only [Int.toNat_natCast, List.getD, List.getElem?_set]
 by_cases h : k = i
 ·subst h; simp [hk]
 ·rw [if_neg h, if_neg (fun e => h e.symm)]
theorem AllB.set {xs : List Int} (h : AllB xs) {k : Nat} {v : Int} (hv : zag v = true) (hk : k < xs.length) : AllB (xs.set k v) := fun i => by
 rw [zic xs k v i hk]
 split
 ·exact hv
 ·exact h i
theorem znM {W : World} {base cap g i : Nat} {A : Option Addr} {m : List Int} {v : Value} (h : Own W base A cap m) (hn : ∀ k, A = some ⟨k, 0, none⟩ → k ≠ g) : Own (W.setCell ⟨g, i, none⟩ v) base A cap m := by
 refine h.grown (zal W ⟨g, i, none⟩ v) ?_
 rcases h.form with ⟨rfl, _⟩ | ⟨g', rfl, _⟩
 ·exact .inl rfl
 ·refine .inr fun e => hn g' rfl ?_
  simpa [Value.ownBlock] using e
def MX (B gx : Nat) (n : Int) (A : Option Addr) (cap : Nat) (e : Bool) (xs : List Int) (W : World) : Prop :=
 B ≤ gx ∧ (∀ g, A = some ⟨g, 0, none⟩ → g ≠ gx) ∧ (∃ s, Blk W gx 181 #[n, .slice A xs.length cap, .bool s, e]) ∧ Own W B A cap xs
def SX (w0 : World) (gx : Nat) (n : Int) (A : Option Addr) (L cap : Nat) (e : Bool) (W : World) : Prop :=
 w0.grownBy W (some gx) ∧ ∃ s, Blk W gx 181 #[n, .slice A L cap, .bool s, e]
section
variable {B gx cap gm : Nat} {n : Int} {A : Option Addr} {e : Bool} {xs : List Int} {W W' w0 : World}
theorem MX.base (h : MX B gx n A cap e xs W) : B ≤ gx := h.1
theorem MX.sx (h : MX B gx n A cap e xs W) : SX W gx n A xs.length cap e W := ⟨World.grownBy.refl _ _, h.2.2.1⟩
theorem MX.go (h : MX B gx n A cap e xs w0) (hs : SX w0 gx n A xs.length cap e W) : MX B gx n A cap e xs W := by
 refine ⟨h.1, h.2.1, hs.2, h.2.2.2.grown hs.1 ?_⟩
 rcases h.2.2.2.form with ⟨rfl, _⟩ | ⟨g, rfl, _⟩
 ·exact .inl rfl
 ·refine .inr fun e => h.2.1 g rfl ?_
  simpa [Value.ownBlock] using e
theorem SX.up {L : Nat} (h : SX w0 gx n A L cap e W) (hb : Below W.heap.size W W') : SX w0 gx n A L cap e W' :=
 ⟨h.1.trans (zar hb _), h.2.imp fun _ hk => hk.later hb⟩
theorem SX.drew {L : Nat} (h : SX w0 gx n A L cap e W) : SX w0 gx n A L cap e W.drew := h.up (Below.refl _ _).drew
theorem MX.up (h : MX B gx n A cap e xs W) (hb : Below W.heap.size W W') : MX B gx n A cap e xs W' := h.go (h.sx.up hb)
theorem SX.bel {L : Nat} (h : SX w0 gx n A L cap e W) (hB : B ≤ gx) (hB' : B ≤ w0.heap.size) : Below B w0 W := zat h.1 (fun k hk => by injection hk with hk; omega) hB'
theorem MX.some (h : MX B gx n A cap e xs W) (hl : 0 < xs.length) : ∃ gm, A = .some ⟨gm, 0, none⟩ ∧ B ≤ gm ∧ gm < W.heap.size ∧ gm ≠ gx := by
 rcases h.2.2.2.form with ⟨_, h0, _⟩ | ⟨g, h1, h2, h3⟩
 ·rw [h0] at hl; simp at hl
 ·exact ⟨g, h1, h2, h3, h.2.1 g h1⟩
theorem MX.n_ (h : MX B gx n A cap e xs W) : W.cell? ⟨gx, 0, none⟩ = Option.some (.int .i64 n) := by obtain ⟨s, hk⟩ := h.2.2.1; exact hk.cell 0
theorem MX.m_ (h : MX B gx n A cap e xs W) : W.cell? ⟨gx, 1, none⟩ = Option.some (.slice A xs.length cap) := by obtain ⟨s, hk⟩ := h.2.2.1; exact hk.cell 1
theorem MX.e_ (h : MX B gx n A cap e xs W) : W.cell? ⟨gx, 3, none⟩ = Option.some (.bool e) := by obtain ⟨s, hk⟩ := h.2.2.1; exact hk.cell 3
theorem MX.c_ (h : MX B gx n (.some ⟨gm, 0, none⟩) cap e xs W) {k : Nat} (hk : k < xs.length) : W.cell? ⟨gm, k, none⟩ = Option.some (.int .i64 (gI xs k)) := by
 obtain ⟨b, off, hA, _, hc⟩ := h.2.2.2.rd k hk
 simp only [Option.some.injEq, Addr.mk.injEq] at hA
 obtain ⟨rfl, rfl, _⟩ := hA
 simpa using hc
theorem MX.f_ (h : MX B gx n (.some ⟨gm, 0, none⟩) cap e xs W) (k : Nat) : W.frozen? ⟨gm, k, none⟩ = false := h.2.2.2.frozen k
theorem MX.set (h : MX B gx n (.some ⟨gm, 0, none⟩) cap e xs W) (k : Nat) (v : Int) : MX B gx n (.some ⟨gm, 0, none⟩) cap e (xs.set k v) (W.setCell ⟨gm, k, none⟩ (.int .i64 v)) := by
 refine ⟨h.1, h.2.1, ?_, h.2.2.2.store k v⟩
 obtain ⟨s, hk⟩ := h.2.2.1
 rw [List.length_set]
 exact ⟨s, hk.far (p := ⟨gm, k, none⟩) (h.2.1 gm rfl) _⟩
theorem MX.setE (h : MX B gx n A cap e xs W) (u : Bool) : MX B gx n A cap u xs (W.setCell ⟨gx, 3, none⟩ (.bool u)) := by
 obtain ⟨s, hk⟩ := h.2.2.1
 exact ⟨h.1, h.2.1, ⟨s, hk.set_ 3 (.bool u)⟩, znM h.2.2.2 h.2.1⟩
end
theorem zbK {n : Int} {N i j : Nat} (hN : (N : Int) = 2 * n) (hi : i < N) (hj : j < N) (hn : N ≤ 128) :
  0 ≤ 2 * n * (i : Int) ∧ 2 * n * (i : Int) ≤ 16384 ∧ (2 * n * (i : Int) + (j : Int)).toNat = i * N + j ∧ i * N + j < N * N ∧ 0 ≤ 2 * n * (i : Int) + (j : Int) ∧ 2 * n * (i : Int) + (j : Int) < ((N * N : Nat) : Int) := by
 rw [← hN]
 have e1 : (N : Int) * (i : Int) = ((i * N : Nat) : Int) := by rw [Int.natCast_mul, Int.mul_comm]
 have h1 : i * N + N ≤ N * N := by
  have := Nat.mul_le_mul_right N (show i + 1 ≤ N from hi)
  rw [Nat.add_mul] at this; omega
 have h2 : N * N ≤ 128 * 128 := Nat.mul_le_mul hn hn
 rw [e1]
 refine ⟨by omega, by omega, by omega, by omega, by omega, by omega⟩
theorem zcE {B gx cap gm : Nat} {n : Int} {e : Bool} {xs : List Int} {W : World} (i j N : Nat) (h : MX B gx n (some ⟨gm, 0, none⟩) cap e xs W) (hN : (N : Int) = 2 * n) (hn : N ≤ 128) (hl : xs.length = N * N) (hi : i < N) (hj : j < N) :
  Calls Tryz.prog 212 #[.pointer (some ⟨gx, 0, none⟩), (i : Int), (j : Int)] W fun e' W' => e' = .returned (.pointer (some ⟨gm, i * N + j, none⟩)) ∧ Below W.heap.size W W' := by
 obtain ⟨b1, b2, b3, b4, b5, b6⟩ := zbK hN hi hj hn
 rw [← hl] at b6
 have fn := later h.n_
 have fm := later h.m_
 have hn0 : 0 ≤ 2 * n := by omega
 have hn1 : 2 * n ≤ 128 := by omega
 have HN := hid hN
 have HL := hid hl
 clear hN hl b4
 go_enter Tryz.func212, Tryz.ntmps212
 go_wp2
 refine zab 15 (fun X => Below W.heap.size W X) (by kernel_rfl) (by kernel_rfl) (Below.refl _ _).drew ?_
 refine fl_a ?_
 intro w4 hb4
 go_wp2
 go_ret
 exact ⟨rfl, hb4⟩
theorem zhG {B gx cap : Nat} {n : Int} {A : Option Addr} {e : Bool} {xs : List Int} {W : World} (a b : Int) (h : MX B gx n A cap e xs W) :
  Calls Tryz.prog 213 #[.pointer (some ⟨gx, 0, none⟩), a, b] W fun e' W' => e' = .returned (.int .i64 (plus a b)) ∧ SX W gx n A xs.length cap e W' := by
 obtain ⟨s, hk⟩ := h.2.2.1
 have c2 := hk.cell 2
 have f2 := hk.fr 2
 have k2 := fun u => hk.set_ 2 (.bool u)
 cases s
 ·go_enter Tryz.func213, Tryz.ntmps213
  go_wp2_with fail
  refine (znR a b _).mono ?_
  rintro e1 w1 ⟨rfl, rfl⟩
  go_wp2_with fail
  refine (zfJ a b _).mono ?_
  rintro e1 w1 ⟨rfl, rfl⟩
  go_wp2
  go_ret
  exact ⟨rfl, zal _ ⟨gx, 2, none⟩ _, _, k2 _⟩
 ·go_enter Tryz.func213, Tryz.ntmps213
  go_wp2_with fail
  refine (zfJ a b _).mono ?_
  rintro e1 w1 ⟨rfl, rfl⟩
  go_wp2
  go_ret
  exact ⟨rfl, zal _ ⟨gx, 2, none⟩ _, _, k2 _⟩
end
end Go.Proofs.YtnmpgijiimglcaaGreat
