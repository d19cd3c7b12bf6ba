import Derived.Test.YtnmpgijiimglcaaGreatBSe02
import Derived.Test.YtnmpgijiimglcaaGreatBSe00
namespace Go.Proofs.YtnmpgijiimglcaaGreat
set_option maxRecDepth 100000
set_option maxHeartbeats 8000000
section
open Go.RowKit
theorem zfB {o : O} (h : ¬ (0 ≤ o.n ∧ o.n ≤ 64)) : check o = 120 := by
 unfold check zb7; rw [decide_eq_false h]; rfl
theorem zgj {n : Int} {m : List Int} (h : 0 < m.length) : check ⟨n, true, m⟩ = 120 := by
 unfold check zb7; simp [h]
theorem zdq {n : Int} (h : 0 ≤ n ∧ n ≤ 64) : check ⟨n, true, []⟩ = 0 := by
 unfold check zb7; rw [decide_eq_true h]; rfl
theorem ziP {n : Int} {m : List Int} (h : ¬ (m.length : Int) = 4 * n * n) : check ⟨n, false, m⟩ = 120 := by
 unfold check zb7; simp [h]
theorem zbF (o : O) (A : Option Addr) (cap : Nat) (w : World) (hr : Rd w w.heap.size A o.m) (hm : o.m.length ≤ 281474976710656) :
  Calls Tryz.prog 56 #[.agg #[o.n, o.e, .slice A o.m.length cap]] w fun e w' => e = .returned (.int .i64 (check o)) ∧ Below w.heap.size w w' := by
 obtain ⟨n, e, m⟩ := o
 dsimp only at *
 by_cases hn : 0 ≤ n ∧ n ≤ 64
 ·have tn := decide_eq_true hn
  cases e
  ·by_cases hl : (m.length : Int) = 4 * n * n
   ·exact zfC n m A cap w hr hm hn.1 hn.2 hl
   ·have tl : ((m.length : Int) != 4 * n * n) = true := by simpa using hl
    obtain ⟨hn1, hn2⟩ := hn
    have tq : 0 ≤ 4 * n * n := Int.mul_nonneg (by omega) hn1
    have tq' : 4 * n * n ≤ 4 * 64 * 64 := Int.mul_le_mul (by omega) (by omega) hn1 (by omega)
    go_enter Tryz.func56, Tryz.ntmps56
    go_wp2_with (go_at_call 119; refine (zbC _ _).mono ?_; rintro e w' ⟨rfl, rfl⟩)
    go_ret
    exact ⟨zaQ (ziP hl).symm, (Below.refl _ _).alloc (Nat.le_refl _) _⟩
  ·by_cases hl : 0 < m.length
   ·have tl : (0 : Int) < (m.length : Int) := by omega
    clear hn
    go_enter Tryz.func56, Tryz.ntmps56
    go_wp2_with (go_at_call 119; refine (zbC _ _).mono ?_; rintro e w' ⟨rfl, rfl⟩)
    go_ret
    exact ⟨zaQ (zgj hl).symm, (Below.refl _ _).alloc (Nat.le_refl _) _⟩
   ·have hl0 : m.length = 0 := by omega
    obtain rfl : m = [] := List.eq_nil_of_length_eq_zero hl0
    clear hl hl0
    go_enter Tryz.func56, Tryz.ntmps56
    go_wp2_with (go_at_call 119; refine (zbC _ _).mono ?_; rintro e w' ⟨rfl, rfl⟩)
    go_ret
    exact ⟨zaQ (zdq hn).symm, (Below.refl _ _).alloc (Nat.le_refl _) _⟩
 ·have tn := decide_eq_false hn
  go_enter Tryz.func56, Tryz.ntmps56
  go_wp2_with (go_at_call 119; refine (zbC _ _).mono ?_; rintro e w' ⟨rfl, rfl⟩)
  go_ret
  exact ⟨zaQ (zfB hn).symm, (Below.refl _ _).alloc (Nat.le_refl _) _⟩
end
section

end
section
open Go.RowKit
theorem zjk {a b : Int} (h : a = b) : (a == b) = true := by simpa using h
theorem zjy {a b : Int} (h : ¬ a = b) : (a == b) = false := by simpa using h
theorem zc4 (a : Int) (w : World) :
  Calls Tryz.prog 60 #[a] w fun e w' => e = .returned (.bool (zaq a)) ∧ w = w' := by
 go_enter Tryz.func60, Tryz.ntmps60
 go_wp2
 all_goals (go_ret; exact ⟨retb (by unfold zaq; rw [Bool.eq_iff_iff]; simp [*]; try omega), rfl⟩)
theorem zha (a b : Int) (w : World) :
  Calls Tryz.prog 200 #[a, b] w fun e w' => e = .returned (.int .i64 (plus a b)) ∧ w = w' := by
 have la := zbG a
 have lb := zbG b
 by_cases ca : near a = 9223372036854775807
 ·have ta : (near a == 9223372036854775807) = true := by simpa using ca
  have C := hid ca; clear ca
  go_enter Tryz.func200, Tryz.ntmps200
  go_wp2_with (first | (go_at_call 118; refine (zaG _ _).mono ?_; rintro e w' ⟨rfl, rfl⟩) | go_in)
  go_ret
  exact ⟨zaQ (zkl C.out).symm, rfl⟩
 ·have ta : (near a == 9223372036854775807) = false := by simpa using ca
  have ua : near a ≤ 4611686018427387904 := by rcases zaw a with h | h <;> omega
  have C := hid ca; clear ca
  by_cases cb : near b = 9223372036854775807
  ·have tb : (near b == 9223372036854775807) = true := by simpa using cb
   have D := hid cb; clear cb
   go_enter Tryz.func200, Tryz.ntmps200
   go_wp2_with (first | (go_at_call 118; refine (zaG _ _).mono ?_; rintro e w' ⟨rfl, rfl⟩) | go_in)
   go_ret
   exact ⟨zaQ (zj9 D.out).symm, rfl⟩
  ·have tb : (near b == 9223372036854775807) = false := by simpa using cb
   have ub : near b ≤ 4611686018427387904 := by rcases zaw b with h | h <;> omega
   have D := hid cb; clear cb
   by_cases fa : near a = 4611686018427387904
   ·have sa := zjk fa
    by_cases fb : near b = 4611686018427387904
    ·have sb := zjk fb
     have F := hid fa; have G := hid fb; clear fa fb
     go_enter Tryz.func200, Tryz.ntmps200
     go_wp2_with (first | (go_at_call 118; refine (zaG _ _).mono ?_; rintro e w' ⟨rfl, rfl⟩) | go_in)
     go_ret; exact ⟨zaQ (by rw [zb5 C.out D.out, F.out, G.out]; rfl), rfl⟩
    ·have sb := zjy fb
     have F := hid fa; have G := hid fb; clear fa
     have : near b < 4611686018427387904 := by omega
     clear fb
     go_enter Tryz.func200, Tryz.ntmps200
     go_wp2_with (first | (go_at_call 118; refine (zaG _ _).mono ?_; rintro e w' ⟨rfl, rfl⟩) | go_in)
     all_goals (go_ret; refine ⟨zaQ ?_, rfl⟩; rw [zb5 C.out D.out])
   ·have sa := zjy fa
    have : near a < 4611686018427387904 := by omega
    clear fa
    go_enter Tryz.func200, Tryz.ntmps200
    go_wp2_with (first | (go_at_call 118; refine (zaG _ _).mono ?_; rintro e w' ⟨rfl, rfl⟩) | go_in)
    all_goals (go_ret; refine ⟨zaQ ?_, rfl⟩; rw [zb5 C.out D.out])
theorem zjs (a b : Int) (w : World) :
  Calls Tryz.prog 219 #[a, b] w fun e w' => e = .returned (.bool (sat a b)) ∧ w = w' := by
 have la := zbG a
 have lb := zbG b
 by_cases ca : near a = 9223372036854775807
 ·have ta : (near a == 9223372036854775807) = true := by simpa using ca
  have C := hid ca; clear ca
  go_enter Tryz.func219, Tryz.ntmps219
  go_wp2_with (first | (go_at_call 118; refine (zaG _ _).mono ?_; rintro e w' ⟨rfl, rfl⟩))
  go_ret
  exact ⟨retb (zll C.out).symm, rfl⟩
 ·have ta : (near a == 9223372036854775807) = false := by simpa using ca
  have ua : near a ≤ 4611686018427387904 := by rcases zaw a with h | h <;> omega
  have C := hid ca; clear ca
  by_cases cb : near b = 9223372036854775807
  ·have tb : (near b == 9223372036854775807) = true := by simpa using cb
   have D := hid cb; clear cb
   go_enter Tryz.func219, Tryz.ntmps219
   go_wp2_with (first | (go_at_call 118; refine (zaG _ _).mono ?_; rintro e w' ⟨rfl, rfl⟩))
   go_ret
   exact ⟨retb (zlu D.out).symm, rfl⟩
  ·have tb : (near b == 9223372036854775807) = false := by simpa using cb
   have ub : near b ≤ 4611686018427387904 := by rcases zaw b with h | h <;> omega
   have D := hid cb; clear cb
   by_cases fa : near a = 4611686018427387904
   ·have sa := zjk fa
    by_cases fb : near b = 4611686018427387904
    ·have sb := zjk fb
     have F := hid fa; have G := hid fb; clear fa fb
     go_enter Tryz.func219, Tryz.ntmps219
     go_wp2_with (first | (go_at_call 118; refine (zaG _ _).mono ?_; rintro e w' ⟨rfl, rfl⟩))
     go_ret; exact ⟨retb (by rw [zeL C.out D.out, F.out, G.out]; rfl), rfl⟩
    ·have sb := zjy fb
     have F := hid fa; have G := hid fb; clear fa
     have : near b < 4611686018427387904 := by omega
     clear fb
     go_enter Tryz.func219, Tryz.ntmps219
     go_wp2_with (first | (go_at_call 118; refine (zaG _ _).mono ?_; rintro e w' ⟨rfl, rfl⟩))
     all_goals (go_ret; exact ⟨retb (by rw [zeL C.out D.out, Bool.eq_iff_iff]; simp [*]; try omega), rfl⟩)
   ·have sa := zjy fa
    have : near a < 4611686018427387904 := by omega
    clear fa
    go_enter Tryz.func219, Tryz.ntmps219
    go_wp2_with (first | (go_at_call 118; refine (zaG _ _).mono ?_; rintro e w' ⟨rfl, rfl⟩))
    all_goals (go_ret; exact ⟨retb (by rw [zeL C.out D.out, Bool.eq_iff_iff]; simp [*]; try omega), rfl⟩)
theorem zcc {x : Int} (h : x < 0) : x.tdiv 2 = -((-x) / 2) := by
 rw [show x = -(-x) by omega, Int.neg_tdiv, Int.tdiv_eq_ediv_of_nonneg (by omega)]; omega
theorem zfU (x : Int) : (x ≤ x.tdiv 2 ∧ x.tdiv 2 ≤ 0 ∨ 0 ≤ x.tdiv 2 ∧ x.tdiv 2 ≤ x) := by
 by_cases h : x < 0
 ·rw [zcc h]; omega
 ·rw [Int.tdiv_eq_ediv_of_nonneg (by omega)]; omega
theorem zhZ {x : Int} (h : x < 0) (k : (x.tmod 2 != 0) = true) : x % 2 = 1 := by
 have e : x.tmod 2 = x - 2 * x.tdiv 2 := by have := Int.mul_tdiv_add_tmod x 2; omega
 have := zcc h
 rw [bne_iff_ne] at k
 omega
theorem zgD {x : Int} (h : x < 0) (k : (x.tmod 2 != 0) = false) : x % 2 = 0 := by
 have e : x.tmod 2 = x - 2 * x.tdiv 2 := by have := Int.mul_tdiv_add_tmod x 2; omega
 have := zcc h
 rw [bne_eq_false_iff_eq] at k
 omega
theorem zcR (a : Int) (w : World) :
  Calls Tryz.prog 178 #[a] w fun e w' => e = .returned (.int .i64 (half a)) ∧ w = w' := by
 have la := zbG a
 by_cases ca : near a = 9223372036854775807
 ·have ta : (near a == 9223372036854775807) = true := by simpa using ca
  have C := hid ca; clear ca
  go_enter Tryz.func178, Tryz.ntmps178
  go_wp2_with (go_at_call 118; refine (zaG _ _).mono ?_; rintro e w' ⟨rfl, rfl⟩)
  go_ret
  exact ⟨zaQ (by unfold half; rw [C.out]; rfl), rfl⟩
 ·have ta : (near a == 9223372036854775807) = false := by simpa using ca
  have ua : near a ≤ 4611686018427387904 := by rcases zaw a with h | h <;> omega
  have C := hid ca; clear ca
  have tl : -4611686018427387904 ≤ (near a).tdiv 2 := by have := zfU (near a); omega
  have tu : (near a).tdiv 2 ≤ 4611686018427387904 := by have := zfU (near a); omega
  go_enter Tryz.func178, Tryz.ntmps178
  go_wp2_with (go_at_call 118; refine (zaG _ _).mono ?_; rintro e w' ⟨rfl, rfl⟩)
  all_goals (go_ret; refine ⟨zaQ ?_, rfl⟩; unfold half; rw [if_neg C.out])
  ·have T := zcc (x := near a) (by omega)
   have k : ((near a).tmod 2 != 0) = true := ‹_›
   have T2 := zhZ (x := near a) (by omega) k
   omega
  ·have T := zcc (x := near a) (by omega)
   have k : ((near a).tmod 2 != 0) = false := ‹_›
   have T2 := zgD (x := near a) (by omega) k
   omega
  ·rw [Int.tdiv_eq_ediv_of_nonneg (by omega)]
theorem zim (a : Int) (w : World) :
  Calls Tryz.prog 177 #[a] w fun e w' => e = .returned (.int .i64 (even a)) ∧ w = w' := by
 have lh := zc8 (near a)
 by_cases ca : near a = 9223372036854775807
 ·have ta : (near a == 9223372036854775807) = true := by simpa using ca
  have C := hid ca; clear ca
  go_enter Tryz.func177, Tryz.ntmps177
  go_wp2_with (go_at_call 118; refine (zaG _ _).mono ?_; rintro e w' ⟨rfl, rfl⟩)
  go_ret
  exact ⟨zaQ (by unfold even; rw [C.out]; rfl), rfl⟩
 ·have ta : (near a == 9223372036854775807) = false := by simpa using ca
  have eh : half (near a) = near a / 2 := by unfold half; rw [zeZ, if_neg ca]
  have ua : half (near a) ≤ 4611686018427387903 := by rw [eh]; rcases zaw a with h | h <;> omega
  have C := hid ca; clear ca
  have E := hid eh; clear eh
  go_enter Tryz.func177, Tryz.ntmps177
  go_wp2_with (first | (go_at_call 118; refine (zaG _ _).mono ?_; rintro e w' ⟨rfl, rfl⟩) | (go_at_call 178; refine (zcR _ _).mono ?_; rintro e w' ⟨rfl, rfl⟩))
  go_ret
  exact ⟨zaQ (by unfold even; rw [if_neg C.out, E.out]), rfl⟩
end
section

end
section
open Go.RowKit
theorem zas {o : O} (h : check o = 0) : 0 ≤ o.n ∧ o.n ≤ 64 ∧ (o.e = true → o.m = []) ∧ (o.e = false → (o.m.length : Int) = 4 * o.n * o.n) := by
 by_cases hs : zb7 o = true
 ·unfold check at h; rw [if_pos hs] at h; omega
 ·unfold zb7 at hs
  simp at hs
  obtain ⟨⟨⟨h1, h2⟩, h3⟩, h4⟩ := hs
  exact ⟨h1, h2, h3, h4⟩
end
section
open Go.RowKit
theorem zbd (i : Int) (w : World) (h0 : 0 ≤ i) (h1 : i ≤ 1000) :
  Calls Tryz.prog 61 #[i] w fun e w' => e = .returned (.int .i64 (xor1 i)) ∧ w = w' := by
 by_cases h : i % 2 = 0
 ·have t : (i % 2 == 0) = true := by simpa using h
  clear h
  go_enter Tryz.func61, Tryz.ntmps61
  go_wp2
  go_ret
  exact ⟨zaQ (by unfold xor1; rw [if_pos (by simpa using t)]), rfl⟩
 ·have t : (i % 2 == 0) = false := by simpa using h
  have t1 : 1 ≤ i := by omega
  clear h
  go_enter Tryz.func61, Tryz.ntmps61
  go_wp2
  go_ret
  exact ⟨zaQ (by unfold xor1; rw [if_neg (by simpa using t)]), rfl⟩
theorem zfb (n : Int) (m : List Int) (A : Option Addr) (cap : Nat) (w : World) (hr : Rd w w.heap.size A m) (hm : m.length ≤ 281474976710656) (hn : 0 ≤ n) (hn' : n ≤ 64) (hl : (m.length : Int) = 4 * n * n) :
  Calls Tryz.prog 21 #[.agg #[n, false, .slice A m.length cap]] w fun e w' => e = .returned (.int .i64 (check ⟨n, false, m⟩)) ∧ Below w.heap.size w w' := by
 have t0 : ¬ n < 0 := by omega
 have t64 : ¬ 64 < n := by omega
 have tl : ((m.length : Int) != 4 * n * n) = false := by simpa using hl
 have tq : 0 ≤ 4 * n * n := Int.mul_nonneg (by omega) hn
 have tq' : 4 * n * n ≤ 4 * 64 * 64 := Int.mul_le_mul (by omega) (by omega) hn (by omega)
 have HL := hid hl; clear hl
 go_enter Tryz.func21, Tryz.ntmps21
 go_wp2
 have HB : Below (w.heap.size + 1) (w.alloc (Obj.cells #[Value.int IntKind.i64 n, Value.bool false, Value.slice A m.length cap] 24)) (w.alloc (Obj.cells #[Value.int IntKind.i64 n, Value.bool false, Value.slice A m.length cap] 24)) := Below.refl _ _
 have c2 : (w.alloc (Obj.cells #[Value.int IntKind.i64 n, Value.bool false, Value.slice A m.length cap] 24)).cell? ⟨w.heap.size, 2, none⟩ = some (.slice A m.length cap) := by simp [go_sem]
 have hr1 : Rd (w.alloc (Obj.cells #[Value.int IntKind.i64 n, Value.bool false, Value.slice A m.length cap] 24)) (w.heap.size + 1) A m := (hr.below ((Below.refl _ _).alloc (Nat.le_refl _) _)).more (Nat.le_succ _)
 have a6 : Below w.heap.size w (w.alloc (Obj.cells #[Value.int IntKind.i64 n, Value.bool false, Value.slice A m.length cap] 24)) := (Below.refl _ _).alloc (Nat.le_refl _) _
 generalize w.alloc (Obj.cells #[Value.int IntKind.i64 n, Value.bool false, Value.slice A m.length cap] 24) = w1 at *
 go_loopw [4] (fun i wr => ∃ k : Nat, (k : Int) ≤ 2 * n ∧ i = .int .i64 k ∧ zbB ⟨n, false, m⟩ k = true ∧ Below (w.heap.size + 1) w1 wr) (fun i _ => (2 * n).toNat - (RowKit.intOf i).toNat)
 case atStart => exact ⟨0, by omega, rfl, rfl, HB⟩
 case round =>
  obtain ⟨k, hk, rfl, hok, hbr⟩ := hrel
  by_cases hlt : (k : Int) < 2 * n
  ·go_wp2
   go_loopw [5] (fun j wq => ∃ l : Nat, (l : Int) ≤ 2 * n ∧ j = .int .i64 l ∧ zcT ⟨n, false, m⟩ k l = true ∧ Below (w.heap.size + 1) w1 wq) (fun j _ => (2 * n).toNat - (RowKit.intOf j).toNat)
   case atStart => exact ⟨0, by omega, rfl, rfl, hbr⟩
   case round =>
    obtain ⟨l, hl, rfl, a5, a3⟩ := hrel
    by_cases hlt' : (l : Int) < 2 * n
    ·have f2 : ∀ W, Below (w.heap.size + 1) w1 W → W.cell? ⟨w.heap.size, 2, none⟩ = some (.slice A m.length cap) := fun W hW => (hW.cell (p := ⟨w.heap.size, 2, none⟩) (Nat.lt_succ_self _)).trans c2
     have q2 := f2 _ a3
     have ib := zfY (n := n) (k := k) (l := l) hn hn' (by omega) hlt (by omega) hlt' HL.out
     have eq0 : 2 * n * k = (k : Int) * (2 * n) := Int.mul_comm _ _
     have nc1 : 0 ≤ 2 * n * k := Int.mul_nonneg (by omega) (by omega)
     have nc2 : 2 * n * k ≤ 16384 := by have := HL.out; omega
     rw [eq0] at ib nc1 nc2
     obtain ⟨b, off, hA, hbB, a1⟩ := hr1.at_ ib.1 ib.2
     rw [← eq0, show gI m (2 * n * k + l) = gI m (2 * n * k + l) from rfl] at a1
     subst hA
     have lt1 : ∀ {o : Nat} {v : Value}, w1.cell? ⟨b, o, none⟩ = some v → b < w.heap.size + 1 → ∀ W, Below (w.heap.size + 1) w1 W → W.cell? ⟨b, o, none⟩ = some v := fun {o v} hc hB W hW => (hW.cell (p := ⟨b, o, none⟩) hB).trans hc
     have m0 : ∀ W, Below (w.heap.size + 1) w1 W → W.cell? ⟨b, off + ((k : Int) * (2 * n) + l).toNat, none⟩ = some (.int .i64 (gI m (2 * n * k + l))) := by rw [← eq0]; exact lt1 a1 hbB
     have mq := m0 _ a3
     obtain ⟨ib1, ib2⟩ := ib
     clear a1 eq0
     go_wp2
     cases tb : zaq (gI m (2 * n * k + l))
     ·refine zad 27 (fun W => Below (w.heap.size + 1) w1 W) (by kernel_rfl) (by kernel_rfl) a3.drew ?_
      refine fl_a ?_
      refine Flow.call 60 #[.int .i64 (gI m (2 * n * k + l))] (.bool false) (by rfl) (fun W hW => by go_simp) (fun W hW => (zc4 _ _).mono fun e w' ⟨he, hb⟩ => ⟨he.trans (retb tb), hb ▸ hW⟩) ?_
      simp only [Act.put, List.setIfInBounds_toArray, List.set_cons_zero, List.set_cons_succ]
      refine fl_a ?_
      intro w4 a2
      go_wp2
      go_ret
      exact ⟨zaQ (zbw hn hn' HL.out hlt hlt' (by unfold zbr; simp only [tb, Bool.false_and])).symm, a6.trans (a2.mono (Nat.le_succ _))⟩
     ·have mb := zeu (n := n) (i := l) (by omega) hlt'
      have mk := zeu (n := n) (i := k) (by omega) hlt
      have ib := zfY (n := n) (k := xor1 l) (l := xor1 k) hn hn' mb.1 mb.2 mk.1 mk.2 HL.out
      obtain ⟨b', off', hA', hbB', a0⟩ := hr1.at_ ib.1 ib.2
      obtain ⟨rfl, rfl⟩ : b = b' ∧ off = off' := by simpa using hA'
      have eq1 : 2 * n * xor1 l = xor1 l * (2 * n) := Int.mul_comm _ _
      have nb1 : 0 ≤ 2 * n * xor1 l := Int.mul_nonneg (by omega) mb.1
      have nb2 : 2 * n * xor1 l ≤ 16384 := by have := HL.out; omega
      have m1 : ∀ W, Below (w.heap.size + 1) w1 W → W.cell? ⟨b, off + (xor1 l * (2 * n) + xor1 k).toNat, none⟩ = some (.int .i64 (gI m (2 * n * xor1 l + xor1 k))) := by rw [← eq1]; exact lt1 a0 hbB'
      rw [eq1] at ib nb1 nb2
      obtain ⟨jb1, jb2⟩ := ib
      clear a0 eq1
      obtain ⟨mb1, mb2⟩ := mb
      obtain ⟨mk1, mk2⟩ := mk
      by_cases ekl : k = l
      ·subst ekl
       have tkl : ((k : Int) == (k : Int)) = true := by simp
       cases tv : (gI m (2 * n * k + k) != 0)
       ·cases tm : ((gI m (2 * n * k + k)) == (gI m (2 * n * xor1 k + xor1 k)))
        ·have tm' : ((gI m (2 * n * k + k)) != (gI m (2 * n * xor1 k + xor1 k))) = true := by simpa using tm
         refine zad 27 (fun W => Below (w.heap.size + 1) w1 W) (by kernel_rfl) (by kernel_rfl) a3.drew ?_
         refine fl_a ?_
         refine Flow.call 60 #[.int .i64 (gI m (2 * n * k + k))] (.bool true) (by rfl) (fun W hW => by go_simp) (fun W hW => (zc4 _ _).mono fun e w' ⟨he, hb⟩ => ⟨he.trans (retb tb), hb ▸ hW⟩) ?_
         simp only [Act.put, List.setIfInBounds_toArray, List.set_cons_zero, List.set_cons_succ]
         refine fl_a ?_
         refine Flow.call 61 #[(k : Int)] (.int .i64 (xor1 k)) (by rfl) (fun W hW => by go_simp) (fun W hW => (zbd _ _ (by omega) (by omega)).mono fun e w' ⟨he, hb⟩ => ⟨he, hb ▸ hW⟩) ?_
         simp only [Act.put, List.setIfInBounds_toArray, List.set_cons_zero, List.set_cons_succ]
         refine fl_a ?_
         refine Flow.call 61 #[(k : Int)] (.int .i64 (xor1 k)) (by rfl) (fun W hW => by go_simp) (fun W hW => (zbd _ _ (by omega) (by omega)).mono fun e w' ⟨he, hb⟩ => ⟨he, hb ▸ hW⟩) ?_
         simp only [Act.put, List.setIfInBounds_toArray, List.set_cons_zero, List.set_cons_succ]
         refine fl_a ?_
         intro w4 a2
         go_wp2
         go_ret
         exact ⟨zaQ (zbw hn hn' HL.out hlt hlt (by unfold zbr; simp only [tm, Bool.and_false])).symm, a6.trans (a2.mono (Nat.le_succ _))⟩
        ·have tm' : ((gI m (2 * n * k + k)) != (gI m (2 * n * xor1 k + xor1 k))) = false := by simpa using tm
         refine zad 27 (fun W => Below (w.heap.size + 1) w1 W) (by kernel_rfl) (by kernel_rfl) a3.drew ?_
         refine fl_a ?_
         refine Flow.call 60 #[.int .i64 (gI m (2 * n * k + k))] (.bool true) (by rfl) (fun W hW => by go_simp) (fun W hW => (zc4 _ _).mono fun e w' ⟨he, hb⟩ => ⟨he.trans (retb tb), hb ▸ hW⟩) ?_
         simp only [Act.put, List.setIfInBounds_toArray, List.set_cons_zero, List.set_cons_succ]
         refine fl_a ?_
         refine Flow.call 61 #[(k : Int)] (.int .i64 (xor1 k)) (by rfl) (fun W hW => by go_simp) (fun W hW => (zbd _ _ (by omega) (by omega)).mono fun e w' ⟨he, hb⟩ => ⟨he, hb ▸ hW⟩) ?_
         simp only [Act.put, List.setIfInBounds_toArray, List.set_cons_zero, List.set_cons_succ]
         refine fl_a ?_
         refine Flow.call 61 #[(k : Int)] (.int .i64 (xor1 k)) (by rfl) (fun W hW => by go_simp) (fun W hW => (zbd _ _ (by omega) (by omega)).mono fun e w' ⟨he, hb⟩ => ⟨he, hb ▸ hW⟩) ?_
         simp only [Act.put, List.setIfInBounds_toArray, List.set_cons_zero, List.set_cons_succ]
         refine fl_a ?_
         intro w4 a2
         go_wp2
         go_roundw
         case rel => exact ⟨k + 1, by omega, by go_num, zcq a5 (by unfold zbr; simp only [tm, tb, tv, Bool.and_false, Bool.not_false, Bool.and_true]), a2⟩
         case measure => simp [RowKit.intOf]; omega
       ·refine zad 27 (fun W => Below (w.heap.size + 1) w1 W) (by kernel_rfl) (by kernel_rfl) a3.drew ?_
        refine fl_a ?_
        refine Flow.call 60 #[.int .i64 (gI m (2 * n * k + k))] (.bool true) (by rfl) (fun W hW => by go_simp) (fun W hW => (zc4 _ _).mono fun e w' ⟨he, hb⟩ => ⟨he.trans (retb tb), hb ▸ hW⟩) ?_
        simp only [Act.put, List.setIfInBounds_toArray, List.set_cons_zero, List.set_cons_succ]
        refine fl_a ?_
        intro w4 a2
        go_wp2
        go_ret
        exact ⟨zaQ (zbw hn hn' HL.out hlt hlt (by unfold zbr; simp only [tv, decide_true, Bool.and_self, Bool.not_true, Bool.and_false, Bool.false_and])).symm, a6.trans (a2.mono (Nat.le_succ _))⟩
      ·have tkl : ((k : Int) == (l : Int)) = false := by rw [beq_eq_false_iff_ne]; omega
       have tkd : decide ((k : Int) = (l : Int)) = false := decide_eq_false (by omega)
       cases tm : ((gI m (2 * n * k + l)) == (gI m (2 * n * xor1 l + xor1 k)))
       ·have tm' : ((gI m (2 * n * k + l)) != (gI m (2 * n * xor1 l + xor1 k))) = true := by simpa using tm
        refine zad 27 (fun W => Below (w.heap.size + 1) w1 W) (by kernel_rfl) (by kernel_rfl) a3.drew ?_
        refine fl_a ?_
        refine Flow.call 60 #[.int .i64 (gI m (2 * n * k + l))] (.bool true) (by rfl) (fun W hW => by go_simp) (fun W hW => (zc4 _ _).mono fun e w' ⟨he, hb⟩ => ⟨he.trans (retb tb), hb ▸ hW⟩) ?_
        simp only [Act.put, List.setIfInBounds_toArray, List.set_cons_zero, List.set_cons_succ]
        refine fl_a ?_
        refine Flow.call 61 #[(l : Int)] (.int .i64 (xor1 l)) (by rfl) (fun W hW => by go_simp) (fun W hW => (zbd _ _ (by omega) (by omega)).mono fun e w' ⟨he, hb⟩ => ⟨he, hb ▸ hW⟩) ?_
        simp only [Act.put, List.setIfInBounds_toArray, List.set_cons_zero, List.set_cons_succ]
        refine fl_a ?_
        refine Flow.call 61 #[(k : Int)] (.int .i64 (xor1 k)) (by rfl) (fun W hW => by go_simp) (fun W hW => (zbd _ _ (by omega) (by omega)).mono fun e w' ⟨he, hb⟩ => ⟨he, hb ▸ hW⟩) ?_
        simp only [Act.put, List.setIfInBounds_toArray, List.set_cons_zero, List.set_cons_succ]
        refine fl_a ?_
        intro w4 a2
        go_wp2
        go_ret
        exact ⟨zaQ (zbw hn hn' HL.out hlt hlt' (by unfold zbr; simp only [tm, Bool.and_false])).symm, a6.trans (a2.mono (Nat.le_succ _))⟩
       ·have tm' : ((gI m (2 * n * k + l)) != (gI m (2 * n * xor1 l + xor1 k))) = false := by simpa using tm
        refine zad 27 (fun W => Below (w.heap.size + 1) w1 W) (by kernel_rfl) (by kernel_rfl) a3.drew ?_
        refine fl_a ?_
        refine Flow.call 60 #[.int .i64 (gI m (2 * n * k + l))] (.bool true) (by rfl) (fun W hW => by go_simp) (fun W hW => (zc4 _ _).mono fun e w' ⟨he, hb⟩ => ⟨he.trans (retb tb), hb ▸ hW⟩) ?_
        simp only [Act.put, List.setIfInBounds_toArray, List.set_cons_zero, List.set_cons_succ]
        refine fl_a ?_
        refine Flow.call 61 #[(l : Int)] (.int .i64 (xor1 l)) (by rfl) (fun W hW => by go_simp) (fun W hW => (zbd _ _ (by omega) (by omega)).mono fun e w' ⟨he, hb⟩ => ⟨he, hb ▸ hW⟩) ?_
        simp only [Act.put, List.setIfInBounds_toArray, List.set_cons_zero, List.set_cons_succ]
        refine fl_a ?_
        refine Flow.call 61 #[(k : Int)] (.int .i64 (xor1 k)) (by rfl) (fun W hW => by go_simp) (fun W hW => (zbd _ _ (by omega) (by omega)).mono fun e w' ⟨he, hb⟩ => ⟨he, hb ▸ hW⟩) ?_
        simp only [Act.put, List.setIfInBounds_toArray, List.set_cons_zero, List.set_cons_succ]
        refine fl_a ?_
        intro w4 a2
        go_wp2
        go_roundw
        case rel => exact ⟨l + 1, by omega, by go_num, zcq a5 (by unfold zbr; simp only [tm, tb, tkd, Bool.false_and, Bool.not_false, Bool.and_true]), a2⟩
        case measure => simp [RowKit.intOf]; omega
    ·have hll : l = (2 * n).toNat := by omega
     have a4 : zcT ⟨n, false, m⟩ k (2 * n).toNat = true := by rw [← hll]; exact a5
     have hnl : ¬ (l : Int) < 2 * n := hlt'
     clear hll
     go_wp2
     go_roundw
     case rel => exact ⟨k + 1, by omega, by go_num, zdJ hok a4, a3⟩
     case measure => simp [RowKit.intOf]; omega
  ·have hkk : k = (2 * n).toNat := by omega
   have a4 : zbB ⟨n, false, m⟩ (2 * n).toNat = true := by rw [← hkk]; exact hok
   clear hkk
   go_wp2
   go_ret
   exact ⟨zaQ (zc9 hn hn' HL.out a4).symm, a6.trans (hbr.mono (Nat.le_succ _))⟩
theorem zd7 (o : O) (A : Option Addr) (cap : Nat) (w : World) (hr : Rd w w.heap.size A o.m) (hm : o.m.length ≤ 281474976710656) :
  Calls Tryz.prog 21 #[.agg #[o.n, o.e, .slice A o.m.length cap]] w fun e w' => e = .returned (.int .i64 (check o)) ∧ Below w.heap.size w w' := by
 obtain ⟨n, e, m⟩ := o
 dsimp only at *
 by_cases hn0 : n < 0
 ·go_enter Tryz.func21, Tryz.ntmps21
  go_wp2
  go_ret
  exact ⟨zaQ (zfB (by dsimp only; omega)).symm, (Below.refl _ _).alloc (Nat.le_refl _) _⟩
 by_cases hn6 : 64 < n
 ·go_enter Tryz.func21, Tryz.ntmps21
  go_wp2
  go_ret
  exact ⟨zaQ (zfB (by dsimp only; omega)).symm, (Below.refl _ _).alloc (Nat.le_refl _) _⟩
 have hn : 0 ≤ n ∧ n ≤ 64 := by omega
 cases e
 ·by_cases hl : (m.length : Int) = 4 * n * n
  ·exact zfb n m A cap w hr hm hn.1 hn.2 hl
  ·have tl : ((m.length : Int) != 4 * n * n) = true := by simpa using hl
   obtain ⟨hn1, hn2⟩ := hn
   have tq : 0 ≤ 4 * n * n := Int.mul_nonneg (by omega) hn1
   have tq' : 4 * n * n ≤ 4 * 64 * 64 := Int.mul_le_mul (by omega) (by omega) hn1 (by omega)
   go_enter Tryz.func21, Tryz.ntmps21
   go_wp2
   go_ret
   exact ⟨zaQ (ziP hl).symm, (Below.refl _ _).alloc (Nat.le_refl _) _⟩
 ·by_cases hl : m.length = 0
  ·obtain rfl : m = [] := List.eq_nil_of_length_eq_zero hl
   clear hl
   go_enter Tryz.func21, Tryz.ntmps21
   go_wp2
   go_ret
   exact ⟨zaQ (zdq hn).symm, (Below.refl _ _).alloc (Nat.le_refl _) _⟩
  ·have tl : ((m.length : Int) != 0) = true := by simpa using hl
   have hp : 0 < m.length := by omega
   clear hl
   go_enter Tryz.func21, Tryz.ntmps21
   go_wp2
   go_ret
   exact ⟨zaQ (zgj hp).symm, (Below.refl _ _).alloc (Nat.le_refl _) _⟩
end
end Go.Proofs.YtnmpgijiimglcaaGreat
