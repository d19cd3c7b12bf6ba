/-
  dbm.Check, whatever the octagon (its slice below 2^48 long).
  widen.right, order.right: what is wrong with two octagons.
  The reference's bounds (gnomonref11): what each call answers; no condition.
  widen.above, its two functions, the two closures of Widen and Narrow; the reference's step.
  widen.Widen, widen.Narrow: what each call answers.
  gnomonref12.Check: what is wrong with an octagon: the same as dbm.Check tells.
  gnomonref22.step, Widen, Narrow; gnomonref12.Empty; gnomonref14.Pair: what each call answers: the same as widen tells.
  gnomonref22.Widen, gnomonref22.Narrow: what each call answers, of octagons that may be.
  gnomonref22.Widen: what a call answers, of octagons that may be.
  gnomonhelp.Longs, gnomonhelp.Oct: equal as data.
  gnomonlaw22.upTo, gnomonlaw22.known: known answers true.
-/
import Derived.Test.YtnmpgijiimglcaaGreatCheck
import Derived.Test.YtnmpgijiimglcaaGreatBUA01
import Derived.Test.YtnmpgijiimglcaaGreatBUA00
namespace Go.Proofs.YtnmpgijiimglcaaGreat
section
open Go.RowKit

theorem check_n {o : O} (h : ¬ (0 ≤ o.n ∧ o.n ≤ 64)) : check o = 120 := by
  unfold check sizeBad; rw [decide_eq_false h]; rfl
theorem check_e1 {n : Int} {m : List Int} (h : 0 < m.length) : check ⟨n, true, m⟩ = 120 := by
  unfold check sizeBad; simp [h]
theorem check_e0 {n : Int} (h : 0 ≤ n ∧ n ≤ 64) : check ⟨n, true, []⟩ = 0 := by
  unfold check sizeBad; rw [decide_eq_true h]; rfl
theorem check_l {n : Int} {m : List Int} (h : ¬ (m.length : Int) = 4 * n * n) : check ⟨n, false, m⟩ = 120 := by
  unfold check sizeBad; simp [h]

set_option maxHeartbeats 1000000 in
theorem check_any (o : O) (A : Option Addr) (cap : Nat) (w : World) (hr : Rd w w.heap.size A o.m) (hm : o.m.length ≤ 281474976710656) :
    Calls Tryz.prog 56 #[.agg #[.int .i64 o.n, .bool o.e, .slice A o.m.length cap]] w fun e w' => e = .returned (.int .i64 (check o)) ∧ Below w.heap.size w w' := by
  obtain ⟨n, e, m⟩ := o
  dsimp only at *
  by_cases hn : 0 ≤ n ∧ n ≤ 64
  · have tn := decide_eq_true hn
    cases e
    · by_cases hl : (m.length : Int) = 4 * n * n
      · exact check_loops n m A cap w hr hm hn.1 hn.2 hl
      · have tl : ((m.length : Int) != 4 * n * n) = true := by simpa using hl
        obtain ⟨hn1, hn2⟩ := hn
        have tq : 0 ≤ 4 * n * n := Int.mul_nonneg (by omega) hn1
        have tq' : 4 * n * n ≤ 4 * 64 * 64 := Int.mul_le_mul (by omega) (by omega) hn1 (by omega)
        go_enter Tryz.func56, Tryz.ntmps56
        go_wp2_with (go_at_call 119; refine (dright_any _ _).mono ?_; rintro e w' ⟨rfl, rfl⟩)
        go_ret
        exact ⟨ret64 (check_l hl).symm, (Below.refl _ _).alloc (Nat.le_refl _) _⟩
    · by_cases hl : 0 < m.length
      · have tl : (0 : Int) < (m.length : Int) := by omega
        clear hn
        go_enter Tryz.func56, Tryz.ntmps56
        go_wp2_with (go_at_call 119; refine (dright_any _ _).mono ?_; rintro e w' ⟨rfl, rfl⟩)
        go_ret
        exact ⟨ret64 (check_e1 hl).symm, (Below.refl _ _).alloc (Nat.le_refl _) _⟩
      · have hl0 : m.length = 0 := by omega
        obtain rfl : m = [] := List.eq_nil_of_length_eq_zero hl0
        clear hl hl0
        go_enter Tryz.func56, Tryz.ntmps56
        go_wp2_with (go_at_call 119; refine (dright_any _ _).mono ?_; rintro e w' ⟨rfl, rfl⟩)
        go_ret
        exact ⟨ret64 (check_e0 hn).symm, (Below.refl _ _).alloc (Nat.le_refl _) _⟩
  · have tn := decide_eq_false hn
    go_enter Tryz.func56, Tryz.ntmps56
    go_wp2_with (go_at_call 119; refine (dright_any _ _).mono ?_; rintro e w' ⟨rfl, rfl⟩)
    go_ret
    exact ⟨ret64 (check_n hn).symm, (Below.refl _ _).alloc (Nat.le_refl _) _⟩
end
section
open Go.RowKit

def pairErr (o p : O) : Int := if check o ≠ 0 then check o else if check p ≠ 0 then check p else if o.n ≠ p.n then 140 else 0
end
section
open Go.RowKit

theorem eqb_t {a b : Int} (h : a = b) : (a == b) = true := by simpa using h
theorem eqb_f {a b : Int} (h : ¬ a = b) : (a == b) = false := by simpa using h

set_option maxHeartbeats 400000 in
theorem rplus_any (a b : Int) (w : World) :
    Calls Tryz.prog 200 #[.int .i64 a, .int .i64 b] w fun e w' => e = .returned (.int .i64 (plus a b)) ∧ w = w' := by
  have la := near_ge a
  have lb := near_ge b
  by_cases ca : near a = 9223372036854775807
  · have ta : (near a == 9223372036854775807) = true := by simpa using ca
    have C := hid ca; clear ca
    go_enter Tryz.func200, Tryz.ntmps200
    go_wp2_with (first | (go_at_call 118; refine (rnear_any _ _).mono ?_; rintro e w' ⟨rfl, rfl⟩) | go_in)
    go_ret
    exact ⟨ret64 (plus_l C.out).symm, rfl⟩
  · have ta : (near a == 9223372036854775807) = false := by simpa using ca
    have ua : near a ≤ 4611686018427387904 := by rcases near_cases a with h | h <;> omega
    have C := hid ca; clear ca
    by_cases cb : near b = 9223372036854775807
    · have tb : (near b == 9223372036854775807) = true := by simpa using cb
      have D := hid cb; clear cb
      go_enter Tryz.func200, Tryz.ntmps200
      go_wp2_with (first | (go_at_call 118; refine (rnear_any _ _).mono ?_; rintro e w' ⟨rfl, rfl⟩) | go_in)
      go_ret
      exact ⟨ret64 (plus_r D.out).symm, rfl⟩
    · have tb : (near b == 9223372036854775807) = false := by simpa using cb
      have ub : near b ≤ 4611686018427387904 := by rcases near_cases b with h | h <;> omega
      have D := hid cb; clear cb
      by_cases fa : near a = 4611686018427387904
      · have sa := eqb_t fa
        by_cases fb : near b = 4611686018427387904
        · have sb := eqb_t fb
          have F := hid fa; have G := hid fb; clear fa fb
          go_enter Tryz.func200, Tryz.ntmps200
          go_wp2_with (first | (go_at_call 118; refine (rnear_any _ _).mono ?_; rintro e w' ⟨rfl, rfl⟩) | go_in)
          go_ret; exact ⟨ret64 (by rw [plus_fin C.out D.out, F.out, G.out]; rfl), rfl⟩
        · have sb := eqb_f fb
          have F := hid fa; have G := hid fb; clear fa
          have : near b < 4611686018427387904 := by omega
          clear fb
          go_enter Tryz.func200, Tryz.ntmps200
          go_wp2_with (first | (go_at_call 118; refine (rnear_any _ _).mono ?_; rintro e w' ⟨rfl, rfl⟩) | go_in)
          all_goals (go_ret; refine ⟨ret64 ?_, rfl⟩; rw [plus_fin C.out D.out])
      · have sa := eqb_f fa
        have : near a < 4611686018427387904 := by omega
        clear fa
        go_enter Tryz.func200, Tryz.ntmps200
        go_wp2_with (first | (go_at_call 118; refine (rnear_any _ _).mono ?_; rintro e w' ⟨rfl, rfl⟩) | go_in)
        all_goals (go_ret; refine ⟨ret64 ?_, rfl⟩; rw [plus_fin C.out D.out])
set_option maxHeartbeats 400000 in
theorem rsat_any (a b : Int) (w : World) :
    Calls Tryz.prog 219 #[.int .i64 a, .int .i64 b] w fun e w' => e = .returned (.bool (sat a b)) ∧ w = w' := by
  have la := near_ge a
  have lb := near_ge b
  by_cases ca : near a = 9223372036854775807
  · have ta : (near a == 9223372036854775807) = true := by simpa using ca
    have C := hid ca; clear ca
    go_enter Tryz.func219, Tryz.ntmps219
    go_wp2_with (first | (go_at_call 118; refine (rnear_any _ _).mono ?_; rintro e w' ⟨rfl, rfl⟩))
    go_ret
    exact ⟨retb (sat_l C.out).symm, rfl⟩
  · have ta : (near a == 9223372036854775807) = false := by simpa using ca
    have ua : near a ≤ 4611686018427387904 := by rcases near_cases a with h | h <;> omega
    have C := hid ca; clear ca
    by_cases cb : near b = 9223372036854775807
    · have tb : (near b == 9223372036854775807) = true := by simpa using cb
      have D := hid cb; clear cb
      go_enter Tryz.func219, Tryz.ntmps219
      go_wp2_with (first | (go_at_call 118; refine (rnear_any _ _).mono ?_; rintro e w' ⟨rfl, rfl⟩))
      go_ret
      exact ⟨retb (sat_r D.out).symm, rfl⟩
    · have tb : (near b == 9223372036854775807) = false := by simpa using cb
      have ub : near b ≤ 4611686018427387904 := by rcases near_cases b with h | h <;> omega
      have D := hid cb; clear cb
      by_cases fa : near a = 4611686018427387904
      · have sa := eqb_t fa
        by_cases fb : near b = 4611686018427387904
        · have sb := eqb_t fb
          have F := hid fa; have G := hid fb; clear fa fb
          go_enter Tryz.func219, Tryz.ntmps219
          go_wp2_with (first | (go_at_call 118; refine (rnear_any _ _).mono ?_; rintro e w' ⟨rfl, rfl⟩))
          go_ret; exact ⟨retb (by rw [sat_fin C.out D.out, F.out, G.out]; rfl), rfl⟩
        · have sb := eqb_f fb
          have F := hid fa; have G := hid fb; clear fa
          have : near b < 4611686018427387904 := by omega
          clear fb
          go_enter Tryz.func219, Tryz.ntmps219
          go_wp2_with (first | (go_at_call 118; refine (rnear_any _ _).mono ?_; rintro e w' ⟨rfl, rfl⟩))
          all_goals (go_ret; exact ⟨retb (by rw [sat_fin C.out D.out, Bool.eq_iff_iff]; simp [*]; try omega), rfl⟩)
      · have sa := eqb_f fa
        have : near a < 4611686018427387904 := by omega
        clear fa
        go_enter Tryz.func219, Tryz.ntmps219
        go_wp2_with (first | (go_at_call 118; refine (rnear_any _ _).mono ?_; rintro e w' ⟨rfl, rfl⟩))
        all_goals (go_ret; exact ⟨retb (by rw [sat_fin C.out D.out, Bool.eq_iff_iff]; simp [*]; try omega), rfl⟩)

theorem tdiv2_neg {x : Int} (h : x < 0) : x.tdiv 2 = -((-x) / 2) := by
  rw [show x = -(-x) by omega, Int.neg_tdiv, Int.tdiv_eq_ediv_of_nonneg (by omega)]; omega
theorem tdiv2_bd (x : Int) : (x ≤ x.tdiv 2 ∧ x.tdiv 2 ≤ 0 ∨ 0 ≤ x.tdiv 2 ∧ x.tdiv 2 ≤ x) := by
  by_cases h : x < 0
  · rw [tdiv2_neg h]; omega
  · rw [Int.tdiv_eq_ediv_of_nonneg (by omega)]; omega
theorem tmod2_neg {x : Int} (h : x < 0) (k : (x.tmod 2 != 0) = true) : x % 2 = 1 := by
  have e : x.tmod 2 = x - 2 * x.tdiv 2 := by have := Int.mul_tdiv_add_tmod x 2; omega
  have := tdiv2_neg h
  rw [bne_iff_ne] at k
  omega
theorem tmod2_neg' {x : Int} (h : x < 0) (k : (x.tmod 2 != 0) = false) : x % 2 = 0 := by
  have e : x.tmod 2 = x - 2 * x.tdiv 2 := by have := Int.mul_tdiv_add_tmod x 2; omega
  have := tdiv2_neg h
  rw [bne_eq_false_iff_eq] at k
  omega
set_option maxHeartbeats 400000 in
theorem rhalf_any (a : Int) (w : World) :
    Calls Tryz.prog 178 #[.int .i64 a] w fun e w' => e = .returned (.int .i64 (half a)) ∧ w = w' := by
  have la := near_ge a
  by_cases ca : near a = 9223372036854775807
  · have ta : (near a == 9223372036854775807) = true := by simpa using ca
    have C := hid ca; clear ca
    go_enter Tryz.func178, Tryz.ntmps178
    go_wp2_with (go_at_call 118; refine (rnear_any _ _).mono ?_; rintro e w' ⟨rfl, rfl⟩)
    go_ret
    exact ⟨ret64 (by unfold half; rw [C.out]; rfl), rfl⟩
  · have ta : (near a == 9223372036854775807) = false := by simpa using ca
    have ua : near a ≤ 4611686018427387904 := by rcases near_cases a with h | h <;> omega
    have C := hid ca; clear ca
    have tl : -4611686018427387904 ≤ (near a).tdiv 2 := by have := tdiv2_bd (near a); omega
    have tu : (near a).tdiv 2 ≤ 4611686018427387904 := by have := tdiv2_bd (near a); omega
    go_enter Tryz.func178, Tryz.ntmps178
    go_wp2_with (go_at_call 118; refine (rnear_any _ _).mono ?_; rintro e w' ⟨rfl, rfl⟩)
    all_goals (go_ret; refine ⟨ret64 ?_, rfl⟩; unfold half; rw [if_neg C.out])
    · have T := tdiv2_neg (x := near a) (by omega)
      have k : ((near a).tmod 2 != 0) = true := ‹_›
      have T2 := tmod2_neg (x := near a) (by omega) k
      omega
    · have T := tdiv2_neg (x := near a) (by omega)
      have k : ((near a).tmod 2 != 0) = false := ‹_›
      have T2 := tmod2_neg' (x := near a) (by omega) k
      omega
    · rw [Int.tdiv_eq_ediv_of_nonneg (by omega)]
set_option maxHeartbeats 400000 in
theorem reven_any (a : Int) (w : World) :
    Calls Tryz.prog 177 #[.int .i64 a] w fun e w' => e = .returned (.int .i64 (even a)) ∧ w = w' := by
  have lh := half_ge (near a)
  by_cases ca : near a = 9223372036854775807
  · have ta : (near a == 9223372036854775807) = true := by simpa using ca
    have C := hid ca; clear ca
    go_enter Tryz.func177, Tryz.ntmps177
    go_wp2_with (go_at_call 118; refine (rnear_any _ _).mono ?_; rintro e w' ⟨rfl, rfl⟩)
    go_ret
    exact ⟨ret64 (by unfold even; rw [C.out]; rfl), rfl⟩
  · have ta : (near a == 9223372036854775807) = false := by simpa using ca
    have eh : half (near a) = near a / 2 := by unfold half; rw [near_near, if_neg ca]
    have ua : half (near a) ≤ 4611686018427387903 := by rw [eh]; rcases near_cases a with h | h <;> omega
    have C := hid ca; clear ca
    have E := hid eh; clear eh
    go_enter Tryz.func177, Tryz.ntmps177
    go_wp2_with (first | (go_at_call 118; refine (rnear_any _ _).mono ?_; rintro e w' ⟨rfl, rfl⟩) | (go_at_call 178; refine (rhalf_any _ _).mono ?_; rintro e w' ⟨rfl, rfl⟩))
    go_ret
    exact ⟨ret64 (by unfold even; rw [if_neg C.out, E.out]), rfl⟩
end
section
open Go.RowKit
end
section
open Go.RowKit

theorem check_ok {o : O} (h : check o = 0) : 0 ≤ o.n ∧ o.n ≤ 64 ∧ (o.e = true → o.m = []) ∧ (o.e = false → (o.m.length : Int) = 4 * o.n * o.n) := by
  by_cases hs : sizeBad o = true
  · unfold check at h; rw [if_pos hs] at h; omega
  · unfold sizeBad at hs
    simp at hs
    obtain ⟨⟨⟨h1, h2⟩, h3⟩, h4⟩ := hs
    exact ⟨h1, h2, h3, h4⟩

def narrowO (a b : O) : O × Int :=
  if pairErr a b ≠ 0 then (⟨0, false, []⟩, pairErr a b) else if a.e then (a, 0) else if b.e then (b, 0) else (⟨a.n, false, cellsF (fun x y _ => if x = 9223372036854775807 then y else x) a.n a.m b.m⟩, 0)
end
section
open Go.RowKit

set_option maxHeartbeats 400000 in
theorem across_any (i : Int) (w : World) (h0 : 0 ≤ i) (h1 : i ≤ 1000) :
    Calls Tryz.prog 61 #[.int .i64 i] w fun e w' => e = .returned (.int .i64 (xor1 i)) ∧ w = w' := by
  by_cases h : i % 2 = 0
  · have t : (i % 2 == 0) = true := by simpa using h
    clear h
    go_enter Tryz.func61, Tryz.ntmps61
    go_wp2
    go_ret
    exact ⟨ret64 (by unfold xor1; rw [if_pos (by simpa using t)]), rfl⟩
  · have t : (i % 2 == 0) = false := by simpa using h
    have t1 : 1 ≤ i := by omega
    clear h
    go_enter Tryz.func61, Tryz.ntmps61
    go_wp2
    go_ret
    exact ⟨ret64 (by unfold xor1; rw [if_neg (by simpa using t)]), rfl⟩
end
section
open Go.RowKit
attribute [local go_sem ↓] Go.wp_at_zero Go.wp_at_succ

set_option maxHeartbeats 400000 in
theorem rempty_any (n : Int) (w : World) :
    Calls Tryz.prog 65 #[.int .i64 n] w fun e w' => e = .returned (.agg #[.int .i64 n, .bool true, .slice none 0 0]) ∧ Below w.heap.size w w' := by
  go_enter Tryz.func65, Tryz.ntmps65
  go_wp2
  refine bodyPost_ret (v := .agg #[.int .i64 n, .bool true, .slice none 0 0]) (by simp [results, Tryz.results65, go_sem]) rfl ⟨rfl, ?_⟩
  exact (Below.refl _ _).alloc (Nat.le_refl _) _
end
section
open Go.RowKit
attribute [local go_sem ↓] Go.wp_at_zero Go.wp_at_succ

/-- The first p cells are those put together, the others the old ones. -/
def part (ys xs : List Int) (p : Nat) : List Int := ys.take p ++ xs.drop p
end
section
open Go.RowKit
attribute [local go_sem ↓] Go.wp_at_zero Go.wp_at_succ
end
section
open Go.RowKit

theorem take_succ_gI (xs : List Int) {k : Nat} (h : k < xs.length) : xs.take (k + 1) = xs.take k ++ [gI xs k] := by
  rw [List.take_succ_eq_append_getElem h]; unfold gI; simp [h]

set_option maxHeartbeats 1000000 in
theorem longs_any (xs ys : List Int) (A A' : Option Addr) (c c' : Nat) (w : World) (hx : Rd w w.heap.size A xs) (hy : Rd w w.heap.size A' ys) (hm : xs.length ≤ 17592186044416) :
    Calls Tryz.prog 55 #[.slice A xs.length c, .slice A' ys.length c'] w fun e w' => e = .returned (.bool (decide (xs = ys))) ∧ Below w.heap.size w w' := by
  by_cases hl : xs.length = ys.length
  · have tl : ((xs.length : Int) != (ys.length : Int)) = false := by rw [bne_eq_false_iff_eq]; omega
    have HL := hid hl
    have hxl : xs.length ≤ ys.length := by omega
    have hyl : ys.length ≤ xs.length := by omega
    clear hl
    go_enter Tryz.func55, Tryz.ntmps55
    go_wp2
    go_loopw [5] (fun i wr => ∃ k : Nat, k ≤ xs.length ∧ i = .int .i64 k ∧ Hid (xs.take k = ys.take k) ∧ Below w.heap.size w wr) (fun i _ => xs.length - (intOf i).toNat)
    case atStart => exact ⟨0, by omega, rfl, hid (by simp), Below.refl _ _⟩
    case round =>
      obtain ⟨k, hk, rfl, hs, hb⟩ := hrel
      by_cases hlt : k < xs.length
      · obtain ⟨b, off, rfl, hB, hc⟩ := hx k hlt
        obtain ⟨b', off', rfl, hB', hc'⟩ := hy k (by omega)
        have c1 : ∀ W, Below w.heap.size w W → W.cell? ⟨b, off + k, none⟩ = some (.int .i64 (gI xs k)) := fun W hW => (hW.cell (p := ⟨b, off + k, none⟩) hB).trans hc
        have c2 : ∀ W, Below w.heap.size w W → W.cell? ⟨b', off' + k, none⟩ = some (.int .i64 (gI ys k)) := fun W hW => (hW.cell (p := ⟨b', off' + k, none⟩) hB').trans hc'
        have hi0 : (0 : Int) ≤ (k : Int) := by omega
        have hi1 : (k : Int) < (xs.length : Int) := by omega
        have hi2 : (k : Int) < (ys.length : Int) := by omega
        clear hc hc'
        cases tv : (gI xs k == gI ys k)
        · have tv' : (gI xs k != gI ys k) = true := by rw [bne_iff_ne]; simpa using tv
          go_wp2
          refine wp_region_flow 9 (fun W => Below w.heap.size w W) (by kernel_rfl) (by kernel_rfl) hb.drew ?_
          (repeat (first | (refine Flow.skip (by rfl) ?_; simp only [Act.put, List.setIfInBounds_toArray, List.set_cons_zero, List.set_cons_succ]) | (refine' Flow.take _ (by rfl) (fun W hW R hR => ?_) ?_; rotate_left; (go_simp; (try go_bits); with_reducible exact hR); simp only [Act.put, List.setIfInBounds_toArray, List.set_cons_zero, List.set_cons_succ])))
          intro w4 hb4
          go_wp2
          go_ret
          refine ⟨retb ?_, hb4⟩
          symm; rw [decide_eq_false_iff_not]; rintro rfl
          simp at tv
        · have tv' : (gI xs k != gI ys k) = false := by rw [bne_eq_false_iff_eq]; simpa using tv
          go_wp2
          refine wp_region_flow 9 (fun W => Below w.heap.size w W) (by kernel_rfl) (by kernel_rfl) hb.drew ?_
          (repeat (first | (refine Flow.skip (by rfl) ?_; simp only [Act.put, List.setIfInBounds_toArray, List.set_cons_zero, List.set_cons_succ]) | (refine' Flow.take _ (by rfl) (fun W hW R hR => ?_) ?_; rotate_left; (go_simp; (try go_bits); with_reducible exact hR); simp only [Act.put, List.setIfInBounds_toArray, List.set_cons_zero, List.set_cons_succ])))
          intro w4 hb4
          go_wp2
          go_roundw
          case rel => exact ⟨k + 1, by omega, by go_num, hid (by rw [take_succ_gI xs hlt, take_succ_gI ys (by omega), hs.out, show gI xs k = gI ys k by simpa using tv]), hb4⟩
          case measure => simp [intOf]; omega
      · have hkk : k = xs.length := by omega
        have he : xs = ys := by
          have := hs.out
          rw [List.take_of_length_le (by omega), List.take_of_length_le (by omega)] at this
          exact this
        have he := hid he
        clear hkk
        go_wp2
        go_ret
        exact ⟨retb (by rw [decide_eq_true he.out]), hb⟩
  · have tl : ((xs.length : Int) != (ys.length : Int)) = true := by rw [bne_iff_ne]; omega
    go_enter Tryz.func55, Tryz.ntmps55
    go_wp2
    go_ret
    exact ⟨retb (by symm; rw [decide_eq_false_iff_not]; rintro rfl; exact hl rfl), Below.refl _ _⟩

def eqO (o p : O) : Bool := decide (o.n = p.n) && (decide (o.e = p.e) && decide (o.m = p.m))
set_option maxHeartbeats 1000000 in
theorem oct_any (o p : O) (A A' : Option Addr) (c c' : Nat) (w : World) (hx : Rd w w.heap.size A o.m) (hy : Rd w w.heap.size A' p.m) (hm : o.m.length ≤ 17592186044416) :
    Calls Tryz.prog 23 #[.agg #[.int .i64 o.n, .bool o.e, .slice A o.m.length c], .agg #[.int .i64 p.n, .bool p.e, .slice A' p.m.length c']] w fun e w' => e = .returned (.bool (eqO o p)) ∧ Below w.heap.size w w' := by
  obtain ⟨n, e, m⟩ := o
  obtain ⟨n', e', m'⟩ := p
  dsimp only at *
  have hb0 : ∀ o1 o2, Below w.heap.size w ((w.alloc o1).alloc o2) := fun o1 o2 => ((Below.refl _ _).alloc (Nat.le_refl _) _).alloc (by simp) _
  by_cases hn : n = n'
  · have tn : (n == n') = true := by simpa using hn
    have HN := hid hn; clear hn
    by_cases he : e = e'
    · subst he
      go_enter Tryz.func23, Tryz.ntmps23
      go_wp2_with (go_at_call 55; refine (longs_any m m' A A' c c' _ ((hx.below (hb0 _ _)).more (by simp; omega)) ((hy.below (hb0 _ _)).more (by simp; omega)) hm).mono ?_; rintro e' w1 ⟨rfl, hb1⟩)
      go_ret
      exact ⟨retb (by unfold eqO; rw [decide_eq_true HN.out]; simp), (hb0 _ _).trans (hb1.mono (by simp; omega))⟩
    · have te : (e == e') = false := by simpa using he
      have HE := hid he; clear he
      go_enter Tryz.func23, Tryz.ntmps23
      go_wp2
      go_ret
      exact ⟨retb (by unfold eqO; rw [decide_eq_false HE.out]; simp), hb0 _ _⟩
  · have tn : (n == n') = false := by simpa using hn
    have HN := hid hn; clear hn
    go_enter Tryz.func23, Tryz.ntmps23
    go_wp2
    go_ret
    exact ⟨retb (by unfold eqO; rw [decide_eq_false HN.out]; simp), hb0 _ _⟩
end
section
open Go.RowKit
attribute [local go_sem ↓] Go.wp_at_zero Go.wp_at_succ

theorem Blk.rd {w : World} {g : Nat} {t : TypeId} {xs : List Int} (h : Blk w g t (i64s xs).toArray) : Rd w w.heap.size (some ⟨g, 0, none⟩) xs := fun k hk =>
  ⟨g, 0, rfl, h.lt, by rw [Nat.zero_add, h.cell k, List.getElem?_toArray, i64s_get xs hk]⟩

theorem kN : narrowO ⟨1, false, [0, 9223372036854775807, 9223372036854775807, 0]⟩ ⟨1, false, [0, 18, 9223372036854775807, 0]⟩ = (⟨1, false, [0, 18, 9223372036854775807, 0]⟩, 0) := by
  have h1 : (narrowO ⟨1, false, [0, 9223372036854775807, 9223372036854775807, 0]⟩ ⟨1, false, [0, 18, 9223372036854775807, 0]⟩).1.m = [0, 18, 9223372036854775807, 0] := by decide +kernel
  have h2 : (narrowO ⟨1, false, [0, 9223372036854775807, 9223372036854775807, 0]⟩ ⟨1, false, [0, 18, 9223372036854775807, 0]⟩).1.n = 1 := by decide +kernel
  have h3 : (narrowO ⟨1, false, [0, 9223372036854775807, 9223372036854775807, 0]⟩ ⟨1, false, [0, 18, 9223372036854775807, 0]⟩).1.e = false := by decide +kernel
  have h4 : (narrowO ⟨1, false, [0, 9223372036854775807, 9223372036854775807, 0]⟩ ⟨1, false, [0, 18, 9223372036854775807, 0]⟩).2 = 0 := by decide +kernel
  generalize narrowO ⟨1, false, [0, 9223372036854775807, 9223372036854775807, 0]⟩ ⟨1, false, [0, 18, 9223372036854775807, 0]⟩ = q at *
  obtain ⟨⟨n, e, m⟩, x⟩ := q
  dsimp only at h1 h2 h3 h4
  rw [h1, h2, h3, h4]
end
end Go.Proofs.YtnmpgijiimglcaaGreat
