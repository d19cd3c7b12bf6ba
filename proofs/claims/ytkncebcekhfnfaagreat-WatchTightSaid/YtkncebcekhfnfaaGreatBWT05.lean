/-
  dbm.Check, whatever the octagon (its slice below 2^48 long).
  widen.right, order.right: what is wrong with two octagons.
  The reference's bounds (gnomonref11): what each call answers; no condition.
-/
import Derived.Test.YtkncebcekhfnfaaGreatBWT04
import Derived.Test.YtkncebcekhfnfaaGreatBWT02
import Derived.Test.YtkncebcekhfnfaaGreatBWT00
namespace Go.Proofs.YtkncebcekhfnfaaGreat
open Go.RowKit
section

theorem check_n {o : O} (h : ¬ (0 ≤ o.n ∧ o.n ≤ 64)) : check o = 120 := by
  unfold check sizeBad; rw [decide_eq_false h]; rfl
theorem check_e1 {n : Int} {m : List Int} (h : 0 < m.length) : check ⟨n, true, m⟩ = 120 := by
  unfold check sizeBad; simp [h]
theorem check_e0 {n : Int} (h : 0 ≤ n ∧ n ≤ 64) : check ⟨n, true, []⟩ = 0 := by
  unfold check sizeBad; rw [decide_eq_true h]; rfl
theorem check_l {n : Int} {m : List Int} (h : ¬ (m.length : Int) = 4 * n * n) : check ⟨n, false, m⟩ = 120 := by
  unfold check sizeBad; simp [h]

set_option maxHeartbeats 1000000 in
theorem check_any (o : O) (A : Option Addr) (cap : Nat) (w : World) (hr : Rd w w.heap.size A o.m) (hm : o.m.length ≤ 281474976710656) :
    Calls Tryz.prog 48 #[.agg #[.int .i64 o.n, .bool o.e, .slice A o.m.length cap]] w fun e w' => e = .returned (.int .i64 (check o)) ∧ Below w.heap.size w w' := by
  obtain ⟨n, e, m⟩ := o
  dsimp only at *
  by_cases hn : 0 ≤ n ∧ n ≤ 64
  · have tn := decide_eq_true hn
    cases e
    · by_cases hl : (m.length : Int) = 4 * n * n
      · exact check_loops n m A cap w hr hm hn.1 hn.2 hl
      · have tl : ((m.length : Int) != 4 * n * n) = true := by simpa using hl
        obtain ⟨hn1, hn2⟩ := hn
        have tq : 0 ≤ 4 * n * n := Int.mul_nonneg (by omega) hn1
        have tq' : 4 * n * n ≤ 4 * 64 * 64 := Int.mul_le_mul (by omega) (by omega) hn1 (by omega)
        go_enter Tryz.func48, Tryz.ntmps48
        go_wp2_with (go_at_call 61; refine (dright_any _ _).mono ?_; rintro e w' ⟨rfl, rfl⟩)
        go_ret
        exact ⟨ret64 (check_l hl).symm, (Below.refl _ _).alloc (Nat.le_refl _) _⟩
    · by_cases hl : 0 < m.length
      · have tl : (0 : Int) < (m.length : Int) := by omega
        clear hn
        go_enter Tryz.func48, Tryz.ntmps48
        go_wp2_with (go_at_call 61; refine (dright_any _ _).mono ?_; rintro e w' ⟨rfl, rfl⟩)
        go_ret
        exact ⟨ret64 (check_e1 hl).symm, (Below.refl _ _).alloc (Nat.le_refl _) _⟩
      · have hl0 : m.length = 0 := by omega
        obtain rfl : m = [] := List.eq_nil_of_length_eq_zero hl0
        clear hl hl0
        go_enter Tryz.func48, Tryz.ntmps48
        go_wp2_with (go_at_call 61; refine (dright_any _ _).mono ?_; rintro e w' ⟨rfl, rfl⟩)
        go_ret
        exact ⟨ret64 (check_e0 hn).symm, (Below.refl _ _).alloc (Nat.le_refl _) _⟩
  · have tn := decide_eq_false hn
    go_enter Tryz.func48, Tryz.ntmps48
    go_wp2_with (go_at_call 61; refine (dright_any _ _).mono ?_; rintro e w' ⟨rfl, rfl⟩)
    go_ret
    exact ⟨ret64 (check_n hn).symm, (Below.refl _ _).alloc (Nat.le_refl _) _⟩
end
section

def pairErr (o p : O) : Int := if check o ≠ 0 then check o else if check p ≠ 0 then check p else if o.n ≠ p.n then 140 else 0

set_option maxHeartbeats 1000000 in
theorem oright_any (o p : O) (A A' : Option Addr) (c c' : Nat) (w : World) (hx : Rd w w.heap.size A o.m) (hy : Rd w w.heap.size A' p.m) (hm : o.m.length ≤ 17592186044416) (hm' : p.m.length ≤ 17592186044416) :
    Calls Tryz.prog 41 #[.agg #[.int .i64 o.n, .bool o.e, .slice A o.m.length c], .agg #[.int .i64 p.n, .bool p.e, .slice A' p.m.length c']] w fun e w' => e = .returned (.int .i64 (pairErr o p)) ∧ Below w.heap.size w w' := by
  obtain ⟨n, e, m⟩ := o
  obtain ⟨n', e', m'⟩ := p
  dsimp only at *
  have i0 : ∀ W, (Instr.index 133 (.agg #[.int .i64 n, .bool e, .slice A m.length c, .int .i64 n', .bool e', .slice A' m'.length c']) (.int .i64 0)).run Tryz.prog W = .ok (.agg #[.int .i64 n, .bool e, .slice A m.length c]) W := fun _ => by kernel_rfl
  have i1 : ∀ W, (Instr.index 133 (.agg #[.int .i64 n, .bool e, .slice A m.length c, .int .i64 n', .bool e', .slice A' m'.length c']) (.int .i64 1)).run Tryz.prog W = .ok (.agg #[.int .i64 n', .bool e', .slice A' m'.length c']) W := fun _ => by kernel_rfl
  go_enter Tryz.func41, Tryz.ntmps41
  go_wp2
  have hb0 : Below w.heap.size w ((w.alloc (Obj.cells #[.int .i64 n, .bool e, .slice A m.length c] 53)).alloc (Obj.cells #[.int .i64 n', .bool e', .slice A' m'.length c'] 53)) := ((Below.refl _ _).alloc (Nat.le_refl _) _).alloc (by simp) _
  obtain ⟨b0, b1⟩ := blk_two (w := w) (Below.refl _ ((w.alloc (Obj.cells #[.int .i64 n, .bool e, .slice A m.length c] 53)).alloc (Obj.cells #[.int .i64 n', .bool e', .slice A' m'.length c'] 53)))
  have hs0 : w.heap.size + 2 ≤ ((w.alloc (Obj.cells #[.int .i64 n, .bool e, .slice A m.length c] 53)).alloc (Obj.cells #[.int .i64 n', .bool e', .slice A' m'.length c'] 53)).heap.size := by simp
  generalize (w.alloc (Obj.cells #[.int .i64 n, .bool e, .slice A m.length c] 53)).alloc (Obj.cells #[.int .i64 n', .bool e', .slice A' m'.length c'] 53) = w0 at *
  go_loopw [11] (fun i wr => (i = .int .i64 0 ∨ (i = .int .i64 1 ∧ check ⟨n, e, m⟩ = 0) ∨ (i = .int .i64 2 ∧ check ⟨n, e, m⟩ = 0 ∧ check ⟨n', e', m'⟩ = 0)) ∧ Below (w.heap.size + 2) w0 wr) (fun i _ => 2 - (Go.RowKit.intOf i).toNat)
  case atStart => exact ⟨.inl rfl, Below.refl _ _⟩
  case round =>
    obtain ⟨hi, hbr⟩ := hrel
    have hsr : w.heap.size + 2 ≤ wr.heap.size := Nat.le_trans hs0 hbr.size
    have hxr := (hx.below (hb0.trans (hbr.mono (by omega)))).more (B' := wr.heap.size) (by omega)
    have hyr := (hy.below (hb0.trans (hbr.mono (by omega)))).more (B' := wr.heap.size) (by omega)
    rcases hi with rfl | ⟨rfl, h1⟩ | ⟨rfl, h1, h2⟩
    · by_cases tc : check ⟨n, e, m⟩ = 0
      · have tn : (check ⟨n, e, m⟩ != 0) = false := by simp [tc]
        have TC := hid tc; clear tc
        go_wp2_with (go_at_call 48; refine (check_any ⟨n, e, m⟩ A c _ ((hxr.below ((Below.refl _ _).alloc (Nat.le_refl _) _)).more (by simp)) (by dsimp only; omega)).mono ?_; rintro e' w1 ⟨rfl, hb1⟩)
        go_roundw
        case rel => exact ⟨.inr (.inl ⟨rfl, TC.out⟩), bstep hbr hsr (((Below.refl _ _).alloc (Nat.le_refl _) _).trans (hb1.mono (by simp)))⟩
        case measure => simp [Go.RowKit.intOf]
      · have tn : (check ⟨n, e, m⟩ != 0) = true := by simp [tc]
        have TC := hid tc; clear tc
        go_wp2_with (go_at_call 48; refine (check_any ⟨n, e, m⟩ A c _ ((hxr.below ((Below.refl _ _).alloc (Nat.le_refl _) _)).more (by simp)) (by dsimp only; omega)).mono ?_; rintro e' w1 ⟨rfl, hb1⟩)
        go_ret
        exact ⟨ret64 (by unfold pairErr; rw [if_pos TC.out]), hb0.trans ((bstep hbr hsr (((Below.refl _ _).alloc (Nat.le_refl _) _).trans (hb1.mono (by simp)))).mono (by omega))⟩
    · have H1 := hid h1; clear h1
      by_cases tc : check ⟨n', e', m'⟩ = 0
      · have tn : (check ⟨n', e', m'⟩ != 0) = false := by simp [tc]
        have TC := hid tc; clear tc
        go_wp2_with (go_at_call 48; refine (check_any ⟨n', e', m'⟩ A' c' _ ((hyr.below ((Below.refl _ _).alloc (Nat.le_refl _) _)).more (by simp)) (by dsimp only; omega)).mono ?_; rintro e' w1 ⟨rfl, hb1⟩)
        go_roundw
        case rel => exact ⟨.inr (.inr ⟨rfl, H1.out, TC.out⟩), bstep hbr hsr (((Below.refl _ _).alloc (Nat.le_refl _) _).trans (hb1.mono (by simp)))⟩
        case measure => simp [Go.RowKit.intOf]
      · have tn : (check ⟨n', e', m'⟩ != 0) = true := by simp [tc]
        have TC := hid tc; clear tc
        go_wp2_with (go_at_call 48; refine (check_any ⟨n', e', m'⟩ A' c' _ ((hyr.below ((Below.refl _ _).alloc (Nat.le_refl _) _)).more (by simp)) (by dsimp only; omega)).mono ?_; rintro e' w1 ⟨rfl, hb1⟩)
        go_ret
        exact ⟨ret64 (by unfold pairErr; rw [if_neg (by simpa using H1.out), if_pos TC.out]), hb0.trans ((bstep hbr hsr (((Below.refl _ _).alloc (Nat.le_refl _) _).trans (hb1.mono (by simp)))).mono (by omega))⟩
    · have H1 := hid h1; have H2 := hid h2; clear h1 h2
      obtain ⟨x0, x1, x2, fx⟩ := octbox (b0.below hbr (by omega))
      obtain ⟨y0, y1, y2, fy⟩ := octbox (b1.below hbr (by omega))
      by_cases tn : n = n'
      · have tb : (n != n') = false := by simp [tn]
        have TN := hid tn; clear tn
        go_wp2
        go_ret
        exact ⟨ret64 (by unfold pairErr; rw [if_neg (by simpa using H1.out), if_neg (by simpa using H2.out), if_neg (by simpa using TN.out)]), hb0.trans (hbr.mono (by omega))⟩
      · have tb : (n != n') = true := by simp [tn]
        have TN := hid tn; clear tn
        go_wp2
        go_ret
        exact ⟨ret64 (by unfold pairErr; rw [if_neg (by simpa using H1.out), if_neg (by simpa using H2.out), if_pos (by simpa using TN.out)]), hb0.trans (hbr.mono (by omega))⟩
end
section

theorem eqb_t {a b : Int} (h : a = b) : (a == b) = true := by simpa using h
theorem eqb_f {a b : Int} (h : ¬ a = b) : (a == b) = false := by simpa using h

set_option maxHeartbeats 400000 in
theorem rplus_any (a b : Int) (w : World) :
    Calls Tryz.prog 102 #[.int .i64 a, .int .i64 b] w fun e w' => e = .returned (.int .i64 (plus a b)) ∧ w = w' := by
  have la := near_ge a
  have lb := near_ge b
  by_cases ca : near a = 9223372036854775807
  · have ta : (near a == 9223372036854775807) = true := by simpa using ca
    have C := hid ca; clear ca
    go_enter Tryz.func102, Tryz.ntmps102
    go_wp2_with (first | (go_at_call 103; refine (rnear_any _ _).mono ?_; rintro e w' ⟨rfl, rfl⟩) | go_in)
    go_ret
    exact ⟨ret64 (plus_l C.out).symm, rfl⟩
  · have ta : (near a == 9223372036854775807) = false := by simpa using ca
    have ua : near a ≤ 4611686018427387904 := by rcases near_cases a with h | h <;> omega
    have C := hid ca; clear ca
    by_cases cb : near b = 9223372036854775807
    · have tb : (near b == 9223372036854775807) = true := by simpa using cb
      have D := hid cb; clear cb
      go_enter Tryz.func102, Tryz.ntmps102
      go_wp2_with (first | (go_at_call 103; refine (rnear_any _ _).mono ?_; rintro e w' ⟨rfl, rfl⟩) | go_in)
      go_ret
      exact ⟨ret64 (plus_r D.out).symm, rfl⟩
    · have tb : (near b == 9223372036854775807) = false := by simpa using cb
      have ub : near b ≤ 4611686018427387904 := by rcases near_cases b with h | h <;> omega
      have D := hid cb; clear cb
      by_cases fa : near a = 4611686018427387904
      · have sa := eqb_t fa
        by_cases fb : near b = 4611686018427387904
        · have sb := eqb_t fb
          have F := hid fa; have G := hid fb; clear fa fb
          go_enter Tryz.func102, Tryz.ntmps102
          go_wp2_with (first | (go_at_call 103; refine (rnear_any _ _).mono ?_; rintro e w' ⟨rfl, rfl⟩) | go_in)
          go_ret; exact ⟨ret64 (by rw [plus_fin C.out D.out, F.out, G.out]; rfl), rfl⟩
        · have sb := eqb_f fb
          have F := hid fa; have G := hid fb; clear fa
          have : near b < 4611686018427387904 := by omega
          clear fb
          go_enter Tryz.func102, Tryz.ntmps102
          go_wp2_with (first | (go_at_call 103; refine (rnear_any _ _).mono ?_; rintro e w' ⟨rfl, rfl⟩) | go_in)
          all_goals (go_ret; refine ⟨ret64 ?_, rfl⟩; rw [plus_fin C.out D.out])
      · have sa := eqb_f fa
        have : near a < 4611686018427387904 := by omega
        clear fa
        go_enter Tryz.func102, Tryz.ntmps102
        go_wp2_with (first | (go_at_call 103; refine (rnear_any _ _).mono ?_; rintro e w' ⟨rfl, rfl⟩) | go_in)
        all_goals (go_ret; refine ⟨ret64 ?_, rfl⟩; rw [plus_fin C.out D.out])
set_option maxHeartbeats 400000 in
theorem rsat_any (a b : Int) (w : World) :
    Calls Tryz.prog 101 #[.int .i64 a, .int .i64 b] w fun e w' => e = .returned (.bool (sat a b)) ∧ w = w' := by
  have la := near_ge a
  have lb := near_ge b
  by_cases ca : near a = 9223372036854775807
  · have ta : (near a == 9223372036854775807) = true := by simpa using ca
    have C := hid ca; clear ca
    go_enter Tryz.func101, Tryz.ntmps101
    go_wp2_with (first | (go_at_call 103; refine (rnear_any _ _).mono ?_; rintro e w' ⟨rfl, rfl⟩))
    go_ret
    exact ⟨retb (sat_l C.out).symm, rfl⟩
  · have ta : (near a == 9223372036854775807) = false := by simpa using ca
    have ua : near a ≤ 4611686018427387904 := by rcases near_cases a with h | h <;> omega
    have C := hid ca; clear ca
    by_cases cb : near b = 9223372036854775807
    · have tb : (near b == 9223372036854775807) = true := by simpa using cb
      have D := hid cb; clear cb
      go_enter Tryz.func101, Tryz.ntmps101
      go_wp2_with (first | (go_at_call 103; refine (rnear_any _ _).mono ?_; rintro e w' ⟨rfl, rfl⟩))
      go_ret
      exact ⟨retb (sat_r D.out).symm, rfl⟩
    · have tb : (near b == 9223372036854775807) = false := by simpa using cb
      have ub : near b ≤ 4611686018427387904 := by rcases near_cases b with h | h <;> omega
      have D := hid cb; clear cb
      by_cases fa : near a = 4611686018427387904
      · have sa := eqb_t fa
        by_cases fb : near b = 4611686018427387904
        · have sb := eqb_t fb
          have F := hid fa; have G := hid fb; clear fa fb
          go_enter Tryz.func101, Tryz.ntmps101
          go_wp2_with (first | (go_at_call 103; refine (rnear_any _ _).mono ?_; rintro e w' ⟨rfl, rfl⟩))
          go_ret; exact ⟨retb (by rw [sat_fin C.out D.out, F.out, G.out]; rfl), rfl⟩
        · have sb := eqb_f fb
          have F := hid fa; have G := hid fb; clear fa
          have : near b < 4611686018427387904 := by omega
          clear fb
          go_enter Tryz.func101, Tryz.ntmps101
          go_wp2_with (first | (go_at_call 103; refine (rnear_any _ _).mono ?_; rintro e w' ⟨rfl, rfl⟩))
          all_goals (go_ret; exact ⟨retb (by rw [sat_fin C.out D.out, Bool.eq_iff_iff]; simp [*]; try omega), rfl⟩)
      · have sa := eqb_f fa
        have : near a < 4611686018427387904 := by omega
        clear fa
        go_enter Tryz.func101, Tryz.ntmps101
        go_wp2_with (first | (go_at_call 103; refine (rnear_any _ _).mono ?_; rintro e w' ⟨rfl, rfl⟩))
        all_goals (go_ret; exact ⟨retb (by rw [sat_fin C.out D.out, Bool.eq_iff_iff]; simp [*]; try omega), rfl⟩)

theorem tdiv2_neg {x : Int} (h : x < 0) : x.tdiv 2 = -((-x) / 2) := by
  rw [show x = -(-x) by omega, Int.neg_tdiv, Int.tdiv_eq_ediv_of_nonneg (by omega)]; omega
theorem tdiv2_bd (x : Int) : (x ≤ x.tdiv 2 ∧ x.tdiv 2 ≤ 0 ∨ 0 ≤ x.tdiv 2 ∧ x.tdiv 2 ≤ x) := by
  by_cases h : x < 0
  · rw [tdiv2_neg h]; omega
  · rw [Int.tdiv_eq_ediv_of_nonneg (by omega)]; omega
theorem tmod2_neg {x : Int} (h : x < 0) (k : (x.tmod 2 != 0) = true) : x % 2 = 1 := by
  have e : x.tmod 2 = x - 2 * x.tdiv 2 := by have := Int.mul_tdiv_add_tmod x 2; omega
  have := tdiv2_neg h
  rw [bne_iff_ne] at k
  omega
theorem tmod2_neg' {x : Int} (h : x < 0) (k : (x.tmod 2 != 0) = false) : x % 2 = 0 := by
  have e : x.tmod 2 = x - 2 * x.tdiv 2 := by have := Int.mul_tdiv_add_tmod x 2; omega
  have := tdiv2_neg h
  rw [bne_eq_false_iff_eq] at k
  omega
set_option maxHeartbeats 400000 in
theorem rhalf_any (a : Int) (w : World) :
    Calls Tryz.prog 70 #[.int .i64 a] w fun e w' => e = .returned (.int .i64 (half a)) ∧ w = w' := by
  have la := near_ge a
  by_cases ca : near a = 9223372036854775807
  · have ta : (near a == 9223372036854775807) = true := by simpa using ca
    have C := hid ca; clear ca
    go_enter Tryz.func70, Tryz.ntmps70
    go_wp2_with (go_at_call 103; refine (rnear_any _ _).mono ?_; rintro e w' ⟨rfl, rfl⟩)
    go_ret
    exact ⟨ret64 (by unfold half; rw [C.out]; rfl), rfl⟩
  · have ta : (near a == 9223372036854775807) = false := by simpa using ca
    have ua : near a ≤ 4611686018427387904 := by rcases near_cases a with h | h <;> omega
    have C := hid ca; clear ca
    have tl : -4611686018427387904 ≤ (near a).tdiv 2 := by have := tdiv2_bd (near a); omega
    have tu : (near a).tdiv 2 ≤ 4611686018427387904 := by have := tdiv2_bd (near a); omega
    go_enter Tryz.func70, Tryz.ntmps70
    go_wp2_with (go_at_call 103; refine (rnear_any _ _).mono ?_; rintro e w' ⟨rfl, rfl⟩)
    all_goals (go_ret; refine ⟨ret64 ?_, rfl⟩; unfold half; rw [if_neg C.out])
    · have T := tdiv2_neg (x := near a) (by omega)
      have k : ((near a).tmod 2 != 0) = true := ‹_›
      have T2 := tmod2_neg (x := near a) (by omega) k
      omega
    · have T := tdiv2_neg (x := near a) (by omega)
      have k : ((near a).tmod 2 != 0) = false := ‹_›
      have T2 := tmod2_neg' (x := near a) (by omega) k
      omega
    · rw [Int.tdiv_eq_ediv_of_nonneg (by omega)]
set_option maxHeartbeats 400000 in
theorem reven_any (a : Int) (w : World) :
    Calls Tryz.prog 69 #[.int .i64 a] w fun e w' => e = .returned (.int .i64 (even a)) ∧ w = w' := by
  have lh := half_ge (near a)
  by_cases ca : near a = 9223372036854775807
  · have ta : (near a == 9223372036854775807) = true := by simpa using ca
    have C := hid ca; clear ca
    go_enter Tryz.func69, Tryz.ntmps69
    go_wp2_with (go_at_call 103; refine (rnear_any _ _).mono ?_; rintro e w' ⟨rfl, rfl⟩)
    go_ret
    exact ⟨ret64 (by unfold even; rw [C.out]; rfl), rfl⟩
  · have ta : (near a == 9223372036854775807) = false := by simpa using ca
    have eh : half (near a) = near a / 2 := by unfold half; rw [near_near, if_neg ca]
    have ua : half (near a) ≤ 4611686018427387903 := by rw [eh]; rcases near_cases a with h | h <;> omega
    have C := hid ca; clear ca
    have E := hid eh; clear eh
    go_enter Tryz.func69, Tryz.ntmps69
    go_wp2_with (first | (go_at_call 103; refine (rnear_any _ _).mono ?_; rintro e w' ⟨rfl, rfl⟩) | (go_at_call 70; refine (rhalf_any _ _).mono ?_; rintro e w' ⟨rfl, rfl⟩))
    go_ret
    exact ⟨ret64 (by unfold even; rw [if_neg C.out, E.out]), rfl⟩
end
end Go.Proofs.YtkncebcekhfnfaaGreat
