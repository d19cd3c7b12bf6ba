/-
  gnomonref12.half, gnomonref12.Diff of whatever numbers: what is above 2^62, or below -2^62, is told by a sign alone.
-/
import Derived.Test.YtkncebcekhfnfaaGreatBWL23
import Derived.Test.YtkncebcekhfnfaaGreatBWL07
namespace Go.Proofs.YtkncebcekhfnfaaGreat
open Go.RowKit
attribute [local go_sem ↓] Go.wp_at_zero Go.wp_at_succ

set_option maxHeartbeats 1000000 in
theorem halfA_ok (v : Int) (hv : I64 v) (b : Bool) (w : World) : Calls Tryz.prog 98 #[.int .i64 v, .bool b] w (HalfRes (if b then -v else v) w) := by
  unfold I64 at hv
  obtain ⟨q, r, hq, hr, hs, h1, h2⟩ := halves v
  have q0 : -9223372036854775808 ≤ q - 1 := by omega
  have q1 : q + 1 ≤ 9223372036854775807 := by omega
  have q2 : -9223372036854775808 ≤ -q - 1 := by omega
  cases b with
  | false =>
    by_cases hr0 : r < 0
    · have HX : Hid (∃ h r', 2 * h + r' = v ∧ 0 ≤ r' ∧ r' ≤ 1 ∧ h = q - 1 ∧ r' = 1) := hid ⟨q - 1, 1, by omega, by omega, by omega, rfl, rfl⟩
      have t1 : decide (r < 0) = true := by rw [decide_eq_true_eq]; exact hr0
      clear hr0
      go_enter Tryz.func98, Tryz.ntmps98
      go_wp2
      refine bodyPost_ret (v := .tuple #[.int .i64 (q - 1), .int .i64 1]) (by simp [results, Tryz.results98, go_sem]) rfl ?_
      obtain ⟨h, r', a, b, c, rfl, rfl⟩ := HX.out
      exact ⟨_, _, rfl, a, b, c, Below.refl _ _⟩
    · have t1 : decide (r < 0) = false := by rw [decide_eq_false_iff_not]; exact hr0
      have HX : Hid (2 * q + r = v ∧ 0 ≤ r ∧ r ≤ 1) := hid ⟨by omega, by omega, by omega⟩
      clear hr0
      go_enter Tryz.func98, Tryz.ntmps98
      go_wp2
      refine bodyPost_ret (v := .tuple #[.int .i64 q, .int .i64 r]) (by simp [results, Tryz.results98, go_sem]) rfl ?_
      exact ⟨_, _, rfl, HX.out.1, HX.out.2.1, HX.out.2.2, Below.refl _ _⟩
  | true =>
    by_cases hr0 : -r < 0
    · have HX : Hid (∃ h r', 2 * h + r' = -v ∧ 0 ≤ r' ∧ r' ≤ 1 ∧ h = -q - 1 ∧ r' = 1) := hid ⟨-q - 1, 1, by omega, by omega, by omega, rfl, rfl⟩
      have t1 : decide (-r < 0) = true := by rw [decide_eq_true_eq]; exact hr0
      have t2 : decide (0 < r) = true := by rw [decide_eq_true_eq]; omega
      clear hr0
      go_enter Tryz.func98, Tryz.ntmps98
      go_wp2
      refine bodyPost_ret (v := .tuple #[.int .i64 (-q - 1), .int .i64 1]) (by simp [results, Tryz.results98, go_sem]) rfl ?_
      obtain ⟨h, r', a, b, c, rfl, rfl⟩ := HX.out
      exact ⟨_, _, rfl, a, b, c, Below.refl _ _⟩
    · have t1 : decide (-r < 0) = false := by rw [decide_eq_false_iff_not]; exact hr0
      have t2 : decide (0 < r) = false := by rw [decide_eq_false_iff_not]; omega
      have HX : Hid (2 * (-q) + -r = -v ∧ 0 ≤ -r ∧ -r ≤ 1) := hid ⟨by omega, by omega, by omega⟩
      clear hr0
      go_enter Tryz.func98, Tryz.ntmps98
      go_wp2
      refine bodyPost_ret (v := .tuple #[.int .i64 (-q), .int .i64 (-r)]) (by simp [results, Tryz.results98, go_sem]) rfl ?_
      exact ⟨_, _, rfl, HX.out.1, HX.out.2.1, HX.out.2.2, Below.refl _ _⟩

/-- A difference that is not far; else 0. -/
def farD (R : Int) : Int := if -4611686018427387904 ≤ R ∧ R ≤ 4611686018427387904 then R else 0
/-- Is it far? -/
def farS (R : Int) : Int := if 4611686018427387904 < R then 1 else if R < -4611686018427387904 then -1 else 0
set_option maxRecDepth 8000 in
set_option maxHeartbeats 4000000 in
theorem rdiffA_ok (xs : List Int) (hn : ∀ k : Nat, I64 (gI xs (k : Int))) (i j : Nat) (hi : i / 2 < xs.length) (hj : j / 2 < xs.length) (hm : i ≤ 1000 ∧ j ≤ 1000) (X : Option Addr) (xc : Nat) (w : World) (hx : Rd w w.heap.size X xs) :
    Calls Tryz.prog 59 #[.slice X xs.length xc, .int .i64 (i : Int), .int .i64 (j : Int)] w fun e w' => e = .returned (.tuple #[.int .i64 (farD (apartX xs i j)), .int .i64 (farS (apartX xs i j))]) ∧ Below w.heap.size w w' := by
  obtain ⟨xi, hxi⟩ : ∃ v, v = gI xs ((i / 2 : Nat) : Int) := ⟨_, rfl⟩
  obtain ⟨xj, hxj⟩ : ∃ v, v = gI xs ((j / 2 : Nat) : Int) := ⟨_, rfl⟩
  obtain ⟨i2, hi2⟩ : ∃ v, v = i / 2 := ⟨_, rfl⟩
  obtain ⟨j2, hj2⟩ : ∃ v, v = j / 2 := ⟨_, rfl⟩
  obtain ⟨bi, hbi⟩ : ∃ b : Bool, ((((i % 2 : Nat)) : Int) == 1) = b := ⟨_, rfl⟩
  obtain ⟨bj, hbj⟩ : ∃ b : Bool, ((((j % 2 : Nat)) : Int) == 0) = b := ⟨_, rfl⟩
  have HR : Hid (apartX xs i j = (if bi then -xi else xi) + (if bj then -xj else xj)) := hid (by
    unfold apartX sideX
    rw [← hxi, ← hxj]
    have ei : (i % 2 = 0 ∧ bi = false) ∨ (i % 2 = 1 ∧ bi = true) := by
      rcases Nat.mod_two_eq_zero_or_one i with h | h
      · left; exact ⟨h, by rw [← hbi, h]; rfl⟩
      · right; exact ⟨h, by rw [← hbi, h]; rfl⟩
    have ej : (j % 2 = 0 ∧ bj = true) ∨ (j % 2 = 1 ∧ bj = false) := by
      rcases Nat.mod_two_eq_zero_or_one j with h | h
      · left; exact ⟨h, by rw [← hbj, h]; rfl⟩
      · right; exact ⟨h, by rw [← hbj, h]; rfl⟩
    rcases ei with ⟨e1, e2⟩ | ⟨e1, e2⟩ <;> rcases ej with ⟨e3, e4⟩ | ⟨e3, e4⟩ <;> rw [e2, e4] <;> simp [e1, e3] <;> omega)
  generalize apartX xs i j = R at *
  have ni : I64 xi := hxi ▸ hn _
  have nj : I64 xj := hxj ▸ hn _
  rw [← hi2] at hi hxi
  rw [← hj2] at hj hxj
  obtain ⟨g1, o1, rfl, hg1, ci⟩ := hx i2 hi
  obtain ⟨_, _, e1, -, cj⟩ := hx j2 hj
  injection e1 with e1; injection e1 with e1 e2; subst e1; subst e2
  rw [← hxi] at ci
  rw [← hxj] at cj
  have hi' : (i2 : Int) < (xs.length : Int) := by omega
  have hj' : (j2 : Int) < (xs.length : Int) := by omega
  have di1 : Int.tdiv (i : Int) 2 = (i2 : Int) := by rw [Int.tdiv_eq_ediv_of_nonneg (by omega)]; omega
  have di2 : (i : Int) / 2 = (i2 : Int) := by omega
  have dj1 : Int.tdiv (j : Int) 2 = (j2 : Int) := by rw [Int.tdiv_eq_ediv_of_nonneg (by omega)]; omega
  have dj2 : (j : Int) / 2 = (j2 : Int) := by omega
  have mi1 : Int.tmod (i : Int) 2 = ((i % 2 : Nat) : Int) := by rw [Int.tmod_eq_emod_of_nonneg (by omega)]; omega
  have mi2 : (i : Int) % 2 = ((i % 2 : Nat) : Int) := by omega
  have mj1 : Int.tmod (j : Int) 2 = ((j % 2 : Nat) : Int) := by rw [Int.tmod_eq_emod_of_nonneg (by omega)]; omega
  have mj2 : (j : Int) % 2 = ((j % 2 : Nat) : Int) := by omega
  clear hi2 hj2 hxi hxj hn hi hj hx
  have hi3 : i % 2 ≤ 1 := by omega
  have hj3 : j % 2 ≤ 1 := by omega
  generalize i % 2 = ri at *
  generalize j % 2 = rj at *
  have Hi := hid (halfA_ok xi ni bi)
  have Hj := hid (halfA_ok xj nj bj)
  have NI := hid ni
  have NJ := hid nj
  clear ni nj
  go_enter Tryz.func59, Tryz.ntmps59
  go_upto_region 1 with fail
  have fi := later ci
  have fj := later cj
  clear ci cj
  refine wp_region_flow 11 (fun X => Below w.heap.size w X) (by kernel_rfl) (by kernel_rfl) (Below.refl _ _).drew ?_
  (repeat (first | (refine Flow.skip (by rfl) ?_; simp only [Act.put, List.setIfInBounds_toArray, List.set_cons_zero, List.set_cons_succ]) | (refine' Flow.take _ (by rfl) (fun W hW R hR => ?_) ?_; rotate_left; (go_simp; (try go_bits); with_reducible exact hR); simp only [Act.put, List.setIfInBounds_toArray, List.set_cons_zero, List.set_cons_succ])))
  intro w3 hb3
  clear fi fj
  go_wp2_with fail
  (with_reducible refine (Hi.out w3).mono ?_)
  rintro e4 w4 ⟨a, ra, rfl, ha, ra0, ra1, hb4⟩
  replace hb3 := bup hb3 hb4
  clear hb4
  go_wp2_with fail
  (with_reducible refine (Hj.out w4).mono ?_)
  rintro e5 w5 ⟨b, rb, rfl, hb, rb0, rb1, hb5⟩
  replace hb3 := bup hb3 hb5
  clear hb5 Hi Hj
  have ba : -4611686018427387904 ≤ a ∧ a ≤ 4611686018427387904 := by
    have := NI.out; unfold I64 at this
    cases bi <;> simp at ha <;> omega
  have bb : -4611686018427387904 ≤ b ∧ b ≤ 4611686018427387904 := by
    have := NJ.out; unfold I64 at this
    cases bj <;> simp at hb <;> omega
  rw [← ha, ← hb] at HR
  obtain ⟨a0, a1⟩ := ba
  obtain ⟨b0, b1⟩ := bb
  clear ha hb
  have e1 : ra = 0 ∨ ra = 1 := by omega
  have e2 : rb = 0 ∨ rb = 1 := by omega
  clear ra0 ra1 rb0 rb1 mi1 mi2 mj1 mj2 hbi hbj di1 di2 dj1 dj2
  by_cases c1 : 2305843009213693952 - b < a
  · have t1 : decide (2305843009213693952 - b < a) = true := decide_eq_true c1
    have HD : Hid (farD R = 0) := hid (by have := HR.out; unfold farD; rw [if_neg]; omega)
    have HS : Hid (farS R = 1) := hid (by have := HR.out; unfold farS; rw [if_pos]; omega)
    clear c1 e1 e2
    go_wp2
    refine bodyPost_ret (v := .tuple #[.int .i64 0, .int .i64 1]) (by simp [results, Tryz.results59, go_sem]) rfl ?_
    exact ⟨by rw [HD.out, HS.out], hb3⟩
  have t1 : decide (2305843009213693952 - b < a) = false := decide_eq_false c1
  by_cases c2 : a < -2305843009213693953 - b
  · have t2 : decide (a < -2305843009213693953 - b) = true := decide_eq_true c2
    have HD : Hid (farD R = 0) := hid (by have := HR.out; unfold farD; rw [if_neg]; omega)
    have HS : Hid (farS R = -1) := hid (by have := HR.out; unfold farS; rw [if_neg (by omega), if_pos (by omega)])
    clear c1 c2 e1 e2
    go_wp2
    refine bodyPost_ret (v := .tuple #[.int .i64 0, .int .i64 (-1)]) (by simp [results, Tryz.results59, go_sem]) rfl ?_
    exact ⟨by rw [HD.out, HS.out], hb3⟩
  have t2 : decide (a < -2305843009213693953 - b) = false := decide_eq_false c2
  have k1 : a + b ≤ 2305843009213693952 := by omega
  have k2 : -2305843009213693953 ≤ a + b := by omega
  clear c1 c2
  have HF : Hid (∀ h l : Int, 2 * h + l = R → 0 ≤ l → l ≤ 1 → (2305843009213693952 < h ∨ (h = 2305843009213693952 ∧ 0 < l) → farD R = 0 ∧ farS R = 1) ∧ (¬ (2305843009213693952 < h ∨ (h = 2305843009213693952 ∧ 0 < l)) → h < -2305843009213693952 → farD R = 0 ∧ farS R = -1) ∧ (¬ (2305843009213693952 < h ∨ (h = 2305843009213693952 ∧ 0 < l)) → ¬ h < -2305843009213693952 → farD R = 2 * h + l ∧ farS R = 0)) := hid fun h l e l0 l1 => by
    unfold farD farS
    refine ⟨fun q => ⟨by rw [if_neg (by omega)], by rw [if_pos (by omega)]⟩, fun q q2 => ⟨by rw [if_neg (by omega)], by rw [if_neg (by omega), if_pos (by omega)]⟩, fun q q2 => ⟨by rw [if_pos (by omega)]; omega, by rw [if_neg (by omega), if_neg (by omega)]⟩⟩
  obtain ⟨h, l, hh, hl, hsum⟩ : ∃ h l : Int, h = (a + b + (if ra = 1 ∧ rb = 1 then 1 else 0)) ∧ l = (if ra = rb then 0 else 1) ∧ 2 * h + l = R := ⟨_, _, rfl, rfl, by have := HR.out; rcases e1 with rfl | rfl <;> rcases e2 with rfl | rfl <;> simp at this ⊢ <;> omega⟩
  have HG := hid (HF.out h l hsum (by rcases e1 with rfl | rfl <;> rcases e2 with rfl | rfl <;> simp at hl <;> omega) (by rcases e1 with rfl | rfl <;> rcases e2 with rfl | rfl <;> simp at hl <;> omega))
  have HSUM := hid hsum
  clear HF hsum
  rcases e1 with rfl | rfl <;> rcases e2 with rfl | rfl
  · obtain rfl : l = 0 := by simpa using hl
    have hh' : h = a + b := by simpa using hh
    clear hl hh
    have HH := hid hh'
    by_cases c3 : 2305843009213693952 < h
    · have HX := hid (HG.out.1 (.inl c3))
      have t3 : decide (2305843009213693952 < a + b) = true := decide_eq_true (by omega)
      clear c3 hh'
      go_wp2
      refine bodyPost_ret (v := .tuple #[.int .i64 0, .int .i64 1]) (by simp [results, Tryz.results59, go_sem]) rfl ?_
      exact ⟨by rw [HX.out.1, HX.out.2], hb3⟩
    have t3 : decide (2305843009213693952 < a + b) = false := decide_eq_false (by omega)
    have c4 : ¬ (h = 2305843009213693952 ∧ (0 : Int) < 0) := by omega
    by_cases c5 : h < -2305843009213693952
    · have HX := hid (HG.out.2.1 (by omega) c5)
      have t5 : decide (a + b < -2305843009213693952) = true := decide_eq_true (by omega)
      have t4 : (a + b == 2305843009213693952) = false := by rw [beq_eq_false_iff_ne]; omega
      clear c3 c4 c5 hh'
      go_wp2
      refine bodyPost_ret (v := .tuple #[.int .i64 0, .int .i64 (-1)]) (by simp [results, Tryz.results59, go_sem]) rfl ?_
      exact ⟨by rw [HX.out.1, HX.out.2], hb3⟩
    have HX := hid (HG.out.2.2 (by omega) c5)
    have t5 : decide (a + b < -2305843009213693952) = false := decide_eq_false (by omega)
    have k3 : h ≤ 2305843009213693952 := by omega
    have k4 : -2305843009213693952 ≤ h := by omega
    by_cases c6 : h = 2305843009213693952
    all_goals
      have HX2 : Hid (farD R = 2 * (a + b) + 0 ∧ farS R = 0) := hid (by rw [← HH.out]; exact HX.out)
      clear HX
      (first | have t4 : (a + b == 2305843009213693952) = true := (by rw [beq_iff_eq]; omega) | have t4 : (a + b == 2305843009213693952) = false := (by rw [beq_eq_false_iff_ne]; omega))
      rw [hh'] at k3 k4
      clear c3 c4 c5 c6 hh'
      go_wp2
      refine bodyPost_ret (v := .tuple #[.int .i64 (farD R), .int .i64 0]) (by simp [results, Tryz.results59, go_sem, HX2.out.1]) rfl ?_
      exact ⟨by rw [HX2.out.2], hb3⟩
  · obtain rfl : l = 1 := by simpa using hl
    have hh' : h = a + b := by simpa using hh
    clear hl hh
    have HH := hid hh'
    by_cases c3 : 2305843009213693952 < h
    · have HX := hid (HG.out.1 (.inl c3))
      have t3 : decide (2305843009213693952 < a + b) = true := decide_eq_true (by omega)
      clear c3 hh'
      go_wp2
      refine bodyPost_ret (v := .tuple #[.int .i64 0, .int .i64 1]) (by simp [results, Tryz.results59, go_sem]) rfl ?_
      exact ⟨by rw [HX.out.1, HX.out.2], hb3⟩
    have t3 : decide (2305843009213693952 < a + b) = false := decide_eq_false (by omega)
    by_cases c4 : h = 2305843009213693952 ∧ (0 : Int) < 1
    · have HX := hid (HG.out.1 (.inr c4))
      have t4 : (a + b == 2305843009213693952) = true := by rw [beq_iff_eq]; omega
      clear c3 c4 hh'
      go_wp2
      refine bodyPost_ret (v := .tuple #[.int .i64 0, .int .i64 1]) (by simp [results, Tryz.results59, go_sem]) rfl ?_
      exact ⟨by rw [HX.out.1, HX.out.2], hb3⟩
    by_cases c5 : h < -2305843009213693952
    · have HX := hid (HG.out.2.1 (by omega) c5)
      have t5 : decide (a + b < -2305843009213693952) = true := decide_eq_true (by omega)
      have t4 : (a + b == 2305843009213693952) = false := by rw [beq_eq_false_iff_ne]; omega
      clear c3 c4 c5 hh'
      go_wp2
      refine bodyPost_ret (v := .tuple #[.int .i64 0, .int .i64 (-1)]) (by simp [results, Tryz.results59, go_sem]) rfl ?_
      exact ⟨by rw [HX.out.1, HX.out.2], hb3⟩
    have HX := hid (HG.out.2.2 (by omega) c5)
    have t5 : decide (a + b < -2305843009213693952) = false := decide_eq_false (by omega)
    have k3 : h ≤ 2305843009213693952 := by omega
    have k4 : -2305843009213693952 ≤ h := by omega
    have c6 : ¬ h = 2305843009213693952 := by omega
    all_goals
      have HX2 : Hid (farD R = 2 * (a + b) + 1 ∧ farS R = 0) := hid (by rw [← HH.out]; exact HX.out)
      clear HX
      (first | have t4 : (a + b == 2305843009213693952) = true := (by rw [beq_iff_eq]; omega) | have t4 : (a + b == 2305843009213693952) = false := (by rw [beq_eq_false_iff_ne]; omega))
      rw [hh'] at k3 k4
      clear c3 c4 c5 c6 hh'
      go_wp2
      refine bodyPost_ret (v := .tuple #[.int .i64 (farD R), .int .i64 0]) (by simp [results, Tryz.results59, go_sem, HX2.out.1]) rfl ?_
      exact ⟨by rw [HX2.out.2], hb3⟩
  · obtain rfl : l = 1 := by simpa using hl
    have hh' : h = a + b := by simpa using hh
    clear hl hh
    have HH := hid hh'
    by_cases c3 : 2305843009213693952 < h
    · have HX := hid (HG.out.1 (.inl c3))
      have t3 : decide (2305843009213693952 < a + b) = true := decide_eq_true (by omega)
      clear c3 hh'
      go_wp2
      refine bodyPost_ret (v := .tuple #[.int .i64 0, .int .i64 1]) (by simp [results, Tryz.results59, go_sem]) rfl ?_
      exact ⟨by rw [HX.out.1, HX.out.2], hb3⟩
    have t3 : decide (2305843009213693952 < a + b) = false := decide_eq_false (by omega)
    by_cases c4 : h = 2305843009213693952 ∧ (0 : Int) < 1
    · have HX := hid (HG.out.1 (.inr c4))
      have t4 : (a + b == 2305843009213693952) = true := by rw [beq_iff_eq]; omega
      clear c3 c4 hh'
      go_wp2
      refine bodyPost_ret (v := .tuple #[.int .i64 0, .int .i64 1]) (by simp [results, Tryz.results59, go_sem]) rfl ?_
      exact ⟨by rw [HX.out.1, HX.out.2], hb3⟩
    by_cases c5 : h < -2305843009213693952
    · have HX := hid (HG.out.2.1 (by omega) c5)
      have t5 : decide (a + b < -2305843009213693952) = true := decide_eq_true (by omega)
      have t4 : (a + b == 2305843009213693952) = false := by rw [beq_eq_false_iff_ne]; omega
      clear c3 c4 c5 hh'
      go_wp2
      refine bodyPost_ret (v := .tuple #[.int .i64 0, .int .i64 (-1)]) (by simp [results, Tryz.results59, go_sem]) rfl ?_
      exact ⟨by rw [HX.out.1, HX.out.2], hb3⟩
    have HX := hid (HG.out.2.2 (by omega) c5)
    have t5 : decide (a + b < -2305843009213693952) = false := decide_eq_false (by omega)
    have k3 : h ≤ 2305843009213693952 := by omega
    have k4 : -2305843009213693952 ≤ h := by omega
    have c6 : ¬ h = 2305843009213693952 := by omega
    all_goals
      have HX2 : Hid (farD R = 2 * (a + b) + 1 ∧ farS R = 0) := hid (by rw [← HH.out]; exact HX.out)
      clear HX
      (first | have t4 : (a + b == 2305843009213693952) = true := (by rw [beq_iff_eq]; omega) | have t4 : (a + b == 2305843009213693952) = false := (by rw [beq_eq_false_iff_ne]; omega))
      rw [hh'] at k3 k4
      clear c3 c4 c5 c6 hh'
      go_wp2
      refine bodyPost_ret (v := .tuple #[.int .i64 (farD R), .int .i64 0]) (by simp [results, Tryz.results59, go_sem, HX2.out.1]) rfl ?_
      exact ⟨by rw [HX2.out.2], hb3⟩
  · obtain rfl : l = 0 := by simpa using hl
    have hh' : h = a + b + 1 := by simpa using hh
    clear hl hh
    have HH := hid hh'
    by_cases c3 : 2305843009213693952 < h
    · have HX := hid (HG.out.1 (.inl c3))
      have t3 : decide (2305843009213693952 < a + b + 1) = true := decide_eq_true (by omega)
      clear c3 hh'
      go_wp2
      refine bodyPost_ret (v := .tuple #[.int .i64 0, .int .i64 1]) (by simp [results, Tryz.results59, go_sem]) rfl ?_
      exact ⟨by rw [HX.out.1, HX.out.2], hb3⟩
    have t3 : decide (2305843009213693952 < a + b + 1) = false := decide_eq_false (by omega)
    have c4 : ¬ (h = 2305843009213693952 ∧ (0 : Int) < 0) := by omega
    by_cases c5 : h < -2305843009213693952
    · have HX := hid (HG.out.2.1 (by omega) c5)
      have t5 : decide (a + b + 1 < -2305843009213693952) = true := decide_eq_true (by omega)
      have t4 : (a + b + 1 == 2305843009213693952) = false := by rw [beq_eq_false_iff_ne]; omega
      clear c3 c4 c5 hh'
      go_wp2
      refine bodyPost_ret (v := .tuple #[.int .i64 0, .int .i64 (-1)]) (by simp [results, Tryz.results59, go_sem]) rfl ?_
      exact ⟨by rw [HX.out.1, HX.out.2], hb3⟩
    have HX := hid (HG.out.2.2 (by omega) c5)
    have t5 : decide (a + b + 1 < -2305843009213693952) = false := decide_eq_false (by omega)
    have k3 : h ≤ 2305843009213693952 := by omega
    have k4 : -2305843009213693952 ≤ h := by omega
    by_cases c6 : h = 2305843009213693952
    all_goals
      have HX2 : Hid (farD R = 2 * (a + b + 1) + 0 ∧ farS R = 0) := hid (by rw [← HH.out]; exact HX.out)
      clear HX
      (first | have t4 : (a + b + 1 == 2305843009213693952) = true := (by rw [beq_iff_eq]; omega) | have t4 : (a + b + 1 == 2305843009213693952) = false := (by rw [beq_eq_false_iff_ne]; omega))
      rw [hh'] at k3 k4
      clear c3 c4 c5 c6 hh'
      go_wp2
      refine bodyPost_ret (v := .tuple #[.int .i64 (farD R), .int .i64 0]) (by simp [results, Tryz.results59, go_sem, HX2.out.1]) rfl ?_
      exact ⟨by rw [HX2.out.2], hb3⟩
end Go.Proofs.YtkncebcekhfnfaaGreat
