/-
  gnomonref12.half, gnomonref12.Diff of whatever numbers: what is above 2^62, or below -2^62, is told by a sign alone.
  gnomonref12.Has: whether an octagon that may be has a point of any numbers.
-/
import Derived.Test.YtkncebcekhfnfaaGreatBWE41
import Derived.Test.YtkncebcekhfnfaaGreatBWE03
namespace Go.Proofs.YtkncebcekhfnfaaGreat
open Go.RowKit
section
attribute [local go_sem ↓] Go.wp_at_zero Go.wp_at_succ

set_option maxHeartbeats 1000000 in
theorem halfA_ok (v : Int) (hv : I64 v) (b : Bool) (w : World) : Calls Tryz.prog 98 #[.int .i64 v, .bool b] w (HalfRes (if b then -v else v) w) := by
  unfold I64 at hv
  obtain ⟨q, r, hq, hr, hs, h1, h2⟩ := halves v
  have q0 : -9223372036854775808 ≤ q - 1 := by omega
  have q1 : q + 1 ≤ 9223372036854775807 := by omega
  have q2 : -9223372036854775808 ≤ -q - 1 := by omega
  cases b with
  | false =>
    by_cases hr0 : r < 0
    · have HX : Hid (∃ h r', 2 * h + r' = v ∧ 0 ≤ r' ∧ r' ≤ 1 ∧ h = q - 1 ∧ r' = 1) := hid ⟨q - 1, 1, by omega, by omega, by omega, rfl, rfl⟩
      have t1 : decide (r < 0) = true := by rw [decide_eq_true_eq]; exact hr0
      clear hr0
      go_enter Tryz.func98, Tryz.ntmps98
      go_wp2
      refine bodyPost_ret (v := .tuple #[.int .i64 (q - 1), .int .i64 1]) (by simp [results, Tryz.results98, go_sem]) rfl ?_
      obtain ⟨h, r', a, b, c, rfl, rfl⟩ := HX.out
      exact ⟨_, _, rfl, a, b, c, Below.refl _ _⟩
    · have t1 : decide (r < 0) = false := by rw [decide_eq_false_iff_not]; exact hr0
      have HX : Hid (2 * q + r = v ∧ 0 ≤ r ∧ r ≤ 1) := hid ⟨by omega, by omega, by omega⟩
      clear hr0
      go_enter Tryz.func98, Tryz.ntmps98
      go_wp2
      refine bodyPost_ret (v := .tuple #[.int .i64 q, .int .i64 r]) (by simp [results, Tryz.results98, go_sem]) rfl ?_
      exact ⟨_, _, rfl, HX.out.1, HX.out.2.1, HX.out.2.2, Below.refl _ _⟩
  | true =>
    by_cases hr0 : -r < 0
    · have HX : Hid (∃ h r', 2 * h + r' = -v ∧ 0 ≤ r' ∧ r' ≤ 1 ∧ h = -q - 1 ∧ r' = 1) := hid ⟨-q - 1, 1, by omega, by omega, by omega, rfl, rfl⟩
      have t1 : decide (-r < 0) = true := by rw [decide_eq_true_eq]; exact hr0
      have t2 : decide (0 < r) = true := by rw [decide_eq_true_eq]; omega
      clear hr0
      go_enter Tryz.func98, Tryz.ntmps98
      go_wp2
      refine bodyPost_ret (v := .tuple #[.int .i64 (-q - 1), .int .i64 1]) (by simp [results, Tryz.results98, go_sem]) rfl ?_
      obtain ⟨h, r', a, b, c, rfl, rfl⟩ := HX.out
      exact ⟨_, _, rfl, a, b, c, Below.refl _ _⟩
    · have t1 : decide (-r < 0) = false := by rw [decide_eq_false_iff_not]; exact hr0
      have t2 : decide (0 < r) = false := by rw [decide_eq_false_iff_not]; omega
      have HX : Hid (2 * (-q) + -r = -v ∧ 0 ≤ -r ∧ -r ≤ 1) := hid ⟨by omega, by omega, by omega⟩
      clear hr0
      go_enter Tryz.func98, Tryz.ntmps98
      go_wp2
      refine bodyPost_ret (v := .tuple #[.int .i64 (-q), .int .i64 (-r)]) (by simp [results, Tryz.results98, go_sem]) rfl ?_
      exact ⟨_, _, rfl, HX.out.1, HX.out.2.1, HX.out.2.2, Below.refl _ _⟩

/-- A difference that is not far; else 0. -/
def farD (R : Int) : Int := if -4611686018427387904 ≤ R ∧ R ≤ 4611686018427387904 then R else 0
/-- Is it far? -/
def farS (R : Int) : Int := if 4611686018427387904 < R then 1 else if R < -4611686018427387904 then -1 else 0
set_option maxRecDepth 8000 in
set_option maxHeartbeats 4000000 in
theorem rdiffA_ok (xs : List Int) (hn : ∀ k : Nat, I64 (gI xs (k : Int))) (i j : Nat) (hi : i / 2 < xs.length) (hj : j / 2 < xs.length) (hm : i ≤ 1000 ∧ j ≤ 1000) (X : Option Addr) (xc : Nat) (w : World) (hx : Rd w w.heap.size X xs) :
    Calls Tryz.prog 59 #[.slice X xs.length xc, .int .i64 (i : Int), .int .i64 (j : Int)] w fun e w' => e = .returned (.tuple #[.int .i64 (farD (apartX xs i j)), .int .i64 (farS (apartX xs i j))]) ∧ Below w.heap.size w w' := by
  obtain ⟨xi, hxi⟩ : ∃ v, v = gI xs ((i / 2 : Nat) : Int) := ⟨_, rfl⟩
  obtain ⟨xj, hxj⟩ : ∃ v, v = gI xs ((j / 2 : Nat) : Int) := ⟨_, rfl⟩
  obtain ⟨i2, hi2⟩ : ∃ v, v = i / 2 := ⟨_, rfl⟩
  obtain ⟨j2, hj2⟩ : ∃ v, v = j / 2 := ⟨_, rfl⟩
  obtain ⟨bi, hbi⟩ : ∃ b : Bool, ((((i % 2 : Nat)) : Int) == 1) = b := ⟨_, rfl⟩
  obtain ⟨bj, hbj⟩ : ∃ b : Bool, ((((j % 2 : Nat)) : Int) == 0) = b := ⟨_, rfl⟩
  have HR : Hid (apartX xs i j = (if bi then -xi else xi) + (if bj then -xj else xj)) := hid (by
    unfold apartX sideX
    rw [← hxi, ← hxj]
    have ei : (i % 2 = 0 ∧ bi = false) ∨ (i % 2 = 1 ∧ bi = true) := by
      rcases Nat.mod_two_eq_zero_or_one i with h | h
      · left; exact ⟨h, by rw [← hbi, h]; rfl⟩
      · right; exact ⟨h, by rw [← hbi, h]; rfl⟩
    have ej : (j % 2 = 0 ∧ bj = true) ∨ (j % 2 = 1 ∧ bj = false) := by
      rcases Nat.mod_two_eq_zero_or_one j with h | h
      · left; exact ⟨h, by rw [← hbj, h]; rfl⟩
      · right; exact ⟨h, by rw [← hbj, h]; rfl⟩
    rcases ei with ⟨e1, e2⟩ | ⟨e1, e2⟩ <;> rcases ej with ⟨e3, e4⟩ | ⟨e3, e4⟩ <;> rw [e2, e4] <;> simp [e1, e3] <;> omega)
  generalize apartX xs i j = R at *
  have ni : I64 xi := hxi ▸ hn _
  have nj : I64 xj := hxj ▸ hn _
  rw [← hi2] at hi hxi
  rw [← hj2] at hj hxj
  obtain ⟨g1, o1, rfl, hg1, ci⟩ := hx i2 hi
  obtain ⟨_, _, e1, -, cj⟩ := hx j2 hj
  injection e1 with e1; injection e1 with e1 e2; subst e1; subst e2
  rw [← hxi] at ci
  rw [← hxj] at cj
  have hi' : (i2 : Int) < (xs.length : Int) := by omega
  have hj' : (j2 : Int) < (xs.length : Int) := by omega
  have di1 : Int.tdiv (i : Int) 2 = (i2 : Int) := by rw [Int.tdiv_eq_ediv_of_nonneg (by omega)]; omega
  have di2 : (i : Int) / 2 = (i2 : Int) := by omega
  have dj1 : Int.tdiv (j : Int) 2 = (j2 : Int) := by rw [Int.tdiv_eq_ediv_of_nonneg (by omega)]; omega
  have dj2 : (j : Int) / 2 = (j2 : Int) := by omega
  have mi1 : Int.tmod (i : Int) 2 = ((i % 2 : Nat) : Int) := by rw [Int.tmod_eq_emod_of_nonneg (by omega)]; omega
  have mi2 : (i : Int) % 2 = ((i % 2 : Nat) : Int) := by omega
  have mj1 : Int.tmod (j : Int) 2 = ((j % 2 : Nat) : Int) := by rw [Int.tmod_eq_emod_of_nonneg (by omega)]; omega
  have mj2 : (j : Int) % 2 = ((j % 2 : Nat) : Int) := by omega
  clear hi2 hj2 hxi hxj hn hi hj hx
  have hi3 : i % 2 ≤ 1 := by omega
  have hj3 : j % 2 ≤ 1 := by omega
  generalize i % 2 = ri at *
  generalize j % 2 = rj at *
  have Hi := hid (halfA_ok xi ni bi)
  have Hj := hid (halfA_ok xj nj bj)
  have NI := hid ni
  have NJ := hid nj
  clear ni nj
  go_enter Tryz.func59, Tryz.ntmps59
  go_upto_region 1 with fail
  have fi := later ci
  have fj := later cj
  clear ci cj
  refine wp_region_flow 11 (fun X => Below w.heap.size w X) (by kernel_rfl) (by kernel_rfl) (Below.refl _ _).drew ?_
  (repeat (first | (refine Flow.skip (by rfl) ?_; simp only [Act.put, List.setIfInBounds_toArray, List.set_cons_zero, List.set_cons_succ]) | (refine' Flow.take _ (by rfl) (fun W hW R hR => ?_) ?_; rotate_left; (go_simp; (try go_bits); with_reducible exact hR); simp only [Act.put, List.setIfInBounds_toArray, List.set_cons_zero, List.set_cons_succ])))
  intro w3 hb3
  clear fi fj
  go_wp2_with fail
  (with_reducible refine (Hi.out w3).mono ?_)
  rintro e4 w4 ⟨a, ra, rfl, ha, ra0, ra1, hb4⟩
  replace hb3 := bup hb3 hb4
  clear hb4
  go_wp2_with fail
  (with_reducible refine (Hj.out w4).mono ?_)
  rintro e5 w5 ⟨b, rb, rfl, hb, rb0, rb1, hb5⟩
  replace hb3 := bup hb3 hb5
  clear hb5 Hi Hj
  have ba : -4611686018427387904 ≤ a ∧ a ≤ 4611686018427387904 := by
    have := NI.out; unfold I64 at this
    cases bi <;> simp at ha <;> omega
  have bb : -4611686018427387904 ≤ b ∧ b ≤ 4611686018427387904 := by
    have := NJ.out; unfold I64 at this
    cases bj <;> simp at hb <;> omega
  rw [← ha, ← hb] at HR
  obtain ⟨a0, a1⟩ := ba
  obtain ⟨b0, b1⟩ := bb
  clear ha hb
  have e1 : ra = 0 ∨ ra = 1 := by omega
  have e2 : rb = 0 ∨ rb = 1 := by omega
  clear ra0 ra1 rb0 rb1 mi1 mi2 mj1 mj2 hbi hbj di1 di2 dj1 dj2
  by_cases c1 : 2305843009213693952 - b < a
  · have t1 : decide (2305843009213693952 - b < a) = true := decide_eq_true c1
    have HD : Hid (farD R = 0) := hid (by have := HR.out; unfold farD; rw [if_neg]; omega)
    have HS : Hid (farS R = 1) := hid (by have := HR.out; unfold farS; rw [if_pos]; omega)
    clear c1 e1 e2
    go_wp2
    refine bodyPost_ret (v := .tuple #[.int .i64 0, .int .i64 1]) (by simp [results, Tryz.results59, go_sem]) rfl ?_
    exact ⟨by rw [HD.out, HS.out], hb3⟩
  have t1 : decide (2305843009213693952 - b < a) = false := decide_eq_false c1
  by_cases c2 : a < -2305843009213693953 - b
  · have t2 : decide (a < -2305843009213693953 - b) = true := decide_eq_true c2
    have HD : Hid (farD R = 0) := hid (by have := HR.out; unfold farD; rw [if_neg]; omega)
    have HS : Hid (farS R = -1) := hid (by have := HR.out; unfold farS; rw [if_neg (by omega), if_pos (by omega)])
    clear c1 c2 e1 e2
    go_wp2
    refine bodyPost_ret (v := .tuple #[.int .i64 0, .int .i64 (-1)]) (by simp [results, Tryz.results59, go_sem]) rfl ?_
    exact ⟨by rw [HD.out, HS.out], hb3⟩
  have t2 : decide (a < -2305843009213693953 - b) = false := decide_eq_false c2
  have k1 : a + b ≤ 2305843009213693952 := by omega
  have k2 : -2305843009213693953 ≤ a + b := by omega
  clear c1 c2
  have HF : Hid (∀ h l : Int, 2 * h + l = R → 0 ≤ l → l ≤ 1 → (2305843009213693952 < h ∨ (h = 2305843009213693952 ∧ 0 < l) → farD R = 0 ∧ farS R = 1) ∧ (¬ (2305843009213693952 < h ∨ (h = 2305843009213693952 ∧ 0 < l)) → h < -2305843009213693952 → farD R = 0 ∧ farS R = -1) ∧ (¬ (2305843009213693952 < h ∨ (h = 2305843009213693952 ∧ 0 < l)) → ¬ h < -2305843009213693952 → farD R = 2 * h + l ∧ farS R = 0)) := hid fun h l e l0 l1 => by
    unfold farD farS
    refine ⟨fun q => ⟨by rw [if_neg (by omega)], by rw [if_pos (by omega)]⟩, fun q q2 => ⟨by rw [if_neg (by omega)], by rw [if_neg (by omega), if_pos (by omega)]⟩, fun q q2 => ⟨by rw [if_pos (by omega)]; omega, by rw [if_neg (by omega), if_neg (by omega)]⟩⟩
  obtain ⟨h, l, hh, hl, hsum⟩ : ∃ h l : Int, h = (a + b + (if ra = 1 ∧ rb = 1 then 1 else 0)) ∧ l = (if ra = rb then 0 else 1) ∧ 2 * h + l = R := ⟨_, _, rfl, rfl, by have := HR.out; rcases e1 with rfl | rfl <;> rcases e2 with rfl | rfl <;> simp at this ⊢ <;> omega⟩
  have HG := hid (HF.out h l hsum (by rcases e1 with rfl | rfl <;> rcases e2 with rfl | rfl <;> simp at hl <;> omega) (by rcases e1 with rfl | rfl <;> rcases e2 with rfl | rfl <;> simp at hl <;> omega))
  have HSUM := hid hsum
  clear HF hsum
  rcases e1 with rfl | rfl <;> rcases e2 with rfl | rfl
  · obtain rfl : l = 0 := by simpa using hl
    have hh' : h = a + b := by simpa using hh
    clear hl hh
    have HH := hid hh'
    by_cases c3 : 2305843009213693952 < h
    · have HX := hid (HG.out.1 (.inl c3))
      have t3 : decide (2305843009213693952 < a + b) = true := decide_eq_true (by omega)
      clear c3 hh'
      go_wp2
      refine bodyPost_ret (v := .tuple #[.int .i64 0, .int .i64 1]) (by simp [results, Tryz.results59, go_sem]) rfl ?_
      exact ⟨by rw [HX.out.1, HX.out.2], hb3⟩
    have t3 : decide (2305843009213693952 < a + b) = false := decide_eq_false (by omega)
    have c4 : ¬ (h = 2305843009213693952 ∧ (0 : Int) < 0) := by omega
    by_cases c5 : h < -2305843009213693952
    · have HX := hid (HG.out.2.1 (by omega) c5)
      have t5 : decide (a + b < -2305843009213693952) = true := decide_eq_true (by omega)
      have t4 : (a + b == 2305843009213693952) = false := by rw [beq_eq_false_iff_ne]; omega
      clear c3 c4 c5 hh'
      go_wp2
      refine bodyPost_ret (v := .tuple #[.int .i64 0, .int .i64 (-1)]) (by simp [results, Tryz.results59, go_sem]) rfl ?_
      exact ⟨by rw [HX.out.1, HX.out.2], hb3⟩
    have HX := hid (HG.out.2.2 (by omega) c5)
    have t5 : decide (a + b < -2305843009213693952) = false := decide_eq_false (by omega)
    have k3 : h ≤ 2305843009213693952 := by omega
    have k4 : -2305843009213693952 ≤ h := by omega
    by_cases c6 : h = 2305843009213693952
    all_goals
      have HX2 : Hid (farD R = 2 * (a + b) + 0 ∧ farS R = 0) := hid (by rw [← HH.out]; exact HX.out)
      clear HX
      (first | have t4 : (a + b == 2305843009213693952) = true := (by rw [beq_iff_eq]; omega) | have t4 : (a + b == 2305843009213693952) = false := (by rw [beq_eq_false_iff_ne]; omega))
      rw [hh'] at k3 k4
      clear c3 c4 c5 c6 hh'
      go_wp2
      refine bodyPost_ret (v := .tuple #[.int .i64 (farD R), .int .i64 0]) (by simp [results, Tryz.results59, go_sem, HX2.out.1]) rfl ?_
      exact ⟨by rw [HX2.out.2], hb3⟩
  · obtain rfl : l = 1 := by simpa using hl
    have hh' : h = a + b := by simpa using hh
    clear hl hh
    have HH := hid hh'
    by_cases c3 : 2305843009213693952 < h
    · have HX := hid (HG.out.1 (.inl c3))
      have t3 : decide (2305843009213693952 < a + b) = true := decide_eq_true (by omega)
      clear c3 hh'
      go_wp2
      refine bodyPost_ret (v := .tuple #[.int .i64 0, .int .i64 1]) (by simp [results, Tryz.results59, go_sem]) rfl ?_
      exact ⟨by rw [HX.out.1, HX.out.2], hb3⟩
    have t3 : decide (2305843009213693952 < a + b) = false := decide_eq_false (by omega)
    by_cases c4 : h = 2305843009213693952 ∧ (0 : Int) < 1
    · have HX := hid (HG.out.1 (.inr c4))
      have t4 : (a + b == 2305843009213693952) = true := by rw [beq_iff_eq]; omega
      clear c3 c4 hh'
      go_wp2
      refine bodyPost_ret (v := .tuple #[.int .i64 0, .int .i64 1]) (by simp [results, Tryz.results59, go_sem]) rfl ?_
      exact ⟨by rw [HX.out.1, HX.out.2], hb3⟩
    by_cases c5 : h < -2305843009213693952
    · have HX := hid (HG.out.2.1 (by omega) c5)
      have t5 : decide (a + b < -2305843009213693952) = true := decide_eq_true (by omega)
      have t4 : (a + b == 2305843009213693952) = false := by rw [beq_eq_false_iff_ne]; omega
      clear c3 c4 c5 hh'
      go_wp2
      refine bodyPost_ret (v := .tuple #[.int .i64 0, .int .i64 (-1)]) (by simp [results, Tryz.results59, go_sem]) rfl ?_
      exact ⟨by rw [HX.out.1, HX.out.2], hb3⟩
    have HX := hid (HG.out.2.2 (by omega) c5)
    have t5 : decide (a + b < -2305843009213693952) = false := decide_eq_false (by omega)
    have k3 : h ≤ 2305843009213693952 := by omega
    have k4 : -2305843009213693952 ≤ h := by omega
    have c6 : ¬ h = 2305843009213693952 := by omega
    all_goals
      have HX2 : Hid (farD R = 2 * (a + b) + 1 ∧ farS R = 0) := hid (by rw [← HH.out]; exact HX.out)
      clear HX
      (first | have t4 : (a + b == 2305843009213693952) = true := (by rw [beq_iff_eq]; omega) | have t4 : (a + b == 2305843009213693952) = false := (by rw [beq_eq_false_iff_ne]; omega))
      rw [hh'] at k3 k4
      clear c3 c4 c5 c6 hh'
      go_wp2
      refine bodyPost_ret (v := .tuple #[.int .i64 (farD R), .int .i64 0]) (by simp [results, Tryz.results59, go_sem, HX2.out.1]) rfl ?_
      exact ⟨by rw [HX2.out.2], hb3⟩
  · obtain rfl : l = 1 := by simpa using hl
    have hh' : h = a + b := by simpa using hh
    clear hl hh
    have HH := hid hh'
    by_cases c3 : 2305843009213693952 < h
    · have HX := hid (HG.out.1 (.inl c3))
      have t3 : decide (2305843009213693952 < a + b) = true := decide_eq_true (by omega)
      clear c3 hh'
      go_wp2
      refine bodyPost_ret (v := .tuple #[.int .i64 0, .int .i64 1]) (by simp [results, Tryz.results59, go_sem]) rfl ?_
      exact ⟨by rw [HX.out.1, HX.out.2], hb3⟩
    have t3 : decide (2305843009213693952 < a + b) = false := decide_eq_false (by omega)
    by_cases c4 : h = 2305843009213693952 ∧ (0 : Int) < 1
    · have HX := hid (HG.out.1 (.inr c4))
      have t4 : (a + b == 2305843009213693952) = true := by rw [beq_iff_eq]; omega
      clear c3 c4 hh'
      go_wp2
      refine bodyPost_ret (v := .tuple #[.int .i64 0, .int .i64 1]) (by simp [results, Tryz.results59, go_sem]) rfl ?_
      exact ⟨by rw [HX.out.1, HX.out.2], hb3⟩
    by_cases c5 : h < -2305843009213693952
    · have HX := hid (HG.out.2.1 (by omega) c5)
      have t5 : decide (a + b < -2305843009213693952) = true := decide_eq_true (by omega)
      have t4 : (a + b == 2305843009213693952) = false := by rw [beq_eq_false_iff_ne]; omega
      clear c3 c4 c5 hh'
      go_wp2
      refine bodyPost_ret (v := .tuple #[.int .i64 0, .int .i64 (-1)]) (by simp [results, Tryz.results59, go_sem]) rfl ?_
      exact ⟨by rw [HX.out.1, HX.out.2], hb3⟩
    have HX := hid (HG.out.2.2 (by omega) c5)
    have t5 : decide (a + b < -2305843009213693952) = false := decide_eq_false (by omega)
    have k3 : h ≤ 2305843009213693952 := by omega
    have k4 : -2305843009213693952 ≤ h := by omega
    have c6 : ¬ h = 2305843009213693952 := by omega
    all_goals
      have HX2 : Hid (farD R = 2 * (a + b) + 1 ∧ farS R = 0) := hid (by rw [← HH.out]; exact HX.out)
      clear HX
      (first | have t4 : (a + b == 2305843009213693952) = true := (by rw [beq_iff_eq]; omega) | have t4 : (a + b == 2305843009213693952) = false := (by rw [beq_eq_false_iff_ne]; omega))
      rw [hh'] at k3 k4
      clear c3 c4 c5 c6 hh'
      go_wp2
      refine bodyPost_ret (v := .tuple #[.int .i64 (farD R), .int .i64 0]) (by simp [results, Tryz.results59, go_sem, HX2.out.1]) rfl ?_
      exact ⟨by rw [HX2.out.2], hb3⟩
  · obtain rfl : l = 0 := by simpa using hl
    have hh' : h = a + b + 1 := by simpa using hh
    clear hl hh
    have HH := hid hh'
    by_cases c3 : 2305843009213693952 < h
    · have HX := hid (HG.out.1 (.inl c3))
      have t3 : decide (2305843009213693952 < a + b + 1) = true := decide_eq_true (by omega)
      clear c3 hh'
      go_wp2
      refine bodyPost_ret (v := .tuple #[.int .i64 0, .int .i64 1]) (by simp [results, Tryz.results59, go_sem]) rfl ?_
      exact ⟨by rw [HX.out.1, HX.out.2], hb3⟩
    have t3 : decide (2305843009213693952 < a + b + 1) = false := decide_eq_false (by omega)
    have c4 : ¬ (h = 2305843009213693952 ∧ (0 : Int) < 0) := by omega
    by_cases c5 : h < -2305843009213693952
    · have HX := hid (HG.out.2.1 (by omega) c5)
      have t5 : decide (a + b + 1 < -2305843009213693952) = true := decide_eq_true (by omega)
      have t4 : (a + b + 1 == 2305843009213693952) = false := by rw [beq_eq_false_iff_ne]; omega
      clear c3 c4 c5 hh'
      go_wp2
      refine bodyPost_ret (v := .tuple #[.int .i64 0, .int .i64 (-1)]) (by simp [results, Tryz.results59, go_sem]) rfl ?_
      exact ⟨by rw [HX.out.1, HX.out.2], hb3⟩
    have HX := hid (HG.out.2.2 (by omega) c5)
    have t5 : decide (a + b + 1 < -2305843009213693952) = false := decide_eq_false (by omega)
    have k3 : h ≤ 2305843009213693952 := by omega
    have k4 : -2305843009213693952 ≤ h := by omega
    by_cases c6 : h = 2305843009213693952
    all_goals
      have HX2 : Hid (farD R = 2 * (a + b + 1) + 0 ∧ farS R = 0) := hid (by rw [← HH.out]; exact HX.out)
      clear HX
      (first | have t4 : (a + b + 1 == 2305843009213693952) = true := (by rw [beq_iff_eq]; omega) | have t4 : (a + b + 1 == 2305843009213693952) = false := (by rw [beq_eq_false_iff_ne]; omega))
      rw [hh'] at k3 k4
      clear c3 c4 c5 c6 hh'
      go_wp2
      refine bodyPost_ret (v := .tuple #[.int .i64 (farD R), .int .i64 0]) (by simp [results, Tryz.results59, go_sem, HX2.out.1]) rfl ?_
      exact ⟨by rw [HX2.out.2], hb3⟩
end
section
attribute [local go_sem ↓] Go.wp_at_zero Go.wp_at_succ

set_option maxRecDepth 8000 in
set_option maxHeartbeats 4000000 in
theorem rhasA_ok (o : O) (hk : check o = 0) (xs : List Int) (hl : (xs.length : Int) = o.n) (hn : ∀ k : Nat, I64 (gI xs (k : Int))) (A X : Option Addr) (cap xc : Nat) (w : World) (hx : Rd w w.heap.size A o.m) (hm : o.m.length ≤ 17592186044416) (hxs : Rd w w.heap.size X xs) :
    Calls Tryz.prog 33 #[.agg #[.int .i64 o.n, .bool o.e, .slice A o.m.length cap], .slice X xs.length xc] w (RHasRes o xs w) := by
  have HCK := hid (fun W (h : Rd W W.heap.size A o.m) => (show Calls Tryz.prog 56 #[.agg #[.int .i64 o.n, .bool o.e, .slice A o.m.length cap]] W fun e w' => e = .returned (.int .i64 0) ∧ Below W.heap.size W w' from by have := rcheck_any o A cap W h (by omega); rw [hk] at this; exact this))
  have HI : Hid (HasO o xs ↔ o.e = false ∧ HasM (2 * o.n).toNat o.m xs) := hid ⟨fun h => ⟨h.1, h.2.2⟩, fun h => ⟨h.1, hl, h.2⟩⟩
  obtain ⟨h0, h1, -, h3⟩ := check_ok hk
  obtain ⟨n, e, m⟩ := o
  dsimp only at *
  obtain ⟨N, hN⟩ : ∃ N : Nat, (N : Int) = 2 * n := ⟨(2 * n).toNat, by omega⟩
  have hN1 : N ≤ 128 := by omega
  have HM : Hid (e = false → Cells N m) := hid (fun q => by subst q; exact cells_of hN hk)
  have HDF := hid (fun i j (hi : i < N) (hj : j < N) W (h : Rd W W.heap.size X xs) => rdiffA_ok xs hn i j (by omega) (by omega) ⟨by omega, by omega⟩ X xc W h)
  rw [show (2 * n).toNat = N by omega] at HI
  have HNN := hid hN
  have HL := hid hl
  obtain ⟨p0, hb0, -⟩ := new_one w #[.int .i64 n, .bool e, .slice A m.length cap] 53
  replace hx := hx.up hb0
  replace hxs := hxs.up hb0
  have t2 : ((xs.length : Int) != n) = false := by rw [hl]; simp
  clear hk hN hl hn h3
  go_enter Tryz.func33, Tryz.ntmps33
  obtain ⟨x0, x1, x2, fx⟩ := octbox p0
  go_wp2_with fail
  clear x0 x1 x2 fx
  generalize w.alloc (Obj.cells #[.int .i64 n, .bool e, .slice A m.length cap] 53) = w1 at *
  (with_reducible refine (HCK.out w1 hx).mono ?_)
  clear HCK
  rintro e2 w2 ⟨rfl, hb2⟩
  replace p0 := p0.later hb2
  replace hx := hx.up hb2
  replace hxs := hxs.up hb2
  replace hb0 := bup hb0 hb2
  clear hb2
  obtain ⟨x0, x1, x2, fx⟩ := octbox p0
  cases e
  rotate_left
  · go_wp2
    go_ret
    exact ⟨false, rfl, by rw [HI.out]; simp, hb0⟩
  have hmc := HM.out rfl
  have HMC := hid hmc
  have hml : m.length = N * N := hmc.len
  have HML := hid hml
  clear HM hmc hml
  have hn0 : 0 ≤ 2 * n := by omega
  have hn1 : 2 * n ≤ 128 := by omega
  go_wp2
  clear t2 x0 x1 x2 fx
  go_loopw [6] (fun t wq => ∃ i : Nat, i ≤ N ∧ t = .int .i64 i ∧ Hid (HasTo N m xs (i * N)) ∧ Below w2.heap.size w2 wq) (fun t _ => N - (Go.RowKit.intOf t).toNat)
  case atStart => exact ⟨0, by omega, rfl, hid (fun _ _ _ _ h => by omega), Below.refl _ _⟩
  case round =>
    obtain ⟨i, hi, rfl, hto, hbr⟩ := hrel
    by_cases hlt : i < N
    · have hlti : (i : Int) < 2 * n := by have := HNN.out; omega
      go_wp2
      go_loopw [7] (fun t wq => ∃ j : Nat, j ≤ N ∧ t = .int .i64 j ∧ Hid (HasTo N m xs (i * N + j)) ∧ Below w2.heap.size w2 wq) (fun t _ => N - (Go.RowKit.intOf t).toNat)
      case atStart => exact ⟨0, by omega, rfl, hto, hbr⟩
      case round =>
        clear hto hbr
        obtain ⟨j, hj, rfl, hto, hbr⟩ := hrel
        by_cases hlt2 : j < N
        · have hltj : (j : Int) < 2 * n := by have := HNN.out; omega
          obtain ⟨x0, x1, x2, fx⟩ := octbox (p0.later hbr)
          obtain ⟨a1, a2, a3, a4, a5, a6⟩ := idxr_ok HNN.out hlt hlt2 hN1
          have hx1 := hx.up hbr
          have hml := HML.out
          obtain ⟨b, off, rfl, hB, hc⟩ := hx1.at_ a5 (by rw [hml]; exact a6)
          rw [a3] at hc
          rw [← hml] at a4 a6
          have HST := hid (fun k => hto.out.step hlt2 k)
          have HNO : Hid (HasM N m xs → Lets (G N m i j) (apartX xs i j)) := hid (fun h => h i j hlt hlt2)
          have HSE : Hid (i = j → Lets (G N m i j) (apartX xs i j)) := hid (fun q => by subst q; rw [apart_self, HMC.out.d hlt]; exact .inr (Int.le_refl _))
          have hg : gI m ((i : Int) * (2 * n) + (j : Int)) = G N m i j := by
            unfold gI G gI
            rw [a3, Int.toNat_natCast]
          rw [hg] at hc
          have HDI := hid (HDF.out i j hlt hlt2)
          have hxs1 := hxs.up hbr
          have HCB0 := hid (bndS (HMC.out.b hlt hlt2))
          clear hto hml hg hx1
          unfold Lets at HST HNO HSE
          generalize apartX xs i j = R at *
          generalize G N m i j = c at *
          by_cases hinf : c = 9223372036854775807
          · have t1 : (c == 9223372036854775807) = true := by rw [hinf]; rfl
            have hs := HST.out (.inl hinf)
            clear hinf
            go_wp2
            go_roundw
            case rel => exact ⟨j + 1, by omega, by go_num, hid hs, hbr⟩
            case measure => simp [Go.RowKit.intOf]; omega
          · have t1 : (c == 9223372036854775807) = false := by rw [beq_eq_false_iff_ne]; exact hinf
            by_cases hij : i = j
            · have t2 : ((i : Int) == (j : Int)) = true := by rw [hij]; simp
              have hs := HST.out (HSE.out hij)
              clear hij hinf
              go_wp2
              go_roundw
              case rel => exact ⟨j + 1, by omega, by go_num, hid hs, hbr⟩
              case measure => simp [Go.RowKit.intOf]; omega
            · have HCB : Hid (-4611686018427387904 ≤ c ∧ c ≤ 4611686018427387904) := hid (by rcases HCB0.out with h | h; exact absurd h hinf; exact h)
              have t2 : ((i : Int) == (j : Int)) = false := by rw [beq_eq_false_iff_ne]; omega
              clear hij
              go_wp2_with fail
              (with_reducible refine (HDI.out _ hxs1).mono ?_)
              rintro e5 w5 ⟨rfl, hb5⟩
              clear x0 x1 x2 fx hc
              have hbr5 := bup hbr hb5
              unfold farD farS
              by_cases hbig : 4611686018427387904 < R
              · have hno : ¬ HasM N m xs := fun h => by have h1 := HNO.out h; have h2 := HCB.out; omega
                have HNH := hid hno
                rw [if_pos hbig]
                obtain ⟨q, HQ⟩ : ∃ q, Hid ((if -4611686018427387904 ≤ R ∧ R ≤ 4611686018427387904 then R else 0) = q) := ⟨_, hid rfl⟩
                rw [HQ.out]
                clear hno hinf hbig
                go_wp2
                go_ret
                exact ⟨false, rfl, by rw [HI.out]; simp; exact HNH.out, bup hb0 hbr5⟩
              by_cases hlow : R < -4611686018427387904
              · have hs := HST.out (.inr (by have h2 := HCB.out; omega))
                rw [if_neg hbig, if_pos hlow]
                obtain ⟨q, HQ⟩ : ∃ q, Hid ((if -4611686018427387904 ≤ R ∧ R ≤ 4611686018427387904 then R else 0) = q) := ⟨_, hid rfl⟩
                rw [HQ.out]
                clear hinf hbig hlow
                go_wp2
                go_roundw
                case rel => exact ⟨j + 1, by omega, by go_num, hid hs, hbr5⟩
                case measure => simp [Go.RowKit.intOf]; omega
              rw [if_neg hbig, if_neg hlow, if_pos (by omega)]
              clear hbig hlow
              by_cases hle : R ≤ c
              · have t3 : decide (c < R) = false := decide_eq_false (by omega)
                have hs := HST.out (.inr hle)
                clear hle hinf
                go_wp2
                go_roundw
                case rel => exact ⟨j + 1, by omega, by go_num, hid hs, hbr5⟩
                case measure => simp [Go.RowKit.intOf]; omega
              · have t3 : decide (c < R) = true := decide_eq_true (by omega)
                have hno : ¬ HasM N m xs := fun h => by have := HNO.out h; omega
                have HNH := hid hno
                clear hno hle hinf
                go_wp2
                go_ret
                exact ⟨false, rfl, by rw [HI.out]; simp; exact HNH.out, bup hb0 hbr5⟩
        · have hltj : ¬ (j : Int) < 2 * n := by have := HNN.out; omega
          have hje : N = j := by omega
          subst hje
          have hs := hto.out.row
          clear hto
          go_wp2
          go_roundw
          case rel => exact ⟨i + 1, by omega, by go_num, hid hs, hbr⟩
          case measure => simp [Go.RowKit.intOf]; omega
    · have hlti : ¬ (i : Int) < 2 * n := by have := HNN.out; omega
      have hie : N = i := by omega
      subst hie
      have hall := hid (hto.out.all)
      clear hto
      go_wp2
      go_ret
      exact ⟨true, rfl, by rw [HI.out]; simp; exact hall.out, bup hb0 hbr⟩
end
end Go.Proofs.YtkncebcekhfnfaaGreat
