/-
  One variable between two numbers: its octagon, and what safe.Edge says at it.
  gnomonlaw17.SafeSums.
  gnomonlaw17.SafePlaces.
  gnomonref12.half, gnomonref12.Diff of numbers that are near.
  trans.Edge of a copy, where one point is known.
  gnomonlaw16.near: are these numbers near?
  gnomonref14.Drop at one variable, gnomonref14.Forget.
-/
import Derived.Test.YtnmpgijiimglcaaGreatSEdge2
import Derived.Test.YtnmpgijiimglcaaGreatBUA28
import Derived.Test.YtnmpgijiimglcaaGreatBUA40
import Derived.Test.YtnmpgijiimglcaaGreatBUA38
import Derived.Test.YtnmpgijiimglcaaGreatBUA27
import Derived.Test.YtnmpgijiimglcaaGreatBUA01
import Derived.Test.YtnmpgijiimglcaaGreatBUA00
import Derived.Test.YtnmpgijiimglcaaGreatBUA23
import Derived.Test.YtnmpgijiimglcaaGreatBUA31
import Derived.Test.YtnmpgijiimglcaaGreatBUA08
namespace Go.Proofs.YtnmpgijiimglcaaGreat
section
open Go.RowKit

theorem top2 : topM 2 2 = [0, 9223372036854775807, 9223372036854775807, 0] := by kernel_rfl
theorem b01 (x y v : Int) : boundM 2 0 1 v [0, x, y, 0] = [0, min x (near v), y, 0] := by unfold boundM; rw [boundV_min]; rfl
theorem b10 (x y v : Int) : boundM 2 1 0 v [0, x, y, 0] = [0, x, min y (near v), 0] := by unfold boundM; rw [boundV_min]; rfl
/-- The variable 0 lies between a and b. -/
def bo (a b : Int) : O := ⟨1, false, boundM 2 1 0 (-2 * a) (boundM 2 0 1 (2 * b) (topM 2 2))⟩
def Near60 (a : Int) : Prop := -1152921504606846976 ≤ a ∧ a ≤ 1152921504606846976
theorem two_or {i : Nat} (h : i < 2) : i = 0 ∨ i = 1 := by omega
section
variable {a b : Int} (ha : Near60 a) (hb : Near60 b)
include ha hb
theorem bo_eq : bo a b = ⟨1, false, [0, 2 * b, -2 * a, 0]⟩ := by
  unfold bo Near60 at *
  rw [top2, b01, b10]
  have e1 : near (2 * b) = 2 * b := by unfold near; split <;> (try split) <;> omega
  have e2 : near (-2 * a) = -2 * a := by unfold near; split <;> (try split) <;> omega
  rw [e1, e2, Int.min_eq_right (by omega), Int.min_eq_right (by omega)]
theorem bo_cells : Cells 2 [0, 2 * b, -2 * a, 0] := by
  unfold Near60 at *
  refine ⟨rfl, fun i j hi hj => ?_, fun i hi => ?_, fun i j hi hj => ?_⟩
  · rcases two_or hi with rfl | rfl <;> rcases two_or hj with rfl | rfl
    · exact (by decide : isBound 0 = true)
    · show isBound (2 * b) = true
      unfold isBound; rw [decide_eq_true_eq]; omega
    · show isBound (-2 * a) = true
      unfold isBound; rw [decide_eq_true_eq]; omega
    · exact (by decide : isBound 0 = true)
  · rcases two_or hi with rfl | rfl <;> rfl
  · rcases two_or hi with rfl | rfl <;> rcases two_or hj with rfl | rfl <;> rfl
theorem bo_ok : check (bo a b) = 0 := by
  rw [bo_eq ha hb]
  exact (OkO.of_cells (n := 1) (N := 2) (by omega) (by omega) (bo_cells ha hb)).ok
theorem bo_len : (bo a b).m.length = 4 := by rw [bo_eq ha hb]; rfl
theorem bo_close (hab : a ≤ b) : closeO (bo a b) = bo a b := by
  have hc := bo_cells ha hb
  rw [bo_eq ha hb]
  refine closeO_tight (N := 2) (by omega) ⟨hc, fun i j k hi hj hk => ?_, fun i hi => ?_, fun i j hi hj hij => ?_⟩
  · unfold Near60 at *
    rcases two_or hi with rfl | rfl <;> rcases two_or hj with rfl | rfl <;> rcases two_or hk with rfl | rfl
    · show LeS 0 0 0; unfold LeS; omega
    · show LeS 0 (2 * b) (-2 * a); unfold LeS; omega
    · show LeS (2 * b) 0 (2 * b); unfold LeS; omega
    · show LeS (2 * b) (2 * b) 0; unfold LeS; omega
    · show LeS (-2 * a) (-2 * a) 0; unfold LeS; omega
    · show LeS (-2 * a) 0 (-2 * a); unfold LeS; omega
    · show LeS 0 (-2 * a) (2 * b); unfold LeS; omega
    · show LeS 0 0 0; unfold LeS; omega
  · have f := fun {x : Int} (h : isBound x = true) => even_fin h
    rcases two_or hi with rfl | rfl
    · show even (2 * b) = 2 * b
      have h : isBound (2 * b) = true := hc.bd 0 1 (by omega) (by omega)
      have := f h
      omega
    · show even (-2 * a) = -2 * a
      have h : isBound (-2 * a) = true := hc.bd 1 0 (by omega) (by omega)
      have := f h
      omega
  · rcases two_or hi with rfl | rfl <;> rcases two_or hj with rfl | rfl
    · exact absurd rfl hij
    · show 2 * b ≤ half (plus (2 * b) (2 * b))
      exact half_twice_ge (hc.bd 0 1 (by omega) (by omega))
    · show -2 * a ≤ half (plus (-2 * a) (-2 * a))
      exact half_twice_ge (hc.bd 1 0 (by omega) (by omega))
    · exact absurd rfl hij
theorem bo_none (hab : b < a) : closeO (bo a b) = emptyO 1 := by
  have hbd := check_bounds (bo_ok ha hb)
  rw [bo_eq ha hb] at hbd ⊢
  refine closeO_none (closeM_neg (N := 2) rfl hbd (i := 0) (j := 1) (by omega) (by omega) ?_)
  show plus (2 * b) (-2 * a) < 0
  unfold Near60 at *
  unfold plus near
  repeat' split
  all_goals omega
theorem bo_var : opdR 2 (bo a b).m 0 0 = ⟨a, b, true, true⟩ := by
  rw [bo_eq ha hb]
  show sidesR (half (2 * b)) (half (-2 * a)) = _
  unfold Near60 at *
  have e1 : half (2 * b) = b := by
    have e : near (2 * b) = 2 * b := by unfold near; split <;> (try split) <;> omega
    unfold half; rw [e, if_neg (by omega)]; omega
  have e2 : half (-2 * a) = -a := by
    have e : near (-2 * a) = -2 * a := by unfold near; split <;> (try split) <;> omega
    unfold half; rw [e, if_neg (by omega)]; omega
  rw [e1, e2]
  unfold sidesR
  rw [if_neg (by omega), if_neg (by omega), decide_eq_false (by omega), decide_eq_false (by omega), Int.neg_neg]
  rfl
end
theorem fits4_box {a b k : Int} (hab : a ≤ b) (_hb : b ≤ 1152921504606846976) (_ha : -1152921504606846976 ≤ a) (_ik : I64 k) : fits4 ⟨a, b, true, true⟩ (oneR k) = (decide (-9223372036854775808 ≤ a + k) && decide (b + k ≤ 9223372036854775807)) := by
  unfold fits4
  rw [show loR ⟨a, b, true, true⟩ = a from rfl, show hiR ⟨a, b, true, true⟩ = b from rfl, show loR (oneR k) = k from rfl, show hiR (oneR k) = k from rfl]
  rw [decide_eq_false (show ¬ b < a by omega), decide_eq_false (show ¬ k < k by omega)]
  rw [show (!(false || false)) = true from rfl, Bool.true_and]
  unfold addW I64 at *
  rw [Bool.eq_iff_iff]
  simp only [Bool.and_eq_true, decide_eq_true_eq, fit_zero]
  unfold I64
  omega

theorem edge_big {n : Int} {m : List Int} {fr te arr op an bv bn : Int} {d : Nat} (hb : bv < 0) (hk : bn < -2305843009213693952 ∨ 2305843009213693952 < bn) : edgeO ⟨n, false, m⟩ ⟨fr, te, 4, (d : Int), arr, op, (d : Int), an, bv, bn⟩ = forgetO ⟨n, false, m⟩ d := by
  unfold edgeO
  dsimp only
  rw [if_neg (by omega), if_neg (by omega), if_neg (by omega), if_neg (by omega), if_neg (by omega), if_pos (by omega), if_neg (by omega)]
  rw [show decide ((4 : Int) = 5) = false from rfl]
  unfold addsO
  rw [if_pos (by omega), if_neg (by omega), if_neg (by decide)]
  unfold shiftO
  rw [if_pos (by omega)]
  simp
/-- KAdd of a variable and a far number, to the variable itself. -/
theorem tEdge_big (o : O) (fr te arr op an bv bn : Int) (d : Nat) (ia : I64 an) (ib : I64 bn) (hb : bv < 0) (hk : bn < -2305843009213693952 ∨ 2305843009213693952 < bn) (hd : (d : Int) < o.n) (A : Option Addr) (cap : Nat) (w : World) (hx : Rd w w.heap.size A o.m) (hm : o.m.length ≤ 17592186044416) (B : Nat) (hB : B ≤ w.heap.size) :
    Calls Tryz.prog 28 #[.agg #[.int .i64 o.n, .bool o.e, .slice A o.m.length cap], .agg #[.int .i64 fr, .int .i64 te, .int .i64 4, .int .i64 (d : Int), .int .i64 arr, .int .i64 op, .int .i64 (d : Int), .int .i64 an, .int .i64 bv, .int .i64 bn]] w (ErrSx w B (transAns o ⟨fr, te, 4, (d : Int), arr, op, (d : Int), an, bv, bn⟩) (transErr o ⟨fr, te, 4, (d : Int), arr, op, (d : Int), an, bv, bn⟩)) := by
  refine tEdge_any o fr te 4 (d : Int) arr op (d : Int) an bv bn A cap w hx hm B hB fun _ N cm Ac cc W hN hn hc _ hBW hsx hmc => ?_
  rw [edge_big hb hk]
  refine tedge_4vn o.n cm fr te d arr op d an bv bn ia ib (by omega) Ac cc W B hBW hsx _ fun W2 hB2 hx2 => ?_
  exact tadds_4 o.n cm fr te d arr op d an bv bn ia ib (by omega) hb Ac cc W2 B hB2 hx2 _ fun W3 hB3 hx3 =>
    (tshift_big ⟨o.n, false, cm⟩ (OkO.of_cells hN hn hc).ok d hd d bn hk Ac cc W3 (hx3.rd hB3) hmc).mono fun _ _ h => h.sx hB3

theorem ssum_edge {a b k : Int} (hab : a ≤ b) (ha : Near60 a) (hb : Near60 b) (ik : I64 k) (A : Option Addr) (cap : Nat) (W : World) (h : Rd W W.heap.size A (bo a b).m) :
    Calls Tryz.prog 43 #[.agg #[.int .i64 1, .bool false, .slice A 4 cap], .agg #[.int .i64 0, .int .i64 0, .int .i64 4, .int .i64 0, .int .i64 (-1), .int .i64 0, .int .i64 0, .int .i64 0, .int .i64 (-1), .int .i64 k], .int .i64 0] W fun e w' => e = .returned (.tuple #[.bool (decide (-9223372036854775808 ≤ a + k) && decide (b + k ≤ 9223372036854775807)), .int .i64 0]) ∧ Below W.heap.size W w' := by
  have hl := bo_len ha hb
  have hk := bo_ok ha hb
  have e0 : transErr (bo a b) (shE 4 0 k) = 0 := by
    unfold transErr
    rw [if_neg (by simp [hk]), if_pos (shE_right.2 ⟨by omega, by show (0 : Int) < 1; omega⟩)]
  have q := sedge_4 (bo a b) (transAns (bo a b) (shE 4 0 k)) 0 0 0 (-1) 0 0 0 (-1) k 0 (by omega) ik hk (by show (0 : Int) < 1; omega) (by unfold I64; omega) (closeO (bo a b)) rfl A cap W h (by rw [hl]; omega) (fun V hV hr => by
    by_cases hs : -2305843009213693952 ≤ k ∧ k ≤ 2305843009213693952
    · have h2 := tEdge_self (bo a b) 0 0 (-1) 0 0 (-1) k 0 (by unfold I64; omega) (by omega) hs (by show (0 : Int) < 1; omega) A cap V hr (by rw [hl]; omega) W.heap.size hV
      rw [show (⟨0, 0, 4, ((0 : Nat) : Int), -1, 0, ((0 : Nat) : Int), 0, -1, k⟩ : Edg) = shE 4 0 k from rfl, e0] at h2
      exact h2
    · have h2 := tEdge_big (bo a b) 0 0 (-1) 0 0 (-1) k 0 (by unfold I64; omega) ik (by omega) (by omega) (by show (0 : Int) < 1; omega) A cap V hr (by rw [hl]; omega) W.heap.size hV
      rw [show (⟨0, 0, 4, ((0 : Nat) : Int), -1, 0, ((0 : Nat) : Int), 0, -1, k⟩ : Edg) = shE 4 0 k from rfl, e0] at h2
      exact h2)
  rw [bo_close ha hb hab, show (2 * (bo a b).n).toNat = 2 from rfl, bo_var ha hb, show opdR 2 (bo a b).m (-1) k = oneR k from rfl, fits4_box hab hb.2 ha.1 ik, hl] at q
  exact q

def e10 : Edg := ⟨0, 0, 10, 0, 0, 0, 0, 0, -1, 0⟩
def e11 : Edg := ⟨0, 0, 11, -1, 0, 0, 0, 0, -1, 0⟩
theorem e10_right : rightT 1 e10 = true := by kernel_rfl
theorem e11_right : rightT 1 e11 = true := by kernel_rfl
theorem edge_10 (c : O) : edgeO c e10 = forgetO c 0 := by
  unfold edgeO e10
  dsimp only
  rw [if_neg (by omega), if_pos (by omega)]
  rfl
theorem edge_11 (c : O) : edgeO c e11 = c := by
  unfold edgeO e11
  dsimp only
  rw [if_neg (by omega), if_neg (by omega), if_neg (by omega), if_neg (by omega), if_neg (by omega), if_neg (by omega), if_neg (by omega)]
theorem place_bo {a b sz : Int} (ha : Near60 a) (hb : Near60 b) : ((closeO (bo a b)).e || placeB (opdR (2 * (closeO (bo a b)).n).toNat (closeO (bo a b)).m 0 0) sz) = (decide (b < a) || (decide (0 ≤ a) && decide (b < sz))) := by
  by_cases hab : a ≤ b
  · rw [bo_close ha hb hab, show (2 * (bo a b).n).toNat = 2 from rfl, bo_var ha hb, decide_eq_false (show ¬ b < a by omega)]
    rfl
  · rw [bo_none ha hb (by omega), decide_eq_true (show b < a by omega)]
    rfl
theorem splace_10 {a b : Int} (ha : Near60 a) (hb : Near60 b) (sz : Int) (A : Option Addr) (cap : Nat) (W : World) (h : Rd W W.heap.size A (bo a b).m) :
    Calls Tryz.prog 43 #[.agg #[.int .i64 1, .bool false, .slice A 4 cap], .agg #[.int .i64 0, .int .i64 0, .int .i64 10, .int .i64 0, .int .i64 0, .int .i64 0, .int .i64 0, .int .i64 0, .int .i64 (-1), .int .i64 0], .int .i64 sz] W fun e w' => e = .returned (.tuple #[.bool (decide (b < a) || (decide (0 ≤ a) && decide (b < sz))), .int .i64 0]) ∧ Below W.heap.size W w' := by
  have hl := bo_len ha hb
  have hk := bo_ok ha hb
  have e0 : transErr (bo a b) e10 = 0 := by
    unfold transErr
    rw [if_neg (by simp [hk]), if_pos (show rightT (bo a b).n e10 = true from e10_right)]
  have q := sedge_10 (bo a b) (transAns (bo a b) e10) 0 0 0 0 0 0 0 (-1) 0 sz (by omega) (by unfold I64; omega) hk (by show (0 : Int) < 1; omega) (by unfold I64; omega) (closeO (bo a b)) rfl A cap W h (by rw [hl]; omega) (fun V hV hr => by
    have h2 := tEdge_any (bo a b) 0 0 10 0 0 0 0 0 (-1) 0 A cap V hr (by rw [hl]; omega) W.heap.size hV (fun _ N cm Ac cc W2 hN hn hc _ hBW hsx hmc => by
      rw [show edgeO ⟨(bo a b).n, false, cm⟩ ⟨0, 0, 10, 0, 0, 0, 0, 0, -1, 0⟩ = forgetO ⟨(bo a b).n, false, cm⟩ 0 from edge_10 _]
      refine tedge_10 (bo a b).n cm 0 0 0 0 0 0 0 (-1) 0 (by unfold I64; omega) (by unfold I64; omega) Ac cc W2 W.heap.size hBW hsx _ fun W3 hB3 hx3 => ?_
      exact (tforgets_ok ⟨(bo a b).n, false, cm⟩ (OkO.of_cells hN hn hc).ok 0 (by show (0 : Int) < 1; omega) Ac cc W3 (hx3.rd hB3) hmc).mono fun _ _ h => h.sx hB3)
    rw [show (⟨0, 0, 10, 0, 0, 0, 0, 0, -1, 0⟩ : Edg) = e10 from rfl, e0] at h2
    exact h2)
  rw [place_bo ha hb, hl] at q
  exact q
theorem splace_11 {a b : Int} (ha : Near60 a) (hb : Near60 b) (sz : Int) (A : Option Addr) (cap : Nat) (W : World) (h : Rd W W.heap.size A (bo a b).m) :
    Calls Tryz.prog 43 #[.agg #[.int .i64 1, .bool false, .slice A 4 cap], .agg #[.int .i64 0, .int .i64 0, .int .i64 11, .int .i64 (-1), .int .i64 0, .int .i64 0, .int .i64 0, .int .i64 0, .int .i64 (-1), .int .i64 0], .int .i64 sz] W fun e w' => e = .returned (.tuple #[.bool (decide (b < a) || (decide (0 ≤ a) && decide (b < sz))), .int .i64 0]) ∧ Below W.heap.size W w' := by
  have hl := bo_len ha hb
  have hk := bo_ok ha hb
  have e0 : transErr (bo a b) e11 = 0 := by
    unfold transErr
    rw [if_neg (by simp [hk]), if_pos (show rightT (bo a b).n e11 = true from e11_right)]
  have q := sedge_11 (bo a b) (transAns (bo a b) e11) 0 0 (-1) 0 0 0 0 (-1) 0 sz (by omega) (by unfold I64; omega) hk (by show (0 : Int) < 1; omega) (by unfold I64; omega) (closeO (bo a b)) rfl A cap W h (by rw [hl]; omega) (fun V hV hr => by
    have h2 := tEdge_any (bo a b) 0 0 11 (-1) 0 0 0 0 (-1) 0 A cap V hr (by rw [hl]; omega) W.heap.size hV (fun _ N cm Ac cc W2 hN hn hc _ hBW hsx hmc => by
      rw [show edgeO ⟨(bo a b).n, false, cm⟩ ⟨0, 0, 11, -1, 0, 0, 0, 0, -1, 0⟩ = ⟨(bo a b).n, false, cm⟩ from edge_11 _]
      exact tedge_11 (bo a b).n cm 0 0 (-1) 0 0 0 0 (-1) 0 (by unfold I64; omega) (by unfold I64; omega) Ac cc W2 W.heap.size hBW hsx)
    rw [show (⟨0, 0, 11, -1, 0, 0, 0, 0, -1, 0⟩ : Edg) = e11 from rfl, e0] at h2
    exact h2)
  rw [place_bo ha hb, hl] at q
  exact q
end
section
open Go.RowKit
attribute [local go_sem ↓] Go.wp_at_zero Go.wp_at_succ

/-- What the program reckons for the ends. -/
theorem sums_low {a k : Int} (ha : Near60 a) (ik : I64 k) : (decide (0 ≤ k) || decide (wrap64 (-9223372036854775808 - k) ≤ a)) = decide (-9223372036854775808 ≤ a + k) := by
  unfold Near60 I64 at *
  rw [Bool.eq_iff_iff]
  simp only [Bool.or_eq_true, decide_eq_true_eq]
  by_cases h : 0 ≤ k
  · constructor
    · intro _; omega
    · intro _; exact .inl h
  · rw [IntWalk.wrap64_in _ (by omega)]
    omega
theorem sums_high {b k : Int} (hb : Near60 b) (ik : I64 k) : (decide (k ≤ 0) || decide (b ≤ wrap64 (9223372036854775807 - k))) = decide (b + k ≤ 9223372036854775807) := by
  unfold Near60 I64 at *
  rw [Bool.eq_iff_iff]
  simp only [Bool.or_eq_true, decide_eq_true_eq]
  by_cases h : k ≤ 0
  · constructor
    · intro _; omega
    · intro _; exact .inl h
  · rw [IntWalk.wrap64_in _ (by omega)]
    omega

set_option maxRecDepth 8000 in
set_option maxHeartbeats 4000000 in
theorem safeSums_walk (a b k : Int) (ia : I64 a) (ib : I64 b) (ik : I64 k) (w : World) :
    Calls Tryz.prog 16 #[.int .i64 a, .int .i64 b, .int .i64 k] w fun e w' => e = .returned (.bool true) ∧ Below w.heap.size w w' := by
  have u_len : (topM 2 2).length = 4 := topM_len 2 2
  have HI := hid (And.intro ia (And.intro ib ik))
  clear ia ib ik
  go_enter Tryz.func16, Tryz.ntmps16
  go_wp2_with fail
  (with_reducible refine (known17_any w).mono ?_)
  rintro e0 w0 ⟨rfl, hb0⟩
  cases g1 : decide (b < a) with
  | true =>
    go_wp2
    go_ret
    exact ⟨rfl, hb0⟩
  | false =>
  cases g2 : decide (a < -1152921504606846976) with
  | true =>
    go_wp2
    go_ret
    exact ⟨rfl, hb0⟩
  | false =>
  cases g3 : decide (1152921504606846976 < b) with
  | true =>
    go_wp2
    go_ret
    exact ⟨rfl, hb0⟩
  | false =>
  have hab : a ≤ b := by simp at g1; exact g1
  have hna : Near60 a := by simp at g2 g3; unfold Near60; omega
  have hnb : Near60 b := by simp at g2 g3; unfold Near60; omega
  have HE := hid (fun A cap W h => ssum_edge hab hna hnb HI.out.2.2 A cap W h)
  have HL := hid (bo_len hna hnb)
  have HM := hid (And.intro (sums_low hna HI.out.2.2) (sums_high hnb HI.out.2.2))
  have hw1 : wrap64 (2 * b) = 2 * b := IntWalk.wrap64_in _ (by unfold Near60 at hnb; omega)
  have hw2 : wrap64 (-2 * a) = -2 * a := IntWalk.wrap64_in _ (by unfold Near60 at hna; omega)
  clear hab hna hnb HI
  go_wp2_with fail
  refine (rtop_any 1 2 w0 (by omega) rfl).mono ?_
  rintro e1 w1 ⟨A1, c1, rfl, own1, hb1⟩
  dsimp only at own1 ⊢
  rw [u_len]
  have h1 : (boundM 2 0 1 (2 * b) (topM 2 2)).length = 4 := by rw [boundM_len, u_len]
  have HB1 := hid (rbound_ok 1 (topM 2 2) 2 0 1 w0.heap.size (2 * b) A1 c1 w1 own1 hb1.size rfl (by omega) u_len (by omega) (by omega) (by omega))
  rw [u_len] at HB1
  go_wp2_with fail
  refine HB1.out.mono ?_
  clear HB1
  rintro e2 w2 ⟨rfl, own2, hb2⟩
  have hb12 := hb1.trans hb2
  have HB1 := hid (rbound_ok 1 (boundM 2 0 1 (2 * b) (topM 2 2)) 2 1 0 w0.heap.size (-2 * a) A1 c1 w2 own2 hb12.size rfl (by omega) h1 (by omega) (by omega) (by omega))
  rw [h1] at HB1
  go_wp2_with fail
  refine HB1.out.mono ?_
  clear HB1 h1 u_len
  rintro e3 w3 ⟨rfl, own3, hb3⟩
  replace hb0 : Below w.heap.size w w3 := hb0.trans ((hb12.trans hb3).mono hb0.size)
  replace own3 : Own w3 w0.heap.size A1 c1 (bo a b).m := own3
  clear own1 own2 hb1 hb2 hb12 hb3 hw1 hw2
  have hr := own3.rd
  obtain ⟨p7, hbn, -⟩ := new_one w3 #[.int .i64 1, .bool false, .slice A1 4 c1] 24
  replace hr := hr.up hbn
  replace hb0 := bup hb0 hbn
  clear hbn own3
  obtain ⟨x0, x1, x2, fx⟩ := octbox p7
  go_wp2_with fail
  clear x0 x1 x2 fx
  (with_reducible refine (HE.out A1 c1 _ hr).mono ?_)
  rintro e4 w4 ⟨rfl, hb4⟩
  replace hb0 := bup hb0 hb4
  clear hb4 hr p7 HE HL
  have hm := HM.out
  clear HM
  obtain ⟨hm1, hm2⟩ := hm
  rw [← hm1, ← hm2]
  clear hm1 hm2
  cases t1 : decide (0 ≤ k) <;> cases t2 : decide (wrap64 (-9223372036854775808 - k) ≤ a) <;> cases t3 : decide (k ≤ 0) <;> cases t4 : decide (b ≤ wrap64 (9223372036854775807 - k))
  all_goals
    go_wp2
    go_ret
    exact ⟨rfl, hb0⟩
end
section
open Go.RowKit
attribute [local go_sem ↓] Go.wp_at_zero Go.wp_at_succ

set_option maxRecDepth 8000 in
set_option maxHeartbeats 8000000 in
theorem safePlaces_walk (a b sz : Int) (st : Bool) (ia : -2147483648 ≤ a ∧ a ≤ 2147483647) (ib : -2147483648 ≤ b ∧ b ≤ 2147483647) (w : World) :
    Calls Tryz.prog 17 #[.int .i32 a, .int .i32 b, .int .i64 sz, .bool st] w fun e w' => e = .returned (.bool true) ∧ Below w.heap.size w w' := by
  have u_len : (topM 2 2).length = 4 := topM_len 2 2
  have hna : Near60 a := by unfold Near60; omega
  have hnb : Near60 b := by unfold Near60; omega
  have HE10 := hid (fun A cap W h => splace_10 hna hnb sz A cap W h)
  have HE11 := hid (fun A cap W h => splace_11 hna hnb sz A cap W h)
  have hw1 : wrap64 (2 * b) = 2 * b := IntWalk.wrap64_in _ (by omega)
  have hw2 : wrap64 (-2 * a) = -2 * a := IntWalk.wrap64_in _ (by omega)
  have hw3 : wrap64 a = a := IntWalk.wrap64_in _ (by omega)
  have hw4 : wrap64 b = b := IntWalk.wrap64_in _ (by omega)
  clear hna hnb ia ib
  go_enter Tryz.func17, Tryz.ntmps17
  go_wp2_with fail
  (with_reducible refine (known17_any w).mono ?_)
  rintro e0 w0 ⟨rfl, hb0⟩
  go_wp2_with fail
  refine (rtop_any 1 2 w0 (by omega) rfl).mono ?_
  rintro e1 w1 ⟨A1, c1, rfl, own1, hb1⟩
  dsimp only at own1 ⊢
  rw [u_len]
  have h1 : (boundM 2 0 1 (2 * b) (topM 2 2)).length = 4 := by rw [boundM_len, u_len]
  have HB1 := hid (rbound_ok 1 (topM 2 2) 2 0 1 w0.heap.size (2 * b) A1 c1 w1 own1 hb1.size rfl (by omega) u_len (by omega) (by omega) (by omega))
  rw [u_len] at HB1
  go_wp2_with fail
  refine HB1.out.mono ?_
  clear HB1
  rintro e2 w2 ⟨rfl, own2, hb2⟩
  have hb12 := hb1.trans hb2
  have HB1 := hid (rbound_ok 1 (boundM 2 0 1 (2 * b) (topM 2 2)) 2 1 0 w0.heap.size (-2 * a) A1 c1 w2 own2 hb12.size rfl (by omega) h1 (by omega) (by omega) (by omega))
  rw [h1] at HB1
  go_wp2_with fail
  refine HB1.out.mono ?_
  clear HB1 h1 u_len
  rintro e3 w3 ⟨rfl, own3, hb3⟩
  replace hb0 : Below w.heap.size w w3 := hb0.trans ((hb12.trans hb3).mono hb0.size)
  have hg : w.heap.size ≤ w3.heap.size := hb0.size
  replace own3 : Own w3 w0.heap.size A1 c1 (bo a b).m := own3
  clear own1 own2 hb1 hb2 hb12 hb3 hw1 hw2 hw3
  cases st with
  | false =>
    clear HE11
    obtain ⟨p9, p10, hbn, -⟩ := new_two w3 #[.int .i64 1, .bool false, .slice A1 4 c1] #[.int .i64 0, .int .i64 0, .int .i64 10, .int .i64 0, .int .i64 0, .int .i64 0, .int .i64 0, .int .i64 0, .int .i64 (-1), .int .i64 0] 24 44
    replace own3 := own3.below hbn
    replace hb0 := bup hb0 hbn
    clear hbn
    obtain ⟨x0, x1, x2, fx⟩ := octbox p9
    obtain ⟨y0, y1, y2, y3, y4, y5, y6, y7, y8, y9, fy⟩ := edgbox p10
    have HQ : Hid ((decide (b < a) || (decide (0 ≤ a) && decide (b < sz))) = (decide (b < a) || (decide (0 ≤ a) && decide (b < sz)))) := hid rfl
    go_wp2_with fail
    clear x0 x1 x2 fx y0 y1 y2 y3 y4 y5 y6 y7 y8 y9 fy
    (with_reducible refine (HE10.out A1 c1 _ own3.rd).mono ?_)
    rintro e4 w4 ⟨rfl, hb4⟩
    replace hb0 := bup hb0 hb4
    clear hb4 own3 p9 p10 HE10
    cases t1 : decide (b < a) <;> cases t2 : decide (0 ≤ a) <;> cases t3 : decide (b < sz)
    all_goals
      go_wp2
      go_ret
      exact ⟨rfl, hb0⟩
  | true =>
    clear HE10
    obtain ⟨p9, p10, hbn, -⟩ := new_two w3 #[.int .i64 1, .bool false, .slice A1 4 c1] #[.int .i64 0, .int .i64 0, .int .i64 11, .int .i64 (-1), .int .i64 0, .int .i64 0, .int .i64 0, .int .i64 0, .int .i64 (-1), .int .i64 0] 24 44
    replace own3 := own3.below hbn
    replace hb0 := bup hb0 hbn
    clear hbn
    obtain ⟨x0, x1, x2, fx⟩ := octbox p9
    obtain ⟨y0, y1, y2, y3, y4, y5, y6, y7, y8, y9, fy⟩ := edgbox p10
    have HQ : Hid ((decide (b < a) || (decide (0 ≤ a) && decide (b < sz))) = (decide (b < a) || (decide (0 ≤ a) && decide (b < sz)))) := hid rfl
    go_wp2_with fail
    clear x0 x1 x2 fx y0 y1 y2 y3 y4 y5 y6 y7 y8 y9 fy
    (with_reducible refine (HE11.out A1 c1 _ own3.rd).mono ?_)
    rintro e4 w4 ⟨rfl, hb4⟩
    replace hb0 := bup hb0 hb4
    clear hb4 own3 p9 p10 HE11
    cases t1 : decide (b < a) <;> cases t2 : decide (0 ≤ a) <;> cases t3 : decide (b < sz)
    all_goals
      go_wp2
      go_ret
      exact ⟨rfl, hb0⟩
end
section
open Go.RowKit
attribute [local go_sem ↓] Go.wp_at_zero Go.wp_at_succ

def NearV (v : Int) : Prop := -1099511627776 ≤ v ∧ v ≤ 1099511627776
theorem halves (v : Int) : ∃ q r : Int, Int.tdiv v 2 = q ∧ Int.tmod v 2 = r ∧ 2 * q + r = v ∧ -1 ≤ r ∧ r ≤ 1 := by
  refine ⟨_, _, rfl, rfl, Int.mul_tdiv_add_tmod v 2, ?_, ?_⟩
  · obtain ⟨n, rfl | rfl⟩ := Int.eq_nat_or_neg v
    · rw [Int.tmod_eq_emod_of_nonneg (by omega)]; omega
    · rw [Int.neg_tmod, Int.tmod_eq_emod_of_nonneg (by omega)]; omega
  · obtain ⟨n, rfl | rfl⟩ := Int.eq_nat_or_neg v
    · rw [Int.tmod_eq_emod_of_nonneg (by omega)]; omega
    · rw [Int.neg_tmod, Int.tmod_eq_emod_of_nonneg (by omega)]; omega
def HalfRes (u : Int) (w : World) (e : Ending) (w' : World) : Prop := ∃ h r, e = .returned (.tuple #[.int .i64 h, .int .i64 r]) ∧ 2 * h + r = u ∧ 0 ≤ r ∧ r ≤ 1 ∧ Below w.heap.size w w'
set_option maxHeartbeats 1000000 in
theorem half_ok (v : Int) (hv : NearV v) (b : Bool) (w : World) : Calls Tryz.prog 128 #[.int .i64 v, .bool b] w (HalfRes (if b then -v else v) w) := by
  unfold NearV at hv
  obtain ⟨q, r, hq, hr, hs, h1, h2⟩ := halves v
  have q0 : -9223372036854775808 ≤ q - 1 := by omega
  have q1 : q + 1 ≤ 9223372036854775807 := by omega
  have q2 : -9223372036854775808 ≤ -q - 1 := by omega
  cases b with
  | false =>
    by_cases hr0 : r < 0
    · have HX : Hid (∃ h r', 2 * h + r' = v ∧ 0 ≤ r' ∧ r' ≤ 1 ∧ h = q - 1 ∧ r' = 1) := hid ⟨q - 1, 1, by omega, by omega, by omega, rfl, rfl⟩
      have t1 : decide (r < 0) = true := by rw [decide_eq_true_eq]; exact hr0
      clear hr0
      go_enter Tryz.func128, Tryz.ntmps128
      go_wp2
      refine bodyPost_ret (v := .tuple #[.int .i64 (q - 1), .int .i64 1]) (by simp [results, Tryz.results128, go_sem]) rfl ?_
      obtain ⟨h, r', a, b, c, rfl, rfl⟩ := HX.out
      exact ⟨_, _, rfl, a, b, c, Below.refl _ _⟩
    · have t1 : decide (r < 0) = false := by rw [decide_eq_false_iff_not]; exact hr0
      have HX : Hid (2 * q + r = v ∧ 0 ≤ r ∧ r ≤ 1) := hid ⟨by omega, by omega, by omega⟩
      clear hr0
      go_enter Tryz.func128, Tryz.ntmps128
      go_wp2
      refine bodyPost_ret (v := .tuple #[.int .i64 q, .int .i64 r]) (by simp [results, Tryz.results128, go_sem]) rfl ?_
      exact ⟨_, _, rfl, HX.out.1, HX.out.2.1, HX.out.2.2, Below.refl _ _⟩
  | true =>
    by_cases hr0 : -r < 0
    · have HX : Hid (∃ h r', 2 * h + r' = -v ∧ 0 ≤ r' ∧ r' ≤ 1 ∧ h = -q - 1 ∧ r' = 1) := hid ⟨-q - 1, 1, by omega, by omega, by omega, rfl, rfl⟩
      have t1 : decide (-r < 0) = true := by rw [decide_eq_true_eq]; exact hr0
      have t2 : decide (0 < r) = true := by rw [decide_eq_true_eq]; omega
      clear hr0
      go_enter Tryz.func128, Tryz.ntmps128
      go_wp2
      refine bodyPost_ret (v := .tuple #[.int .i64 (-q - 1), .int .i64 1]) (by simp [results, Tryz.results128, go_sem]) rfl ?_
      obtain ⟨h, r', a, b, c, rfl, rfl⟩ := HX.out
      exact ⟨_, _, rfl, a, b, c, Below.refl _ _⟩
    · have t1 : decide (-r < 0) = false := by rw [decide_eq_false_iff_not]; exact hr0
      have t2 : decide (0 < r) = false := by rw [decide_eq_false_iff_not]; omega
      have HX : Hid (2 * (-q) + -r = -v ∧ 0 ≤ -r ∧ -r ≤ 1) := hid ⟨by omega, by omega, by omega⟩
      clear hr0
      go_enter Tryz.func128, Tryz.ntmps128
      go_wp2
      refine bodyPost_ret (v := .tuple #[.int .i64 (-q), .int .i64 (-r)]) (by simp [results, Tryz.results128, go_sem]) rfl ?_
      exact ⟨_, _, rfl, HX.out.1, HX.out.2.1, HX.out.2.2, Below.refl _ _⟩

set_option maxRecDepth 8000 in
set_option maxHeartbeats 4000000 in
theorem rdiffp_ok (xs : List Int) (hn : ∀ k : Nat, NearV (gI xs (k : Int))) (i j : Nat) (hi : i / 2 < xs.length) (hj : j / 2 < xs.length) (hm : i ≤ 1000 ∧ j ≤ 1000) (X : Option Addr) (xc : Nat) (w : World) (hx : Rd w w.heap.size X xs) :
    Calls Tryz.prog 66 #[.slice X xs.length xc, .int .i64 (i : Int), .int .i64 (j : Int)] w fun e w' => e = .returned (.tuple #[.int .i64 (apartX xs i j), .int .i64 0]) ∧ Below w.heap.size w w' := by
  obtain ⟨xi, hxi⟩ : ∃ v, v = gI xs ((i / 2 : Nat) : Int) := ⟨_, rfl⟩
  obtain ⟨xj, hxj⟩ : ∃ v, v = gI xs ((j / 2 : Nat) : Int) := ⟨_, rfl⟩
  obtain ⟨i2, hi2⟩ : ∃ v, v = i / 2 := ⟨_, rfl⟩
  obtain ⟨j2, hj2⟩ : ∃ v, v = j / 2 := ⟨_, rfl⟩
  obtain ⟨bi, hbi⟩ : ∃ b : Bool, ((((i % 2 : Nat)) : Int) == 1) = b := ⟨_, rfl⟩
  obtain ⟨bj, hbj⟩ : ∃ b : Bool, ((((j % 2 : Nat)) : Int) == 0) = b := ⟨_, rfl⟩
  have HR : Hid (apartX xs i j = (if bi then -xi else xi) + (if bj then -xj else xj)) := hid (by
    unfold apartX sideX
    rw [← hxi, ← hxj]
    have ei : (i % 2 = 0 ∧ bi = false) ∨ (i % 2 = 1 ∧ bi = true) := by
      rcases Nat.mod_two_eq_zero_or_one i with h | h
      · left; exact ⟨h, by rw [← hbi, h]; rfl⟩
      · right; exact ⟨h, by rw [← hbi, h]; rfl⟩
    have ej : (j % 2 = 0 ∧ bj = true) ∨ (j % 2 = 1 ∧ bj = false) := by
      rcases Nat.mod_two_eq_zero_or_one j with h | h
      · left; exact ⟨h, by rw [← hbj, h]; rfl⟩
      · right; exact ⟨h, by rw [← hbj, h]; rfl⟩
    rcases ei with ⟨e1, e2⟩ | ⟨e1, e2⟩ <;> rcases ej with ⟨e3, e4⟩ | ⟨e3, e4⟩ <;> rw [e2, e4] <;> simp [e1, e3] <;> omega)
  generalize apartX xs i j = R at *
  have ni : NearV xi := hxi ▸ hn _
  have nj : NearV xj := hxj ▸ hn _
  rw [← hi2] at hi hxi
  rw [← hj2] at hj hxj
  obtain ⟨g1, o1, rfl, hg1, ci⟩ := hx i2 hi
  obtain ⟨_, _, e1, -, cj⟩ := hx j2 hj
  injection e1 with e1; injection e1 with e1 e2; subst e1; subst e2
  rw [← hxi] at ci
  rw [← hxj] at cj
  have hi' : (i2 : Int) < (xs.length : Int) := by omega
  have hj' : (j2 : Int) < (xs.length : Int) := by omega
  have di1 : Int.tdiv (i : Int) 2 = (i2 : Int) := by rw [Int.tdiv_eq_ediv_of_nonneg (by omega)]; omega
  have di2 : (i : Int) / 2 = (i2 : Int) := by omega
  have dj1 : Int.tdiv (j : Int) 2 = (j2 : Int) := by rw [Int.tdiv_eq_ediv_of_nonneg (by omega)]; omega
  have dj2 : (j : Int) / 2 = (j2 : Int) := by omega
  have mi1 : Int.tmod (i : Int) 2 = ((i % 2 : Nat) : Int) := by rw [Int.tmod_eq_emod_of_nonneg (by omega)]; omega
  have mi2 : (i : Int) % 2 = ((i % 2 : Nat) : Int) := by omega
  have mj1 : Int.tmod (j : Int) 2 = ((j % 2 : Nat) : Int) := by rw [Int.tmod_eq_emod_of_nonneg (by omega)]; omega
  have mj2 : (j : Int) % 2 = ((j % 2 : Nat) : Int) := by omega
  clear hi2 hj2 hxi hxj hn hi hj hx
  have hi3 : i % 2 ≤ 1 := by omega
  have hj3 : j % 2 ≤ 1 := by omega
  generalize i % 2 = ri at *
  generalize j % 2 = rj at *
  have Hi := hid (half_ok xi ni bi)
  have Hj := hid (half_ok xj nj bj)
  have NI := hid ni
  have NJ := hid nj
  clear ni nj
  go_enter Tryz.func66, Tryz.ntmps66
  go_upto_region 1 with fail
  have fi := later ci
  have fj := later cj
  clear ci cj
  refine wp_region_flow 11 (fun X => Below w.heap.size w X) (by kernel_rfl) (by kernel_rfl) (Below.refl _ _).drew ?_
  (repeat (first | (refine Flow.skip (by rfl) ?_; simp only [Act.put, List.setIfInBounds_toArray, List.set_cons_zero, List.set_cons_succ]) | (refine' Flow.take _ (by rfl) (fun W hW R hR => ?_) ?_; rotate_left; (go_simp; (try go_bits); with_reducible exact hR); simp only [Act.put, List.setIfInBounds_toArray, List.set_cons_zero, List.set_cons_succ])))
  intro w3 hb3
  clear fi fj
  go_wp2_with fail
  (with_reducible refine (Hi.out w3).mono ?_)
  rintro e4 w4 ⟨a, ra, rfl, ha, ra0, ra1, hb4⟩
  replace hb3 := bup hb3 hb4
  clear hb4
  go_wp2_with fail
  (with_reducible refine (Hj.out w4).mono ?_)
  rintro e5 w5 ⟨b, rb, rfl, hb, rb0, rb1, hb5⟩
  replace hb3 := bup hb3 hb5
  clear hb5 Hi Hj
  have ba : -1099511627777 ≤ a ∧ a ≤ 1099511627777 := by
    have := NI.out; unfold NearV at this
    cases bi <;> simp at ha <;> omega
  have bb : -1099511627777 ≤ b ∧ b ≤ 1099511627777 := by
    have := NJ.out; unfold NearV at this
    cases bj <;> simp at hb <;> omega
  rw [← ha, ← hb] at HR
  obtain ⟨a0, a1⟩ := ba
  obtain ⟨b0, b1⟩ := bb
  clear ha hb
  have t1 : decide (2305843009213693952 - b < a) = false := by rw [decide_eq_false_iff_not]; omega
  have t2 : decide (a < -2305843009213693953 - b) = false := by rw [decide_eq_false_iff_not]; omega
  have e1 : ra = 0 ∨ ra = 1 := by omega
  have e2 : rb = 0 ∨ rb = 1 := by omega
  clear ra0 ra1 rb0 rb1 mi1 mi2 mj1 mj2 hbi hbj di1 di2 dj1 dj2
  rcases e1 with rfl | rfl <;> rcases e2 with rfl | rfl
  all_goals go_wp2
  all_goals (first
    | (exfalso; omega)
    | (refine bodyPost_ret (v := .tuple #[.int .i64 R, .int .i64 0]) (by simp [results, Tryz.results66, go_sem]; have := HR.out; omega) rfl ?_; exact ⟨rfl, hb3⟩)
    | (refine bodyPost_ret (v := .tuple #[.int .i64 R, .int .i64 0]) (by have := HR.out; simp [results, Tryz.results66, go_sem, this]; try omega) rfl ?_; exact ⟨rfl, hb3⟩))
end
section
open Go.RowKit

theorem near_side {xs : List Int} (hn : ∀ k : Nat, NearV (gI xs (k : Int))) : SmallX xs := fun a => by
  have := hn (a / 2)
  unfold NearV at this
  unfold sideX
  split <;> omega
theorem near_set {xs : List Int} (hn : ∀ k : Nat, NearV (gI xs (k : Int))) (d s : Nat) : ∀ k : Nat, NearV (gI (xs.set d (gI xs (s : Int))) (k : Int)) := fun k => by
  have e : gI (xs.set d (gI xs (s : Int))) (k : Int) = gI xs (s : Int) ∨ gI (xs.set d (gI xs (s : Int))) (k : Int) = gI xs (k : Int) := by
    unfold gI
    simp only [Int.toNat_natCast, List.getD_eq_getElem?_getD, List.getElem?_set]
    by_cases h : d = k
    · subst h
      by_cases h2 : d < xs.length
      · left; simp [h2]
      · right; simp [h2]
    · right; simp [h]
  rcases e with e | e <;> rw [e] <;> exact hn _
theorem side_two (xs : List Int) (s : Nat) : sideX xs (2 * s) = gI xs (s : Int) := by
  unfold sideX
  rw [if_pos (by omega), show 2 * s / 2 = s by omega]
theorem right_copy {d s : Nat} (hd : d < 3) (hs : s < 3) : rightT 3 ⟨0, 0, 2, (d : Int), -1, 0, (s : Int), 0, -1, 0⟩ = true := by
  have h1 : d = 0 ∨ d = 1 ∨ d = 2 := by omega
  have h2 : s = 0 ∨ s = 1 ∨ s = 2 := by omega
  rcases h1 with rfl | rfl | rfl <;> rcases h2 with rfl | rfl | rfl <;> decide
theorem edge_copy {o : O} {d s : Nat} (hne : s ≠ d) : edgeO o ⟨0, 0, 2, (d : Int), -1, 0, (s : Int), 0, -1, 0⟩ = linkO o (2 * d) (2 * s) 0 := by
  unfold edgeO
  dsimp only
  rw [if_neg (by omega), if_neg (by omega), if_neg (by omega), if_pos rfl, if_neg (by omega), if_neg (by omega)]
  simp
theorem tcopy_pt (xs : List Int) (hl : xs.length = 3) (hn : ∀ k : Nat, NearV (gI xs (k : Int))) (d s : Nat) (hd : d < 3) (hs : s < 3) (hne : s ≠ d) (A : Option Addr) (cap : Nat) (w : World) (hx : Rd w w.heap.size A (ptO 3 xs).m) (B : Nat) (hB : B ≤ w.heap.size) :
    Calls Tryz.prog 28 #[.agg #[.int .i64 3, .bool false, .slice A (ptO 3 xs).m.length cap], .agg #[.int .i64 0, .int .i64 0, .int .i64 2, .int .i64 (d : Int), .int .i64 (-1), .int .i64 0, .int .i64 (s : Int), .int .i64 0, .int .i64 (-1), .int .i64 0]] w (ErrSx w B (ptO 3 (xs.set d (gI xs (s : Int)))) 0) := by
  have hsx := near_side hn
  have ok : OkO 3 (ptO 3 xs) := pt_ok (N := 6) (by omega) (by omega) hsx
  have hk := ok.ok
  have hc : closeO (ptO 3 xs) = ptO 3 xs := pt_close (N := 6) (by omega) (by omega) hsx
  have hm := OkO.small ok
  have e0 : transErr (ptO 3 xs) ⟨0, 0, 2, (d : Int), -1, 0, (s : Int), 0, -1, 0⟩ = 0 := by
    unfold transErr
    rw [if_neg (by simpa using hk)]
    exact if_pos (right_copy hd hs)
  have e1 : transAns (ptO 3 xs) ⟨0, 0, 2, (d : Int), -1, 0, (s : Int), 0, -1, 0⟩ = ptO 3 (xs.set d (gI xs (s : Int))) := by
    unfold transAns
    rw [if_pos e0]
    unfold transO
    rw [hc, if_neg (by unfold ptO; simp), edge_copy hne]
    have h := pt_link (N := 6) (n := 3) (x := xs) (by omega) (by omega) hsx (by omega) (d := d) (j := 2 * s) (by omega) (by omega) (by omega) (k := 0) (by rw [side_two, Int.add_zero]; exact near_side (near_set hn d s))
    rw [h, side_two, Int.add_zero]
  have h := tEdge_any (ptO 3 xs) 0 0 2 (d : Int) (-1) 0 (s : Int) 0 (-1) 0 A cap w hx hm B hB (fun _ N cm Ac cc W _ _ _ hcl hBW hsxW hmc => by
    rw [hc] at hcl
    rw [edge_copy hne]
    have hko : check ⟨(ptO 3 xs).n, false, cm⟩ = 0 := by rw [← hcl]; exact hk
    refine tedge_2v (ptO 3 xs).n cm 0 0 (d : Int) (-1) 0 0 (-1) 0 (by unfold I64; omega) (by unfold I64; omega) s (by omega) (by omega) Ac cc W B hBW hsxW _ fun W2 hB2 hx2 => ?_
    have h2 := tequals_ok ⟨(ptO 3 xs).n, false, cm⟩ hko d (2 * s) (show (d : Int) < 3 by omega) (show ((2 * s : Nat) : Int) < 2 * 3 by omega) Ac cc W2 (hx2.rd hB2) hmc
    rw [Int.natCast_mul] at h2
    exact h2.mono fun _ _ h => h.sx hB2)
  rw [e0, e1] at h
  exact h
end
section
open Go.RowKit
attribute [local go_sem ↓] Go.wp_at_zero Go.wp_at_succ

def NearRes (xs : List Int) (w : World) (e : Ending) (w' : World) : Prop := ∃ b, e = .returned (.bool b) ∧ (b = true ↔ ∀ k : Nat, NearV (gI xs (k : Int))) ∧ Below w.heap.size w w'
theorem near_out (xs : List Int) (k : Nat) (h : xs.length ≤ k) : NearV (gI xs (k : Int)) := by
  have : gI xs (k : Int) = 0 := by unfold gI; simp [List.getD_eq_getElem?_getD, h]
  rw [this]; unfold NearV; omega
set_option maxRecDepth 8000 in
set_option maxHeartbeats 2000000 in
theorem near_ok (xs : List Int) (X : Option Addr) (xc : Nat) (w : World) (hx : Rd w w.heap.size X xs) (hm : xs.length ≤ 17592186044416) : Calls Tryz.prog 26 #[.slice X xs.length xc] w (NearRes xs w) := by
  go_enter Tryz.func26, Tryz.ntmps26
  go_wp2
  go_loopw [3] (fun t wq => wq = w ∧ ∃ i : Nat, i ≤ xs.length ∧ t = .int .i64 i ∧ ∀ k, k < i → NearV (gI xs (k : Int))) (fun t _ => xs.length - (Go.RowKit.intOf t).toNat)
  case atStart => exact ⟨rfl, 0, by omega, rfl, fun k h => by omega⟩
  case round =>
    obtain ⟨rfl, i, hi, rfl, hnr⟩ := hrel
    have HN := hid hnr
    clear hnr
    by_cases hlt : i < xs.length
    · have hlti : (i : Int) < (xs.length : Int) := by omega
      obtain ⟨g1, o1, rfl, hg1, ci⟩ := hx i hlt
      obtain ⟨v, hv⟩ : ∃ v, v = gI xs (i : Int) := ⟨_, rfl⟩
      rw [← hv] at ci
      have HV := hid hv
      clear hv
      by_cases h1 : 1099511627776 < v
      · have HF : Hid (¬ ∀ k : Nat, NearV (gI xs (k : Int))) := hid (fun h => by have := h i; rw [← HV.out] at this; unfold NearV at this; omega)
        have t1 : decide (1099511627776 < v) = true := by rw [decide_eq_true_eq]; exact h1
        clear h1
        go_wp2
        go_ret
        exact ⟨false, rfl, ⟨fun h => by simp at h, fun h => absurd h HF.out⟩, Below.refl _ _⟩
      · have t1 : decide (1099511627776 < v) = false := by rw [decide_eq_false_iff_not]; exact h1
        by_cases h2 : v < -1099511627776
        · have HF : Hid (¬ ∀ k : Nat, NearV (gI xs (k : Int))) := hid (fun h => by have := h i; rw [← HV.out] at this; unfold NearV at this; omega)
          have t2 : decide (v < -1099511627776) = true := by rw [decide_eq_true_eq]; exact h2
          clear h1 h2
          go_wp2
          go_ret
          exact ⟨false, rfl, ⟨fun h => by simp at h, fun h => absurd h HF.out⟩, Below.refl _ _⟩
        · have t2 : decide (v < -1099511627776) = false := by rw [decide_eq_false_iff_not]; exact h2
          have HG : Hid (NearV (gI xs (i : Int))) := hid (by rw [← HV.out]; unfold NearV; omega)
          clear h1 h2
          go_wp2
          go_roundw
          case rel => exact ⟨by first | rfl | trivial, i + 1, by omega, by go_num, fun k h => if e : k = i then e ▸ HG.out else HN.out k (by omega)⟩
          case measure => simp [Go.RowKit.intOf]; omega
    · obtain rfl : i = xs.length := by omega
      go_wp2
      go_ret
      exact ⟨true, rfl, ⟨fun _ k => if h : k < xs.length then HN.out k h else near_out xs k (by omega), fun _ => rfl⟩, Below.refl _ _⟩
end
section
open Go.RowKit
attribute [local go_sem ↓] Go.wp_at_zero Go.wp_at_succ

theorem range_ext {L : Nat} {f g : Nat → Int} (h : ∀ p, p < L → f p = g p) : (List.range L).map f = (List.range L).map g := List.map_congr_left fun p hp => h p (List.mem_range.1 hp)
end
end Go.Proofs.YtnmpgijiimglcaaGreat
