/-
  widen.above, its two functions, the two closures of Widen and Narrow; the reference's step.
-/
import Derived.Test.YtanbplidigokgaaOwn
import Derived.Test.YtanbplidigokgaaRefBound
namespace Go.Proofs.Ytanbplidigokgaa
open Go.RowKit

def fOf (tw : Bool) (s : Int) : Int := if tw then plus s s else near s
def aboveGo (f : Int → Int) (y : Int) (out : Int) (s : Int) : Int := if y ≤ f s then min out (f s) else out
def aboveF (f : Int → Int) (steps : List Int) (y : Int) : Int := steps.foldl (aboveGo f y) 9223372036854775807
theorem aboveF_take (f : Int → Int) (steps : List Int) (y : Int) {k : Nat} (h : k < steps.length) : aboveF f (steps.take (k + 1)) y = aboveGo f y (aboveF f (steps.take k) y) (gI steps k) := by
  unfold aboveF
  rw [show steps.take (k + 1) = steps.take k ++ [gI steps k] by rw [List.take_succ_eq_append_getElem h]; unfold gI; simp [h], List.foldl_append]; rfl

set_option maxHeartbeats 400000 in
theorem same_any (a : Int) (w : World) :
    Calls Try.prog 41 #[.int .i64 a] w fun e w' => e = .returned (.int .i64 (near a)) ∧ w = w' := by
  go_enter Try.func41, Try.ntmps41
  go_wp2_with (go_at_call 78; refine (less_any _ _ _).mono ?_; rintro e w' ⟨rfl, rfl⟩)
  go_ret
  exact ⟨ret64 (by unfold less; rw [show near 9223372036854775807 = 9223372036854775807 from rfl]; have := near_le a; omega), rfl⟩

set_option maxHeartbeats 400000 in
theorem narrow1_any (x y : Int) (s : Bool) (w : World) :
    Calls Try.prog 42 #[.int .i64 x, .int .i64 y, .bool s] w fun e w' => e = .returned (.int .i64 (if x = 9223372036854775807 then y else x)) ∧ w = w' := by
  by_cases h : x = 9223372036854775807
  · have t := eqb_t h
    have H := hid h; clear h
    rw [if_pos H.out]
    go_enter Try.func42, Try.ntmps42
    go_wp2
    go_ret
    exact ⟨rfl, rfl⟩
  · have t := eqb_f h
    have H := hid h; clear h
    rw [if_neg H.out]
    go_enter Try.func42, Try.ntmps42
    go_wp2
    go_ret
    exact ⟨rfl, rfl⟩

set_option maxHeartbeats 1000000 in
theorem aboveT_any (steps : List Int) (y : Int) (A : Option Addr) (c : Nat) (w : World) (hx : Rd w w.heap.size A steps) (hm : steps.length ≤ 17592186044416) :
    Calls Try.prog 39 #[.slice A steps.length c, .int .i64 y, .func (.func 40) #[] #[]] w fun e w' => e = .returned (.int .i64 (aboveF (fun s => plus s s) steps y)) ∧ w = w' := by
  have hl0 : (0 : Int) ≤ (steps.length : Int) := by omega
  go_enter Try.func39, Try.ntmps39
  go_wp2
  go_loop [13, 7] (fun i t => ∃ k : Nat, k ≤ steps.length ∧ i = .int .i64 k ∧ t = .int .i64 (aboveF (fun s => plus s s) (steps.take k) y)) (fun i _ => steps.length - (intOf i).toNat)
  case atStart => exact ⟨0, by omega, rfl, by simp [aboveF]⟩
  case round =>
    obtain ⟨k, hk, rfl, rfl⟩ := hrel
    by_cases hlt : k < steps.length
    · obtain ⟨b, off, rfl, hB, hc⟩ := hx k hlt
      have hi0 : (0 : Int) ≤ (k : Int) := by omega
      have hi1 : (k : Int) < (steps.length : Int) := by omega
      have T := hid (aboveF_take (fun s => plus s s) steps y hlt)
      by_cases hy : y ≤ plus (gI steps k) (gI steps k)
      · have G : Hid (aboveGo (fun s => plus s s) y (aboveF (fun s => plus s s) (steps.take k) y) (gI steps k) = min (aboveF (fun s => plus s s) (steps.take k) y) (plus (gI steps k) (gI steps k))) := by unfold aboveGo; rw [if_pos hy]; exact rfl
        generalize aboveF (fun s => plus s s) (steps.take k) y = q at *
        go_wp2_with (go_at_call 40; refine (twice_any _ _).mono ?_; rintro e w' ⟨rfl, rfl⟩)
        all_goals
          go_round
          case rel => exact ⟨k + 1, by omega, by go_num, by rw [T.out, G.out]; congr 1; omega⟩
          case measure => simp [intOf]; omega
      · have G : Hid (aboveGo (fun s => plus s s) y (aboveF (fun s => plus s s) (steps.take k) y) (gI steps k) = aboveF (fun s => plus s s) (steps.take k) y) := by unfold aboveGo; rw [if_neg hy]; exact rfl
        generalize aboveF (fun s => plus s s) (steps.take k) y = q at *
        go_wp2_with (go_at_call 40; refine (twice_any _ _).mono ?_; rintro e w' ⟨rfl, rfl⟩)
        all_goals
          go_round
          case rel => exact ⟨k + 1, by omega, by go_num, by rw [T.out, G.out]⟩
          case measure => simp [intOf]; omega
    · have hkk : steps.take k = steps := List.take_of_length_le (by omega)
      have hki : ¬ (k : Int) < (steps.length : Int) := by omega
      have H := hid hkk; clear hkk
      go_wp2
      go_ret
      exact ⟨ret64 (by rw [H.out]), rfl⟩

set_option maxHeartbeats 1000000 in
theorem aboveS_any (steps : List Int) (y : Int) (A : Option Addr) (c : Nat) (w : World) (hx : Rd w w.heap.size A steps) (hm : steps.length ≤ 17592186044416) :
    Calls Try.prog 39 #[.slice A steps.length c, .int .i64 y, .func (.func 41) #[] #[]] w fun e w' => e = .returned (.int .i64 (aboveF near steps y)) ∧ w = w' := by
  have hl0 : (0 : Int) ≤ (steps.length : Int) := by omega
  go_enter Try.func39, Try.ntmps39
  go_wp2
  go_loop [13, 7] (fun i t => ∃ k : Nat, k ≤ steps.length ∧ i = .int .i64 k ∧ t = .int .i64 (aboveF near (steps.take k) y)) (fun i _ => steps.length - (intOf i).toNat)
  case atStart => exact ⟨0, by omega, rfl, by simp [aboveF]⟩
  case round =>
    obtain ⟨k, hk, rfl, rfl⟩ := hrel
    by_cases hlt : k < steps.length
    · obtain ⟨b, off, rfl, hB, hc⟩ := hx k hlt
      have hi0 : (0 : Int) ≤ (k : Int) := by omega
      have hi1 : (k : Int) < (steps.length : Int) := by omega
      have T := hid (aboveF_take near steps y hlt)
      by_cases hy : y ≤ near (gI steps k)
      · have G : Hid (aboveGo near y (aboveF near (steps.take k) y) (gI steps k) = min (aboveF near (steps.take k) y) (near (gI steps k))) := by unfold aboveGo; rw [if_pos hy]; exact rfl
        generalize aboveF near (steps.take k) y = q at *
        go_wp2_with (go_at_call 41; refine (same_any _ _).mono ?_; rintro e w' ⟨rfl, rfl⟩)
        all_goals
          go_round
          case rel => exact ⟨k + 1, by omega, by go_num, by rw [T.out, G.out]; congr 1; omega⟩
          case measure => simp [intOf]; omega
      · have G : Hid (aboveGo near y (aboveF near (steps.take k) y) (gI steps k) = aboveF near (steps.take k) y) := by unfold aboveGo; rw [if_neg hy]; exact rfl
        generalize aboveF near (steps.take k) y = q at *
        go_wp2_with (go_at_call 41; refine (same_any _ _).mono ?_; rintro e w' ⟨rfl, rfl⟩)
        all_goals
          go_round
          case rel => exact ⟨k + 1, by omega, by go_num, by rw [T.out, G.out]⟩
          case measure => simp [intOf]; omega
    · have hkk : steps.take k = steps := List.take_of_length_le (by omega)
      have hki : ¬ (k : Int) < (steps.length : Int) := by omega
      have H := hid hkk; clear hkk
      go_wp2
      go_ret
      exact ⟨ret64 (by rw [H.out]), rfl⟩

def widenF (steps : List Int) (x y : Int) (s : Bool) : Int := if y ≤ x then x else if s then aboveF (fun s => plus s s) steps y else aboveF near steps y

set_option maxHeartbeats 1000000 in
theorem widen1_any (steps : List Int) (A : Option Addr) (c gB : Nat) (x y : Int) (s : Bool) (w : World) (hx : Rd w w.heap.size A steps) (hm : steps.length ≤ 17592186044416) (hb : w.cell? ⟨gB, 0, none⟩ = some (.slice A steps.length c)) :
    Calls Try.prog 38 #[.int .i64 x, .int .i64 y, .bool s, .pointer (some ⟨gB, 0, none⟩)] w fun e w' => e = .returned (.int .i64 (widenF steps x y s)) ∧ w = w' := by
  unfold widenF
  by_cases h : y ≤ x
  · rw [if_pos h]
    go_enter Try.func38, Try.ntmps38
    go_wp2
    go_ret
    exact ⟨rfl, rfl⟩
  · rw [if_neg h]
    cases s
    · rw [if_neg (by simp)]
      go_enter Try.func38, Try.ntmps38
      go_wp2_with (go_at_call 39; refine (aboveS_any steps y A c _ hx hm).mono ?_; rintro e w' ⟨rfl, rfl⟩)
      go_ret
      exact ⟨rfl, rfl⟩
    · rw [if_pos rfl]
      go_enter Try.func38, Try.ntmps38
      go_wp2_with (go_at_call 39; refine (aboveT_any steps y A c _ hx hm).mono ?_; rintro e w' ⟨rfl, rfl⟩)
      go_ret
      exact ⟨rfl, rfl⟩
end Go.Proofs.Ytanbplidigokgaa
