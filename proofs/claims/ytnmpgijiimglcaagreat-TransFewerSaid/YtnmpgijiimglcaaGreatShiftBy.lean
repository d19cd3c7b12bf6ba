/-
  trans.shift's inner function: how far a side goes.
-/
import Derived.Test.YtnmpgijiimglcaaGreatAssume
namespace Go.Proofs.YtnmpgijiimglcaaGreat
open Go.RowKit
attribute [local go_sem ↓] Go.wp_at_zero Go.wp_at_succ

set_option maxRecDepth 8000 in
set_option maxHeartbeats 1000000 in
theorem by_ok (dst i : Nat) (k : Int) (g1 g2 : Nat) (w : World) (h1 : Blk w g1 3 #[.int .i64 (dst : Int)]) (h2 : Blk w g2 224 #[.int .i64 k, .int .i64 (-k)]) (hi : i ≤ 1000) :
    Calls Tryz.prog 238 #[.int .i64 (i : Int), .pointer (some ⟨g1, 0, none⟩), .pointer (some ⟨g2, 0, none⟩)] w fun e w' => e = .returned (.int .i64 (byK dst k i)) ∧ w' = w := by
  have x0 := h1.cell 0
  have y0 := h2.cell 0
  have y1 := h2.cell 1
  obtain ⟨q, hq⟩ : ∃ q : Nat, q = i / 2 := ⟨_, rfl⟩
  have e1 : (i : Int).tdiv 2 = (q : Int) := by rw [hq]; exact (Int.tdiv_eq_ediv_of_nonneg (by omega)).trans (by omega)
  have e2 : (i : Int) / 2 = (q : Int) := by rw [hq]; omega
  have hq2 : (q : Int) ≤ 1000 := by omega
  have e5 : ((i / 2 : Nat) : Int) = (q : Int) := by rw [hq]
  obtain ⟨r, hr⟩ : ∃ r : Nat, r = i % 2 := ⟨_, rfl⟩
  have HB : Hid (byK dst k i = if q = dst then (if r = 0 then k else -k) else 0) := hid (by unfold byK; rw [← hq, ← hr])
  have hr2 : r = 0 ∨ r = 1 := by omega
  have e3 : (i : Int).tmod 2 = (r : Int) := by rw [hr]; exact (Int.tmod_eq_emod_of_nonneg (by omega)).trans (by omega)
  have e4 : (i : Int) % 2 = (r : Int) := by rw [hr]; omega
  clear hq hr
  by_cases hd : q = dst
  · subst hd
    have t1 : ((q : Int) == (q : Int)) = true := by simp
    rcases hr2 with rfl | rfl
    · go_enter Tryz.func238, Tryz.ntmps238
      go_wp2
      go_ret
      exact ⟨by rw [HB.out]; simp, rfl⟩
    · go_enter Tryz.func238, Tryz.ntmps238
      go_wp2
      go_ret
      exact ⟨by rw [HB.out]; simp, rfl⟩
  · have t1 : ((q : Int) == (dst : Int)) = false := by rw [beq_eq_false_iff_ne]; omega
    go_enter Tryz.func238, Tryz.ntmps238
    have HD := hid hd
    clear hd
    go_wp2
    go_ret
    exact ⟨by rw [HB.out, if_neg HD.out]; rfl, rfl⟩
end Go.Proofs.YtnmpgijiimglcaaGreat
