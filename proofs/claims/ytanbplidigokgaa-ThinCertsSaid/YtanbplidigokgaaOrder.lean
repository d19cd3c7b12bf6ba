/-
  order.Entails: what it answers.
-/
import Derived.Test.YtanbplidigokgaaCloseLaw
namespace Go.Proofs.Ytanbplidigokgaa
open Go.RowKit

def aboveB (xs ys : List Int) (k : Nat) : Bool := (List.range k).all fun i => decide (gI xs i ≤ gI ys i)
theorem aboveB_succ (xs ys : List Int) (k : Nat) : aboveB xs ys (k + 1) = (aboveB xs ys k && decide (gI xs k ≤ gI ys k)) := by
  unfold aboveB; rw [List.range_succ, List.all_append]; simp
theorem aboveB_no {xs ys : List Int} {k n : Nat} (hk : k < n) (h : gI ys k < gI xs k) : aboveB xs ys n = false := by
  unfold aboveB
  rw [List.all_eq_false]
  exact ⟨k, List.mem_range.2 hk, by simpa using h⟩
theorem aboveB_iff {xs ys : List Int} {n : Nat} : aboveB xs ys n = true ↔ ∀ k : Nat, k < n → gI xs k ≤ gI ys k := by
  unfold aboveB
  rw [List.all_eq_true]
  exact ⟨fun h k hk => by simpa using h k (List.mem_range.2 hk), fun h k hk => by simpa using h k (List.mem_range.1 hk)⟩
/-- Of octagons that may be, of one size. -/
def entailsF (a b : O) : Bool := if (closeO a).e || b.e then (closeO a).e else aboveB (closeO a).m b.m (closeO a).m.length
def entAns (a b : O) : Bool × Int := if pairErr a b = 0 then (entailsF a b, 0) else (false, pairErr a b)

theorem cells_pair {a b : O} (h : pairErr a b = 0) (hc : (closeO a).e = false) (hb : b.e = false) : (closeO a).m.length = b.m.length := by
  obtain ⟨k1, k2, k3⟩ := pair_ok h
  obtain ⟨h1, h2⟩ := closeO_len k1 hc
  obtain ⟨_, _, _, l1⟩ := check_ok k1
  obtain ⟨_, _, _, l2⟩ := check_ok k2
  have := l1 h2
  have := l2 hb
  rw [k3] at *
  omega

set_option maxHeartbeats 2000000 in
theorem entails_any (a b : O) (A A' : Option Addr) (c c' : Nat) (w : World) (hx : Rd w w.heap.size A a.m) (hy : Rd w w.heap.size A' b.m) (hm : a.m.length ≤ 17592186044416) (hm' : b.m.length ≤ 17592186044416) :
    Calls Try.prog 20 #[.agg #[.int .i64 a.n, .bool a.e, .slice A a.m.length c], .agg #[.int .i64 b.n, .bool b.e, .slice A' b.m.length c']] w fun e w' => e = .returned (.tuple #[.bool (entAns a b).1, .int .i64 (entAns a b).2]) ∧ Below w.heap.size w w' := by
  have hb0 : Below w.heap.size w ((w.alloc (Obj.cells #[.int .i64 a.n, .bool a.e, .slice A a.m.length c] 24)).alloc (Obj.cells #[.int .i64 b.n, .bool b.e, .slice A' b.m.length c'] 24)) := ((Below.refl _ _).alloc (Nat.le_refl _) _).alloc (by simp) _
  obtain ⟨p0, p1⟩ := blk_two (w := w) (Below.refl _ ((w.alloc (Obj.cells #[.int .i64 a.n, .bool a.e, .slice A a.m.length c] 24)).alloc (Obj.cells #[.int .i64 b.n, .bool b.e, .slice A' b.m.length c'] 24)))
  have HR := hid (oright_any a b A A' c c' _ (hx.up hb0) (hy.up hb0) hm hm')
  have hx0 := hx.up hb0
  have hy0 := hy.up hb0
  by_cases hp : pairErr a b = 0
  · have HP := hid hp
    have hans : entAns a b = (entailsF a b, 0) := by unfold entAns; rw [if_pos hp]
    rw [hans]
    clear hans hp
    dsimp only
    have HE : Hid (entailsF a b = if (closeO a).e || b.e then (closeO a).e else aboveB (closeO a).m b.m (closeO a).m.length) := hid rfl
    generalize entailsF a b = R at *
    go_enter Try.func20, Try.ntmps20
    go_wp2_with fail
    refine HR.out.mono ?_
    clear HR
    generalize (w.alloc (Obj.cells #[.int .i64 a.n, .bool a.e, .slice A a.m.length c] 24)).alloc (Obj.cells #[.int .i64 b.n, .bool b.e, .slice A' b.m.length c'] 24) = w0 at *
    rintro e1 w1 ⟨rfl, hb1⟩
    replace p0 := p0.later hb1
    replace p1 := p1.later hb1
    replace hb0 := bup hb0 hb1
    have hx1 := hx0.up hb1
    have hy1 := hy0.up hb1
    clear hb1 hx0 hy0 hx hy
    rw [HP.out]
    obtain ⟨x0, x1, x2, fx⟩ := octbox p0
    have HC := hid (oclosed_any a A c w1 hx1 hm)
    go_wp2_with fail
    refine HC.out.mono ?_
    clear HC
    rw [closedO_ok (pair_ok HP.out).1]
    rintro e2 w2 ⟨A1, c1, rfl, own2, hb2⟩
    have HL : Hid ((closeO a).e = false → b.e = false → (closeO a).m.length = b.m.length) := hid (cells_pair HP.out)
    have HM : Hid ((closeO a).m.length ≤ a.m.length) := hid closeO_m_le
    generalize closeO a = q at *
    obtain ⟨qn, qe, qm⟩ := q
    dsimp only at *
    clear x0 x1 x2 fx
    have n3 := new1 w2 (.cells #[.int .i64 qn, .bool qe, .slice A1 qm.length c1] 24)
    have p3 := Blk.new w2 24 #[.int .i64 qn, .bool qe, .slice A1 qm.length c1]
    have hlt3 : w.heap.size + 1 < w2.heap.size := (p1.later hb2).lt
    replace p1 := (p1.later hb2).later n3
    replace hb0 := bup (bup hb0 hb2) n3
    replace own2 := own2.below n3
    have hy3 := (hy1.up hb2).up n3
    obtain ⟨x0, x1, x2, fx⟩ := octbox p1
    obtain ⟨y0, y1, y2, fy⟩ := octbox p3
    generalize hbe' : b.e = be at *
    have HBE := hid hbe'
    clear hb2 hbe' hy1 hx1
    cases qe with
    | true =>
      obtain rfl : R = true := by rw [HE.out]; rfl
      go_wp2
      go_ret2
      exact ⟨rfl, hb0⟩
    | false =>
      cases be with
      | true =>
        obtain rfl : R = false := by rw [HE.out]; rfl
        go_wp2
        go_ret2
        exact ⟨rfl, hb0⟩
      | false =>
        have hR : R = aboveB qm b.m qm.length := by rw [HE.out]; rfl
        have HRR := hid hR
        have hLL := HL.out rfl rfl
        have hq1 : qm.length ≤ 17592186044416 := by have := HM.out; omega
        have HLL := hid hLL
        clear hR hLL HE HL
        have hqr := own2.rd
        go_wp2
        go_loop [29] (fun t => ∃ k : Nat, k ≤ qm.length ∧ t = .int .i64 k ∧ Hid (aboveB qm b.m k = true)) (fun t => qm.length - (intOf t).toNat)
        case atStart => exact ⟨0, by omega, rfl, hid rfl⟩
        case round =>
          obtain ⟨k, hk, rfl, hu⟩ := hrel
          by_cases hkl : k < qm.length
          · obtain ⟨g1, o1, rfl, _, hc1⟩ := hqr k hkl
            obtain ⟨g2, o2, rfl, _, hc2⟩ := hy3 k (by rw [← HLL.out]; exact hkl)
            have hkl2 : k < b.m.length := by rw [← HLL.out]; exact hkl
            by_cases hv : gI b.m k < gI qm k
            · obtain rfl : R = false := by rw [HRR.out, aboveB_no hkl hv]
              go_wp2
              go_ret2
              exact ⟨rfl, hb0⟩
            · have hv2 : decide (gI qm k ≤ gI b.m k) = true := by simp; omega
              have HV := hid hv2
              clear hv2
              go_wp2
              go_round
              case rel => exact ⟨k + 1, by omega, by go_num, hid (by rw [aboveB_succ, hu.out, HV.out]; rfl)⟩
              case measure => simp [intOf]; omega
          · have hke : k = qm.length := by omega
            have hu2 := hu.out
            rw [hke] at hu2
            obtain rfl : R = true := by rw [HRR.out]; exact hu2
            clear hu2 hke hu
            go_wp2
            go_ret2
            exact ⟨rfl, hb0⟩
  · have hans : entAns a b = (false, pairErr a b) := by unfold entAns; rw [if_neg hp]
    rw [hans]
    dsimp only
    have tn : (pairErr a b != 0) = true := by simp [hp]
    clear hans hp
    generalize pairErr a b = er at *
    go_enter Try.func20, Try.ntmps20
    go_wp2_with fail
    refine HR.out.mono ?_
    clear HR
    generalize (w.alloc (Obj.cells #[.int .i64 a.n, .bool a.e, .slice A a.m.length c] 24)).alloc (Obj.cells #[.int .i64 b.n, .bool b.e, .slice A' b.m.length c'] 24) = w0 at *
    rintro e1 w1 ⟨rfl, hb1⟩
    go_wp2
    go_ret2
    exact ⟨rfl, bup hb0 hb1⟩
end Go.Proofs.Ytanbplidigokgaa
