/-
  gnomonlaw22.WidenBack: the law's own walk.
-/
import Derived.Test.YtanbplidigokgaaLawWX
import Derived.Test.YtanbplidigokgaaNarrowLaw
import Derived.Test.YtanbplidigokgaaRef13
namespace Go.Proofs.Ytanbplidigokgaa
open Go.RowKit
attribute [local go_sem ↓] Go.wp_at_zero Go.wp_at_succ

def SomeBool (w : World) (e : Ending) (w' : World) : Prop := ∃ s : Bool, e = .returned (.bool s) ∧ Below w.heap.size w w'
set_option maxHeartbeats 1000000 in
theorem calm_any (o : O) (A : Option Addr) (c : Nat) (w : World) (hx : Rd w w.heap.size A o.m) (hm : o.m.length ≤ 17592186044416) (hk : check o = 0) :
    Calls Try.prog 21 #[.agg #[.int .i64 o.n, .bool o.e, .slice A o.m.length c]] w (SomeBool w) := by
  have hb0 : Below w.heap.size w (w.alloc (Obj.cells #[.int .i64 o.n, .bool o.e, .slice A o.m.length c] 24)) := new1 _ _
  have HC := hid (r13_any o A c _ (hx.up hb0) hm hk)
  clear hk
  go_enter Try.func21, Try.ntmps21
  go_wp2_with fail
  refine HC.out.mono ?_
  clear HC
  generalize w.alloc (Obj.cells #[.int .i64 o.n, .bool o.e, .slice A o.m.length c] 24) = w0 at *
  rintro e1 w1 ⟨A1, c1, s, rfl, own1, hb1⟩
  generalize closeO o = q at *
  go_wp2
  go_ret
  exact ⟨!s, rfl, bup (bup hb0 hb1) (new1 _ _)⟩

set_option maxHeartbeats 4000000 in
theorem widenBack_walk (a b : O) (A A' : Option Addr) (c c' : Nat) (w : World) (hx : Rd w w.heap.size A a.m) (hy : Rd w w.heap.size A' b.m) (hm : a.m.length ≤ 17592186044416) (hm' : b.m.length ≤ 17592186044416) :
    Calls Try.prog 6 #[.agg #[.int .i64 a.n, .bool a.e, .slice A a.m.length c], .agg #[.int .i64 b.n, .bool b.e, .slice A' b.m.length c']] w fun e w' => e = .returned (.bool true) ∧ Below w.heap.size w w' := by
  have hb0 : Below w.heap.size w ((w.alloc (Obj.cells #[.int .i64 a.n, .bool a.e, .slice A a.m.length c] 24)).alloc (Obj.cells #[.int .i64 b.n, .bool b.e, .slice A' b.m.length c'] 24)) := ((Below.refl _ _).alloc (Nat.le_refl _) _).alloc (by simp) _
  obtain ⟨p0, p1⟩ := blk_two (w := w) (Below.refl _ ((w.alloc (Obj.cells #[.int .i64 a.n, .bool a.e, .slice A a.m.length c] 24)).alloc (Obj.cells #[.int .i64 b.n, .bool b.e, .slice A' b.m.length c'] 24)))
  replace hx := hx.up hb0
  replace hy := hy.up hb0
  have hnarrow := fun (w : World) (h : Rd w w.heap.size A a.m) (h' : Rd w w.heap.size A' b.m) => narrow_any a b A A' c c' w h h' hm hm'
  rw [narrowO_err] at hnarrow
  have HNAR := hid hnarrow
  clear hnarrow
  have HNM := hid (narrowO_m hm hm')
  go_enter Try.func6, Try.ntmps6
  go_wp2_with fail
  refine (known22_any _).mono ?_
  generalize (w.alloc (Obj.cells #[.int .i64 a.n, .bool a.e, .slice A a.m.length c] 24)).alloc (Obj.cells #[.int .i64 b.n, .bool b.e, .slice A' b.m.length c'] 24) = w0 at *
  rintro e1 w1 ⟨rfl, hb1⟩
  replace hx := hx.up hb1
  replace hy := hy.up hb1
  replace p0 := p0.later hb1
  replace p1 := p1.later hb1
  replace hb0 := bup hb0 hb1
  clear hb1
  obtain ⟨xp00, xp01, xp02, fxp0⟩ := octbox p0
  obtain ⟨xp10, xp11, xp12, fxp1⟩ := octbox p1
  go_wp2_with fail
  refine (HNAR.out _ hx hy).mono ?_
  clear xp00 xp01 xp02 fxp0 xp10 xp11 xp12 fxp1
  rintro ee w2 ⟨B2, r2, rfl, own2, hb2⟩
  replace hx := hx.up hb2
  replace hy := hy.up hb2
  replace p0 := p0.later hb2
  replace p1 := p1.later hb2
  replace hb0 := bup hb0 hb2
  clear hb2
  have hz := own2.rd
  clear own2 HNAR
  by_cases hp : pairErr a b = 0
  · rw [hp]
    have HP := hid hp
    clear hp
    have HQ : Hid ((narrowO a b).1 = (narrowO a b).1) := hid rfl
    clear HQ
    have HNP := hid (narrow_pair HP.out)
    have HEN : Hid (entailsF b a = true → entailsF b (narrowO a b).1 = true) := hid (entails_narrow HP.out)
    have HLE : Hid (a.e = false → (narrowO a b).1.e = false → (narrowO a b).1.m.length = a.m.length ∧ ∀ k : Nat, k < a.m.length → gI (narrowO a b).1.m k ≤ gI a.m k) := hid (narrow_le HP.out)
    generalize (narrowO a b).1 = q at *
    have n4 := new1 w2 (.cells #[.int .i64 q.n, .bool q.e, .slice B2 q.m.length r2] 24)
    have p5 := Blk.new w2 24 #[.int .i64 q.n, .bool q.e, .slice B2 q.m.length r2]
    replace hx := hx.up n4
    replace hy := hy.up n4
    replace hz := hz.up n4
    replace p0 := p0.later n4
    replace p1 := p1.later n4
    replace hb0 := bup hb0 n4
    clear n4
    obtain ⟨xp00, xp01, xp02, fxp0⟩ := octbox p0
    obtain ⟨xp10, xp11, xp12, fxp1⟩ := octbox p1
    go_wp2_with fail
    generalize w2.alloc (.cells #[.int .i64 q.n, .bool q.e, .slice B2 q.m.length r2] 24) = w3 at *
    generalize w2.heap.size = g5 at *
    refine (entails_any b a A' A c' c w3 hy hx hm' hm).mono ?_
    have hans : entAns b a = (entailsF b a, 0) := by unfold entAns; rw [if_pos (pair_sym HP.out)]
    rw [hans]
    dsimp only
    clear hans
    clear xp00 xp01 xp02 fxp0 xp10 xp11 xp12 fxp1
    rintro ee w4 ⟨rfl, hb4⟩
    replace hx := hx.up hb4
    replace hy := hy.up hb4
    replace hz := hz.up hb4
    replace p0 := p0.later hb4
    replace p1 := p1.later hb4
    replace p5 := p5.later hb4
    replace hb0 := bup hb0 hb4
    clear hb4
    cases his : entailsF b a with
    | false =>
      clear his
      go_wp2
      go_ret
      exact ⟨rfl, hb0⟩
    | true =>
      have hen := HEN.out his
      have HEN2 := hid hen
      clear his HEN hen
      have hka := (pair_ok HP.out).1
      have hkb := (pair_ok HP.out).2.1
      have HKA := hid hka
      have HKB := hid hkb
      clear hka hkb
      obtain ⟨xp00, xp01, xp02, fxp0⟩ := octbox p0
      go_wp2_with fail
      refine (calm_any a A c w4 hx hm HKA.out).mono ?_
      clear xp00 xp01 xp02 fxp0
      rintro ee w5 ⟨s5, rfl, hb5⟩
      replace hx := hx.up hb5
      replace hy := hy.up hb5
      replace hz := hz.up hb5
      replace p0 := p0.later hb5
      replace p1 := p1.later hb5
      replace p5 := p5.later hb5
      replace hb0 := bup hb0 hb5
      clear hb5
      cases s5 with
      | false =>
        go_wp2
        go_ret
        exact ⟨rfl, hb0⟩
      | true =>
        obtain ⟨xp10, xp11, xp12, fxp1⟩ := octbox p1
        go_wp2_with fail
        refine (calm_any b A' c' w5 hy hm' HKB.out).mono ?_
        clear xp10 xp11 xp12 fxp1
        rintro ee w6 ⟨s6, rfl, hb6⟩
        replace hx := hx.up hb6
        replace hy := hy.up hb6
        replace hz := hz.up hb6
        replace p0 := p0.later hb6
        replace p1 := p1.later hb6
        replace p5 := p5.later hb6
        replace hb0 := bup hb0 hb6
        clear hb6
        cases s6 with
        | false =>
          go_wp2
          go_ret
          exact ⟨rfl, hb0⟩
        | true =>
          obtain ⟨xp10, xp11, xp12, fxp1⟩ := octbox p1
          obtain ⟨xp50, xp51, xp52, fxp5⟩ := octbox p5
          go_wp2_with fail
          refine (entails_any b q A' B2 c' r2 w6 hy hz hm' HNM.out).mono ?_
          have hans : entAns b q = (true, 0) := by unfold entAns; rw [if_pos HNP.out, HEN2.out]
          rw [hans]
          dsimp only
          clear hans
          clear xp10 xp11 xp12 fxp1 xp50 xp51 xp52 fxp5
          rintro ee w7 ⟨rfl, hb7⟩
          replace hx := hx.up hb7
          replace hy := hy.up hb7
          replace hz := hz.up hb7
          replace p0 := p0.later hb7
          replace p1 := p1.later hb7
          replace p5 := p5.later hb7
          replace hb0 := bup hb0 hb7
          clear hb7
          obtain ⟨qn, qe, qm⟩ := q
          obtain ⟨an, ae, am⟩ := a
          dsimp only at *
          obtain ⟨xp00, xp01, xp02, fxp0⟩ := octbox p0
          obtain ⟨xp50, xp51, xp52, fxp5⟩ := octbox p5
          cases qe with
          | true =>
            go_wp2
            go_ret
            exact ⟨rfl, hb0⟩
          | false =>
            cases ae with
            | true =>
              go_wp2
              go_ret
              exact ⟨rfl, hb0⟩
            | false =>
              obtain ⟨hl, hle⟩ := HLE.out rfl rfl
              have HL := hid hl
              have HLE2 := hid hle
              clear hl hle HLE
              have hs0 := hb0.size
              go_wp2
              go_loopw [11] (fun t wr => ∃ k : Nat, k ≤ am.length ∧ t = .int .i64 k ∧ Below w7.heap.size w7 wr) (fun t _ => am.length - (intOf t).toNat)
              case atStart => exact ⟨0, by omega, rfl, Below.refl _ _⟩
              case round =>
                obtain ⟨k, hk, rfl, hbr⟩ := hrel
                have P0 := p0.later hbr
                have P5 := p5.later hbr
                by_cases hkl : k < am.length
                · obtain ⟨g1, o1, rfl, _, hc1⟩ := (hx.up hbr) k hkl
                  obtain ⟨g2, o2, rfl, _, hc2⟩ := (hz.up hbr) k (by rw [HL.out]; exact hkl)
                  have hkl2 : k < qm.length := by rw [HL.out]; exact hkl
                  have hi0 : (0 : Int) ≤ (k : Int) := by omega
                  have hi1 : (k : Int) < (am.length : Int) := by omega
                  have hi2 : (k : Int) < (qm.length : Int) := by omega
                  have hv := HLE2.out k hkl
                  obtain ⟨y0, y1, y2, fy⟩ := octbox P0
                  obtain ⟨z0, z1, z2, fz⟩ := octbox P5
                  have ly2 := later y2
                  have lz2 := later z2
                  have lc1 := later hc1
                  have lc2 := later hc2
                  have hgt : decide (gI am k < gI qm k) = false := by simp; omega
                  clear y0 y1 fy z0 z1 fz P0 P5 xp00 xp01 xp02 fxp0 xp50 xp51 xp52 fxp5
                  go_wp2
                  refine wp_region_flow 10 (fun W => Below wr.heap.size wr W) (by kernel_rfl) (by kernel_rfl) (Below.refl _ _).drew ?_
                  (repeat (first | (refine Flow.skip (by rfl) ?_; simp only [Act.put, List.setIfInBounds_toArray, List.set_cons_zero, List.set_cons_succ]) | (refine' Flow.take _ (by rfl) (fun W hW R hR => ?_) ?_; rotate_left; (go_simp; (try go_bits); with_reducible exact hR); simp only [Act.put, List.setIfInBounds_toArray, List.set_cons_zero, List.set_cons_succ])))
                  intro w9 hb9
                  have hbr9 := bup hbr hb9
                  clear ly2 lz2 lc1 lc2 y2 z2 hc1 hc2
                  go_wp2
                  go_roundw
                  case rel => exact ⟨k + 1, by omega, by go_num, hbr9⟩
                  case measure => simp [intOf]; omega
                · have hki : ¬ (k : Int) < (am.length : Int) := by omega
                  obtain ⟨y0, y1, y2, fy⟩ := octbox P0
                  clear xp00 xp01 xp02 fxp0 xp50 xp51 xp52 fxp5
                  go_wp2
                  go_ret
                  exact ⟨rfl, bup hb0 hbr⟩
  · have tn : (pairErr a b != 0) = true := by simp [hp]
    clear hp
    generalize (narrowO a b).1 = q at *
    generalize pairErr a b = er at *
    have n4 := new1 w2 (.cells #[.int .i64 q.n, .bool q.e, .slice B2 q.m.length r2] 24)
    go_wp2
    go_ret
    exact ⟨rfl, bup hb0 n4⟩
end Go.Proofs.Ytanbplidigokgaa
