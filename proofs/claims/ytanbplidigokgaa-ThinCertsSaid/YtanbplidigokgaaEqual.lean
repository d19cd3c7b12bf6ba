/-
  slices.Equal at []int64, dbm.Equal, gnomonref12.Same: what each answers.
-/
import Derived.Test.YtanbplidigokgaaCloseOk
namespace Go.Proofs.Ytanbplidigokgaa
open Go.RowKit
attribute [local go_sem ↓] Go.wp_at_zero Go.wp_at_succ

set_option maxHeartbeats 1000000 in
theorem sleq_any (xs ys : List Int) (A A' : Option Addr) (c c' : Nat) (w : World) (hx : Rd w w.heap.size A xs) (hy : Rd w w.heap.size A' ys) (hm : xs.length ≤ 17592186044416) :
    Calls Try.prog 85 #[.slice A xs.length c, .slice A' ys.length c'] w fun e w' => e = .returned (.bool (decide (xs = ys))) ∧ Below w.heap.size w w' := by
  by_cases hl : xs.length = ys.length
  · have tl : ((xs.length : Int) != (ys.length : Int)) = false := by rw [bne_eq_false_iff_eq]; omega
    have HL := hid hl
    have hxl : xs.length ≤ ys.length := by omega
    have hyl : ys.length ≤ xs.length := by omega
    clear hl
    go_enter Try.func85, Try.ntmps85
    go_wp2
    go_loopw [13] (fun i wr => ∃ k : Nat, k ≤ xs.length ∧ i = .int .i64 k ∧ Hid (xs.take k = ys.take k) ∧ Below w.heap.size w wr) (fun i _ => xs.length - (intOf i).toNat)
    case atStart => exact ⟨0, by omega, rfl, hid (by simp), Below.refl _ _⟩
    case round =>
      obtain ⟨k, hk, rfl, hs, hb⟩ := hrel
      by_cases hlt : k < xs.length
      · obtain ⟨b, off, rfl, hB, hc⟩ := hx k hlt
        obtain ⟨b', off', rfl, hB', hc'⟩ := hy k (by omega)
        have c1 : ∀ W, Below w.heap.size w W → W.cell? ⟨b, off + k, none⟩ = some (.int .i64 (gI xs k)) := fun W hW => (hW.cell (p := ⟨b, off + k, none⟩) hB).trans hc
        have c2 : ∀ W, Below w.heap.size w W → W.cell? ⟨b', off' + k, none⟩ = some (.int .i64 (gI ys k)) := fun W hW => (hW.cell (p := ⟨b', off' + k, none⟩) hB').trans hc'
        have hi0 : (0 : Int) ≤ (k : Int) := by omega
        have hi1 : (k : Int) < (xs.length : Int) := by omega
        have hi2 : (k : Int) < (ys.length : Int) := by omega
        clear hc hc'
        cases tv : (gI xs k == gI ys k)
        · have tv' : (gI xs k != gI ys k) = true := by rw [bne_iff_ne]; simpa using tv
          go_wp2
          refine wp_region_flow 8 (fun W => Below w.heap.size w W) (by kernel_rfl) (by kernel_rfl) hb.drew ?_
          (repeat (first | (refine Flow.skip (by rfl) ?_; simp only [Act.put, List.setIfInBounds_toArray, List.set_cons_zero, List.set_cons_succ]) | (refine' Flow.take _ (by rfl) (fun W hW R hR => ?_) ?_; rotate_left; (go_simp; (try go_bits); with_reducible exact hR); simp only [Act.put, List.setIfInBounds_toArray, List.set_cons_zero, List.set_cons_succ])))
          intro w4 hb4
          go_wp2
          go_ret
          refine ⟨retb ?_, hb4⟩
          symm; rw [decide_eq_false_iff_not]; rintro rfl
          simp at tv
        · have tv' : (gI xs k != gI ys k) = false := by rw [bne_eq_false_iff_eq]; simpa using tv
          go_wp2
          refine wp_region_flow 8 (fun W => Below w.heap.size w W) (by kernel_rfl) (by kernel_rfl) hb.drew ?_
          (repeat (first | (refine Flow.skip (by rfl) ?_; simp only [Act.put, List.setIfInBounds_toArray, List.set_cons_zero, List.set_cons_succ]) | (refine' Flow.take _ (by rfl) (fun W hW R hR => ?_) ?_; rotate_left; (go_simp; (try go_bits); with_reducible exact hR); simp only [Act.put, List.setIfInBounds_toArray, List.set_cons_zero, List.set_cons_succ])))
          intro w4 hb4
          go_wp2
          go_roundw
          case rel => exact ⟨k + 1, by omega, by go_num, hid (by rw [take_succ_gI xs hlt, take_succ_gI ys (by omega), hs.out, show gI xs k = gI ys k by simpa using tv]), hb4⟩
          case measure => simp [intOf]; omega
      · have hkk : k = xs.length := by omega
        have he : xs = ys := by
          have := hs.out
          rw [List.take_of_length_le (by omega), List.take_of_length_le (by omega)] at this
          exact this
        have he := hid he
        clear hkk
        go_wp2
        go_ret
        exact ⟨retb (by rw [decide_eq_true he.out]), hb⟩
  · have tl : ((xs.length : Int) != (ys.length : Int)) = true := by rw [bne_iff_ne]; omega
    go_enter Try.func85, Try.ntmps85
    go_wp2
    go_ret
    exact ⟨retb (by symm; rw [decide_eq_false_iff_not]; rintro rfl; exact hl rfl), Below.refl _ _⟩


def equalB (a b : O) : Bool := decide (check a = 0) && (decide (check b = 0) && eqO a b)
theorem equalB_ok {a b : O} (h : check a = 0) (h' : check b = 0) : equalB a b = eqO a b := by
  unfold equalB; rw [decide_eq_true h, decide_eq_true h']; rfl
def SomeB (b : Bool) (w : World) (e : Ending) (w' : World) : Prop := e = .returned (.bool b) ∧ Below w.heap.size w w'

set_option maxHeartbeats 2000000 in
theorem dequal_any (a b : O) (A A' : Option Addr) (c c' : Nat) (w : World) (hx : Rd w w.heap.size A a.m) (hy : Rd w w.heap.size A' b.m) (hm : a.m.length ≤ 17592186044416) (hm' : b.m.length ≤ 17592186044416) :
    Calls Try.prog 57 #[.agg #[.int .i64 a.n, .bool a.e, .slice A a.m.length c], .agg #[.int .i64 b.n, .bool b.e, .slice A' b.m.length c']] w (SomeB (equalB a b) w) := by
  have hb0 : Below w.heap.size w ((w.alloc (Obj.cells #[.int .i64 a.n, .bool a.e, .slice A a.m.length c] 24)).alloc (Obj.cells #[.int .i64 b.n, .bool b.e, .slice A' b.m.length c'] 24)) := ((Below.refl _ _).alloc (Nat.le_refl _) _).alloc (by simp) _
  obtain ⟨p0, p1⟩ := blk_two (w := w) (Below.refl _ ((w.alloc (Obj.cells #[.int .i64 a.n, .bool a.e, .slice A a.m.length c] 24)).alloc (Obj.cells #[.int .i64 b.n, .bool b.e, .slice A' b.m.length c'] 24)))
  replace hx := hx.up hb0
  replace hy := hy.up hb0
  have HC := hid (check_any a A c _ hx (by omega))
  by_cases ka : check a = 0
  · have ta : (check a == 0) = true := by rw [ka]; rfl
    have HKA := hid ka
    clear ka
    by_cases kb : check b = 0
    · have tb : (check b == 0) = true := by rw [kb]; rfl
      have HKB := hid kb
      clear kb
      rw [equalB_ok HKA.out HKB.out]
      obtain ⟨n, e, m⟩ := a
      obtain ⟨n', e', m'⟩ := b
      dsimp only at *
      have HD : Hid (eqO ⟨n, e, m⟩ ⟨n', e', m'⟩ = (decide (n = n') && (decide (e = e') && decide (m = m')))) := hid rfl
      by_cases hn : n = n'
      · subst hn
        have tn : (n == n) = true := by simp
        by_cases he : e = e'
        · subst he
          have te : (e == e) = true := by simp
          rw [show eqO ⟨n, e, m⟩ ⟨n, e, m'⟩ = decide (m = m') by rw [HD.out]; simp]
          clear HD
          go_enter Try.func57, Try.ntmps57
          go_wp2_with fail
          refine HC.out.mono ?_
          clear HC
          generalize (w.alloc (Obj.cells #[.int .i64 n, .bool e, .slice A m.length c] 24)).alloc (Obj.cells #[.int .i64 n, .bool e, .slice A' m'.length c'] 24) = w0 at *
          rintro e1 w1 ⟨rfl, hb1⟩
          replace p0 := p0.later hb1
          replace p1 := p1.later hb1
          replace hx := hx.up hb1
          replace hy := hy.up hb1
          replace hb0 := bup hb0 hb1
          clear hb1
          obtain ⟨x0, x1, x2, fx⟩ := octbox p1
          go_wp2_with fail
          refine (check_any ⟨n, e, m'⟩ A' c' w1 hy (by dsimp only; omega)).mono ?_
          rintro e2 w2 ⟨rfl, hb2⟩
          clear x0 x1 x2 fx
          replace p0 := p0.later hb2
          replace p1 := p1.later hb2
          replace hx := hx.up hb2
          replace hy := hy.up hb2
          replace hb0 := bup hb0 hb2
          clear hb2
          obtain ⟨x0, x1, x2, fx⟩ := octbox p0
          obtain ⟨y0, y1, y2, fy⟩ := octbox p1
          go_wp2_with fail
          refine (sleq_any m m' A A' c c' w2 hx hy hm).mono ?_
          rintro e3 w3 ⟨rfl, hb3⟩
          go_wp2
          go_ret
          exact ⟨rfl, bup hb0 hb3⟩
        · have te : (e == e') = false := by simpa using he
          rw [show eqO ⟨n, e, m⟩ ⟨n, e', m'⟩ = false by rw [HD.out, decide_eq_false he]; simp]
          clear HD he
          go_enter Try.func57, Try.ntmps57
          go_wp2_with fail
          refine HC.out.mono ?_
          clear HC
          generalize (w.alloc (Obj.cells #[.int .i64 n, .bool e, .slice A m.length c] 24)).alloc (Obj.cells #[.int .i64 n, .bool e', .slice A' m'.length c'] 24) = w0 at *
          rintro e1 w1 ⟨rfl, hb1⟩
          replace p0 := p0.later hb1
          replace p1 := p1.later hb1
          replace hy := hy.up hb1
          replace hb0 := bup hb0 hb1
          clear hb1
          obtain ⟨x0, x1, x2, fx⟩ := octbox p1
          go_wp2_with fail
          refine (check_any ⟨n, e', m'⟩ A' c' w1 hy (by dsimp only; omega)).mono ?_
          rintro e2 w2 ⟨rfl, hb2⟩
          clear x0 x1 x2 fx
          obtain ⟨x0, x1, x2, fx⟩ := octbox (p0.later hb2)
          obtain ⟨y0, y1, y2, fy⟩ := octbox (p1.later hb2)
          go_wp2
          go_ret
          exact ⟨rfl, bup hb0 hb2⟩
      · have tn : (n == n') = false := by simpa using hn
        rw [show eqO ⟨n, e, m⟩ ⟨n', e', m'⟩ = false by rw [HD.out, decide_eq_false hn]; rfl]
        clear HD hn
        go_enter Try.func57, Try.ntmps57
        go_wp2_with fail
        refine HC.out.mono ?_
        clear HC
        generalize (w.alloc (Obj.cells #[.int .i64 n, .bool e, .slice A m.length c] 24)).alloc (Obj.cells #[.int .i64 n', .bool e', .slice A' m'.length c'] 24) = w0 at *
        rintro e1 w1 ⟨rfl, hb1⟩
        replace p0 := p0.later hb1
        replace p1 := p1.later hb1
        replace hy := hy.up hb1
        replace hb0 := bup hb0 hb1
        clear hb1
        obtain ⟨x0, x1, x2, fx⟩ := octbox p1
        go_wp2_with fail
        refine (check_any ⟨n', e', m'⟩ A' c' w1 hy (by dsimp only; omega)).mono ?_
        rintro e2 w2 ⟨rfl, hb2⟩
        clear x0 x1 x2 fx
        obtain ⟨x0, x1, x2, fx⟩ := octbox (p0.later hb2)
        obtain ⟨y0, y1, y2, fy⟩ := octbox (p1.later hb2)
        go_wp2
        go_ret
        exact ⟨rfl, bup hb0 hb2⟩
    · have tb : (check b == 0) = false := by simpa using kb
      rw [show equalB a b = false by unfold equalB; rw [decide_eq_false kb]; simp]
      clear kb
      go_enter Try.func57, Try.ntmps57
      go_wp2_with fail
      refine HC.out.mono ?_
      clear HC
      generalize (w.alloc (Obj.cells #[.int .i64 a.n, .bool a.e, .slice A a.m.length c] 24)).alloc (Obj.cells #[.int .i64 b.n, .bool b.e, .slice A' b.m.length c'] 24) = w0 at *
      rintro e1 w1 ⟨rfl, hb1⟩
      obtain ⟨x0, x1, x2, fx⟩ := octbox (p1.later hb1)
      go_wp2_with fail
      refine (check_any b A' c' w1 (hy.up hb1) (by omega)).mono ?_
      rintro e2 w2 ⟨rfl, hb2⟩
      go_wp2
      go_ret
      exact ⟨rfl, bup (bup hb0 hb1) hb2⟩
  · have ta : (check a == 0) = false := by simpa using ka
    rw [show equalB a b = false by unfold equalB; rw [decide_eq_false ka]; simp]
    clear ka
    go_enter Try.func57, Try.ntmps57
    go_wp2_with fail
    refine HC.out.mono ?_
    clear HC
    generalize (w.alloc (Obj.cells #[.int .i64 a.n, .bool a.e, .slice A a.m.length c] 24)).alloc (Obj.cells #[.int .i64 b.n, .bool b.e, .slice A' b.m.length c'] 24) = w0 at *
    rintro e1 w1 ⟨rfl, hb1⟩
    go_wp2
    go_ret
    exact ⟨rfl, bup hb0 hb1⟩

set_option maxHeartbeats 2000000 in
theorem rsame_any (a b : O) (A A' : Option Addr) (c c' : Nat) (w : World) (hx : Rd w w.heap.size A a.m) (hy : Rd w w.heap.size A' b.m) (hm : a.m.length ≤ 17592186044416) (hm' : b.m.length ≤ 17592186044416) :
    Calls Try.prog 62 #[.agg #[.int .i64 a.n, .bool a.e, .slice A a.m.length c], .agg #[.int .i64 b.n, .bool b.e, .slice A' b.m.length c']] w (SomeB (eqO a b) w) := by
  have hb0 : Below w.heap.size w ((w.alloc (Obj.cells #[.int .i64 a.n, .bool a.e, .slice A a.m.length c] 24)).alloc (Obj.cells #[.int .i64 b.n, .bool b.e, .slice A' b.m.length c'] 24)) := ((Below.refl _ _).alloc (Nat.le_refl _) _).alloc (by simp) _
  obtain ⟨p0, p1⟩ := blk_two (w := w) (Below.refl _ ((w.alloc (Obj.cells #[.int .i64 a.n, .bool a.e, .slice A a.m.length c] 24)).alloc (Obj.cells #[.int .i64 b.n, .bool b.e, .slice A' b.m.length c'] 24)))
  replace hx := hx.up hb0
  replace hy := hy.up hb0
  obtain ⟨n, e, m⟩ := a
  obtain ⟨n', e', m'⟩ := b
  dsimp only at *
  have HD : Hid (eqO ⟨n, e, m⟩ ⟨n', e', m'⟩ = (decide (n = n') && (decide (e = e') && decide (m = m')))) := hid rfl
  generalize eqO ⟨n, e, m⟩ ⟨n', e', m'⟩ = R at *
  by_cases hn : n = n'
  · have tn : (n != n') = false := by rw [bne_eq_false_iff_eq]; exact hn
    have HN := hid hn
    clear hn
    by_cases he : e = e'
    · subst he
      by_cases hl : m.length = m'.length
      · have tl : ((m.length : Int) != (m'.length : Int)) = false := by rw [bne_eq_false_iff_eq]; omega
        have hR : R = decide (m = m') := by rw [HD.out, decide_eq_true HN.out]; simp
        have HR := hid hR
        have hxl : m.length ≤ m'.length := by omega
        have hyl : m'.length ≤ m.length := by omega
        clear hl hR HD
        go_enter Try.func62, Try.ntmps62
        go_wp2
        generalize (w.alloc (Obj.cells #[.int .i64 n, .bool e, .slice A m.length c] 24)).alloc (Obj.cells #[.int .i64 n', .bool e, .slice A' m'.length c'] 24) = w0 at *
        go_loopw [5] (fun t wr => ∃ k : Nat, k ≤ m.length ∧ t = .int .i64 k ∧ Hid (m.take k = m'.take k) ∧ Below w0.heap.size w0 wr) (fun t _ => m.length - (intOf t).toNat)
        case atStart => exact ⟨0, by omega, rfl, hid (by simp), Below.refl _ _⟩
        case round =>
          obtain ⟨k, hk, rfl, hs, hbr⟩ := hrel
          have P0 := p0.later hbr
          have P1 := p1.later hbr
          obtain ⟨y0, y1, y2, fy⟩ := octbox P0
          obtain ⟨z0, z1, z2, fz⟩ := octbox P1
          by_cases hkl : k < m.length
          · obtain ⟨g1, o1, rfl, _, hc1⟩ := (hx.up hbr) k hkl
            obtain ⟨g2, o2, rfl, _, hc2⟩ := (hy.up hbr) k (by omega)
            have hi0 : (0 : Int) ≤ (k : Int) := by omega
            have hi1 : (k : Int) < (m.length : Int) := by omega
            have hi2 : (k : Int) < (m'.length : Int) := by omega
            have ly2 := later y2
            have lz2 := later z2
            have lc1 := later hc1
            have lc2 := later hc2
            cases tv : (gI m k == gI m' k)
            all_goals
              clear y0 y1 fy z0 z1 z2 fz P0 P1
            · have tv' : (gI m k != gI m' k) = true := by rw [bne_iff_ne]; simpa using tv
              obtain rfl : R = false := by
                rw [HR.out, decide_eq_false_iff_not]; rintro rfl; simp at tv
              clear HR HN
              go_wp2
              refine wp_region_flow 10 (fun W => Below wr.heap.size wr W) (by kernel_rfl) (by kernel_rfl) (Below.refl _ _).drew ?_
              (repeat (first | (refine Flow.skip (by rfl) ?_; simp only [Act.put, List.setIfInBounds_toArray, List.set_cons_zero, List.set_cons_succ]) | (refine' Flow.take _ (by rfl) (fun W hW R hR => ?_) ?_; rotate_left; (go_simp; (try go_bits); with_reducible exact hR); simp only [Act.put, List.setIfInBounds_toArray, List.set_cons_zero, List.set_cons_succ])))
              intro w9 hb9
              clear ly2 lz2 lc1 lc2 y2 hc1 hc2
              go_wp2
              go_ret
              exact ⟨rfl, bup hb0 (bup hbr hb9)⟩
            · have tv' : (gI m k != gI m' k) = false := by rw [bne_eq_false_iff_eq]; simpa using tv
              have hs9 : Hid (m.take (k + 1) = m'.take (k + 1)) := hid (by rw [take_succ_gI m hkl, take_succ_gI m' (by omega), hs.out, show gI m k = gI m' k by simpa using tv])
              clear HR HN
              go_wp2
              refine wp_region_flow 10 (fun W => Below wr.heap.size wr W) (by kernel_rfl) (by kernel_rfl) (Below.refl _ _).drew ?_
              (repeat (first | (refine Flow.skip (by rfl) ?_; simp only [Act.put, List.setIfInBounds_toArray, List.set_cons_zero, List.set_cons_succ]) | (refine' Flow.take _ (by rfl) (fun W hW R hR => ?_) ?_; rotate_left; (go_simp; (try go_bits); with_reducible exact hR); simp only [Act.put, List.setIfInBounds_toArray, List.set_cons_zero, List.set_cons_succ])))
              intro w9 hb9
              have hbr9 := bup hbr hb9
              clear ly2 lz2 lc1 lc2 y2 hc1 hc2
              go_wp2
              go_roundw
              case rel => exact ⟨k + 1, by omega, by go_num, hs9, hbr9⟩
              case measure => simp [intOf]; omega
          · obtain rfl : R = true := by
              have := hs.out
              rw [List.take_of_length_le (by omega), List.take_of_length_le (by omega)] at this
              rw [HR.out, decide_eq_true this]
            clear HR HN z0 z1 z2 fz
            go_wp2
            go_ret
            exact ⟨rfl, bup hb0 hbr⟩
      · have tl : ((m.length : Int) != (m'.length : Int)) = true := by rw [bne_iff_ne]; omega
        obtain rfl : R = false := by
          rw [HD.out, decide_eq_false (show ¬ m = m' by rintro rfl; exact hl rfl)]; simp
        clear hl HN HD
        go_enter Try.func62, Try.ntmps62
        go_wp2
        go_ret
        exact ⟨rfl, hb0⟩
    · have te : (e == e') = false := by simpa using he
      obtain rfl : R = false := by rw [HD.out, decide_eq_false he]; simp
      clear he HN HD
      go_enter Try.func62, Try.ntmps62
      go_wp2
      go_ret
      exact ⟨rfl, hb0⟩
  · have tn : (n != n') = true := by rw [bne_iff_ne]; exact hn
    obtain rfl : R = false := by rw [HD.out, decide_eq_false hn]; rfl
    clear hn HD
    go_enter Try.func62, Try.ntmps62
    go_wp2
    go_ret
    exact ⟨rfl, hb0⟩
end Go.Proofs.Ytanbplidigokgaa
