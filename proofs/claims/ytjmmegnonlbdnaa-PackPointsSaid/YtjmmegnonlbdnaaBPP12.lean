/-
  widen.above, its two functions, the two closures of Widen and Narrow; the reference's step.
  widen.Widen, widen.Narrow: what each call answers.
  gnomonref12.Check: what is wrong with an octagon: the same as dbm.Check tells.
  gnomonref22.step, Widen, Narrow; gnomonref12.Empty; gnomonref14.Pair: what each call answers: the same as widen tells.
  gnomonref22.Widen, gnomonref22.Narrow: what each call answers, of octagons that may be.
  gnomonref22.Widen: what a call answers, of octagons that may be.
  gnomonhelp.Longs, gnomonhelp.Oct: equal as data.
  gnomonlaw22.upTo, gnomonlaw22.known: known answers true.
-/
import Derived.Test.YtjmmegnonlbdnaaOwn
import Derived.Test.YtjmmegnonlbdnaaBPP11
import Derived.Test.YtjmmegnonlbdnaaBPP09
namespace Go.Proofs.Ytjmmegnonlbdnaa
section

end
section
open Go.RowKit

theorem check_ok {o : O} (h : check o = 0) : 0 ≤ o.n ∧ o.n ≤ 64 ∧ (o.e = true → o.m = []) ∧ (o.e = false → (o.m.length : Int) = 4 * o.n * o.n) := by
  by_cases hs : sizeBad o = true
  · unfold check at h; rw [if_pos hs] at h; omega
  · unfold sizeBad at hs
    simp at hs
    obtain ⟨⟨⟨h1, h2⟩, h3⟩, h4⟩ := hs
    exact ⟨h1, h2, h3, h4⟩
end
section
open Go.RowKit

set_option maxHeartbeats 400000 in
theorem across_any (i : Int) (w : World) (h0 : 0 ≤ i) (h1 : i ≤ 1000) :
    Calls Try.prog 36 #[.int .i64 i] w fun e w' => e = .returned (.int .i64 (xor1 i)) ∧ w = w' := by
  by_cases h : i % 2 = 0
  · have t : (i % 2 == 0) = true := by simpa using h
    clear h
    go_enter Try.func36, Try.ntmps36
    go_wp2
    go_ret
    exact ⟨ret64 (by unfold xor1; rw [if_pos (by simpa using t)]), rfl⟩
  · have t : (i % 2 == 0) = false := by simpa using h
    have t1 : 1 ≤ i := by omega
    clear h
    go_enter Try.func36, Try.ntmps36
    go_wp2
    go_ret
    exact ⟨ret64 (by unfold xor1; rw [if_neg (by simpa using t)]), rfl⟩
end
section
open Go.RowKit
attribute [local go_sem ↓] Go.wp_at_zero Go.wp_at_succ

set_option maxHeartbeats 400000 in
theorem rempty_any (n : Int) (w : World) :
    Calls Try.prog 63 #[.int .i64 n] w fun e w' => e = .returned (.agg #[.int .i64 n, .bool true, .slice none 0 0]) ∧ Below w.heap.size w w' := by
  go_enter Try.func63, Try.ntmps63
  go_wp2
  refine bodyPost_ret (v := .agg #[.int .i64 n, .bool true, .slice none 0 0]) (by simp [results, Try.results63, go_sem]) rfl ⟨rfl, ?_⟩
  exact (Below.refl _ _).alloc (Nat.le_refl _) _
end
section

end
section

end
section
open Go.RowKit

theorem take_succ_gI (xs : List Int) {k : Nat} (h : k < xs.length) : xs.take (k + 1) = xs.take k ++ [gI xs k] := by
  rw [List.take_succ_eq_append_getElem h]; unfold gI; simp [h]

set_option maxHeartbeats 1000000 in
theorem longs_any (xs ys : List Int) (A A' : Option Addr) (c c' : Nat) (w : World) (hx : Rd w w.heap.size A xs) (hy : Rd w w.heap.size A' ys) (hm : xs.length ≤ 17592186044416) :
    Calls Try.prog 37 #[.slice A xs.length c, .slice A' ys.length c'] w fun e w' => e = .returned (.bool (decide (xs = ys))) ∧ Below w.heap.size w w' := by
  by_cases hl : xs.length = ys.length
  · have tl : ((xs.length : Int) != (ys.length : Int)) = false := by rw [bne_eq_false_iff_eq]; omega
    have HL := hid hl
    have hxl : xs.length ≤ ys.length := by omega
    have hyl : ys.length ≤ xs.length := by omega
    clear hl
    go_enter Try.func37, Try.ntmps37
    go_wp2
    go_loopw [5] (fun i wr => ∃ k : Nat, k ≤ xs.length ∧ i = .int .i64 k ∧ Hid (xs.take k = ys.take k) ∧ Below w.heap.size w wr) (fun i _ => xs.length - (intOf i).toNat)
    case atStart => exact ⟨0, by omega, rfl, hid (by simp), Below.refl _ _⟩
    case round =>
      obtain ⟨k, hk, rfl, hs, hb⟩ := hrel
      by_cases hlt : k < xs.length
      · obtain ⟨b, off, rfl, hB, hc⟩ := hx k hlt
        obtain ⟨b', off', rfl, hB', hc'⟩ := hy k (by omega)
        have c1 : ∀ W, Below w.heap.size w W → W.cell? ⟨b, off + k, none⟩ = some (.int .i64 (gI xs k)) := fun W hW => (hW.cell (p := ⟨b, off + k, none⟩) hB).trans hc
        have c2 : ∀ W, Below w.heap.size w W → W.cell? ⟨b', off' + k, none⟩ = some (.int .i64 (gI ys k)) := fun W hW => (hW.cell (p := ⟨b', off' + k, none⟩) hB').trans hc'
        have hi0 : (0 : Int) ≤ (k : Int) := by omega
        have hi1 : (k : Int) < (xs.length : Int) := by omega
        have hi2 : (k : Int) < (ys.length : Int) := by omega
        clear hc hc'
        cases tv : (gI xs k == gI ys k)
        · have tv' : (gI xs k != gI ys k) = true := by rw [bne_iff_ne]; simpa using tv
          go_wp2
          refine wp_region_flow 9 (fun W => Below w.heap.size w W) (by kernel_rfl) (by kernel_rfl) hb.drew ?_
          (repeat (first | (refine Flow.skip (by rfl) ?_; simp only [Act.put, List.setIfInBounds_toArray, List.set_cons_zero, List.set_cons_succ]) | (refine' Flow.take _ (by rfl) (fun W hW R hR => ?_) ?_; rotate_left; (go_simp; (try go_bits); with_reducible exact hR); simp only [Act.put, List.setIfInBounds_toArray, List.set_cons_zero, List.set_cons_succ])))
          intro w4 hb4
          go_wp2
          go_ret
          refine ⟨retb ?_, hb4⟩
          symm; rw [decide_eq_false_iff_not]; rintro rfl
          simp at tv
        · have tv' : (gI xs k != gI ys k) = false := by rw [bne_eq_false_iff_eq]; simpa using tv
          go_wp2
          refine wp_region_flow 9 (fun W => Below w.heap.size w W) (by kernel_rfl) (by kernel_rfl) hb.drew ?_
          (repeat (first | (refine Flow.skip (by rfl) ?_; simp only [Act.put, List.setIfInBounds_toArray, List.set_cons_zero, List.set_cons_succ]) | (refine' Flow.take _ (by rfl) (fun W hW R hR => ?_) ?_; rotate_left; (go_simp; (try go_bits); with_reducible exact hR); simp only [Act.put, List.setIfInBounds_toArray, List.set_cons_zero, List.set_cons_succ])))
          intro w4 hb4
          go_wp2
          go_roundw
          case rel => exact ⟨k + 1, by omega, by go_num, hid (by rw [take_succ_gI xs hlt, take_succ_gI ys (by omega), hs.out, show gI xs k = gI ys k by simpa using tv]), hb4⟩
          case measure => simp [intOf]; omega
      · have hkk : k = xs.length := by omega
        have he : xs = ys := by
          have := hs.out
          rw [List.take_of_length_le (by omega), List.take_of_length_le (by omega)] at this
          exact this
        have he := hid he
        clear hkk
        go_wp2
        go_ret
        exact ⟨retb (by rw [decide_eq_true he.out]), hb⟩
  · have tl : ((xs.length : Int) != (ys.length : Int)) = true := by rw [bne_iff_ne]; omega
    go_enter Try.func37, Try.ntmps37
    go_wp2
    go_ret
    exact ⟨retb (by symm; rw [decide_eq_false_iff_not]; rintro rfl; exact hl rfl), Below.refl _ _⟩

def eqO (o p : O) : Bool := decide (o.n = p.n) && (decide (o.e = p.e) && decide (o.m = p.m))
set_option maxHeartbeats 1000000 in
theorem oct_any (o p : O) (A A' : Option Addr) (c c' : Nat) (w : World) (hx : Rd w w.heap.size A o.m) (hy : Rd w w.heap.size A' p.m) (hm : o.m.length ≤ 17592186044416) :
    Calls Try.prog 16 #[.agg #[.int .i64 o.n, .bool o.e, .slice A o.m.length c], .agg #[.int .i64 p.n, .bool p.e, .slice A' p.m.length c']] w fun e w' => e = .returned (.bool (eqO o p)) ∧ Below w.heap.size w w' := by
  obtain ⟨n, e, m⟩ := o
  obtain ⟨n', e', m'⟩ := p
  dsimp only at *
  have hb0 : ∀ o1 o2, Below w.heap.size w ((w.alloc o1).alloc o2) := fun o1 o2 => ((Below.refl _ _).alloc (Nat.le_refl _) _).alloc (by simp) _
  by_cases hn : n = n'
  · have tn : (n == n') = true := by simpa using hn
    have HN := hid hn; clear hn
    by_cases he : e = e'
    · subst he
      go_enter Try.func16, Try.ntmps16
      go_wp2_with (go_at_call 37; refine (longs_any m m' A A' c c' _ ((hx.below (hb0 _ _)).more (by simp; omega)) ((hy.below (hb0 _ _)).more (by simp; omega)) hm).mono ?_; rintro e' w1 ⟨rfl, hb1⟩)
      go_ret
      exact ⟨retb (by unfold eqO; rw [decide_eq_true HN.out]; simp), (hb0 _ _).trans (hb1.mono (by simp; omega))⟩
    · have te : (e == e') = false := by simpa using he
      have HE := hid he; clear he
      go_enter Try.func16, Try.ntmps16
      go_wp2
      go_ret
      exact ⟨retb (by unfold eqO; rw [decide_eq_false HE.out]; simp), hb0 _ _⟩
  · have tn : (n == n') = false := by simpa using hn
    have HN := hid hn; clear hn
    go_enter Try.func16, Try.ntmps16
    go_wp2
    go_ret
    exact ⟨retb (by unfold eqO; rw [decide_eq_false HN.out]; simp), hb0 _ _⟩
end
section

end
end Go.Proofs.Ytjmmegnonlbdnaa
