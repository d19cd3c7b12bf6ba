/-
  dbm.Has: whether an octagon that may be has a point.
-/
import Derived.Test.YtjmmegnonlbdnaaWide
import Derived.Test.YtjmmegnonlbdnaaBPP11
namespace Go.Proofs.Ytjmmegnonlbdnaa
open Go.RowKit
attribute [local go_sem ↓] Go.wp_at_zero Go.wp_at_succ

theorem sgn_pos (a b : Int) : decide (0 < sgnI a b) = decide (b < a) := by
  unfold sgnI
  split
  · rw [decide_eq_decide]; omega
  · split
    · rw [decide_eq_decide]; omega
    · rw [decide_eq_decide]; omega
/-- Some answer, which is 'true' just where the octagon has the point. -/
def HasRes (o : O) (xs : List Int) (w : World) (e : Ending) (w' : World) : Prop := ∃ b, e = .returned (.bool b) ∧ (b = true ↔ HasO o xs) ∧ Below w.heap.size w w'
set_option maxRecDepth 8000 in
set_option maxHeartbeats 4000000 in
theorem has_ok (o : O) (hk : check o = 0) (xs : List Int) (A X : Option Addr) (cap xc : Nat) (w : World) (hx : Rd w w.heap.size A o.m) (hm : o.m.length ≤ 17592186044416) (hxs : Rd w w.heap.size X xs) (hI : ∀ k : Nat, I64 (gI xs (k : Int))) :
    Calls Try.prog 18 #[.agg #[.int .i64 o.n, .bool o.e, .slice A o.m.length cap], .slice X xs.length xc] w (HasRes o xs w) := by
  obtain ⟨p0, hb0, hsz⟩ := new_one w #[.int .i64 o.n, .bool o.e, .slice A o.m.length cap] 39
  have hx0 := hx.up hb0
  have hxs0 := hxs.up hb0
  have HK := hid hk
  have HC := hid (fun W h => check_any o A cap W h (by omega))
  rw [HK.out] at HC
  obtain ⟨on, oe, om⟩ := o
  dsimp only at *
  clear hk hsz hx hxs
  go_enter Try.func18, Try.ntmps18
  obtain ⟨x0, x1, x2, fx⟩ := octbox p0
  go_wp2_with fail
  clear x0 x1 x2 fx
  generalize w.alloc (Obj.cells #[.int .i64 on, .bool oe, .slice A om.length cap] 39) = w0 at *
  (with_reducible refine (HC.out w0 hx0).mono ?_)
  clear HC
  rintro e1 w1 ⟨rfl, hb1⟩
  replace p0 := p0.later hb1
  replace hx0 := hx0.up hb1
  replace hxs0 := hxs0.up hb1
  replace hb0 := bup hb0 hb1
  clear hb1
  obtain ⟨x0, x1, x2, fx⟩ := octbox p0
  cases oe with
  | true =>
    have HF : Hid (¬ HasO ⟨on, true, om⟩ xs) := hid (fun h => by have := h.1; simp at this)
    go_wp2
    go_ret
    exact ⟨false, rfl, ⟨fun h => by simp at h, fun h => absurd h HF.out⟩, hb0⟩
  | false =>
    by_cases hl : (xs.length : Int) = on
    rotate_left
    · have HF : Hid (¬ HasO ⟨on, false, om⟩ xs) := hid (fun h => hl h.2.1)
      have t1 : ((xs.length : Int) != on) = true := by simpa using hl
      clear hl
      go_wp2
      go_ret
      exact ⟨false, rfl, ⟨fun h => by simp at h, fun h => absurd h HF.out⟩, hb0⟩
    · have t1 : ((xs.length : Int) != on) = false := by simpa using hl
      obtain ⟨n0, n1, -, -⟩ := check_ok HK.out
      dsimp only at n0 n1
      obtain ⟨N, hN⟩ : ∃ N : Nat, (N : Int) = 2 * on := ⟨(2 * on).toNat, by omega⟩
      have hn : N ≤ 128 := by omega
      have HCC := hid (cells_of hN HK.out)
      have HHF : Hid (HasO ⟨on, false, om⟩ xs ↔ HasM N om xs) := hid (by unfold HasO; dsimp only; rw [show (2 * on).toNat = N by omega]; simp [hl])
      have HL := hid hl
      have HN := hid hN
      have HML := hid HCC.out.len
      clear hl hN
      go_wp2
      clear x0 x1 x2 fx t1
      go_loopw [25] (fun t wq => ∃ i : Nat, i ≤ N ∧ t = .int .i64 i ∧ (∀ a b : Nat, a < i → b < N → Lets (G N om a b) (apartX xs a b)) ∧ Below w1.heap.size w1 wq) (fun t _ => N - (intOf t).toNat)
      case atStart => exact ⟨0, by omega, rfl, fun a b h => by omega, Below.refl _ _⟩
      case round =>
        obtain ⟨i, hi, rfl, hrow, hb⟩ := hrel
        have HR := hid hrow
        clear hrow
        have q0 := p0.later hb
        obtain ⟨x0, x1, x2, fx⟩ := octbox q0
        by_cases hlt : i < N
        · have hlti : (i : Int) < 2 * on := by have := HN.out; omega
          go_wp2
          clear x0 x1 x2 fx q0
          go_loopw [31] (fun t wq => ∃ j : Nat, j ≤ N ∧ t = .int .i64 j ∧ (∀ b : Nat, b < j → Lets (G N om i b) (apartX xs i b)) ∧ Below w1.heap.size w1 wq) (fun t _ => N - (intOf t).toNat)
          case atStart => exact ⟨0, by omega, rfl, fun b h => by omega, hb⟩
          case round =>
            clear hb
            obtain ⟨j, hj, rfl, hcol, hb⟩ := hrel
            have HCO := hid hcol
            clear hcol
            have q0 := p0.later hb
            obtain ⟨x0, x1, x2, fx⟩ := octbox q0
            by_cases hlt2 : j < N
            · have hltj : (j : Int) < 2 * on := by have := HN.out; omega
              have hx1 := hx0.up hb
              have hxs1 := hxs0.up hb
              obtain ⟨q1, q2, q3, q4, q5, q6⟩ := idx_ok (i := i) (j := j) HN.out hlt hlt2 hn
              rw [← HML.out] at q4 q6
              obtain ⟨g1, o1, rfl, hg1, c4⟩ := hx1 (i * N + j) q4
              obtain ⟨v, hv⟩ : ∃ v, v = G N om i j := ⟨_, rfl⟩
              have HV := hid hv
              rw [show gI om ((i * N + j : Nat) : Int) = v from hv.symm] at c4
              have hvI : I64 v := by
                have e : isBound (G N om i j) = true := HCC.out.bd i j hlt hlt2
                rw [← hv] at e
                unfold I64
                rcases bndS e with e | e <;> omega
              have HVI := hid hvI
              clear hv hvI
              go_upto_region 9 with fail
              have f0 := later x0
              have f1 := later x1
              have f2 := later x2
              have f4 := later c4
              clear x0 x1 x2 fx c4
              refine wp_region_flow 8 (fun X => Below wr.heap.size wr X) (by kernel_rfl) (by kernel_rfl) (Below.refl _ _).drew ?_
              (repeat (first | (refine Flow.skip (by rfl) ?_; simp only [Act.put, List.setIfInBounds_toArray, List.set_cons_zero, List.set_cons_succ]) | (refine' Flow.take _ (by rfl) (fun W hW R hR => ?_) ?_; rotate_left; (go_simp; (try go_bits); with_reducible exact hR); simp only [Act.put, List.setIfInBounds_toArray, List.set_cons_zero, List.set_cons_succ])))
              (refine Flow.call 39 #[.agg #[.int .i64 (i : Int), .int .i64 (j : Int)], .int .i64 on] (.int .i64 (2 * on * (i : Int) + (j : Int))) (by rfl) (fun X hX => by go_simp) (fun X hX => (at_any _ _ _ _ n0 n1 (by omega) (by omega) (by omega) (by omega)).mono fun e' w' ⟨he, hb'⟩ => ⟨he, bstep hX hX.size hb'⟩) ?_; simp only [Act.put, List.setIfInBounds_toArray, List.set_cons_zero, List.set_cons_succ])
              (repeat (first | (refine Flow.skip (by rfl) ?_; simp only [Act.put, List.setIfInBounds_toArray, List.set_cons_zero, List.set_cons_succ]) | (refine' Flow.take _ (by rfl) (fun W hW R hR => ?_) ?_; rotate_left; (go_simp; (try go_bits); with_reducible exact hR); simp only [Act.put, List.setIfInBounds_toArray, List.set_cons_zero, List.set_cons_succ])))
              intro w3 hb3
              have c4 := f4 w3 hb3
              clear f0 f1 f2 f4
              have hxs3 := hxs1.up hb3
              replace hb := bup hb hb3
              clear hxs1 hb3
              cases t2 : (v != 9223372036854775807)
              · have HG : Hid (Lets (G N om i j) (apartX xs i j)) := hid (.inl (by rw [← HV.out]; simpa using t2))
                go_wp2
                go_roundw
                case rel => exact ⟨j + 1, by omega, by go_num, fun b h => if e : b = j then e ▸ HG.out else HCO.out b (by omega), hb⟩
                case measure => simp [intOf]; omega
              · have hv2 : v ≠ 9223372036854775807 := by simpa using t2
                have HV2 := hid hv2
                clear hv2
                have HA := hid (wapart_ok xs i j X xc w3.heap.size w3 hxs3 (Nat.le_refl _) hI (by have := HL.out; have := HN.out; omega) (by omega) (by have := HL.out; have := HN.out; omega) (by omega))
                go_wp2_with (refine HA.out.mono ?_)
                rintro e4 w4 ⟨rfl, hb4⟩
                clear HA
                have HO := hid (of_ok v HVI.out w4)
                go_wp2_with (refine HO.out.mono ?_)
                rintro e5 w5 ⟨rfl, hb5⟩
                clear HO
                have HW := hid (wcompare_ok (apartX xs i j) v w5)
                go_wp2_with (refine HW.out.mono ?_)
                rintro e6 w6 ⟨rfl, hb6⟩
                clear HW
                replace hb := bup (bup (bup hb hb4) hb5) hb6
                have HS := hid (sgn_pos (apartX xs i j) v)
                generalize sgnI (apartX xs i j) v = sg at *
                by_cases hgt : v < apartX xs i j
                · have t3 : decide (0 < sg) = true := by rw [HS.out, decide_eq_true_eq]; exact hgt
                  have HF : Hid (¬ HasO ⟨on, false, om⟩ xs) := hid (fun h => by
                    rcases (HHF.out.1 h) i j hlt hlt2 with e | e
                    · exact HV2.out (by rw [HV.out]; exact e)
                    · rw [← HV.out] at e; omega)
                  clear hgt
                  go_wp2
                  go_ret
                  exact ⟨false, rfl, ⟨fun h => by simp at h, fun h => absurd h HF.out⟩, bup hb0 hb⟩
                · have t3 : decide (0 < sg) = false := by rw [HS.out, decide_eq_false_iff_not]; exact hgt
                  have HG : Hid (Lets (G N om i j) (apartX xs i j)) := hid (.inr (by rw [← HV.out]; omega))
                  clear hgt
                  go_wp2
                  go_roundw
                  case rel => exact ⟨j + 1, by omega, by go_num, fun b h => if e : b = j then e ▸ HG.out else HCO.out b (by omega), hb⟩
                  case measure => simp [intOf]; omega
            · obtain rfl : j = N := by omega
              have hge : ¬ ((j : Int) < 2 * on) := by have := HN.out; omega
              clear x0 x1 x2 fx q0
              go_wp2
              go_roundw
              case rel => exact ⟨i + 1, by omega, by go_num, fun a b h h2 => if e : a = i then e ▸ HCO.out b h2 else HR.out a b (by omega) h2, hb⟩
              case measure => simp [intOf]; omega
        · obtain rfl : i = N := by omega
          have hge : ¬ ((i : Int) < 2 * on) := by have := HN.out; omega
          clear x0 x1 x2 fx q0
          go_wp2
          go_ret
          exact ⟨true, rfl, ⟨fun _ => HHF.out.2 (fun a b ha hb => HR.out a b ha hb), fun _ => rfl⟩, bup hb0 hb⟩
end Go.Proofs.Ytjmmegnonlbdnaa
