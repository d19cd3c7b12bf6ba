/-
  gnomonref21.Shaped: are octagons those of a graph's points? (Printed by gen_rshaped.py, out of XFits.)
  gnomonref10.Fuel: the error of a script and a number of steps.
  gnomonref12.half, gnomonref12.Diff of numbers that are near.
  gnomonref14.Drop at one variable, gnomonref14.Forget.
  The octagon of one point behind exact edges: the point's, where it takes the edge; empty, where it doesn't. Plain.
  gnomonref12.Points at one point whose numbers are near: what it answers.
  gnomonref12.Has: whether an octagon that may be has a point of numbers that are not great.
-/
import Derived.Test.YtkncebcekhfnfaaGreatWatchSeen
import Derived.Test.YtkncebcekhfnfaaGreatBWE37
import Derived.Test.YtkncebcekhfnfaaGreatSRun
import Derived.Test.YtkncebcekhfnfaaGreatRefCheck
import Derived.Test.YtkncebcekhfnfaaGreatBWE12
import Derived.Test.YtkncebcekhfnfaaGreatBWE02
import Derived.Test.YtkncebcekhfnfaaGreatFlow
import Derived.Test.YtkncebcekhfnfaaGreatBWE09
import Derived.Test.YtkncebcekhfnfaaGreatBWE10
namespace Go.Proofs.YtkncebcekhfnfaaGreat
section
open Go.RowKit
attribute [local go_sem ↓] Go.wp_at_zero Go.wp_at_succ

set_option maxRecDepth 8000 in
set_option maxHeartbeats 16000000 in
theorem rshaped_ok (g : Gr) (V D E : Option Addr) (cv cd ce : Nat) (A : Option Addr) (c : Nat) (zs : List Z) (w : World) (hz : RowZ w A zs) (hc : chk g = 0) (hl : zs.length ≤ 17592186044416) :
    Calls Tryz.prog 30 #[grV g V D E cv cd ce, .slice A zs.length c] w fun e w' => e = .returned (.bool (fitsB g (zs.map (·.1)))) ∧ Below w.heap.size w w' := by
  obtain ⟨ct0, ct1, ca, ces, csz, cz, cr⟩ := chk_parts hc
  have HALL := hid (show g.all = (g.nv : Int) + g.tm from rfl)
  have hnv : (g.nv : Int) ≤ 64 := by have : g.all = (g.nv : Int) + g.tm := rfl; omega
  have hs1 : (g.nv : Int) + g.tm ≤ 64 := ca
  have hs0 : 0 ≤ (g.nv : Int) + g.tm := by omega
  obtain ⟨fb, HFB⟩ : ∃ fb, Hid (fitsB g (zs.map (·.1)) = fb) := ⟨_, hid rfl⟩
  rw [HFB.out]
  have hb0 := new1 w (.cells #[.slice V g.nv cv, .int .i64 g.tm, .slice D g.sz.length cd, .int .i64 g.pts, .int .i64 g.ex, .slice E g.es.length ce] 26)
  have k0 := Blk.new w 26 #[.slice V g.nv cv, .int .i64 g.tm, .slice D g.sz.length cd, .int .i64 g.pts, .int .i64 g.ex, .slice E g.es.length ce]
  have HAL := hid (fun W => all_any g V D E cv cd ce W (by omega) (by omega) (by omega))
  have HZ := hid hz
  clear hz hc cz cr ca ces csz
  unfold grV
  go_enter Tryz.func30, Tryz.ntmps30
  go_upto_region 1 with fail
  generalize w.alloc (.cells #[.slice V g.nv cv, .int .i64 g.tm, .slice D g.sz.length cd, .int .i64 g.pts, .int .i64 g.ex, .slice E g.es.length ce] 26) = w1 at *
  have HK0 := hid k0
  obtain ⟨f0, f1, f2, f3, f4, f5, ff⟩ := blk6 k0
  clear k0
  by_cases hn : (zs.length : Int) = g.pts
  case neg =>
    have HF : Hid (fb = false) := hid (by
      rw [← HFB.out]
      unfold fitsB
      rw [Bool.and_eq_false_iff]
      exact .inl (decide_eq_false (by rw [List.length_map]; exact hn)))
    have hn' : ((zs.length : Int) != g.pts) = true := by rw [bne_iff_ne]; exact hn
    have HB := hid hb0
    clear hb0
    go_wp2
    go_ret
    exact ⟨by show Ending.returned (.bool false) = .returned (.bool fb); rw [HF.out], HB.out⟩
  have HFA := hid (fun (h : ∀ z ∈ zs, fitB g z.1 = true) => (show fb = true from by
    rw [← HFB.out]
    unfold fitsB
    rw [Bool.and_eq_true, decide_eq_true_eq, List.all_eq_true]
    exact ⟨by rw [List.length_map]; exact hn, fun o ho => by obtain ⟨z, hz, rfl⟩ := List.mem_map.1 ho; exact h z hz⟩))
  have HFN := hid (fun (z : Z) (hz : z ∈ zs) (h : fitB g z.1 = false) => (show fb = false from by
    rw [← HFB.out]
    unfold fitsB
    rw [Bool.and_eq_false_iff, List.all_eq_false]
    exact .inr ⟨z.1, List.mem_map_of_mem hz, by rw [Bool.not_eq_true]; exact h⟩))
  have HBW := hid hb0
  have HF3 := hid f3
  have HNV := hid hnv
  have HS1 := hid hs1
  have HS0 := hid hs0
  have hn' : ((zs.length : Int) != g.pts) = false := by rw [bne_eq_false_iff_eq]; exact hn
  clear hb0 f0 f1 f2 f3 f4 f5 ff
  obtain ⟨f0, f1, f2, f3, f4, f5, ff⟩ := blk6 HK0.out
  go_wp2
  clear f0 f1 f2 f3 f4 f5 ff hn'
  go_loopw [5] (fun t wr => ∃ (k : Nat), k ≤ zs.length ∧ t = .int .i64 k ∧ (∀ z ∈ zs.take k, fitB g z.1 = true) ∧ Below w1.heap.size w1 wr) (fun t _ => zs.length - (Go.RowKit.intOf t).toNat)
  case atStart => exact ⟨0, by omega, rfl, fun z hz => absurd hz (by simp), Below.refl _ _⟩
  case round =>
    obtain ⟨k, hk, rfl, hall, hb⟩ := hrel
    by_cases hlt : k < zs.length
    · have hlt' : (k : Int) < (zs.length : Int) := by omega
      obtain ⟨b, off, rfl, hB, c0, c1, c2⟩ := ((HZ.out.up HBW.out).up hb).at_ k hlt
      have hrd := ((HZ.out.up HBW.out).up hb).rd k hlt
      have hle := HZ.out.le k hlt
      have HMEM := hid (List.getElem_mem hlt)
      have HALL' := hid hall
      obtain ⟨z, hz⟩ : ∃ z, zs[k] = z := ⟨_, rfl⟩
      have HZK := hid hz
      rw [hz] at c0 c1 c2 hrd hle HMEM
      have hk0 := HK0.out.later hb
      have hbr := bup HBW.out hb
      have HCK := hid (fun W (h : Below wr.heap.size wr W) => rcheck_any z.1 z.2.1 z.2.2 W ((hrd.up h)) (by omega))
      obtain ⟨f0, f1, f2, f3, f4, f5, ff⟩ := blk6 hk0
      have l0 := later f0
      have l1 := later f1
      have l2 := later f2
      have l3 := later f3
      have l4 := later f4
      have l5 := later f5
      have m0 := later c0
      have m1 := later c1
      have m2 := later c2
      have HB0 := hid hb
      clear hall hz hrd hle hb c0 c1 c2 f0 f1 f2 f3 f4 f5 ff hk0
      by_cases hzn : z.1.n = g.all
      case neg =>
        have HF : Hid (fb = false) := hid (HFN.out z HMEM.out (by unfold fitB; rw [Bool.and_eq_false_iff]; exact .inl (decide_eq_false hzn)))
        have hne : (z.1.n != g.all) = true := by rw [bne_iff_ne]; exact hzn
        clear hzn
        go_upto_region 6 with fail
        refine wp_region_flow 11 (fun W => Below wr.heap.size wr W) (by kernel_rfl) (by kernel_rfl) (Below.refl _ _).drew ?_
        (repeat (first | (refine Flow.skip (by rfl) ?_; simp only [Act.put, List.setIfInBounds_toArray, List.set_cons_zero, List.set_cons_succ]) | (refine' Flow.take _ (by rfl) (fun W hW R hR => ?_) ?_; rotate_left; (go_simp; (try go_bits); with_reducible exact hR); simp only [Act.put, List.setIfInBounds_toArray, List.set_cons_zero, List.set_cons_succ])))
        (refine Flow.call 21 #[.agg #[.slice V g.nv cv, .int .i64 g.tm, .slice D g.sz.length cd, .int .i64 g.pts, .int .i64 g.ex, .slice E g.es.length ce]] (.int .i64 g.all) (by rfl) (fun X hX => by go_simp) (fun X hX => (HAL.out X).mono fun e' w' ⟨he, hb'⟩ => ⟨he, bstep hX hX.size hb'⟩) ?_; simp only [Act.put, List.setIfInBounds_toArray, List.set_cons_zero, List.set_cons_succ])
        (repeat (first | (refine Flow.skip (by rfl) ?_; simp only [Act.put, List.setIfInBounds_toArray, List.set_cons_zero, List.set_cons_succ]) | (refine' Flow.take _ (by rfl) (fun W hW R hR => ?_) ?_; rotate_left; (go_simp; (try go_bits); with_reducible exact hR); simp only [Act.put, List.setIfInBounds_toArray, List.set_cons_zero, List.set_cons_succ])))
        intro w3 hb3
        clear l0 l1 l2 l3 l4 l5 m0 m1 m2
        replace hbr := bup hbr hb3
        clear hb3
        go_wp2
        go_ret
        exact ⟨by show Ending.returned (.bool false) = .returned (.bool fb); rw [HF.out], hbr⟩
      have HZN := hid hzn
      have hne : (z.1.n != g.all) = false := by rw [bne_eq_false_iff_eq]; exact hzn
      clear hzn
      obtain ⟨ck, HCKE⟩ : ∃ ck, Hid (check z.1 = ck) := ⟨_, hid rfl⟩
      rw [HCKE.out] at HCK
      go_upto_region 6 with fail
      refine wp_region_flow 11 (fun W => Below wr.heap.size wr W) (by kernel_rfl) (by kernel_rfl) (Below.refl _ _).drew ?_
      (repeat (first | (refine Flow.skip (by rfl) ?_; simp only [Act.put, List.setIfInBounds_toArray, List.set_cons_zero, List.set_cons_succ]) | (refine' Flow.take _ (by rfl) (fun W hW R hR => ?_) ?_; rotate_left; (go_simp; (try go_bits); with_reducible exact hR); simp only [Act.put, List.setIfInBounds_toArray, List.set_cons_zero, List.set_cons_succ])))
      (refine Flow.call 21 #[.agg #[.slice V g.nv cv, .int .i64 g.tm, .slice D g.sz.length cd, .int .i64 g.pts, .int .i64 g.ex, .slice E g.es.length ce]] (.int .i64 g.all) (by rfl) (fun X hX => by go_simp) (fun X hX => (HAL.out X).mono fun e' w' ⟨he, hb'⟩ => ⟨he, bstep hX hX.size hb'⟩) ?_; simp only [Act.put, List.setIfInBounds_toArray, List.set_cons_zero, List.set_cons_succ])
      (repeat (first | (refine Flow.skip (by rfl) ?_; simp only [Act.put, List.setIfInBounds_toArray, List.set_cons_zero, List.set_cons_succ]) | (refine' Flow.take _ (by rfl) (fun W hW R hR => ?_) ?_; rotate_left; (go_simp; (try go_bits); with_reducible exact hR); simp only [Act.put, List.setIfInBounds_toArray, List.set_cons_zero, List.set_cons_succ])))
      intro w3 hb3
      have k0 := m0 w3 hb3
      have k1 := m1 w3 hb3
      have k2 := m2 w3 hb3
      have hck := HCK.out w3 hb3
      clear l0 l1 l2 l3 l4 l5 m0 m1 m2 HCK
      have HB3 := hid (bup hbr hb3)
      have HB4 := hid (bup HB0.out hb3)
      clear hbr hb3
      go_wp2_with fail
      clear k0 k1 k2
      (with_reducible refine hck.mono ?_)
      rintro e4 w4 ⟨rfl, hb4⟩
      clear hck
      have HB5 := hid (bup HB3.out hb4)
      have HB6 := hid (bup HB4.out hb4)
      clear hb4
      by_cases hc0 : ck = 0
      · subst hc0
        have HA : Hid (∀ y ∈ zs.take (k + 1), fitB g y.1 = true) := hid (fun y hy => by
          rw [List.take_succ_eq_append_getElem hlt, List.mem_append, List.mem_singleton] at hy
          rcases hy with hy | hy
          · exact HALL'.out y hy
          · rw [hy, HZK.out]
            unfold fitB
            rw [Bool.and_eq_true, decide_eq_true_eq, decide_eq_true_eq]
            exact ⟨HZN.out, HCKE.out⟩)
        go_wp2
        go_roundw
        case rel => exact ⟨k + 1, by omega, by go_num, HA.out, HB6.out⟩
        case measure => simp [Go.RowKit.intOf]; omega
      · have HF : Hid (fb = false) := hid (HFN.out z HMEM.out (by unfold fitB; rw [Bool.and_eq_false_iff]; exact .inr (decide_eq_false (by rw [HCKE.out]; exact hc0))))
        have hne2 : (ck != 0) = true := by rw [bne_iff_ne]; exact hc0
        clear hc0
        go_wp2
        go_ret
        exact ⟨by show Ending.returned (.bool false) = .returned (.bool fb); rw [HF.out], HB5.out⟩
    · obtain rfl : k = zs.length := by omega
      rw [List.take_length] at hall
      have HF : Hid (fb = true) := hid (HFA.out hall)
      have HB := hid (bup HBW.out hb)
      clear hb hall
      go_wp2
      go_ret
      exact ⟨by show Ending.returned (.bool true) = .returned (.bool fb); rw [HF.out], HB.out⟩
end
section
open Go.RowKit
attribute [local go_sem ↓] Go.wp_at_zero Go.wp_at_succ

set_option maxRecDepth 8000 in
set_option maxHeartbeats 4000000 in
theorem rfuel_ok (S : Option Addr) (l sc : Nat) (k : Int) (w : World) :
    Calls Tryz.prog 31 #[.slice S l sc, .int .i64 k] w fun e w' => e = .returned (.int .i64 (fuelE l k)) ∧ w' = w := by
  obtain ⟨fe, HFE⟩ : ∃ fe, Hid (fuelE l k = fe) := ⟨_, hid rfl⟩
  rw [HFE.out]
  by_cases q1 : k < 0
  · have HF : Hid (fe = 80) := hid (by rw [← HFE.out]; unfold fuelE; rw [if_pos (.inl q1)])
    go_enter Tryz.func31, Tryz.ntmps31
    go_wp2
    go_ret
    exact ⟨ret64 (by rw [HF.out]), rfl⟩
  by_cases q2 : 65536 < k
  · have HF : Hid (fe = 80) := hid (by rw [← HFE.out]; unfold fuelE; rw [if_pos (.inr (.inl q2))])
    go_enter Tryz.func31, Tryz.ntmps31
    go_wp2
    go_ret
    exact ⟨ret64 (by rw [HF.out]), rfl⟩
  by_cases q3 : 65536 < (l : Int)
  · have HF : Hid (fe = 80) := hid (by rw [← HFE.out]; unfold fuelE; rw [if_pos (.inr (.inr q3))])
    go_enter Tryz.func31, Tryz.ntmps31
    go_wp2
    go_ret
    exact ⟨ret64 (by rw [HF.out]), rfl⟩
  · have HF : Hid (fe = 0) := hid (by rw [← HFE.out]; unfold fuelE; rw [if_neg (by omega)])
    go_enter Tryz.func31, Tryz.ntmps31
    go_wp2
    go_ret
    exact ⟨ret64 (by rw [HF.out]), rfl⟩
end
section
open Go.RowKit
attribute [local go_sem ↓] Go.wp_at_zero Go.wp_at_succ

theorem halves (v : Int) : ∃ q r : Int, Int.tdiv v 2 = q ∧ Int.tmod v 2 = r ∧ 2 * q + r = v ∧ -1 ≤ r ∧ r ≤ 1 := by
  refine ⟨_, _, rfl, rfl, Int.mul_tdiv_add_tmod v 2, ?_, ?_⟩
  · obtain ⟨n, rfl | rfl⟩ := Int.eq_nat_or_neg v
    · rw [Int.tmod_eq_emod_of_nonneg (by omega)]; omega
    · rw [Int.neg_tmod, Int.tmod_eq_emod_of_nonneg (by omega)]; omega
  · obtain ⟨n, rfl | rfl⟩ := Int.eq_nat_or_neg v
    · rw [Int.tmod_eq_emod_of_nonneg (by omega)]; omega
    · rw [Int.neg_tmod, Int.tmod_eq_emod_of_nonneg (by omega)]; omega
def HalfRes (u : Int) (w : World) (e : Ending) (w' : World) : Prop := ∃ h r, e = .returned (.tuple #[.int .i64 h, .int .i64 r]) ∧ 2 * h + r = u ∧ 0 ≤ r ∧ r ≤ 1 ∧ Below w.heap.size w w'
end
section

end
section

end
section

end
section
open Go.RowKit
attribute [local go_sem ↓] Go.wp_at_zero Go.wp_at_succ

/-- The cells ahead of number k let the point be. -/
def HasTo (N : Nat) (m x : List Int) (k : Nat) : Prop := ∀ i j : Nat, i < N → j < N → i * N + j < k → Lets (G N m i j) (apartX x i j)
theorem HasTo.step {N : Nat} {m x : List Int} {i j : Nat} (h : HasTo N m x (i * N + j)) (hj : j < N) (k : Lets (G N m i j) (apartX x i j)) : HasTo N m x (i * N + j + 1) := fun a b ha hb hlt => by
  by_cases e : a * N + b = i * N + j
  · have e1 : a = i := by
      have h1 := at_div (N := N) (a := a) hb
      have h2 := at_div (N := N) (a := i) hj
      rw [e] at h1; omega
    subst e1
    have e2 : b = j := by omega
    subst e2
    exact k
  · exact h a b ha hb (by omega)
theorem HasTo.row {N : Nat} {m x : List Int} {i : Nat} (h : HasTo N m x (i * N + N)) : HasTo N m x ((i + 1) * N) := by rw [Nat.add_mul, Nat.one_mul]; exact h
theorem HasTo.all {N : Nat} {m x : List Int} (h : HasTo N m x (N * N)) : HasM N m x := fun i j hi hj => h i j hi hj (lt_sq hi hj)
theorem apart_self (x : List Int) (i : Nat) : apartX x i i = 0 := by unfold apartX; omega

def RHasRes (o : O) (xs : List Int) (w : World) (e : Ending) (w' : World) : Prop := ∃ b, e = .returned (.bool b) ∧ (b = true ↔ HasO o xs) ∧ Below w.heap.size w w'
end
end Go.Proofs.YtkncebcekhfnfaaGreat
