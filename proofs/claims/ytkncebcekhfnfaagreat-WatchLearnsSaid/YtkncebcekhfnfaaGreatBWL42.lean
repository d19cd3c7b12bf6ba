/-
  watch.fits: are octagons those of a graph's points? (Printed by gen_fits.py.)
  dbm.Has: whether an octagon that may be has a point.
-/
import Derived.Test.YtkncebcekhfnfaaGreatBWL22
import Derived.Test.YtkncebcekhfnfaaGreatBWL02
import Derived.Test.YtkncebcekhfnfaaGreatBWL04
import Derived.Test.YtkncebcekhfnfaaGreatSRun
import Derived.Test.YtkncebcekhfnfaaGreatWide
namespace Go.Proofs.YtkncebcekhfnfaaGreat
open Go.RowKit
section
attribute [local go_sem ↓] Go.wp_at_zero Go.wp_at_succ

def fitB (g : Gr) (o : O) : Bool := decide (o.n = g.all) && decide (check o = 0)
set_option maxRecDepth 8000 in
set_option maxHeartbeats 16000000 in
theorem fits_ok (g : Gr) (V D E : Option Addr) (cv cd ce : Nat) (A : Option Addr) (c : Nat) (zs : List Z) (w : World) (hz : RowZ w A zs) (hc : chk g = 0) (hl : zs.length ≤ 17592186044416) :
    Calls Tryz.prog 26 #[grV g V D E cv cd ce, .slice A zs.length c] w fun e w' => e = .returned (.bool (fitsB g (zs.map (·.1)))) ∧ Below w.heap.size w w' := by
  obtain ⟨ct0, ct1, ca, ces, csz, cz, cr⟩ := chk_parts hc
  have HALL := hid (show g.all = (g.nv : Int) + g.tm from rfl)
  have hnv : (g.nv : Int) ≤ 64 := by have : g.all = (g.nv : Int) + g.tm := rfl; omega
  have hs1 : (g.nv : Int) + g.tm ≤ 64 := ca
  have hs0 : 0 ≤ (g.nv : Int) + g.tm := by omega
  obtain ⟨fb, HFB⟩ : ∃ fb, Hid (fitsB g (zs.map (·.1)) = fb) := ⟨_, hid rfl⟩
  rw [HFB.out]
  have hb0 := new1 w (.cells #[.slice V g.nv cv, .int .i64 g.tm, .slice D g.sz.length cd, .int .i64 g.pts, .int .i64 g.ex, .slice E g.es.length ce] 26)
  have k0 := Blk.new w 26 #[.slice V g.nv cv, .int .i64 g.tm, .slice D g.sz.length cd, .int .i64 g.pts, .int .i64 g.ex, .slice E g.es.length ce]
  have HZ := hid hz
  clear hz hc cz cr ca ces csz
  unfold grV
  go_enter Tryz.func26, Tryz.ntmps26
  go_upto_region 1 with fail
  generalize w.alloc (.cells #[.slice V g.nv cv, .int .i64 g.tm, .slice D g.sz.length cd, .int .i64 g.pts, .int .i64 g.ex, .slice E g.es.length ce] 26) = w1 at *
  have HK0 := hid k0
  obtain ⟨f0, f1, f2, f3, f4, f5, ff⟩ := blk6 k0
  clear k0
  by_cases hn : (zs.length : Int) = g.pts
  case neg =>
    have HF : Hid (fb = false) := hid (by
      rw [← HFB.out]
      unfold fitsB
      rw [Bool.and_eq_false_iff]
      exact .inl (decide_eq_false (by rw [List.length_map]; exact hn)))
    have hn' : ((zs.length : Int) != g.pts) = true := by rw [bne_iff_ne]; exact hn
    have HB := hid hb0
    clear hb0
    go_wp2
    go_ret
    exact ⟨by show Ending.returned (.bool false) = .returned (.bool fb); rw [HF.out], HB.out⟩
  have HFA := hid (fun (h : ∀ z ∈ zs, fitB g z.1 = true) => (show fb = true from by
    rw [← HFB.out]
    unfold fitsB
    rw [Bool.and_eq_true, decide_eq_true_eq, List.all_eq_true]
    exact ⟨by rw [List.length_map]; exact hn, fun o ho => by obtain ⟨z, hz, rfl⟩ := List.mem_map.1 ho; exact h z hz⟩))
  have HFN := hid (fun (z : Z) (hz : z ∈ zs) (h : fitB g z.1 = false) => (show fb = false from by
    rw [← HFB.out]
    unfold fitsB
    rw [Bool.and_eq_false_iff, List.all_eq_false]
    exact .inr ⟨z.1, List.mem_map_of_mem hz, by rw [Bool.not_eq_true]; exact h⟩))
  have HBW := hid hb0
  have HF3 := hid f3
  have HNV := hid hnv
  have HS1 := hid hs1
  have HS0 := hid hs0
  have hn' : ((zs.length : Int) != g.pts) = false := by rw [bne_eq_false_iff_eq]; exact hn
  clear hb0 f0 f1 f2 f3 f4 f5 ff
  obtain ⟨f0, f1, f2, f3, f4, f5, ff⟩ := blk6 HK0.out
  go_wp2
  clear f0 f1 f2 f3 f4 f5 ff hn'
  go_loopw [14] (fun t wr => ∃ (k : Nat), k ≤ zs.length ∧ t = .int .i64 k ∧ (∀ z ∈ zs.take k, fitB g z.1 = true) ∧ Below w1.heap.size w1 wr) (fun t _ => zs.length - (Go.RowKit.intOf t).toNat)
  case atStart => exact ⟨0, by omega, rfl, fun z hz => absurd hz (by simp), Below.refl _ _⟩
  case round =>
    obtain ⟨k, hk, rfl, hall, hb⟩ := hrel
    by_cases hlt : k < zs.length
    · have hlt' : (k : Int) < (zs.length : Int) := by omega
      obtain ⟨b, off, rfl, hB, c0, c1, c2⟩ := ((HZ.out.up HBW.out).up hb).at_ k hlt
      have hrd := ((HZ.out.up HBW.out).up hb).rd k hlt
      have hle := HZ.out.le k hlt
      have HMEM := hid (List.getElem_mem hlt)
      have HALL' := hid hall
      obtain ⟨z, hz⟩ : ∃ z, zs[k] = z := ⟨_, rfl⟩
      have HZK := hid hz
      rw [hz] at c0 c1 c2 hrd hle HMEM
      have n2 := new1 wr (.cells #[.int .i64 z.1.n, .bool z.1.e, .slice z.2.1 z.1.m.length z.2.2] 53)
      have k2 := hid (Blk.new wr 53 #[.int .i64 z.1.n, .bool z.1.e, .slice z.2.1 z.1.m.length z.2.2])
      have HB2 := hid (bup hb n2)
      have HCK := hid (fun (h : Rd (wr.alloc (.cells #[.int .i64 z.1.n, .bool z.1.e, .slice z.2.1 z.1.m.length z.2.2] 53)) (wr.alloc (.cells #[.int .i64 z.1.n, .bool z.1.e, .slice z.2.1 z.1.m.length z.2.2] 53)).heap.size z.2.1 z.1.m) => check_any z.1 z.2.1 z.2.2 _ h (by omega))
      have HRD := hid (hrd.up n2)
      clear hall hz hrd hle n2 hb
      go_upto_region 6 with fail
      clear c0 c1 c2 hB
      have hk0 := HK0.out.later HB2.out
      have hck := HCK.out HRD.out
      have kz := k2.out
      have HBX := hid (bup HBW.out HB2.out)
      clear HCK
      generalize wr.alloc (.cells #[.int .i64 z.1.n, .bool z.1.e, .slice z.2.1 z.1.m.length z.2.2] 53) = w2 at *
      obtain ⟨ck, HCKE⟩ : ∃ ck, Hid (check z.1 = ck) := ⟨_, hid rfl⟩
      rw [HCKE.out] at hck
      have hnv := HNV.out
      have hs0 := HS0.out
      have hs1 := HS1.out
      obtain ⟨f0, f1, f2, f3, f4, f5, ff⟩ := blk6 hk0
      have z0 := kz.cell 0
      have z1 := kz.cell 1
      have z2 := kz.cell 2
      clear hk0 kz k2
      by_cases hzn : z.1.n = (g.nv : Int) + g.tm
      case neg =>
        have HF : Hid (fb = false) := hid (HFN.out z HMEM.out (by unfold fitB; rw [Bool.and_eq_false_iff]; exact .inl (decide_eq_false (by rw [HALL.out]; exact hzn))))
        have hne : (z.1.n != (g.nv : Int) + g.tm) = true := by rw [bne_iff_ne]; exact hzn
        clear hck hzn
        go_wp2
        go_ret
        exact ⟨by show Ending.returned (.bool false) = .returned (.bool fb); rw [HF.out], HBX.out⟩
      have HZN := hid hzn
      have hne : (z.1.n != (g.nv : Int) + g.tm) = false := by rw [bne_eq_false_iff_eq]; exact hzn
      clear hzn
      go_wp2_with fail
      clear f0 f1 f2 f3 f4 f5 ff z0 z1 z2 hnv hs0 hs1 hne
      (with_reducible refine hck.mono ?_)
      rintro e3 w3 ⟨rfl, hb3⟩
      clear hck
      have HB3 := hid (bup HBX.out hb3)
      have HB4 := hid (bup HB2.out hb3)
      clear hb3
      by_cases hc0 : ck = 0
      · subst hc0
        have HA : Hid (∀ y ∈ zs.take (k + 1), fitB g y.1 = true) := hid (fun y hy => by
          rw [List.take_succ_eq_append_getElem hlt, List.mem_append, List.mem_singleton] at hy
          rcases hy with hy | hy
          · exact HALL'.out y hy
          · rw [hy, HZK.out]
            unfold fitB
            rw [Bool.and_eq_true, decide_eq_true_eq, decide_eq_true_eq]
            exact ⟨by rw [HALL.out]; exact HZN.out, HCKE.out⟩)
        go_wp2
        go_roundw
        case rel => exact ⟨k + 1, by omega, by go_num, HA.out, HB4.out⟩
        case measure => simp [Go.RowKit.intOf]; omega
      · have HF : Hid (fb = false) := hid (HFN.out z HMEM.out (by unfold fitB; rw [Bool.and_eq_false_iff]; exact .inr (decide_eq_false (by rw [HCKE.out]; exact hc0))))
        have hne : (ck != 0) = true := by rw [bne_iff_ne]; exact hc0
        clear hc0
        go_wp2
        go_ret
        exact ⟨by show Ending.returned (.bool false) = .returned (.bool fb); rw [HF.out], HB3.out⟩
    · obtain rfl : k = zs.length := by omega
      rw [List.take_length] at hall
      have HF : Hid (fb = true) := hid (HFA.out hall)
      have HB := hid (bup HBW.out hb)
      clear hb hall
      go_wp2
      go_ret
      exact ⟨by show Ending.returned (.bool true) = .returned (.bool fb); rw [HF.out], HB.out⟩
end
section
attribute [local go_sem ↓] Go.wp_at_zero Go.wp_at_succ

theorem sgn_pos (a b : Int) : decide (0 < sgnI a b) = decide (b < a) := by
  unfold sgnI
  split
  · rw [decide_eq_decide]; omega
  · split
    · rw [decide_eq_decide]; omega
    · rw [decide_eq_decide]; omega
/-- Some answer, which is 'true' just where the octagon has the point. -/
def HasRes (o : O) (xs : List Int) (w : World) (e : Ending) (w' : World) : Prop := ∃ b, e = .returned (.bool b) ∧ (b = true ↔ HasO o xs) ∧ Below w.heap.size w w'
set_option maxRecDepth 8000 in
set_option maxHeartbeats 4000000 in
theorem has_ok (o : O) (hk : check o = 0) (xs : List Int) (A X : Option Addr) (cap xc : Nat) (w : World) (hx : Rd w w.heap.size A o.m) (hm : o.m.length ≤ 17592186044416) (hxs : Rd w w.heap.size X xs) (hI : ∀ k : Nat, I64 (gI xs (k : Int))) :
    Calls Tryz.prog 29 #[.agg #[.int .i64 o.n, .bool o.e, .slice A o.m.length cap], .slice X xs.length xc] w (HasRes o xs w) := by
  obtain ⟨p0, hb0, hsz⟩ := new_one w #[.int .i64 o.n, .bool o.e, .slice A o.m.length cap] 53
  have hx0 := hx.up hb0
  have hxs0 := hxs.up hb0
  have HK := hid hk
  have HC := hid (fun W h => check_any o A cap W h (by omega))
  rw [HK.out] at HC
  obtain ⟨on, oe, om⟩ := o
  dsimp only at *
  clear hk hsz hx hxs
  go_enter Tryz.func29, Tryz.ntmps29
  obtain ⟨x0, x1, x2, fx⟩ := octbox p0
  go_wp2_with fail
  clear x0 x1 x2 fx
  generalize w.alloc (Obj.cells #[.int .i64 on, .bool oe, .slice A om.length cap] 53) = w0 at *
  (with_reducible refine (HC.out w0 hx0).mono ?_)
  clear HC
  rintro e1 w1 ⟨rfl, hb1⟩
  replace p0 := p0.later hb1
  replace hx0 := hx0.up hb1
  replace hxs0 := hxs0.up hb1
  replace hb0 := bup hb0 hb1
  clear hb1
  obtain ⟨x0, x1, x2, fx⟩ := octbox p0
  cases oe with
  | true =>
    have HF : Hid (¬ HasO ⟨on, true, om⟩ xs) := hid (fun h => by have := h.1; simp at this)
    go_wp2
    go_ret
    exact ⟨false, rfl, ⟨fun h => by simp at h, fun h => absurd h HF.out⟩, hb0⟩
  | false =>
    by_cases hl : (xs.length : Int) = on
    rotate_left
    · have HF : Hid (¬ HasO ⟨on, false, om⟩ xs) := hid (fun h => hl h.2.1)
      have t1 : ((xs.length : Int) != on) = true := by simpa using hl
      clear hl
      go_wp2
      go_ret
      exact ⟨false, rfl, ⟨fun h => by simp at h, fun h => absurd h HF.out⟩, hb0⟩
    · have t1 : ((xs.length : Int) != on) = false := by simpa using hl
      obtain ⟨n0, n1, -, -⟩ := check_ok HK.out
      dsimp only at n0 n1
      obtain ⟨N, hN⟩ : ∃ N : Nat, (N : Int) = 2 * on := ⟨(2 * on).toNat, by omega⟩
      have hn : N ≤ 128 := by omega
      have HCC := hid (cells_of hN HK.out)
      have HHF : Hid (HasO ⟨on, false, om⟩ xs ↔ HasM N om xs) := hid (by unfold HasO; dsimp only; rw [show (2 * on).toNat = N by omega]; simp [hl])
      have HL := hid hl
      have HN := hid hN
      have HML := hid HCC.out.len
      clear hl hN
      go_wp2
      clear x0 x1 x2 fx t1
      go_loopw [25] (fun t wq => ∃ i : Nat, i ≤ N ∧ t = .int .i64 i ∧ (∀ a b : Nat, a < i → b < N → Lets (G N om a b) (apartX xs a b)) ∧ Below w1.heap.size w1 wq) (fun t _ => N - (Go.RowKit.intOf t).toNat)
      case atStart => exact ⟨0, by omega, rfl, fun a b h => by omega, Below.refl _ _⟩
      case round =>
        obtain ⟨i, hi, rfl, hrow, hb⟩ := hrel
        have HR := hid hrow
        clear hrow
        have q0 := p0.later hb
        obtain ⟨x0, x1, x2, fx⟩ := octbox q0
        by_cases hlt : i < N
        · have hlti : (i : Int) < 2 * on := by have := HN.out; omega
          go_wp2
          clear x0 x1 x2 fx q0
          go_loopw [31] (fun t wq => ∃ j : Nat, j ≤ N ∧ t = .int .i64 j ∧ (∀ b : Nat, b < j → Lets (G N om i b) (apartX xs i b)) ∧ Below w1.heap.size w1 wq) (fun t _ => N - (Go.RowKit.intOf t).toNat)
          case atStart => exact ⟨0, by omega, rfl, fun b h => by omega, hb⟩
          case round =>
            clear hb
            obtain ⟨j, hj, rfl, hcol, hb⟩ := hrel
            have HCO := hid hcol
            clear hcol
            have q0 := p0.later hb
            obtain ⟨x0, x1, x2, fx⟩ := octbox q0
            by_cases hlt2 : j < N
            · have hltj : (j : Int) < 2 * on := by have := HN.out; omega
              have hx1 := hx0.up hb
              have hxs1 := hxs0.up hb
              obtain ⟨q1, q2, q3, q4, q5, q6⟩ := idx_ok (i := i) (j := j) HN.out hlt hlt2 hn
              rw [← HML.out] at q4 q6
              obtain ⟨g1, o1, rfl, hg1, c4⟩ := hx1 (i * N + j) q4
              obtain ⟨v, hv⟩ : ∃ v, v = G N om i j := ⟨_, rfl⟩
              have HV := hid hv
              rw [show gI om ((i * N + j : Nat) : Int) = v from hv.symm] at c4
              have hvI : I64 v := by
                have e : isBound (G N om i j) = true := HCC.out.bd i j hlt hlt2
                rw [← hv] at e
                unfold I64
                rcases bndS e with e | e <;> omega
              have HVI := hid hvI
              clear hv hvI
              go_upto_region 9 with fail
              have f0 := later x0
              have f1 := later x1
              have f2 := later x2
              have f4 := later c4
              clear x0 x1 x2 fx c4
              refine wp_region_flow 8 (fun X => Below wr.heap.size wr X) (by kernel_rfl) (by kernel_rfl) (Below.refl _ _).drew ?_
              (repeat (first | (refine Flow.skip (by rfl) ?_; simp only [Act.put, List.setIfInBounds_toArray, List.set_cons_zero, List.set_cons_succ]) | (refine' Flow.take _ (by rfl) (fun W hW R hR => ?_) ?_; rotate_left; (go_simp; (try go_bits); with_reducible exact hR); simp only [Act.put, List.setIfInBounds_toArray, List.set_cons_zero, List.set_cons_succ])))
              (refine Flow.call 52 #[.agg #[.int .i64 (i : Int), .int .i64 (j : Int)], .int .i64 on] (.int .i64 (2 * on * (i : Int) + (j : Int))) (by rfl) (fun X hX => by go_simp) (fun X hX => (at_any _ _ _ _ n0 n1 (by omega) (by omega) (by omega) (by omega)).mono fun e' w' ⟨he, hb'⟩ => ⟨he, bstep hX hX.size hb'⟩) ?_; simp only [Act.put, List.setIfInBounds_toArray, List.set_cons_zero, List.set_cons_succ])
              (repeat (first | (refine Flow.skip (by rfl) ?_; simp only [Act.put, List.setIfInBounds_toArray, List.set_cons_zero, List.set_cons_succ]) | (refine' Flow.take _ (by rfl) (fun W hW R hR => ?_) ?_; rotate_left; (go_simp; (try go_bits); with_reducible exact hR); simp only [Act.put, List.setIfInBounds_toArray, List.set_cons_zero, List.set_cons_succ])))
              intro w3 hb3
              have c4 := f4 w3 hb3
              clear f0 f1 f2 f4
              have hxs3 := hxs1.up hb3
              replace hb := bup hb hb3
              clear hxs1 hb3
              cases t2 : (v != 9223372036854775807)
              · have HG : Hid (Lets (G N om i j) (apartX xs i j)) := hid (.inl (by rw [← HV.out]; simpa using t2))
                go_wp2
                go_roundw
                case rel => exact ⟨j + 1, by omega, by go_num, fun b h => if e : b = j then e ▸ HG.out else HCO.out b (by omega), hb⟩
                case measure => simp [Go.RowKit.intOf]; omega
              · have hv2 : v ≠ 9223372036854775807 := by simpa using t2
                have HV2 := hid hv2
                clear hv2
                have HA := hid (wapart_ok xs i j X xc w3.heap.size w3 hxs3 (Nat.le_refl _) hI (by have := HL.out; have := HN.out; omega) (by omega) (by have := HL.out; have := HN.out; omega) (by omega))
                go_wp2_with (refine HA.out.mono ?_)
                rintro e4 w4 ⟨rfl, hb4⟩
                clear HA
                have HO := hid (of_ok v HVI.out w4)
                go_wp2_with (refine HO.out.mono ?_)
                rintro e5 w5 ⟨rfl, hb5⟩
                clear HO
                have HW := hid (wcompare_ok (apartX xs i j) v w5)
                go_wp2_with (refine HW.out.mono ?_)
                rintro e6 w6 ⟨rfl, hb6⟩
                clear HW
                replace hb := bup (bup (bup hb hb4) hb5) hb6
                have HS := hid (sgn_pos (apartX xs i j) v)
                generalize sgnI (apartX xs i j) v = sg at *
                by_cases hgt : v < apartX xs i j
                · have t3 : decide (0 < sg) = true := by rw [HS.out, decide_eq_true_eq]; exact hgt
                  have HF : Hid (¬ HasO ⟨on, false, om⟩ xs) := hid (fun h => by
                    rcases (HHF.out.1 h) i j hlt hlt2 with e | e
                    · exact HV2.out (by rw [HV.out]; exact e)
                    · rw [← HV.out] at e; omega)
                  clear hgt
                  go_wp2
                  go_ret
                  exact ⟨false, rfl, ⟨fun h => by simp at h, fun h => absurd h HF.out⟩, bup hb0 hb⟩
                · have t3 : decide (0 < sg) = false := by rw [HS.out, decide_eq_false_iff_not]; exact hgt
                  have HG : Hid (Lets (G N om i j) (apartX xs i j)) := hid (.inr (by rw [← HV.out]; omega))
                  clear hgt
                  go_wp2
                  go_roundw
                  case rel => exact ⟨j + 1, by omega, by go_num, fun b h => if e : b = j then e ▸ HG.out else HCO.out b (by omega), hb⟩
                  case measure => simp [Go.RowKit.intOf]; omega
            · obtain rfl : j = N := by omega
              have hge : ¬ ((j : Int) < 2 * on) := by have := HN.out; omega
              clear x0 x1 x2 fx q0
              go_wp2
              go_roundw
              case rel => exact ⟨i + 1, by omega, by go_num, fun a b h h2 => if e : a = i then e ▸ HCO.out b h2 else HR.out a b (by omega) h2, hb⟩
              case measure => simp [Go.RowKit.intOf]; omega
        · obtain rfl : i = N := by omega
          have hge : ¬ ((i : Int) < 2 * on) := by have := HN.out; omega
          clear x0 x1 x2 fx q0
          go_wp2
          go_ret
          exact ⟨true, rfl, ⟨fun _ => HHF.out.2 (fun a b ha hb => HR.out a b ha hb), fun _ => rfl⟩, bup hb0 hb⟩
end
end Go.Proofs.YtkncebcekhfnfaaGreat
