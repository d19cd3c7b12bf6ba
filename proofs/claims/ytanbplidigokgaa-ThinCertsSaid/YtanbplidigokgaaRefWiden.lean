/-
  gnomonref22.Widen: what a call answers, of octagons that may be.
-/
import Derived.Test.YtanbplidigokgaaRefNarrow
namespace Go.Proofs.Ytanbplidigokgaa
open Go.RowKit
attribute [local go_sem ↓] Go.wp_at_zero Go.wp_at_succ

theorem fOf_true : fOf true = fun s => plus s s := by funext s; unfold fOf; rw [if_pos rfl]
theorem fOf_false : fOf false = near := by funext s; unfold fOf; rw [if_neg (by simp)]
theorem widenF_gt {steps : List Int} {x y : Int} {s : Bool} (h : ¬ y ≤ x) : widenF steps x y s = aboveF (fOf s) steps y := by
  unfold widenF; rw [if_neg h]
  cases s
  · rw [if_neg (by simp), fOf_false]
  · rw [if_pos rfl, fOf_true]
theorem widenF_le {steps : List Int} {x y : Int} {s : Bool} (h : y ≤ x) : widenF steps x y s = x := by unfold widenF; rw [if_pos h]

set_option maxHeartbeats 4000000 in
theorem rwiden_any (a b : O) (steps : List Int) (A A' S : Option Addr) (c c' cs : Nat) (w : World) (hx : Rd w w.heap.size A a.m) (hy : Rd w w.heap.size A' b.m) (hs : Rd w w.heap.size S steps) (hm : a.m.length ≤ 17592186044416) (hm' : b.m.length ≤ 17592186044416) (hms : steps.length ≤ 17592186044416) (hp : pairErr a b = 0) :
    Calls Try.prog 17 #[.agg #[.int .i64 a.n, .bool a.e, .slice A a.m.length c], .agg #[.int .i64 b.n, .bool b.e, .slice A' b.m.length c'], .slice S steps.length cs] w (OctRes w (widenO a b steps).1) := by
  obtain ⟨n, e, m⟩ := a
  obtain ⟨n', e', m'⟩ := b
  dsimp only at *
  have hw : widenO ⟨n, e, m⟩ ⟨n', e', m'⟩ steps = if e then (⟨n', e', m'⟩, 0) else if e' then (⟨n, e, m⟩, 0) else (⟨n, false, cellsF (widenF steps) n m m'⟩, 0) := by
    unfold widenO; rw [if_neg (by simpa using hp)]
  obtain ⟨q1, q2, q3⟩ := pair_ok hp
  obtain ⟨k1, k2, k3, k4⟩ := check_ok q1
  obtain ⟨l1, l2, l3, l4⟩ := check_ok q2
  dsimp only at *
  clear hp q1 q2
  rw [hw]
  clear hw
  have hb0 : Below w.heap.size w (((w.alloc (Obj.cells #[.int .i64 n, .bool e, .slice A m.length c] 24)).alloc (Obj.cells #[.int .i64 n', .bool e', .slice A' m'.length c'] 24)).alloc (Obj.cells #[.int .i64 0, .bool false, .slice none 0 0] 24)) := (((Below.refl _ _).alloc (Nat.le_refl _) _).alloc (by simp) _).alloc (by simp; try omega) _
  obtain ⟨b0, b1, b2⟩ := blk_three (w := w) (Below.refl _ (((w.alloc (Obj.cells #[.int .i64 n, .bool e, .slice A m.length c] 24)).alloc (Obj.cells #[.int .i64 n', .bool e', .slice A' m'.length c'] 24)).alloc (Obj.cells #[.int .i64 0, .bool false, .slice none 0 0] 24)))
  have hsz : (((w.alloc (Obj.cells #[.int .i64 n, .bool e, .slice A m.length c] 24)).alloc (Obj.cells #[.int .i64 n', .bool e', .slice A' m'.length c'] 24)).alloc (Obj.cells #[.int .i64 0, .bool false, .slice none 0 0] 24)).heap.size = w.heap.size + 1 + 1 + 1 := by simp
  have hx0 := (hx.below hb0).more (B' := (((w.alloc (Obj.cells #[.int .i64 n, .bool e, .slice A m.length c] 24)).alloc (Obj.cells #[.int .i64 n', .bool e', .slice A' m'.length c'] 24)).alloc (Obj.cells #[.int .i64 0, .bool false, .slice none 0 0] 24)).heap.size) (by omega)
  have hy0 := (hy.below hb0).more (B' := (((w.alloc (Obj.cells #[.int .i64 n, .bool e, .slice A m.length c] 24)).alloc (Obj.cells #[.int .i64 n', .bool e', .slice A' m'.length c'] 24)).alloc (Obj.cells #[.int .i64 0, .bool false, .slice none 0 0] 24)).heap.size) (by omega)
  have hs0 := (hs.below hb0).more (B' := (((w.alloc (Obj.cells #[.int .i64 n, .bool e, .slice A m.length c] 24)).alloc (Obj.cells #[.int .i64 n', .bool e', .slice A' m'.length c'] 24)).alloc (Obj.cells #[.int .i64 0, .bool false, .slice none 0 0] 24)).heap.size) (by omega)
  cases e
  · cases e'
    · simp only [Bool.false_eq_true, if_false]
      have K4 := hid (k4 rfl)
      have LL : Hid (m'.length = m.length) := by have := k4 rfl; have := l4 rfl; subst q3; exact (by omega : m'.length = m.length)
      clear k3 k4 l3 l4 l1 l2 q3
      go_enter Try.func17, Try.ntmps17
      go_wp2_with fail
      generalize (((w.alloc (Obj.cells #[.int .i64 n, .bool false, .slice A m.length c] 24)).alloc (Obj.cells #[.int .i64 n', .bool false, .slice A' m'.length c'] 24)).alloc (Obj.cells #[.int .i64 0, .bool false, .slice none 0 0] 24)) = w0 at *
      obtain ⟨x0, x1, x2, fx⟩ := octbox b0
      obtain ⟨y0, y1, y2, fy⟩ := octbox b1
      refine (rcopy_any n false m A c _ hx0 hm).mono ?_
      rintro e8 w2 ⟨A1, c1, rfl, hown, hb2⟩
      have hz2 := hb2.size
      obtain ⟨x0', x1', x2', fx'⟩ := octbox ((b0.later hb2).alloc (.cells #[.int .i64 n, .bool false, .slice A1 m.length c1] 24))
      obtain ⟨y0', y1', y2', fy'⟩ := octbox ((b1.later hb2).alloc (.cells #[.int .i64 n, .bool false, .slice A1 m.length c1] 24))
      have hgO := Blk.new w2 24 #[.int .i64 n, .bool false, .slice A1 m.length c1]
      have hown3 : Own (w2.alloc (.cells #[.int .i64 n, .bool false, .slice A1 m.length c1] 24)) w0.heap.size A1 c1 m := hown.below ((Below.refl _ _).alloc (Nat.le_refl _) _)
      have hb3 : Below w0.heap.size w0 (w2.alloc (.cells #[.int .i64 n, .bool false, .slice A1 m.length c1] 24)) := hb2.alloc hz2 _
      go_wp2
      clear x0 x1 x2 fx y0 y1 y2 fy x0' x1' x2' fx' y0' y1' y2' fy'
      have hA1 : ∀ g, A1 = some ⟨g, 0, none⟩ → g < w2.heap.size := fun g hg => by
        rcases hown.form with ⟨h, _⟩ | ⟨g', h, _, h'⟩
        · rw [h] at hg; cases hg
        · rw [h] at hg; injection hg with hg; injection hg with hg; omega
      generalize hG7 : w2.heap.size = g7 at *
      generalize w2.alloc (.cells #[.int .i64 n, .bool false, .slice A1 m.length c1] 24) = w4 at *
      have hcl := cellsF_len (widenF steps) n m m'
      have hcg : ∀ p, p < m.length → gI (cellsF (widenF steps) n m m') p = widenF steps (gI m p) (gI m' p) (single n p) := fun p h => cellsF_get (widenF steps) n m m' h
      generalize hZ : cellsF (widenF steps) n m m' = zs at *
      have HZ := hid hZ; have HCL := hid hcl; have HCG := hid hcg; clear hcl hcg hZ hG7
      have hpart0 : Own w4 w0.heap.size A1 c1 (part zs m (0 * (2 * n).toNat)) := by rw [Nat.zero_mul, part_zero]; exact hown3
      go_loopw [9] (fun i wr => ∃ k : Nat, (k : Int) ≤ 2 * n ∧ i = .int .i64 k ∧ Blk wr g7 24 #[.int .i64 n, .bool false, .slice A1 m.length c1] ∧ Own wr w0.heap.size A1 c1 (part zs m (k * (2 * n).toNat)) ∧ Below w0.heap.size w0 wr) (fun i _ => (2 * n).toNat - (intOf i).toNat)
      case atStart => exact ⟨0, by omega, rfl, hgO, hpart0, hb3⟩
      case round =>
        obtain ⟨k, hk, rfl, hblk, hownr, hbr⟩ := hrel
        by_cases hltk : (k : Int) < 2 * n
        · go_wp2
          have hpart1 : Own wr w0.heap.size A1 c1 (part zs m (k * (2 * n).toNat + 0)) := hownr
          go_loopw [10] (fun j wq => ∃ l : Nat, (l : Int) ≤ 2 * n ∧ j = .int .i64 l ∧ Blk wq g7 24 #[.int .i64 n, .bool false, .slice A1 m.length c1] ∧ Own wq w0.heap.size A1 c1 (part zs m (k * (2 * n).toNat + l)) ∧ Below w0.heap.size w0 wq) (fun j _ => (2 * n).toNat - (intOf j).toNat)
          case atStart => exact ⟨0, by omega, rfl, hblk, hpart1, hbr⟩
          case round =>
            clear hblk hownr hbr hpart1
            obtain ⟨l, hl, rfl, hblk, hownr, hbr⟩ := hrel
            by_cases hltl : (l : Int) < 2 * n
            · have hn : 0 < n := by omega
              have ib := idx_bd (n := n) (k := k) (l := l) k1 k2 (by omega) hltk (by omega) hltl K4.out
              have eq0 : 2 * n * k = (k : Int) * (2 * n) := Int.mul_comm _ _
              have nc1 : 0 ≤ 2 * n * k := Int.mul_nonneg (by omega) (by omega)
              have nc2 : 2 * n * k ≤ 16384 := by
                have e1 : 2 * n * (k : Int) ≤ 128 * 128 := Int.mul_le_mul (by omega) (by omega) (by omega) (by omega)
                omega
              rw [eq0] at ib nc1 nc2
              clear eq0
              have hpn : (((k * (2 * n).toNat + l : Nat)) : Int) = (k : Int) * (2 * n) + l := by
                rw [Int.natCast_add, Int.natCast_mul, Int.toNat_of_nonneg (by omega)]
              obtain ⟨ib1, ib2⟩ := ib
              have hpt : ((k : Int) * (2 * n) + l).toNat = k * (2 * n).toNat + l := by omega
              have hlt : k * (2 * n).toNat + l < m.length := by omega
              have hsing : single n ((k * (2 * n).toNat + l : Nat) : Int) = ((l : Int) == xor1 k) := by rw [hpn]; exact single_row hn (by omega) (by omega) hltl
              have xk := xor1_bd (n := n) (i := k) (by omega) hltk
              generalize hP : k * (2 * n).toNat + l = P at *
              obtain ⟨z0, z1, z2, fz⟩ := octbox hblk
              obtain ⟨x0, x1, x2, fx⟩ := octbox (b0.later hbr)
              obtain ⟨y0, y1, y2, fy⟩ := octbox (b1.later hbr)
              obtain ⟨g1, o1, hA, _, hc⟩ := hownr.rd P (by rw [part_len HCL.out]; exact hlt)
              rcases hown.form with ⟨h, _⟩ | ⟨gS, rfl, hgS, _⟩
              · rw [h] at hA; cases hA
              obtain ⟨rfl, rfl⟩ : gS = g1 ∧ 0 = o1 := by simpa using hA
              clear hA
              have hgS7 := hA1 gS rfl
              rw [part_get HCL.out hlt, Nat.zero_add] at hc
              obtain ⟨ba, oa, rfl, hBa, hca⟩ := (hx0.below hbr) P hlt
              obtain ⟨bb, ob, rfl, hBb, hcb⟩ := (hy0.below hbr) P (by have := LL.out; omega)
              have hca' : wr.cell? ⟨ba, oa + ((k : Int) * (2 * n) + l).toNat, none⟩ = some (.int .i64 (gI m P)) := by rw [hpt]; exact hca
              have hcb' : wr.cell? ⟨bb, ob + ((k : Int) * (2 * n) + l).toNat, none⟩ = some (.int .i64 (gI m' P)) := by rw [hpt]; exact hcb
              have hcS : wr.cell? ⟨gS, ((k : Int) * (2 * n) + l).toNat, none⟩ = some (.int .i64 (gI m P)) := by rw [hpt]; exact hc
              have hi2 : (k : Int) * (2 * n) + l < (m'.length : Int) := by have := LL.out; omega
              have fz2 := later z2
              have fx2 := later x2
              have fy2 := later y2
              have fca := later hca'
              have fcb := later hcb'
              have fcS := later hcS
              have HPT := hid hpt; have HPN := hid hpn; have HSG := hid hsing; have HPP := hid hP
              clear hpt hpn hsing hP hc hca hcb hca' hcb' hcS x0 x1 x2 fx y0 y1 y2 fy z0 z1 z2 fz
              obtain ⟨xk0, xk1⟩ := xk
              have hsr := hbr.size
              by_cases hv : gI m P < gI m' P
              · have hval : gI zs P = aboveF (fOf ((l : Int) == xor1 k)) steps (gI m' P) := by
                  rw [HCG.out P hlt, HSG.out, widenF_gt (by omega)]
                have HV := hid hval; clear hval
                go_wp2
                refine wp_region_flow 19 (fun W => Below wr.heap.size wr W) (by kernel_rfl) (by kernel_rfl) (Below.refl _ _).drew ?_
                (repeat (first | (refine Flow.skip (by rfl) ?_; simp only [Act.put, List.setIfInBounds_toArray, List.set_cons_zero, List.set_cons_succ]) | (refine' Flow.take _ (by rfl) (fun W hW R hR => ?_) ?_; rotate_left; (go_simp; (try go_bits); with_reducible exact hR); simp only [Act.put, List.setIfInBounds_toArray, List.set_cons_zero, List.set_cons_succ])))
                intro w5 hb5
                go_wp2
                refine wp_region_flow 23 (fun W => Below wr.heap.size wr W) (by kernel_rfl) (by kernel_rfl) hb5.drew ?_
                (repeat (first | (refine Flow.skip (by rfl) ?_; simp only [Act.put, List.setIfInBounds_toArray, List.set_cons_zero, List.set_cons_succ]) | (refine' Flow.take _ (by rfl) (fun W hW R hR => ?_) ?_; rotate_left; (go_simp; (try go_bits); with_reducible exact hR); simp only [Act.put, List.setIfInBounds_toArray, List.set_cons_zero, List.set_cons_succ])))
                refine Flow.call 45 #[.int .i64 (k : Int)] (.int .i64 (xor1 k)) (by rfl) (fun W hW => by go_simp) (fun W hW => (across_any _ _ (by omega) (by omega)).mono fun e w' ⟨he, hb⟩ => ⟨he, hb ▸ hW⟩) ?_
                simp only [Act.put, List.setIfInBounds_toArray, List.set_cons_zero, List.set_cons_succ]
                (repeat (first | (refine Flow.skip (by rfl) ?_; simp only [Act.put, List.setIfInBounds_toArray, List.set_cons_zero, List.set_cons_succ]) | (refine' Flow.take _ (by rfl) (fun W hW R hR => ?_) ?_; rotate_left; (go_simp; (try go_bits); with_reducible exact hR); simp only [Act.put, List.setIfInBounds_toArray, List.set_cons_zero, List.set_cons_succ])))
                refine Flow.call 44 #[.slice S steps.length cs, .bool ((l : Int) == xor1 k), .int .i64 (gI m' P)] (.int .i64 (aboveF (fOf ((l : Int) == xor1 k)) steps (gI m' P))) (by rfl) (fun W hW => by go_simp) (fun W hW => (rstep_any steps _ _ S cs W ((hs0.below (bstep hbr hsr hW)).more (Nat.le_trans hsr hW.size)) hms).mono fun e w' ⟨he, hb⟩ => ⟨he, hb ▸ hW⟩) ?_
                simp only [Act.put, List.setIfInBounds_toArray, List.set_cons_zero, List.set_cons_succ]
                (repeat (first | (refine Flow.skip (by rfl) ?_; simp only [Act.put, List.setIfInBounds_toArray, List.set_cons_zero, List.set_cons_succ]) | (refine' Flow.take _ (by rfl) (fun W hW R hR => ?_) ?_; rotate_left; (go_simp; (try go_bits); with_reducible exact hR); simp only [Act.put, List.setIfInBounds_toArray, List.set_cons_zero, List.set_cons_succ])))
                intro w6 hb6
                have c6 := fcS w6 hb6
                have o6 := hownr.below hb6
                have f6 := o6.frozen ((k : Int) * (2 * n) + l).toNat
                have st : Own (w6.setCell ⟨gS, ((k : Int) * (2 * n) + l).toNat, none⟩ (.int .i64 (aboveF (fOf ((l : Int) == xor1 k)) steps (gI m' P)))) w0.heap.size (some ⟨gS, 0, none⟩) c1 (part zs m (P + 1)) := by
                  have q := o6.store P (gI zs P)
                  rw [part_set HCL.out hlt, HV.out] at q
                  rw [HPT.out]; exact q
                have hfar := (hblk.later hb6).far (p := ⟨gS, ((k : Int) * (2 * n) + l).toNat, none⟩) (by simp; omega) (.int .i64 (aboveF (fOf ((l : Int) == xor1 k)) steps (gI m' P)))
                have hbn : Below w0.heap.size w0 (w6.setCell ⟨gS, ((k : Int) * (2 * n) + l).toNat, none⟩ (.int .i64 (aboveF (fOf ((l : Int) == xor1 k)) steps (gI m' P)))) := (bstep hbr hsr hb6).setCell (by simpa using hgS) _
                rw [show P + 1 = k * (2 * n).toNat + (l + 1) by have := HPP.out; omega] at st
                clear o6 fz2 fx2 fy2 fca fcb fcS
                go_wp2
                go_roundw
                case rel => exact ⟨l + 1, by omega, by go_num, hfar, st, hbn⟩
                case measure => simp [intOf]; omega
              · have hval : gI zs P = gI m P := by
                  rw [HCG.out P hlt, widenF_le (by omega)]
                have st : Own wr w0.heap.size (some ⟨gS, 0, none⟩) c1 (part zs m (k * (2 * n).toNat + (l + 1))) := by
                  rw [show k * (2 * n).toNat + (l + 1) = P + 1 by have := HPP.out; omega, ← part_same HCL.out hlt hval]; exact hownr
                clear hval
                go_wp2
                refine wp_region_flow 19 (fun W => Below wr.heap.size wr W) (by kernel_rfl) (by kernel_rfl) (Below.refl _ _).drew ?_
                (repeat (first | (refine Flow.skip (by rfl) ?_; simp only [Act.put, List.setIfInBounds_toArray, List.set_cons_zero, List.set_cons_succ]) | (refine' Flow.take _ (by rfl) (fun W hW R hR => ?_) ?_; rotate_left; (go_simp; (try go_bits); with_reducible exact hR); simp only [Act.put, List.setIfInBounds_toArray, List.set_cons_zero, List.set_cons_succ])))
                intro w5 hb5
                have st5 := st.below hb5
                have hbl5 := hblk.later hb5
                have hbr5 := bstep hbr hsr hb5
                clear fz2 fx2 fy2 fca fcb fcS
                go_wp2
                go_roundw
                case rel => exact ⟨l + 1, by omega, by go_num, hbl5, st5, hbr5⟩
                case measure => simp [intOf]; omega
            · have hll : l = (2 * n).toNat := by omega
              have hnl : ¬ (l : Int) < 2 * n := hltl
              have ho : Own wr w0.heap.size A1 c1 (part zs m ((k + 1) * (2 * n).toNat)) := by
                have q : k * (2 * n).toNat + l = (k + 1) * (2 * n).toNat := by rw [hll, Nat.add_mul, Nat.one_mul]
                rw [← q]; exact hownr
              clear hll
              go_wp2
              go_roundw
              case rel => exact ⟨k + 1, by omega, by go_num, hblk, ho, hbr⟩
              case measure => simp [intOf]; omega
        · have hkk : k = (2 * n).toNat := by omega
          have ho : Own wr w0.heap.size A1 c1 zs := by
            have q : k * (2 * n).toNat = m.length := by
              have h1 : (((2 * n).toNat * (2 * n).toNat : Nat) : Int) = (m.length : Int) := by
                rw [Int.natCast_mul, Int.toNat_of_nonneg (by omega), K4.out, Int.mul_assoc, Int.mul_assoc, Int.mul_comm n (2 * n), Int.mul_assoc, ← Int.mul_assoc 2 2]; rfl
              rw [hkk]; omega
            have q2 : part zs m (k * (2 * n).toNat) = zs := by rw [q]; exact part_all HCL.out
            rw [← q2]; exact hownr
          clear hkk
          obtain ⟨z0, z1, z2, fz⟩ := octbox hblk
          obtain ⟨r0, r1, r2, fr⟩ := octbox (b2.later hbr)
          have hle := HCL.out
          have HLE := hid hle; clear hle
          go_wp2
          refine bodyPost_ret (v := .agg #[.int .i64 n, .bool false, .slice A1 m.length c1]) (by simp [results, Try.results17, go_sem, r0, r1, r2]) rfl (octRes A1 c1 (by dsimp only; (try rw [HZ.out]); rw [HLE.out]) ?_ ?_)
          · dsimp only; (try rw [HZ.out]); exact (((ho.setFar (by simp; try omega) _).setFar (by simp; try omega) _).setFar (by simp; try omega) _).rd
          · exact (((hb0.trans (hbr.mono (by omega))).setCell (by simp; try omega) _).setCell (by simp; try omega) _).setCell (by simp; try omega) _
    · simp only [Bool.false_eq_true, if_false, if_true]
      clear k3 k4 l3 l4 l1 l2 q3
      go_enter Try.func17, Try.ntmps17
      go_wp2_with fail
      generalize (((w.alloc (Obj.cells #[.int .i64 n, .bool false, .slice A m.length c] 24)).alloc (Obj.cells #[.int .i64 n', .bool true, .slice A' m'.length c'] 24)).alloc (Obj.cells #[.int .i64 0, .bool false, .slice none 0 0] 24)) = w0 at *
      obtain ⟨y0, y1, y2, fy⟩ := octbox b1
      refine (rcopy_any n false m A c _ hx0 hm).mono ?_
      rintro e8 w2 ⟨A1, c1, rfl, hown, hb2⟩
      have hz2 := hb2.size
      obtain ⟨y0', y1', y2', fy'⟩ := octbox ((b1.later hb2).alloc (.cells #[.int .i64 n, .bool false, .slice A1 m.length c1] 24))
      obtain ⟨r0, r1, r2, fr⟩ := octbox ((b2.later hb2).alloc (.cells #[.int .i64 n, .bool false, .slice A1 m.length c1] 24))
      go_wp2
      refine bodyPost_ret (v := .agg #[.int .i64 n, .bool false, .slice A1 m.length c1]) (by simp [results, Try.results17, go_sem, r0, r1, r2]) rfl (octRes A1 c1 rfl ?_ ?_)
      · exact ((((hown.below ((Below.refl _ _).alloc (Nat.le_refl _) _)).setFar (by simp; try omega) _).setFar (by simp; try omega) _).setFar (by simp; try omega) _).rd
      · exact ((((hb0.trans (hb2.mono (by omega))).alloc (by omega) _).setCell (by simp; try omega) _).setCell (by simp; try omega) _).setCell (by simp; try omega) _
  · simp only [if_true]
    clear k3 k4 l3 l4 l1 l2 q3
    go_enter Try.func17, Try.ntmps17
    go_wp2_with fail
    generalize (((w.alloc (Obj.cells #[.int .i64 n, .bool true, .slice A m.length c] 24)).alloc (Obj.cells #[.int .i64 n', .bool e', .slice A' m'.length c'] 24)).alloc (Obj.cells #[.int .i64 0, .bool false, .slice none 0 0] 24)) = w0 at *
    refine (rcopy_any n' e' m' A' c' _ hy0 hm').mono ?_
    rintro e8 w2 ⟨A1, c1, rfl, hown, hb2⟩
    have hz2 := hb2.size
    obtain ⟨r0, r1, r2, fr⟩ := octbox (b2.later hb2)
    go_wp2
    refine bodyPost_ret (v := .agg #[.int .i64 n', .bool e', .slice A1 m'.length c1]) (by simp [results, Try.results17, go_sem, r0, r1, r2]) rfl (octRes A1 c1 rfl ?_ ?_)
    · exact (((hown.setFar (by simp; try omega) _).setFar (by simp; try omega) _).setFar (by simp; try omega) _).rd
    · exact (((hb0.trans (hb2.mono (by omega))).setCell (by simp; try omega) _).setCell (by simp; try omega) _).setCell (by simp; try omega) _
end Go.Proofs.Ytanbplidigokgaa
