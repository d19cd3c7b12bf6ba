/-
  gnomonref13.Of, Close: what they answer, of octagons that may be.
-/
import Derived.Test.YtkncebcekhfnfaaGreatBWT10
namespace Go.Proofs.YtkncebcekhfnfaaGreat
open Go.RowKit
attribute [local go_sem ↓] Go.wp_at_zero Go.wp_at_succ

theorem negs_yes {N : Nat} {xs : List Int} {i : Nat} (h : i < N) (hd : decide (gI xs ((i * N + i : Nat) : Int) < 0) = true) : ∀ {t : Nat}, i < t → negs N xs t = true
  | t + 1, ht => by
    unfold negs
    by_cases e : i = t
    · subst e; rw [hd]; simp
    · rw [negs_yes h hd (t := t) (by omega)]; rfl
theorem minf (x p : Int) : (if p < x then p else x) = min x p := by split <;> omega
/-- An octagon of the call's own memory, and whether a sum saturated. -/
def OfRes (w : World) (o : O) (e : Ending) (w' : World) : Prop := ∃ A1 c1 s, e = .returned (.tuple #[.agg #[.int .i64 o.n, .bool o.e, .slice A1 o.m.length c1], .bool s]) ∧ Own w' w.heap.size A1 c1 o.m ∧ Below w.heap.size w w'

set_option maxRecDepth 100000 in
set_option maxHeartbeats 8000000 in
theorem r13_any (o : O) (A : Option Addr) (c : Nat) (w : World) (hx : Rd w w.heap.size A o.m) (hm : o.m.length ≤ 17592186044416) (hk : check o = 0) :
    Calls Tryz.prog 40 #[.agg #[.int .i64 o.n, .bool o.e, .slice A o.m.length c]] w (OfRes w (closeO o)) := by
  obtain ⟨n, e, m⟩ := o
  dsimp only at *
  have hbd := check_bounds hk
  obtain ⟨n0, n1, he1, he2⟩ := check_ok hk
  dsimp only at hbd n0 n1 he1 he2
  have hb0 : Below w.heap.size w ((w.alloc (Obj.cells #[.int .i64 n, .bool e, .slice A m.length c] 53)).alloc (Obj.cells #[.int .i64 0, .bool false, .slice none 0 0] 53)) := ((Below.refl _ _).alloc (Nat.le_refl _) _).alloc (by simp) _
  obtain ⟨p0, p1⟩ := blk_two (w := w) (Below.refl _ ((w.alloc (Obj.cells #[.int .i64 n, .bool e, .slice A m.length c] 53)).alloc (Obj.cells #[.int .i64 0, .bool false, .slice none 0 0] 53)))
  have hx0 := hx.up hb0
  have HBD := hid hbd
  clear hbd hk hx
  have hsz : ((w.alloc (Obj.cells #[.int .i64 n, .bool e, .slice A m.length c] 53)).alloc (Obj.cells #[.int .i64 0, .bool false, .slice none 0 0] 53)).heap.size = w.heap.size + 2 := by simp
  have HSZ := hid hsz
  clear hsz
  cases e with
  | true =>
    have hm0 := he1 rfl
    subst hm0
    clear he1 he2
    rw [closeO_e rfl]
    go_enter Tryz.func40, Tryz.ntmps40
    go_wp2_with fail
    refine (rempty_any n _).mono ?_
    generalize (w.alloc (Obj.cells #[.int .i64 n, .bool true, .slice A 0 c] 53)).alloc (Obj.cells #[.int .i64 0, .bool false, .slice none 0 0] 53) = w0 at *
    rintro e2 w2 ⟨rfl, hb2⟩
    obtain ⟨y0, y1, y2, fy⟩ := octbox (p1.later hb2)
    have hb3 := bup hb0 hb2
    go_wp2
    refine bodyPost_ret (v := .tuple #[.agg #[.int .i64 n, .bool true, .slice none 0 0], .bool false]) (by simp [results, Tryz.results40, go_sem, y0, y1, y2]) rfl ⟨none, 0, false, rfl, own_nil _ _, ?_⟩
    exact hb3.trans (below3 (by omega) hb3.size)
  | false =>
    have hml := he2 rfl
    obtain ⟨N, hN⟩ : ∃ N : Nat, (N : Int) = 2 * n := ⟨(2 * n).toNat, by omega⟩
    have hNN : m.length = N * N := by
      have e : (4 * n * n) = ((N * N : Nat) : Int) := by rw [Int.natCast_mul, hN]; rw [show (4 : Int) = 2 * 2 from rfl]; simp only [Int.mul_assoc, Int.mul_left_comm]
      omega
    have hNt : (2 * n).toNat = N := by omega
    have hN1 : N ≤ 128 := by omega
    have hn0 : 0 ≤ 2 * n := by omega
    have hn1 : 2 * n ≤ 128 := by omega
    have HN := hid hN
    have HNN := hid hNN
    have HNT := hid hNt
    have HCL : Hid (closeO ⟨n, false, m⟩ = match closeM N m with | none => ⟨n, true, []⟩ | some ys => ⟨n, false, ys⟩) := hid (by unfold closeO; rw [if_neg (by simp)]; dsimp only; rw [hNt]; cases closeM N m <;> rfl)
    clear hml hN hNN hNt he1 he2
    generalize closeO ⟨n, false, m⟩ = R at *
    go_enter Tryz.func40, Tryz.ntmps40
    go_wp2_with (at_builtin; refine wpList_append_ints _ _ _ (by rfl) (by rfl) Tryz.underlying28 (w.heap.size + 2) none 0 [] (by rfl) (own_nil _ _) _ A c m m (by rfl) hx0 rfl hm (Nat.le_of_eq HSZ.out.symm) ?_; intro A1 c1 w1 own1 hg1 _)
    generalize (w.alloc (Obj.cells #[.int .i64 n, .bool false, .slice A m.length c] 53)).alloc (Obj.cells #[.int .i64 0, .bool false, .slice none 0 0] 53) = w0 at *
    have hu1 := below_grown (B := w0.heap.size) hg1 (by simp [Value.ownBlock]) (Nat.le_refl _)
    have n2 := new1 w1 (.cells #[.int .i64 (2 * n), .slice A1 m.length c1, .bool false] 130)
    have hMC : MC (w.heap.size + 2) w1.heap.size (2 * n) A1 c1 m (w1.alloc (.cells #[.int .i64 (2 * n), .slice A1 m.length c1, .bool false] 130)) := by
      refine ⟨by have := hu1.size; have := HSZ.out; omega, fun g hg => ?_, ⟨false, Blk.new _ _ _⟩, own1.below (new1 _ _)⟩
      rcases own1.form with ⟨h, _⟩ | ⟨g', h, _, h2⟩
      · rw [h] at hg; cases hg
      · rw [h] at hg; injection hg with hg; injection hg with hg; omega
    have hbw := bup (bup hb0 hu1) n2
    have hBu : w.heap.size + 2 ≤ (w1.alloc (.cells #[.int .i64 (2 * n), .slice A1 m.length c1, .bool false] 130)).heap.size := by have := hu1.size; have := n2.size; have := HSZ.out; omega
    replace p0 := (p0.later hu1).later n2
    replace p1 := (p1.later hu1).later n2
    clear hx0 hu1 own1 hg1 n2 hb0
    generalize w1.alloc (.cells #[.int .i64 (2 * n), .slice A1 m.length c1, .bool false] 130) = u2 at *
    generalize w1.heap.size = gx at *
    generalize hBB : w.heap.size + 2 = B at *
    have hBw : w.heap.size ≤ B := by omega
    have hq0 : w.heap.size < B := by omega
    have hq1 : w.heap.size + 1 < B := by omega
    clear hBB
    have hM := hMC
    have hb := HBD.out
    have hbr : Below B u2 u2 := Below.refl _ _
    clear hMC
    go_wp2
    go_loopw [6] (fun t wr => ∃ (k : Nat) (ys : List Int), k ≤ N ∧ t = .int .i64 k ∧ Hid (ys = paths N k m) ∧ Hid (ys.length = N * N) ∧ MC B gx (2 * n) A1 c1 ys wr ∧ AllB ys ∧ Below B u2 wr) (fun t _ => N - (Go.RowKit.intOf t).toNat)
    case atStart => exact ⟨0, m, by omega, rfl, hid rfl, HNN, hM, hb, hbr⟩
    case round =>
      clear hM hb hbr
      obtain ⟨k, ys, hk, rfl, hys, hlys, hM, hb, hbr⟩ := hrel
      by_cases hkN : k < N
      · have t1 : (k : Int) < 2 * n := by have := HN.out; omega
        go_wp2
        go_loopw [7] (fun t wr => ∃ (i : Nat) (zs : List Int), i ≤ N ∧ t = .int .i64 i ∧ Hid (zs = pMat N k i ys) ∧ Hid (zs.length = N * N) ∧ MC B gx (2 * n) A1 c1 zs wr ∧ AllB zs ∧ Below B u2 wr) (fun t _ => N - (Go.RowKit.intOf t).toNat)
        case atStart => exact ⟨0, ys, by omega, rfl, hid rfl, hlys, hM, hb, hbr⟩
        case round =>
          clear hM hb hbr
          obtain ⟨i, zs, hi, rfl, hzs, hlzs, hM, hb, hbr⟩ := hrel
          by_cases hiN : i < N
          · have t2 : (i : Int) < 2 * n := by have := HN.out; omega
            go_wp2
            go_loopw [8] (fun t wr => ∃ (j : Nat) (us : List Int), j ≤ N ∧ t = .int .i64 j ∧ Hid (us = pRow N k i j zs) ∧ Hid (us.length = N * N) ∧ MC B gx (2 * n) A1 c1 us wr ∧ AllB us ∧ Below B u2 wr) (fun t _ => N - (Go.RowKit.intOf t).toNat)
            case atStart => exact ⟨0, zs, by omega, rfl, hid rfl, hlzs, hM, hb, hbr⟩
            case round =>
              clear hM hb hbr
              obtain ⟨j, us, hj, rfl, hus, hl, hM, hb, hbr⟩ := hrel
              by_cases hjN : j < N
              · have t3 : (j : Int) < 2 * n := by have := HN.out; omega
                as_aux_lemma =>
                  obtain ⟨a1, a2, a3, a4, a5, a6⟩ := idxr_ok (i := i) (j := j) HN.out hiN hjN hN1
                  rw [← hl.out] at a4 a6
                  obtain ⟨b1, b2, b3, b4, b5, b6⟩ := idxr_ok (i := i) (j := k) HN.out hiN hkN hN1
                  rw [← hl.out] at b4 b6
                  obtain ⟨d1, d2, d3, d4, d5, d6⟩ := idxr_ok (i := k) (j := j) HN.out hkN hjN hN1
                  rw [← hl.out] at d4 d6
                  obtain ⟨gm, rfl, hgB, hgW, hgx⟩ := hM.some (by omega)
                  have fm : ∀ X, SC wr gx (2 * n) (some ⟨gm, 0, none⟩) us.length c1 X → X.cell? ⟨gx, 1, none⟩ = some (.slice (some ⟨gm, 0, none⟩) us.length c1) := fun X hX => (hM.go hX).m_
                  obtain ⟨vx, hvx⟩ : ∃ v, v = gI us ((i * N + j : Nat) : Int) := ⟨_, rfl⟩
                  have Hvx := hid hvx
                  clear hvx
                  have fc : ∀ X, SC wr gx (2 * n) (some ⟨gm, 0, none⟩) us.length c1 X → X.cell? ⟨gm, i * N + j, none⟩ = some (.int .i64 vx) := fun X hX => by rw [Hvx.out]; exact (hM.go hX).c_ a4
                  obtain ⟨vy, hvy⟩ : ∃ v, v = gI us ((i * N + k : Nat) : Int) := ⟨_, rfl⟩
                  have Hvy := hid hvy
                  clear hvy
                  have fd : ∀ X, SC wr gx (2 * n) (some ⟨gm, 0, none⟩) us.length c1 X → X.cell? ⟨gm, i * N + k, none⟩ = some (.int .i64 vy) := fun X hX => by rw [Hvy.out]; exact (hM.go hX).c_ b4
                  obtain ⟨vz, hvz⟩ : ∃ v, v = gI us ((k * N + j : Nat) : Int) := ⟨_, rfl⟩
                  have Hvz := hid hvz
                  clear hvz
                  have fe : ∀ X, SC wr gx (2 * n) (some ⟨gm, 0, none⟩) us.length c1 X → X.cell? ⟨gm, k * N + j, none⟩ = some (.int .i64 vz) := fun X hX => by rw [Hvz.out]; exact (hM.go hX).c_ d4
                  go_wp2
                  refine wp_region_flow 45 (SC wr gx (2 * n) (some ⟨gm, 0, none⟩) us.length c1) (by kernel_rfl) (by kernel_rfl) hM.sx.drew ?_
                  (repeat (first | (refine Flow.skip (by rfl) ?_; simp only [Act.put, List.setIfInBounds_toArray, List.set_cons_zero, List.set_cons_succ]) | (refine' Flow.take _ (by rfl) (fun W hW R hR => ?_) ?_; rotate_left; (go_simp; (try go_bits); with_reducible exact hR); simp only [Act.put, List.setIfInBounds_toArray, List.set_cons_zero, List.set_cons_succ])))
                  (refine Flow.call 67 #[.pointer (some ⟨gx, 0, none⟩), .int .i64 vy, .int .i64 vz] (.int .i64 (plus vy vz)) (by rfl) (fun X hX => by go_simp) (fun X hX => (mc_plus _ _ (hM.go hX)).mono fun e' w' ⟨he, hs⟩ => ⟨he, hX.1.trans hs.1, hs.2⟩) ?_; simp only [Act.put, List.setIfInBounds_toArray, List.set_cons_zero, List.set_cons_succ])
                  (repeat (first | (refine Flow.skip (by rfl) ?_; simp only [Act.put, List.setIfInBounds_toArray, List.set_cons_zero, List.set_cons_succ]) | (refine' Flow.take _ (by rfl) (fun W hW R hR => ?_) ?_; rotate_left; (go_simp; (try go_bits); with_reducible exact hR); simp only [Act.put, List.setIfInBounds_toArray, List.set_cons_zero, List.set_cons_succ])))
                  intro w6 h6
                  have hM6 := hM.go h6
                  have c6 := hM6.c_ a4
                  have f6 := hM6.f_ (i * N + j)
                  have hM7 := hM6.set (i * N + j) (if plus vy vz < vx then plus vy vz else vx)
                  have hb7 : AllB (us.set (i * N + j) (if plus vy vz < vx then plus vy vz else vx)) := hb.set' (by rw [minf, Hvx.out]; exact isBound_min (hb _) (isBound_plus _ _))
                  have hbr7 : Below B u2 (w6.setCell ⟨gm, i * N + j, none⟩ (.int .i64 (if plus vy vz < vx then plus vy vz else vx))) := (hbr.trans (h6.bel hM.base (by have := hbr.size; omega))).setCell (by simpa using hgB) _
                  have hus7 : Hid (us.set (i * N + j) (if plus vy vz < vx then plus vy vz else vx) = pRow N k i (j + 1) zs) := hid (by rw [minf, Hvx.out, Hvy.out, Hvz.out]; have := hus.out; subst this; rfl)
                  clear fm fc fd fe
                  go_wp2
                  go_roundw
                  case rel => exact ⟨j + 1, _, by omega, by go_num, hus7, hid (by rw [List.length_set]; exact hl.out), hM7, hb7, hbr7⟩
                  case measure => simp [Go.RowKit.intOf]; omega
              · have t3 : ¬ (j : Int) < 2 * n := by have := HN.out; omega
                have hje : N = j := by omega
                subst hje
                go_wp2
                go_roundw
                case rel => exact ⟨i + 1, us, by omega, by go_num, hid (by rw [hus.out, hzs.out]; rfl), hl, hM, hb, hbr⟩
                case measure => simp [Go.RowKit.intOf]; omega
          · have t2 : ¬ (i : Int) < 2 * n := by have := HN.out; omega
            have hie : N = i := by omega
            subst hie
            go_wp2
            go_roundw
            case rel => exact ⟨k + 1, zs, by omega, by go_num, hid (by rw [hzs.out, hys.out]; rfl), hlzs, hM, hb, hbr⟩
            case measure => simp [Go.RowKit.intOf]; omega
      · have t1 : ¬ (k : Int) < 2 * n := by have := HN.out; omega
        have hke : N = k := by omega
        subst hke
        go_wp2
        go_loopw [9] (fun t wr => ∃ (i : Nat) (zs : List Int), i ≤ N ∧ t = .int .i64 i ∧ Hid (zs = mirrors N i ys) ∧ Hid (zs.length = N * N) ∧ MC B gx (2 * n) A1 c1 zs wr ∧ AllB zs ∧ Below B u2 wr) (fun t _ => N - (Go.RowKit.intOf t).toNat)
        case atStart => exact ⟨0, ys, by omega, rfl, hid rfl, hlys, hM, hb, hbr⟩
        case round =>
          clear hM hb hbr
          obtain ⟨i, zs, hi, rfl, hzs, hlzs, hM, hb, hbr⟩ := hrel
          by_cases hiN : i < N
          · have t2 : (i : Int) < 2 * n := by have := HN.out; omega
            go_wp2
            go_loopw [10] (fun t wr => ∃ (j : Nat) (us : List Int), j ≤ N ∧ t = .int .i64 j ∧ Hid (us = mRow N i j zs) ∧ Hid (us.length = N * N) ∧ MC B gx (2 * n) A1 c1 us wr ∧ AllB us ∧ Below B u2 wr) (fun t _ => N - (Go.RowKit.intOf t).toNat)
            case atStart => exact ⟨0, zs, by omega, rfl, hid rfl, hlzs, hM, hb, hbr⟩
            case round =>
              clear hM hb hbr
              obtain ⟨j, us, hj, rfl, hus, hl, hM, hb, hbr⟩ := hrel
              by_cases hjN : j < N
              · have t3 : (j : Int) < 2 * n := by have := HN.out; omega
                have hni := nx_lt HN.out hiN
                have hnj := nx_lt HN.out hjN
                as_aux_lemma =>
                  obtain ⟨a1, a2, a3, a4, a5, a6⟩ := idxr_ok (i := i) (j := j) HN.out hiN hjN hN1
                  rw [← hl.out] at a4 a6
                  obtain ⟨b1, b2, b3, b4, b5, b6⟩ := idxr_ok (i := nx j) (j := nx i) HN.out hnj hni hN1
                  rw [← hl.out] at b4 b6
                  obtain ⟨gm, rfl, hgB, hgW, hgx⟩ := hM.some (by omega)
                  go_wp2_with fail
                  refine (across_nx j _ (by omega)).mono ?_
                  rintro e8 w8 ⟨rfl, rfl⟩
                  go_wp2_with fail
                  refine (across_nx i _ (by omega)).mono ?_
                  rintro e8 w8 ⟨rfl, rfl⟩
                  have fm : ∀ X, SC wr gx (2 * n) (some ⟨gm, 0, none⟩) us.length c1 X → X.cell? ⟨gx, 1, none⟩ = some (.slice (some ⟨gm, 0, none⟩) us.length c1) := fun X hX => (hM.go hX).m_
                  obtain ⟨vx, hvx⟩ : ∃ v, v = gI us ((i * N + j : Nat) : Int) := ⟨_, rfl⟩
                  have Hvx := hid hvx
                  clear hvx
                  have fc : ∀ X, SC wr gx (2 * n) (some ⟨gm, 0, none⟩) us.length c1 X → X.cell? ⟨gm, i * N + j, none⟩ = some (.int .i64 vx) := fun X hX => by rw [Hvx.out]; exact (hM.go hX).c_ a4
                  obtain ⟨vy, hvy⟩ : ∃ v, v = gI us ((nx j * N + nx i : Nat) : Int) := ⟨_, rfl⟩
                  have Hvy := hid hvy
                  clear hvy
                  have fd : ∀ X, SC wr gx (2 * n) (some ⟨gm, 0, none⟩) us.length c1 X → X.cell? ⟨gm, nx j * N + nx i, none⟩ = some (.int .i64 vy) := fun X hX => by rw [Hvy.out]; exact (hM.go hX).c_ b4
                  go_wp2
                  refine wp_region_flow 28 (SC wr gx (2 * n) (some ⟨gm, 0, none⟩) us.length c1) (by kernel_rfl) (by kernel_rfl) hM.sx.drew ?_
                  (repeat (first | (refine Flow.skip (by rfl) ?_; simp only [Act.put, List.setIfInBounds_toArray, List.set_cons_zero, List.set_cons_succ]) | (refine' Flow.take _ (by rfl) (fun W hW R hR => ?_) ?_; rotate_left; (go_simp; (try go_bits); with_reducible exact hR); simp only [Act.put, List.setIfInBounds_toArray, List.set_cons_zero, List.set_cons_succ])))
                  intro w6 h6
                  have hM6 := hM.go h6
                  generalize hvv : (if vy < vx then vy else vx) = vv
                  have HVV := hid hvv
                  clear hvv
                  have c6 := hM6.c_ a4
                  have f6 := hM6.f_ (i * N + j)
                  have hbr6 := hbr.trans (h6.bel hM.base (by have := hbr.size; omega))
                  have hM7 := hM6.set (i * N + j) vv
                  have hgW6 : gm < w6.heap.size := hM6.some_lt
                  have hbr7 : Below B u2 (w6.setCell ⟨gm, i * N + j, none⟩ (.int .i64 vv)) := hbr6.setCell (by simpa using hgB) _
                  have hsx7 := hM7.sx
                  rw [List.length_set] at hsx7
                  have fm7 : ∀ X, SC (w6.setCell ⟨gm, i * N + j, none⟩ (.int .i64 vv)) gx (2 * n) (some ⟨gm, 0, none⟩) us.length c1 X → X.cell? ⟨gx, 1, none⟩ = some (.slice (some ⟨gm, 0, none⟩) us.length c1) := fun X hX => by
                    have := (hM7.go (by rw [List.length_set]; exact hX)).m_
                    rw [List.length_set] at this; exact this
                  have fc7 : ∀ X, SC (w6.setCell ⟨gm, i * N + j, none⟩ (.int .i64 vv)) gx (2 * n) (some ⟨gm, 0, none⟩) us.length c1 X → X.cell? ⟨gm, i * N + j, none⟩ = some (.int .i64 vv) := fun X hX => by
                    have := (hM7.go (by rw [List.length_set]; exact hX)).c_ (k := i * N + j) (by rw [List.length_set]; exact a4)
                    rw [gI_put us (i * N + j) vv (i * N + j) a4, if_pos rfl] at this; exact this
                  have HC6 := hid c6
                  clear fm fc fd
                  go_wp2
                  refine wp_region_flow 16 (SC (w6.setCell ⟨gm, i * N + j, none⟩ (.int .i64 vv)) gx (2 * n) (some ⟨gm, 0, none⟩) us.length c1) (by kernel_rfl) (by kernel_rfl) hsx7.drew ?_
                  (repeat (first | (refine Flow.skip (by rfl) ?_; simp only [Act.put, List.setIfInBounds_toArray, List.set_cons_zero, List.set_cons_succ]) | (refine' Flow.take _ (by rfl) (fun W hW R hR => ?_) ?_; rotate_left; (go_simp; (try go_bits); with_reducible exact hR); simp only [Act.put, List.setIfInBounds_toArray, List.set_cons_zero, List.set_cons_succ])))
                  intro w8 h8
                  have hM8 := hM7.go (by rw [List.length_set]; exact h8)
                  have d8 := hM8.c_ (k := nx j * N + nx i) (by rw [List.length_set]; exact b4)
                  have f8 := hM8.f_ (nx j * N + nx i)
                  have hbr8 := hbr7.trans (h8.bel hM.base (by have := hbr7.size; omega))
                  have hM9 := hM8.set (nx j * N + nx i) vv
                  have hvb : isBound vv = true := by rw [← HVV.out, minf, Hvx.out, Hvy.out]; exact isBound_min (hb _) (hb _)
                  have hb9 : AllB ((us.set (i * N + j) vv).set (nx j * N + nx i) vv) := (hb.set' hvb).set' hvb
                  have hbr9 := hbr8.setCell (p := ⟨gm, nx j * N + nx i, none⟩) (by simpa using hgB) (.int .i64 vv)
                  have hus9 : Hid ((us.set (i * N + j) vv).set (nx j * N + nx i) vv = mRow N i (j + 1) zs) := hid (by rw [← HVV.out, minf, Hvx.out, Hvy.out]; have := hus.out; subst this; rfl)
                  have HVB := hid hvb
                  clear fm7 fc7 hvb
                  go_wp2
                  go_roundw
                  case rel => exact ⟨j + 1, _, by omega, by go_num, hus9, hid (by rw [List.length_set, List.length_set]; exact hl.out), hM9, hb9, hbr9⟩
                  case measure => simp [Go.RowKit.intOf]; omega
              · have t3 : ¬ (j : Int) < 2 * n := by have := HN.out; omega
                have hje : N = j := by omega
                subst hje
                go_wp2
                go_roundw
                case rel => exact ⟨i + 1, us, by omega, by go_num, hid (by rw [hus.out, hzs.out]; rfl), hl, hM, hb, hbr⟩
                case measure => simp [Go.RowKit.intOf]; omega
          · have t2 : ¬ (i : Int) < 2 * n := by have := HN.out; omega
            have hie : N = i := by omega
            subst hie
            go_wp2
            go_loopw [12] (fun t wr => ∃ (i : Nat), i ≤ N ∧ t = .int .i64 i ∧ Hid (negs N zs i = false) ∧ MC B gx (2 * n) A1 c1 zs wr ∧ Below B u2 wr) (fun t _ => N - (Go.RowKit.intOf t).toNat)
            case atStart => exact ⟨0, by omega, rfl, hid rfl, hM, hbr⟩
            case round =>
              clear hM hbr
              obtain ⟨i, hi, rfl, hng, hM, hbr⟩ := hrel
              by_cases hiN : i < N
              · have t2 : (i : Int) < 2 * n := by have := HN.out; omega
                obtain ⟨a1, a2, a3, a4, a5, a6⟩ := idxr_ok (i := i) (j := i) HN.out hiN hiN hN1
                rw [← hlzs.out] at a4 a6
                obtain ⟨gm, rfl, hgB, hgW, hgx⟩ := hM.some (by omega)
                have c5 := hM.c_ a4
                have m5 := hM.m_
                cases hd : decide (gI zs ((i * N + i : Nat) : Int) < 0)
                · have hng9 : Hid (negs N zs (i + 1) = false) := hid (by unfold negs; rw [hng.out, hd]; rfl)
                  generalize gI zs ((i * N + i : Nat) : Int) = vx at *
                  go_wp2
                  go_roundw
                  case rel => exact ⟨i + 1, by omega, by go_num, hng9, hM, hbr⟩
                  case measure => simp [Go.RowKit.intOf]; omega
                · have hneg : negs N zs N = true := negs_yes hiN hd hiN
                  have HNO : R = ⟨n, true, []⟩ := by
                    rw [HCL.out]
                    unfold closeM
                    rw [← hys.out, ← hzs.out, if_pos hneg]
                  subst HNO
                  have HNO : True := trivial
                  clear hneg
                  generalize gI zs ((i * N + i : Nat) : Int) = vx at *
                  as_aux_lemma =>
                    have hlt1 : w.heap.size + 1 < gx := by have := hM.base; omega
                    obtain ⟨x0, x1, x2, fx⟩ := octbox (p0.below hbr hq0)
                    obtain ⟨sv, hk5⟩ := hM.2.2.1
                    have fs := SB.laters (g := w.heap.size + 1) (v0 := .int .i64 n) (v1 := .bool true) (v2 := .slice none 0 0) (hk5.cell 2) (by omega)
                    have f0 := SB.laters (g := w.heap.size + 1) (v0 := .int .i64 n) (v1 := .bool true) (v2 := .slice none 0 0) x0 (by omega)
                    have f00 : ∀ X, SB wr (w.heap.size + 1) (.int .i64 n) (.bool true) (.slice none 0 0) false X → X.cell? ⟨w.heap.size, 0, none⟩ = some (.int .i64 n) := fun X hX => hX.cell x0 (by omega)
                    have r4 := p1.below hbr hq1
                    have hbw4 : Below w.heap.size w wr := hbw.trans (hbr.mono hBw)
                    obtain ⟨b0, b1, b2, b3⟩ := SB.boxes (v0 := .int .i64 n) (v1 := .bool true) (v2 := .slice none 0 0) r4
                    clear x0 x1 x2 fx hk5
                    go_wp2
                    refine wp_region_flowM 8 7 (SB wr (w.heap.size + 1) (.int .i64 n) (.bool true) (.slice none 0 0)) (by kernel_rfl) (by kernel_rfl) (by decide) (Below.refl _ _).drew ?_
                    (repeat (first | (refine FlowM.skip (by rfl) (by rfl) ?_; simp only [Act.put, List.setIfInBounds_toArray, List.set_cons_zero, List.set_cons_succ]) | (refine' FlowM.take _ (by rfl) (by rfl) (fun W hW R hR => ?_) ?_; rotate_left; (go_simp; (try go_bits); with_reducible exact hR); simp only [Act.put, List.setIfInBounds_toArray, List.set_cons_zero, List.set_cons_succ])))
                    (refine FlowM.callB 38 #[.int .i64 n] (.agg #[.int .i64 n, .bool true, .slice none 0 0]) (by rfl) (by kernel_rfl) (by rfl) (fun X hX => by go_simp) (fun X hX => (rempty_any n X).mono fun e' w' ⟨he, hb'⟩ => ⟨he, Below.trans (show Below wr.heap.size wr X from hX) (hb'.mono (show Below wr.heap.size wr X from hX).size)⟩) ?_; simp only [Act.put, List.setIfInBounds_toArray, List.set_cons_zero, List.set_cons_succ])
                    (repeat (first | (refine FlowM.skip (by rfl) (by rfl) ?_; simp only [Act.put, List.setIfInBounds_toArray, List.set_cons_zero, List.set_cons_succ]) | (refine' FlowM.take _ (by rfl) (by rfl) (fun W hW R hR => ?_) ?_; rotate_left; (go_simp; (try go_bits); with_reducible exact hR); simp only [Act.put, List.setIfInBounds_toArray, List.set_cons_zero, List.set_cons_succ])))
                    (refine FlowM.mark (by rfl) (by rfl) (by rfl) (fun W hW R hR => ?_) ?_; (go_simp; (exact hR _ ⟨W, hW, rfl⟩)))
                    intro w6 h6
                    obtain ⟨W0, hb6, rfl⟩ := h6
                    clear fs f0 f00 b0 b1 b2 b3
                    obtain ⟨z0, z1, z2, fz⟩ := octbox ((r4.later hb6).set3 (v0 := .int .i64 n) (v1 := .bool true) (v2 := .slice none 0 0))
                    have hbw6 := bup hbw4 hb6
                    go_wp2
                    refine bodyPost_ret (v := .tuple #[.agg #[.int .i64 n, .bool true, .slice none 0 0], .bool sv]) (by simp [results, Tryz.results40, go_sem, z0, z1, z2]) rfl ?_
                    exact ⟨none, 0, sv, rfl, own_nil _ _, hbw6.trans (below3 (by omega) hbw6.size)⟩
              · have t2 : ¬ (i : Int) < 2 * n := by have := HN.out; omega
                have hie : N = i := by omega
                subst hie
                go_wp2
                go_loopw [13] (fun t wr => ∃ (i : Nat) (us : List Int), i ≤ N ∧ t = .int .i64 i ∧ Hid (us = evens N i zs) ∧ Hid (us.length = N * N) ∧ MC B gx (2 * n) A1 c1 us wr ∧ AllB us ∧ Below B u2 wr) (fun t _ => N - (Go.RowKit.intOf t).toNat)
                case atStart => exact ⟨0, zs, by omega, rfl, hid rfl, hlzs, hM, hb, hbr⟩
                case round =>
                  clear hM hb hbr
                  obtain ⟨i, us, hi, rfl, hus, hl, hM, hb, hbr⟩ := hrel
                  by_cases hiN : i < N
                  · have t2 : (i : Int) < 2 * n := by have := HN.out; omega
                    have hni := nx_lt HN.out hiN
                    as_aux_lemma =>
                      obtain ⟨a1, a2, a3, a4, a5, a6⟩ := idxr_ok (i := i) (j := nx i) HN.out hiN hni hN1
                      rw [← hl.out] at a4 a6
                      obtain ⟨gm, rfl, hgB, hgW, hgx⟩ := hM.some (by omega)
                      go_wp2_with fail
                      refine (across_nx i _ (by omega)).mono ?_
                      rintro e8 w8 ⟨rfl, rfl⟩
                      have fm : ∀ X, SC wr gx (2 * n) (some ⟨gm, 0, none⟩) us.length c1 X → X.cell? ⟨gx, 1, none⟩ = some (.slice (some ⟨gm, 0, none⟩) us.length c1) := fun X hX => (hM.go hX).m_
                      obtain ⟨vx, hvx⟩ : ∃ v, v = gI us ((i * N + nx i : Nat) : Int) := ⟨_, rfl⟩
                      have Hvx := hid hvx
                      clear hvx
                      have fc : ∀ X, SC wr gx (2 * n) (some ⟨gm, 0, none⟩) us.length c1 X → X.cell? ⟨gm, i * N + nx i, none⟩ = some (.int .i64 vx) := fun X hX => by rw [Hvx.out]; exact (hM.go hX).c_ a4
                      go_wp2
                      refine wp_region_flow 13 (SC wr gx (2 * n) (some ⟨gm, 0, none⟩) us.length c1) (by kernel_rfl) (by kernel_rfl) hM.sx.drew ?_
                      (repeat (first | (refine Flow.skip (by rfl) ?_; simp only [Act.put, List.setIfInBounds_toArray, List.set_cons_zero, List.set_cons_succ]) | (refine' Flow.take _ (by rfl) (fun W hW R hR => ?_) ?_; rotate_left; (go_simp; (try go_bits); with_reducible exact hR); simp only [Act.put, List.setIfInBounds_toArray, List.set_cons_zero, List.set_cons_succ])))
                      (refine Flow.call 69 #[.int .i64 vx] (.int .i64 (even vx)) (by rfl) (fun X hX => by go_simp) (fun X hX => (reven_any _ _).mono fun e' w' ⟨he, hw⟩ => ⟨he, hw ▸ hX⟩) ?_; simp only [Act.put, List.setIfInBounds_toArray, List.set_cons_zero, List.set_cons_succ])
                      (repeat (first | (refine Flow.skip (by rfl) ?_; simp only [Act.put, List.setIfInBounds_toArray, List.set_cons_zero, List.set_cons_succ]) | (refine' Flow.take _ (by rfl) (fun W hW R hR => ?_) ?_; rotate_left; (go_simp; (try go_bits); with_reducible exact hR); simp only [Act.put, List.setIfInBounds_toArray, List.set_cons_zero, List.set_cons_succ])))
                      intro w6 h6
                      have hM6 := hM.go h6
                      have c6 := hM6.c_ a4
                      have f6 := hM6.f_ (i * N + nx i)
                      have hM7 := hM6.set (i * N + nx i) (even vx)
                      have hb7 : AllB (us.set (i * N + nx i) (even vx)) := hb.set' (isBound_even _)
                      have hbr7 : Below B u2 (w6.setCell ⟨gm, i * N + nx i, none⟩ (.int .i64 (even vx))) := (hbr.trans (h6.bel hM.base (by have := hbr.size; omega))).setCell (by simpa using hgB) _
                      have hus7 : Hid (us.set (i * N + nx i) (even vx) = evens N (i + 1) zs) := hid (by rw [Hvx.out]; have := hus.out; subst this; rfl)
                      clear fm fc
                      go_wp2
                      go_roundw
                      case rel => exact ⟨i + 1, _, by omega, by go_num, hus7, hid (by rw [List.length_set]; exact hl.out), hM7, hb7, hbr7⟩
                      case measure => simp [Go.RowKit.intOf]; omega
                  · have t2 : ¬ (i : Int) < 2 * n := by have := HN.out; omega
                    have hie : N = i := by omega
                    subst hie
                    go_wp2
                    go_loopw [15, 16] (fun s t wr => ∃ (i : Nat) (b : Bool), i ≤ N ∧ s = .bool b ∧ t = .int .i64 i ∧ Hid (b = sideNegs N us i) ∧ MC B gx (2 * n) A1 c1 us wr ∧ Below B u2 wr) (fun _ t _ => N - (Go.RowKit.intOf t).toNat)
                    case atStart => exact ⟨0, false, by omega, rfl, rfl, hid rfl, hM, hbr⟩
                    case round =>
                      clear hM hbr
                      obtain ⟨i, b, hi, rfl, rfl, hsb, hM, hbr⟩ := hrel
                      by_cases hiN : i < N
                      · have t2 : (i : Int) < 2 * n := by have := HN.out; omega
                        have hni := nx_lt HN.out hiN
                        as_aux_lemma =>
                          obtain ⟨a1, a2, a3, a4, a5, a6⟩ := idxr_ok (i := i) (j := nx i) HN.out hiN hni hN1
                          rw [← hl.out] at a4 a6
                          obtain ⟨b1, b2, b3, b4, b5, b6⟩ := idxr_ok (i := nx i) (j := i) HN.out hni hiN hN1
                          rw [← hl.out] at b4 b6
                          obtain ⟨gm, rfl, hgB, hgW, hgx⟩ := hM.some (by omega)
                          go_wp2_with fail
                          refine (across_nx i _ (by omega)).mono ?_
                          rintro e8 w8 ⟨rfl, rfl⟩
                          have fm : ∀ X, SC wr gx (2 * n) (some ⟨gm, 0, none⟩) us.length c1 X → X.cell? ⟨gx, 1, none⟩ = some (.slice (some ⟨gm, 0, none⟩) us.length c1) := fun X hX => (hM.go hX).m_
                          obtain ⟨vx, hvx⟩ : ∃ v, v = gI us ((i * N + nx i : Nat) : Int) := ⟨_, rfl⟩
                          have Hvx := hid hvx
                          clear hvx
                          have fc : ∀ X, SC wr gx (2 * n) (some ⟨gm, 0, none⟩) us.length c1 X → X.cell? ⟨gm, i * N + nx i, none⟩ = some (.int .i64 vx) := fun X hX => by rw [Hvx.out]; exact (hM.go hX).c_ a4
                          obtain ⟨vy, hvy⟩ : ∃ v, v = gI us ((nx i * N + i : Nat) : Int) := ⟨_, rfl⟩
                          have Hvy := hid hvy
                          clear hvy
                          have fd : ∀ X, SC wr gx (2 * n) (some ⟨gm, 0, none⟩) us.length c1 X → X.cell? ⟨gm, nx i * N + i, none⟩ = some (.int .i64 vy) := fun X hX => by rw [Hvy.out]; exact (hM.go hX).c_ b4
                          have hsb9 : Hid ((decide (plus vx vy < 0) || b) = sideNegs N us (i + 1)) := hid (by rw [Hvx.out, Hvy.out, hsb.out]; rfl)
                          cases hd : decide (plus vx vy < 0)
                          all_goals
                            go_wp2
                            refine wp_region_flow 23 (SC wr gx (2 * n) (some ⟨gm, 0, none⟩) us.length c1) (by kernel_rfl) (by kernel_rfl) hM.sx.drew ?_
                            (repeat (first | (refine Flow.skip (by rfl) ?_; simp only [Act.put, List.setIfInBounds_toArray, List.set_cons_zero, List.set_cons_succ]) | (refine' Flow.take _ (by rfl) (fun W hW R hR => ?_) ?_; rotate_left; (go_simp; (try go_bits); with_reducible exact hR); simp only [Act.put, List.setIfInBounds_toArray, List.set_cons_zero, List.set_cons_succ])))
                            intro w6 h6
                            have hM6 := hM.go h6
                            have hbr6 := hbr.trans (h6.bel hM.base (by have := hbr.size; omega))
                            rw [hd] at hsb9
                            clear fm fc fd
                            go_wp2_with fail
                            refine (mc_plus vx vy hM6).mono ?_
                            rintro e7 w7 ⟨rfl, h7⟩
                            have hM7 := hM6.go h7
                            have hbr7 := hbr6.trans (h7.bel hM.base (by have := hbr6.size; omega))
                            generalize plus vx vy = vp at *
                            go_wp2
                            go_roundw
                            case measure => simp [Go.RowKit.intOf]; omega
                          · case rel => exact ⟨i + 1, b, by omega, rfl, by go_num, hsb9, hM7, hbr7⟩
                          · case rel => exact ⟨i + 1, true, by omega, rfl, by go_num, hsb9, hM7, hbr7⟩
                      · have t2 : ¬ (i : Int) < 2 * n := by have := HN.out; omega
                        have hie : N = i := by omega
                        subst hie
                        cases b with
                        | true =>
                          have HNO : R = ⟨n, true, []⟩ := by
                            rw [HCL.out]
                            unfold closeM
                            rw [← hys.out, ← hzs.out, if_neg (by rw [hng.out]; simp), ← hus.out, if_pos hsb.out.symm]
                          subst HNO
                          have HNO : True := trivial
                          as_aux_lemma =>
                            have hlt1 : w.heap.size + 1 < gx := by have := hM.base; omega
                            obtain ⟨x0, x1, x2, fx⟩ := octbox (p0.below hbr hq0)
                            obtain ⟨sv, hk5⟩ := hM.2.2.1
                            have fs := SB.laters (g := w.heap.size + 1) (v0 := .int .i64 n) (v1 := .bool true) (v2 := .slice none 0 0) (hk5.cell 2) (by omega)
                            have f0 := SB.laters (g := w.heap.size + 1) (v0 := .int .i64 n) (v1 := .bool true) (v2 := .slice none 0 0) x0 (by omega)
                            have f00 : ∀ X, SB wr (w.heap.size + 1) (.int .i64 n) (.bool true) (.slice none 0 0) false X → X.cell? ⟨w.heap.size, 0, none⟩ = some (.int .i64 n) := fun X hX => hX.cell x0 (by omega)
                            have r4 := p1.below hbr hq1
                            have hbw4 : Below w.heap.size w wr := hbw.trans (hbr.mono hBw)
                            obtain ⟨b0, b1, b2, b3⟩ := SB.boxes (v0 := .int .i64 n) (v1 := .bool true) (v2 := .slice none 0 0) r4
                            clear x0 x1 x2 fx hk5
                            go_wp2
                            refine wp_region_flowM 8 7 (SB wr (w.heap.size + 1) (.int .i64 n) (.bool true) (.slice none 0 0)) (by kernel_rfl) (by kernel_rfl) (by decide) (Below.refl _ _).drew ?_
                            (repeat (first | (refine FlowM.skip (by rfl) (by rfl) ?_; simp only [Act.put, List.setIfInBounds_toArray, List.set_cons_zero, List.set_cons_succ]) | (refine' FlowM.take _ (by rfl) (by rfl) (fun W hW R hR => ?_) ?_; rotate_left; (go_simp; (try go_bits); with_reducible exact hR); simp only [Act.put, List.setIfInBounds_toArray, List.set_cons_zero, List.set_cons_succ])))
                            (refine FlowM.callB 38 #[.int .i64 n] (.agg #[.int .i64 n, .bool true, .slice none 0 0]) (by rfl) (by kernel_rfl) (by rfl) (fun X hX => by go_simp) (fun X hX => (rempty_any n X).mono fun e' w' ⟨he, hb'⟩ => ⟨he, Below.trans (show Below wr.heap.size wr X from hX) (hb'.mono (show Below wr.heap.size wr X from hX).size)⟩) ?_; simp only [Act.put, List.setIfInBounds_toArray, List.set_cons_zero, List.set_cons_succ])
                            (repeat (first | (refine FlowM.skip (by rfl) (by rfl) ?_; simp only [Act.put, List.setIfInBounds_toArray, List.set_cons_zero, List.set_cons_succ]) | (refine' FlowM.take _ (by rfl) (by rfl) (fun W hW R hR => ?_) ?_; rotate_left; (go_simp; (try go_bits); with_reducible exact hR); simp only [Act.put, List.setIfInBounds_toArray, List.set_cons_zero, List.set_cons_succ])))
                            (refine FlowM.mark (by rfl) (by rfl) (by rfl) (fun W hW R hR => ?_) ?_; (go_simp; (exact hR _ ⟨W, hW, rfl⟩)))
                            intro w6 h6
                            obtain ⟨W0, hb6, rfl⟩ := h6
                            clear fs f0 f00 b0 b1 b2 b3
                            obtain ⟨z0, z1, z2, fz⟩ := octbox ((r4.later hb6).set3 (v0 := .int .i64 n) (v1 := .bool true) (v2 := .slice none 0 0))
                            have hbw6 := bup hbw4 hb6
                            go_wp2
                            refine bodyPost_ret (v := .tuple #[.agg #[.int .i64 n, .bool true, .slice none 0 0], .bool sv]) (by simp [results, Tryz.results40, go_sem, z0, z1, z2]) rfl ?_
                            exact ⟨none, 0, sv, rfl, own_nil _ _, hbw6.trans (below3 (by omega) hbw6.size)⟩
                        | false =>
                          go_wp2
                          go_loopw [18] (fun t wr => ∃ (i : Nat) (ps : List Int), i ≤ N ∧ t = .int .i64 i ∧ Hid (ps = strengthens N i us) ∧ Hid (ps.length = N * N) ∧ MC B gx (2 * n) A1 c1 ps wr ∧ AllB ps ∧ Below B u2 wr) (fun t _ => N - (Go.RowKit.intOf t).toNat)
                          case atStart => exact ⟨0, us, by omega, rfl, hid rfl, hl, hM, hb, hbr⟩
                          case round =>
                            clear hM hb hbr
                            obtain ⟨i, ps, hi, rfl, hps, hlps, hM, hb, hbr⟩ := hrel
                            by_cases hiN : i < N
                            · have t2 : (i : Int) < 2 * n := by have := HN.out; omega
                              go_wp2
                              go_loopw [19] (fun t wr => ∃ (j : Nat) (qs : List Int), j ≤ N ∧ t = .int .i64 j ∧ Hid (qs = sRow N i j ps) ∧ Hid (qs.length = N * N) ∧ MC B gx (2 * n) A1 c1 qs wr ∧ AllB qs ∧ Below B u2 wr) (fun t _ => N - (Go.RowKit.intOf t).toNat)
                              case atStart => exact ⟨0, ps, by omega, rfl, hid rfl, hlps, hM, hb, hbr⟩
                              case round =>
                                clear hM hb hbr
                                obtain ⟨j, qs, hj, rfl, hqs, hlqs, hM, hb, hbr⟩ := hrel
                                by_cases hjN : j < N
                                · have t3 : (j : Int) < 2 * n := by have := HN.out; omega
                                  by_cases hij : i = j
                                  · have tij : ((i : Int) != (j : Int)) = false := by rw [bne_eq_false_iff_eq]; omega
                                    have hus9 : Hid (qs = sRow N i (j + 1) ps) := hid (by have := hqs.out; rw [this]; show _ = sStep N i j (rep (fun j => sStep N i j) j ps); unfold sStep; rw [if_pos hij]; rfl)
                                    have HIJ := hid hij
                                    clear hij
                                    go_wp2
                                    go_roundw
                                    case rel => exact ⟨j + 1, _, by omega, by go_num, hus9, hlqs, hM, hb, hbr⟩
                                    case measure => simp [Go.RowKit.intOf]; omega
                                  · have tij : ((i : Int) != (j : Int)) = true := by rw [bne_iff_ne]; omega
                                    have HIJ := hid hij
                                    clear hij
                                    have hni := nx_lt HN.out hiN
                                    have hnj := nx_lt HN.out hjN
                                    as_aux_lemma =>
                                      obtain ⟨a1, a2, a3, a4, a5, a6⟩ := idxr_ok (i := i) (j := j) HN.out hiN hjN hN1
                                      rw [← hlqs.out] at a4 a6
                                      obtain ⟨b1, b2, b3, b4, b5, b6⟩ := idxr_ok (i := i) (j := nx i) HN.out hiN hni hN1
                                      rw [← hlqs.out] at b4 b6
                                      obtain ⟨d1, d2, d3, d4, d5, d6⟩ := idxr_ok (i := nx j) (j := j) HN.out hnj hjN hN1
                                      rw [← hlqs.out] at d4 d6
                                      obtain ⟨gm, rfl, hgB, hgW, hgx⟩ := hM.some (by omega)
                                      have fm : ∀ X, SC wr gx (2 * n) (some ⟨gm, 0, none⟩) qs.length c1 X → X.cell? ⟨gx, 1, none⟩ = some (.slice (some ⟨gm, 0, none⟩) qs.length c1) := fun X hX => (hM.go hX).m_
                                      obtain ⟨vx, hvx⟩ : ∃ v, v = gI qs ((i * N + j : Nat) : Int) := ⟨_, rfl⟩
                                      have Hvx := hid hvx
                                      clear hvx
                                      have fc : ∀ X, SC wr gx (2 * n) (some ⟨gm, 0, none⟩) qs.length c1 X → X.cell? ⟨gm, i * N + j, none⟩ = some (.int .i64 vx) := fun X hX => by rw [Hvx.out]; exact (hM.go hX).c_ a4
                                      obtain ⟨vy, hvy⟩ : ∃ v, v = gI qs ((i * N + nx i : Nat) : Int) := ⟨_, rfl⟩
                                      have Hvy := hid hvy
                                      clear hvy
                                      have fd : ∀ X, SC wr gx (2 * n) (some ⟨gm, 0, none⟩) qs.length c1 X → X.cell? ⟨gm, i * N + nx i, none⟩ = some (.int .i64 vy) := fun X hX => by rw [Hvy.out]; exact (hM.go hX).c_ b4
                                      obtain ⟨vz, hvz⟩ : ∃ v, v = gI qs ((nx j * N + j : Nat) : Int) := ⟨_, rfl⟩
                                      have Hvz := hid hvz
                                      clear hvz
                                      have fe : ∀ X, SC wr gx (2 * n) (some ⟨gm, 0, none⟩) qs.length c1 X → X.cell? ⟨gm, nx j * N + j, none⟩ = some (.int .i64 vz) := fun X hX => by rw [Hvz.out]; exact (hM.go hX).c_ d4
                                      go_wp2
                                      refine wp_region_flow 25 (SC wr gx (2 * n) (some ⟨gm, 0, none⟩) qs.length c1) (by kernel_rfl) (by kernel_rfl) hM.sx.drew ?_
                                      (repeat (first | (refine Flow.skip (by rfl) ?_; simp only [Act.put, List.setIfInBounds_toArray, List.set_cons_zero, List.set_cons_succ]) | (refine' Flow.take _ (by rfl) (fun W hW R hR => ?_) ?_; rotate_left; (go_simp; (try go_bits); with_reducible exact hR); simp only [Act.put, List.setIfInBounds_toArray, List.set_cons_zero, List.set_cons_succ])))
                                      (refine Flow.call 68 #[.int .i64 (i : Int)] (.int .i64 ((nx i : Nat) : Int)) (by rfl) (fun X hX => by go_simp) (fun X hX => (across_nx i _ (by omega)).mono fun e' w' ⟨he, hw⟩ => ⟨he, hw ▸ hX⟩) ?_; simp only [Act.put, List.setIfInBounds_toArray, List.set_cons_zero, List.set_cons_succ])
                                      (repeat (first | (refine Flow.skip (by rfl) ?_; simp only [Act.put, List.setIfInBounds_toArray, List.set_cons_zero, List.set_cons_succ]) | (refine' Flow.take _ (by rfl) (fun W hW R hR => ?_) ?_; rotate_left; (go_simp; (try go_bits); with_reducible exact hR); simp only [Act.put, List.setIfInBounds_toArray, List.set_cons_zero, List.set_cons_succ])))
                                      (refine Flow.call 68 #[.int .i64 (j : Int)] (.int .i64 ((nx j : Nat) : Int)) (by rfl) (fun X hX => by go_simp) (fun X hX => (across_nx j _ (by omega)).mono fun e' w' ⟨he, hw⟩ => ⟨he, hw ▸ hX⟩) ?_; simp only [Act.put, List.setIfInBounds_toArray, List.set_cons_zero, List.set_cons_succ])
                                      (repeat (first | (refine Flow.skip (by rfl) ?_; simp only [Act.put, List.setIfInBounds_toArray, List.set_cons_zero, List.set_cons_succ]) | (refine' Flow.take _ (by rfl) (fun W hW R hR => ?_) ?_; rotate_left; (go_simp; (try go_bits); with_reducible exact hR); simp only [Act.put, List.setIfInBounds_toArray, List.set_cons_zero, List.set_cons_succ])))
                                      intro w6 h6
                                      have hM6 := hM.go h6
                                      have hbr6 := hbr.trans (h6.bel hM.base (by have := hbr.size; omega))
                                      clear fc fd fe fm
                                      go_wp2_with fail
                                      refine (mc_plus _ _ hM6).mono ?_
                                      rintro e7 w7 ⟨rfl, h7⟩
                                      have hM7 := hM6.go h7
                                      have hbr7 := hbr6.trans (h7.bel hM.base (by have := hbr6.size; omega))
                                      have fm : ∀ X, SC w7 gx (2 * n) (some ⟨gm, 0, none⟩) qs.length c1 X → X.cell? ⟨gx, 1, none⟩ = some (.slice (some ⟨gm, 0, none⟩) qs.length c1) := fun X hX => (hM7.go hX).m_
                                      have fc : ∀ X, SC w7 gx (2 * n) (some ⟨gm, 0, none⟩) qs.length c1 X → X.cell? ⟨gm, i * N + j, none⟩ = some (.int .i64 vx) := fun X hX => by rw [Hvx.out]; exact (hM7.go hX).c_ a4
                                      obtain ⟨vp, hvp⟩ : ∃ v, v = plus vy vz := ⟨_, rfl⟩
                                      have Hvp := hid hvp
                                      rw [← hvp]
                                      clear hvp
                                      go_wp2
                                      refine wp_region_flow 23 (SC w7 gx (2 * n) (some ⟨gm, 0, none⟩) qs.length c1) (by kernel_rfl) (by kernel_rfl) hM7.sx.drew ?_
                                      (repeat (first | (refine Flow.skip (by rfl) ?_; simp only [Act.put, List.setIfInBounds_toArray, List.set_cons_zero, List.set_cons_succ]) | (refine' Flow.take _ (by rfl) (fun W hW R hR => ?_) ?_; rotate_left; (go_simp; (try go_bits); with_reducible exact hR); simp only [Act.put, List.setIfInBounds_toArray, List.set_cons_zero, List.set_cons_succ])))
                                      (refine Flow.call 70 #[.int .i64 vp] (.int .i64 (half vp)) (by rfl) (fun X hX => by go_simp) (fun X hX => (rhalf_any _ _).mono fun e' w' ⟨he, hw⟩ => ⟨he, hw ▸ hX⟩) ?_; simp only [Act.put, List.setIfInBounds_toArray, List.set_cons_zero, List.set_cons_succ])
                                      (repeat (first | (refine Flow.skip (by rfl) ?_; simp only [Act.put, List.setIfInBounds_toArray, List.set_cons_zero, List.set_cons_succ]) | (refine' Flow.take _ (by rfl) (fun W hW R hR => ?_) ?_; rotate_left; (go_simp; (try go_bits); with_reducible exact hR); simp only [Act.put, List.setIfInBounds_toArray, List.set_cons_zero, List.set_cons_succ])))
                                      intro w8 h8
                                      have hM8 := hM7.go h8
                                      have c8 := hM8.c_ a4
                                      have f8 := hM8.f_ (i * N + j)
                                      have hM9 := hM8.set (i * N + j) (if half vp < vx then half vp else vx)
                                      have hb9 : AllB (qs.set (i * N + j) (if half vp < vx then half vp else vx)) := hb.set' (by rw [minf, Hvx.out]; exact isBound_min (hb _) (isBound_half _))
                                      have hbr9 : Below B u2 (w8.setCell ⟨gm, i * N + j, none⟩ (.int .i64 (if half vp < vx then half vp else vx))) := (hbr7.trans (h8.bel hM.base (by have := hbr7.size; omega))).setCell (by simpa using hgB) _
                                      have hqs9 : Hid (qs.set (i * N + j) (if half vp < vx then half vp else vx) = sRow N i (j + 1) ps) := hid (by
                                        rw [minf, Hvp.out, Hvx.out, Hvy.out, Hvz.out]
                                        have := hqs.out
                                        show _ = sStep N i j (rep (fun j => sStep N i j) j ps)
                                        unfold sStep
                                        rw [if_neg HIJ.out]
                                        rw [this]; rfl)
                                      clear fm fc
                                      go_wp2
                                      go_roundw
                                      case rel => exact ⟨j + 1, _, by omega, by go_num, hqs9, hid (by rw [List.length_set]; exact hlqs.out), hM9, hb9, hbr9⟩
                                      case measure => simp [Go.RowKit.intOf]; omega
                                · have t3 : ¬ (j : Int) < 2 * n := by have := HN.out; omega
                                  have hje : N = j := by omega
                                  subst hje
                                  go_wp2
                                  go_roundw
                                  case rel => exact ⟨i + 1, qs, by omega, by go_num, hid (by rw [hqs.out, hps.out]; rfl), hlqs, hM, hb, hbr⟩
                                  case measure => simp [Go.RowKit.intOf]; omega
                            · have t2 : ¬ (i : Int) < 2 * n := by have := HN.out; omega
                              as_aux_lemma =>
                                have hie : N = i := by omega
                                subst hie
                                have HNO : R = ⟨n, false, ps⟩ := by
                                  rw [HCL.out]
                                  unfold closeM
                                  rw [← hys.out, ← hzs.out, if_neg (by rw [hng.out]; simp), ← hus.out, if_neg (by rw [← hsb.out]; simp), ← hps.out]
                                subst HNO
                                obtain ⟨x0, x1, x2, fx⟩ := octbox (p0.below hbr hq0)
                                obtain ⟨sv, hk5⟩ := hM.2.2.1
                                have hgx1 := hM.base
                                have fs := SB.laters (g := w.heap.size + 1) (v0 := .int .i64 n) (v1 := .bool false) (v2 := .slice A1 ps.length c1) (hk5.cell 2) (by omega)
                                have fm := SB.laters (g := w.heap.size + 1) (v0 := .int .i64 n) (v1 := .bool false) (v2 := .slice A1 ps.length c1) (hk5.cell 1) (by omega)
                                have f0 := SB.laters (g := w.heap.size + 1) (v0 := .int .i64 n) (v1 := .bool false) (v2 := .slice A1 ps.length c1) x0 (by omega)
                                have r4 := p1.below hbr hq1
                                have hbw4 : Below w.heap.size w wr := hbw.trans (hbr.mono hBw)
                                obtain ⟨b0, b1, b2, b3⟩ := SB.boxes (v0 := .int .i64 n) (v1 := .bool false) (v2 := .slice A1 ps.length c1) r4
                                clear x0 x1 x2 fx hk5
                                go_wp2
                                refine wp_region_flowM 12 11 (SB wr (w.heap.size + 1) (.int .i64 n) (.bool false) (.slice A1 ps.length c1)) (by kernel_rfl) (by kernel_rfl) (by decide) (Below.refl _ _).drew ?_
                                (repeat (first | (refine FlowM.skip (by rfl) (by rfl) ?_; simp only [Act.put, List.setIfInBounds_toArray, List.set_cons_zero, List.set_cons_succ]) | (refine' FlowM.take _ (by rfl) (by rfl) (fun W hW R hR => ?_) ?_; rotate_left; (go_simp; (try go_bits); with_reducible exact hR); simp only [Act.put, List.setIfInBounds_toArray, List.set_cons_zero, List.set_cons_succ])))
                                (refine FlowM.mark (by rfl) (by rfl) (by rfl) (fun W hW R hR => ?_) ?_; (go_simp; (exact hR _ ⟨W, hW, rfl⟩)))
                                intro w6 h6
                                obtain ⟨W0, hb6, rfl⟩ := h6
                                clear fs f0 fm b0 b1 b2 b3
                                obtain ⟨z0, z1, z2, fz⟩ := octbox ((r4.later hb6).set3 (v0 := .int .i64 n) (v1 := .bool false) (v2 := .slice A1 ps.length c1))
                                have hbw6 := bup hbw4 hb6
                                have own6 := (hM.up hb6).2.2.2
                                go_wp2
                                refine bodyPost_ret (v := .tuple #[.agg #[.int .i64 n, .bool false, .slice A1 ps.length c1], .bool sv]) (by simp [results, Tryz.results40, go_sem, z0, z1, z2]) rfl ?_
                                exact ⟨A1, c1, sv, rfl, (((own6.setFar (by simpa using hq1) _).setFar (by simpa using hq1) _).setFar (by simpa using hq1) _).less hBw, hbw6.trans (below3 (by omega) hbw6.size)⟩
end Go.Proofs.YtkncebcekhfnfaaGreat
