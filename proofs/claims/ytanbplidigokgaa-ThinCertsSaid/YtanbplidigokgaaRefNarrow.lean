/-
  gnomonref22.Widen, gnomonref22.Narrow: what each call answers, of octagons that may be.
-/
import Derived.Test.YtanbplidigokgaaRefStep
namespace Go.Proofs.Ytanbplidigokgaa
open Go.RowKit
attribute [local go_sem ↓] Go.wp_at_zero Go.wp_at_succ

/-- The first p cells are those put together, the others the old ones. -/
def part (ys xs : List Int) (p : Nat) : List Int := ys.take p ++ xs.drop p
theorem part_len {ys xs : List Int} (h : ys.length = xs.length) (p : Nat) : (part ys xs p).length = xs.length := by unfold part; simp; omega
theorem part_zero (ys xs : List Int) : part ys xs 0 = xs := by simp [part]
theorem part_all {ys xs : List Int} (h : ys.length = xs.length) : part ys xs xs.length = ys := by unfold part; rw [← h]; simp; omega
theorem part_get {ys xs : List Int} (h : ys.length = xs.length) {p : Nat} (hp : p < xs.length) : gI (part ys xs p) p = gI xs p := by
  unfold gI part
  have : min p ys.length = p := by omega
  simp [List.getElem?_append_right, this]
theorem part_set {ys xs : List Int} (h : ys.length = xs.length) {p : Nat} (hp : p < xs.length) : (part ys xs p).set p (gI ys p) = part ys xs (p + 1) := by
  unfold part
  rw [List.set_append_right _ _ (by simp; omega)]
  have : p - (ys.take p).length = 0 := by simp; omega
  rw [this, List.drop_eq_getElem_cons hp, List.set_cons_zero, List.take_succ_eq_append_getElem (by omega), List.append_assoc]
  congr 2
  unfold gI; simp [h, hp]
theorem part_same {ys xs : List Int} (h : ys.length = xs.length) {p : Nat} (hp : p < xs.length) (he : gI ys p = gI xs p) : part ys xs p = part ys xs (p + 1) := by
  rw [← part_set h hp, he, ← part_get h hp]
  apply List.ext_getElem?
  intro i
  by_cases hi : p = i
  · subst hi
    have hq : p < (part ys xs p).length := by rw [part_len h]; exact hp
    rw [List.getElem?_set_self hq, List.getElem?_eq_getElem hq]; unfold gI; simp [List.getElem?_eq_getElem hq]
  · rw [List.getElem?_set_ne hi]
theorem cellsF_get (F : Int → Int → Bool → Int) (n : Int) (xs ys : List Int) {p : Nat} (h : p < xs.length) : gI (cellsF F n xs ys) p = F (gI xs p) (gI ys p) (single n p) := by
  have : gI (cellsF F n xs ys) (p : Int) = (cellsF F n xs ys).getD p 0 := rfl
  rw [this]; unfold cellsF; simp [h]

def OctRes (w : World) (o : O) (e : Ending) (w' : World) : Prop := ∃ A1 c1, e = .returned (.agg #[.int .i64 o.n, .bool o.e, .slice A1 o.m.length c1]) ∧ Rd w' w'.heap.size A1 o.m ∧ Below w.heap.size w w'
theorem octRes {w w' : World} {o : O} {e : Ending} (A1 : Option Addr) (c1 : Nat) (he : e = .returned (.agg #[.int .i64 o.n, .bool o.e, .slice A1 o.m.length c1])) (hr : Rd w' w'.heap.size A1 o.m) (hb : Below w.heap.size w w') : OctRes w o e w' := ⟨A1, c1, he, hr, hb⟩

theorem div_row {n k l : Int} (hn : 0 < n) (h0 : 0 ≤ l) (h1 : l < 2 * n) : (k * (2 * n) + l) / (2 * n) = k ∧ (k * (2 * n) + l) % (2 * n) = l := by
  constructor
  · rw [Int.add_comm, Int.add_mul_ediv_right _ _ (by omega), Int.ediv_eq_zero_of_lt h0 h1]; omega
  · rw [Int.add_comm, Int.add_mul_emod_self_right, Int.emod_eq_of_lt h0 h1]
theorem single_row {n k l : Int} (hn : 0 < n) (_hk : 0 ≤ k) (h0 : 0 ≤ l) (h1 : l < 2 * n) : single n (k * (2 * n) + l) = (l == xor1 k) := by
  unfold single
  rw [(div_row hn h0 h1).1, (div_row hn h0 h1).2, Bool.eq_iff_iff, beq_iff_eq, beq_iff_eq]
  unfold xor1; split <;> split <;> omega

set_option maxHeartbeats 2000000 in
theorem rnarrow_any (a b : O) (A A' : Option Addr) (c c' : Nat) (w : World) (hx : Rd w w.heap.size A a.m) (hy : Rd w w.heap.size A' b.m) (hm : a.m.length ≤ 17592186044416) (hm' : b.m.length ≤ 17592186044416) (hp : pairErr a b = 0) :
    Calls Try.prog 18 #[.agg #[.int .i64 a.n, .bool a.e, .slice A a.m.length c], .agg #[.int .i64 b.n, .bool b.e, .slice A' b.m.length c']] w (OctRes w (narrowO a b).1) := by
  obtain ⟨n, e, m⟩ := a
  obtain ⟨n', e', m'⟩ := b
  dsimp only at *
  have hw : narrowO ⟨n, e, m⟩ ⟨n', e', m'⟩ = if e then (⟨n, e, m⟩, 0) else if e' then (⟨n', e', m'⟩, 0) else (⟨n, false, cellsF (fun x y _ => if x = 9223372036854775807 then y else x) n m m'⟩, 0) := by
    unfold narrowO; rw [if_neg (by simpa using hp)]
  obtain ⟨q1, q2, q3⟩ := pair_ok hp
  obtain ⟨k1, k2, k3, k4⟩ := check_ok q1
  obtain ⟨l1, l2, l3, l4⟩ := check_ok q2
  dsimp only at *
  clear hp q1 q2
  rw [hw]
  clear hw
  have hb0 : Below w.heap.size w (((w.alloc (Obj.cells #[.int .i64 n, .bool e, .slice A m.length c] 24)).alloc (Obj.cells #[.int .i64 n', .bool e', .slice A' m'.length c'] 24)).alloc (Obj.cells #[.int .i64 0, .bool false, .slice none 0 0] 24)) := (((Below.refl _ _).alloc (Nat.le_refl _) _).alloc (by simp) _).alloc (by simp; try omega) _
  obtain ⟨b0, b1, b2⟩ := blk_three (w := w) (Below.refl _ (((w.alloc (Obj.cells #[.int .i64 n, .bool e, .slice A m.length c] 24)).alloc (Obj.cells #[.int .i64 n', .bool e', .slice A' m'.length c'] 24)).alloc (Obj.cells #[.int .i64 0, .bool false, .slice none 0 0] 24)))
  have hsz : (((w.alloc (Obj.cells #[.int .i64 n, .bool e, .slice A m.length c] 24)).alloc (Obj.cells #[.int .i64 n', .bool e', .slice A' m'.length c'] 24)).alloc (Obj.cells #[.int .i64 0, .bool false, .slice none 0 0] 24)).heap.size = w.heap.size + 1 + 1 + 1 := by simp
  have hx0 := (hx.below hb0).more (B' := (((w.alloc (Obj.cells #[.int .i64 n, .bool e, .slice A m.length c] 24)).alloc (Obj.cells #[.int .i64 n', .bool e', .slice A' m'.length c'] 24)).alloc (Obj.cells #[.int .i64 0, .bool false, .slice none 0 0] 24)).heap.size) (by omega)
  have hy0 := (hy.below hb0).more (B' := (((w.alloc (Obj.cells #[.int .i64 n, .bool e, .slice A m.length c] 24)).alloc (Obj.cells #[.int .i64 n', .bool e', .slice A' m'.length c'] 24)).alloc (Obj.cells #[.int .i64 0, .bool false, .slice none 0 0] 24)).heap.size) (by omega)
  cases e
  · cases e'
    · simp only [Bool.false_eq_true, if_false]
      have K4 := hid (k4 rfl); have L4 := hid (l4 rfl)
      have LL : Hid (m'.length = m.length) := by have := k4 rfl; have := l4 rfl; subst q3; exact (by omega : m'.length = m.length)
      clear k3 k4 l3 l4 l1 l2 q3
      go_enter Try.func18, Try.ntmps18
      go_wp2_with fail
      generalize (((w.alloc (Obj.cells #[.int .i64 n, .bool false, .slice A m.length c] 24)).alloc (Obj.cells #[.int .i64 n', .bool false, .slice A' m'.length c'] 24)).alloc (Obj.cells #[.int .i64 0, .bool false, .slice none 0 0] 24)) = w0 at *
      obtain ⟨x0, x1, x2, fx⟩ := octbox b0
      refine (rcopy_any n false m A c _ hx0 hm).mono ?_
      rintro e8 w2 ⟨A1, c1, rfl, hown, hb2⟩
      have hz2 := hb2.size
      have hgO := Blk.new w2 24 #[.int .i64 n, .bool false, .slice A1 m.length c1]
      have hown3 : Own (w2.alloc (.cells #[.int .i64 n, .bool false, .slice A1 m.length c1] 24)) w0.heap.size A1 c1 m := hown.below ((Below.refl _ _).alloc (Nat.le_refl _) _)
      have hb3 : Below w0.heap.size w0 (w2.alloc (.cells #[.int .i64 n, .bool false, .slice A1 m.length c1] 24)) := hb2.alloc hz2 _
      have hlt2 : w0.heap.size ≤ w2.heap.size := hz2
      go_wp2
      clear x0 x1 x2 fx
      have hA1 : ∀ g, A1 = some ⟨g, 0, none⟩ → g < w2.heap.size := fun g hg => by
        rcases hown.form with ⟨h, _⟩ | ⟨g', h, _, h'⟩
        · rw [h] at hg; cases hg
        · rw [h] at hg; injection hg with hg; injection hg with hg; omega
      generalize hG7 : w2.heap.size = g7 at *
      generalize w2.alloc (.cells #[.int .i64 n, .bool false, .slice A1 m.length c1] 24) = w4 at *
      have hcl := cellsF_len (fun x y _ => if x = 9223372036854775807 then y else x) n m m'
      have hcg : ∀ p, p < m.length → gI (cellsF (fun x y _ => if x = 9223372036854775807 then y else x) n m m') p = if gI m p = 9223372036854775807 then gI m' p else gI m p := fun p h => cellsF_get (fun x y _ => if x = 9223372036854775807 then y else x) n m m' h
      generalize hZ : cellsF (fun x y _ => if x = 9223372036854775807 then y else x) n m m' = zs at *
      have HZ := hid hZ; have HCL := hid hcl; have HCG := hid hcg; clear hcl hcg hZ hG7
      go_loopw [6] (fun i wr => ∃ k : Nat, k ≤ m.length ∧ i = .int .i64 k ∧ Blk wr g7 24 #[.int .i64 n, .bool false, .slice A1 m.length c1] ∧ Own wr w0.heap.size A1 c1 (part zs m k) ∧ Below w0.heap.size w0 wr) (fun i _ => m.length - (intOf i).toNat)
      case atStart => exact ⟨0, by omega, rfl, hgO, by rw [part_zero]; exact hown3, hb3⟩
      case round =>
        obtain ⟨k, hk, rfl, hblk, hownr, hbr⟩ := hrel
        obtain ⟨z0, z1, z2, fz⟩ := octbox hblk
        by_cases hlt : k < m.length
        · obtain ⟨g1, o1, hA, _, hc⟩ := hownr.rd k (by rw [part_len HCL.out]; exact hlt)
          rcases hown.form with ⟨h, _⟩ | ⟨gS, rfl, hgS, _⟩
          · rw [h] at hA; cases hA
          obtain ⟨rfl, rfl⟩ : gS = g1 ∧ 0 = o1 := by simpa using hA
          clear hA
          have hgS7 := hA1 gS rfl
          rw [part_get HCL.out hlt, Nat.zero_add] at hc
          obtain ⟨bb, ob, rfl, hBb, hcb⟩ := (hy0.below hbr) k (by have := LL.out; omega)
          obtain ⟨y0, y1, y2, fy⟩ := octbox (b1.later hbr)
          have hi0 : (0 : Int) ≤ (k : Int) := by omega
          have hi1 : (k : Int) < (m.length : Int) := by omega
          have hi2 : (k : Int) < (m'.length : Int) := by have := LL.out; omega
          have hcf := hownr.frozen k
          by_cases hv : gI m k = 9223372036854775807
          · have tv := eqb_t hv
            have HV := hid hv; clear hv
            have fy2 := later y2
            have fz2 := later z2
            have fcb := later hcb
            clear y0 y1 y2 fy
            go_wp2
            refine wp_region_flow 9 (fun W => Below wr.heap.size wr W) (by kernel_rfl) (by kernel_rfl) (Below.refl _ _).drew ?_
            (repeat (first | (refine Flow.skip (by rfl) ?_; simp only [Act.put, List.setIfInBounds_toArray, List.set_cons_zero, List.set_cons_succ]) | (refine' Flow.take _ (by rfl) (fun W hW R hR => ?_) ?_; rotate_left; (go_simp; (try go_bits); with_reducible exact hR); simp only [Act.put, List.setIfInBounds_toArray, List.set_cons_zero, List.set_cons_succ])))
            intro w5 hb5
            have c5 := later hc w5 hb5
            have o5 := hownr.below hb5
            have f5 := o5.frozen k
            have st := o5.store k (gI m' k)
            rw [show gI m' k = gI zs k by rw [HCG.out k hlt, if_pos HV.out], part_set HCL.out hlt] at st
            have hfar := (hblk.later hb5).far (p := ⟨gS, k, none⟩) (by simp; omega) (.int .i64 (gI m' k))
            have hsr := hbr.size
            have hbn : Below w0.heap.size w0 (w5.setCell ⟨gS, k, none⟩ (.int .i64 (gI m' k))) := (bstep hbr hsr hb5).setCell (by simpa using hgS) _
            have st' : Own (w5.setCell ⟨gS, k, none⟩ (.int .i64 (gI m' k))) w0.heap.size (some ⟨gS, 0, none⟩) c1 (part zs m (k + 1)) := by rw [show gI m' k = gI zs k by rw [HCG.out k hlt, if_pos HV.out]]; exact st
            clear st o5 fy2 fz2 fcb hc hcb z0 z1 z2 fz
            go_wp2
            go_roundw
            case rel => exact ⟨k + 1, by omega, by go_num, hfar, st', hbn⟩
            case measure => simp [intOf]; omega
          · have tv := eqb_f hv
            have HV := hid hv; clear hv
            have st : Own wr w0.heap.size (some ⟨gS, 0, none⟩) c1 (part zs m (k + 1)) := by rw [← part_same HCL.out hlt (by rw [HCG.out k hlt, if_neg HV.out])]; exact hownr
            go_wp2
            go_roundw
            case rel => exact ⟨k + 1, by omega, by go_num, hblk, st, hbr⟩
            case measure => simp [intOf]; omega
        · have hkk : k = m.length := by omega
          have hki : ¬ (k : Int) < (m.length : Int) := by omega
          have ho : Own wr w0.heap.size A1 c1 zs := by
            have q : part zs m k = zs := by rw [hkk]; exact part_all HCL.out
            rw [← q]; exact hownr
          clear hkk
          obtain ⟨r0, r1, r2, fr⟩ := octbox (b2.later hbr)
          have hle := HCL.out
          have HLE := hid hle; clear hle
          go_wp2
          refine bodyPost_ret (v := .agg #[.int .i64 n, .bool false, .slice A1 m.length c1]) (by simp [results, Try.results18, go_sem, r0, r1, r2]) rfl (octRes A1 c1 (by dsimp only; rw [HZ.out, HLE.out]) ?_ ?_)
          · dsimp only; rw [HZ.out]; exact (((ho.setFar (by simp; try omega) _).setFar (by simp; try omega) _).setFar (by simp; try omega) _).rd
          · exact (((hb0.trans (hbr.mono (by omega))).setCell (by simp; try omega) _).setCell (by simp; try omega) _).setCell (by simp; try omega) _
    · have hm0 := l3 rfl
      subst hm0
      simp only [Bool.false_eq_true, if_false, if_true]
      clear k3 k4 l3 l4 l1 l2
      have Q3 := hid q3; clear q3
      go_enter Try.func18, Try.ntmps18
      go_wp2_with (go_at_call 46; refine (rempty_any _ _).mono ?_; rintro e8 w2 ⟨rfl, hb2⟩; obtain ⟨r0, r1, r2, fr⟩ := octbox (b2.later hb2))
      refine bodyPost_ret (v := .agg #[.int .i64 n, .bool true, .slice none 0 0]) (by simp [results, Try.results18, go_sem, r0, r1, r2]) rfl (octRes none 0 (by rw [Q3.out]; rfl) (fun k hk => by simp at hk) ?_)
      exact (((hb0.trans (hb2.mono (by simp; try omega))).setCell (by simp; try omega) _).setCell (by simp; try omega) _).setCell (by simp; try omega) _
  · have hm0 := k3 rfl
    subst hm0
    simp only [if_true]
    clear k3 k4 l3 l4 l1 l2 q3
    go_enter Try.func18, Try.ntmps18
    go_wp2_with (go_at_call 46; refine (rempty_any _ _).mono ?_; rintro e8 w2 ⟨rfl, hb2⟩; obtain ⟨r0, r1, r2, fr⟩ := octbox (b2.later hb2))
    refine bodyPost_ret (v := .agg #[.int .i64 n, .bool true, .slice none 0 0]) (by simp [results, Try.results18, go_sem, r0, r1, r2]) rfl (octRes none 0 rfl (fun k hk => by simp at hk) ?_)
    exact (((hb0.trans (hb2.mono (by simp; try omega))).setCell (by simp; try omega) _).setCell (by simp; try omega) _).setCell (by simp; try omega) _
end Go.Proofs.Ytanbplidigokgaa
