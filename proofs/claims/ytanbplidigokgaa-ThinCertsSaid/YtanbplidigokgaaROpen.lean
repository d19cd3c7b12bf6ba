/-
  gnomonref28.open, gnomonref12.First: what they answer.
-/
import Derived.Test.YtanbplidigokgaaThinLaw
namespace Go.Proofs.Ytanbplidigokgaa
open Go.RowKit
attribute [local go_sem ↓] Go.wp_at_zero Go.wp_at_succ

set_option maxRecDepth 8000 in
set_option maxHeartbeats 4000000 in
theorem ropen_any (n : Int) (e : Bool) (m : List Int) (N i j : Nat) (A : Option Addr) (c : Nat) (w : World) (hx : Rd w w.heap.size A m) (hm : m.length ≤ 17592186044416) (hN : (N : Int) = 2 * n) (hn : N ≤ 128) (hl : m.length = N * N) (hi : i < N) (hj : j < N) :
    Calls Try.prog 61 #[.agg #[.int .i64 n, .bool e, .slice A m.length c], .int .i64 (i : Int), .int .i64 (j : Int)] w (OctOwn w ⟨n, e, openM N i j m⟩) := by
  have hb0 : Below w.heap.size w ((w.alloc (Obj.cells #[.int .i64 n, .bool e, .slice A m.length c] 24)).alloc (Obj.cells #[.int .i64 0, .bool false, .slice none 0 0] 24)) := ((Below.refl _ _).alloc (Nat.le_refl _) _).alloc (by simp) _
  obtain ⟨p0, p1⟩ := blk_two (w := w) (Below.refl _ ((w.alloc (Obj.cells #[.int .i64 n, .bool e, .slice A m.length c] 24)).alloc (Obj.cells #[.int .i64 0, .bool false, .slice none 0 0] 24)))
  have hx0 := hx.up hb0
  have hni := nx_lt hN hi
  have hnj := nx_lt hN hj
  have HIA := hid (idxr_ok hN hi hj hn)
  have HID := hid (idxr_ok hN hnj hni hn)
  rw [← hl] at HIA HID
  have hn0 : 0 ≤ 2 * n := by omega
  have hn1 : 2 * n ≤ 128 := by omega
  have HN := hid hN
  have HL := hid hl
  have q1lt := p1.lt
  have hcp := hid (rcopy_any n e m A c _ hx0 hm)
  clear hN hl hx
  go_enter Try.func61, Try.ntmps61
  go_wp2_with fail
  refine hcp.out.mono ?_
  clear hcp
  generalize (w.alloc (Obj.cells #[.int .i64 n, .bool e, .slice A m.length c] 24)).alloc (Obj.cells #[.int .i64 0, .bool false, .slice none 0 0] 24) = w0 at *
  rintro e1 w1 ⟨A1, c1, rfl, own1, hb1⟩
  have n4 := new1 w1 (.cells #[.int .i64 n, .bool e, .slice A1 m.length c1] 24)
  have k7 := Blk.new w1 24 #[.int .i64 n, .bool e, .slice A1 m.length c1]
  have hg7 : w0.heap.size ≤ w1.heap.size := hb1.size
  have hlt1 : w.heap.size + 1 < w1.heap.size := by omega
  replace own1 := own1.below n4
  replace p0 := (p0.later hb1).later n4
  replace p1 := (p1.later hb1).later n4
  have hle := hb0.size
  replace hb1 := bup (bup hb0 hb1) n4
  clear n4
  obtain ⟨x0, x1, x2, fx⟩ := octbox p0
  go_upto_region 3 with fail
  clear x0 x1 x2 fx
  generalize w1.alloc (.cells #[.int .i64 n, .bool e, .slice A1 m.length c1] 24) = W1 at *
  generalize w1.heap.size = g7 at *
  obtain ⟨a1, a2, a3, a4, a5, a6⟩ := HIA.out
  obtain ⟨d1, d2, d3, d4, d5, d6⟩ := HID.out
  have hne := own_blk' own1 k7 (by decide)
  obtain ⟨g1, o1, rfl, _, c4⟩ := own1.rd (i * N + j) a4
  have hg0 : o1 = 0 := by
    rcases own1.form with ⟨h, _⟩ | ⟨g, h, _⟩
    · cases h
    · injection h with h; injection h
  subst hg0
  have hg1 : w0.heap.size ≤ g1 := by
    rcases own1.form with ⟨h, _⟩ | ⟨g, h, h', _⟩
    · cases h
    · injection h with h; injection h with h; omega
  have hn7 : g1 ≠ g7 := hne g1 rfl
  have f4 := own1.frozen (i * N + j)
  rw [Nat.zero_add] at c4
  obtain ⟨y0, y1, y2, fy⟩ := octbox k7
  have HV : Hid (openM N i j m = (m.set (i * N + j) 9223372036854775807).set (nx j * N + nx i) 9223372036854775807) := hid rfl
  go_upto_region 4 with fail
  clear y0 y1 y2 fy c4 f4
  replace hb1 := hb1.trans (below1 (W := W1) (g := g1) (i := i * N + j) (v := .int .i64 9223372036854775807) (by omega) hb1.size)
  replace p1 := p1.far (p := ⟨g1, i * N + j, none⟩) (by simp; omega) (.int .i64 9223372036854775807)
  replace k7 := k7.far (p := ⟨g1, i * N + j, none⟩) hn7 (.int .i64 9223372036854775807)
  replace own1 := own1.store (i * N + j) 9223372036854775807
  clear p0
  generalize W1.setCell ⟨g1, i * N + j, none⟩ (.int .i64 9223372036854775807) = W2 at *
  have f2 := later (k7.cell 2)
  refine wp_region_flow 9 (fun X => Below W2.heap.size W2 X) (by kernel_rfl) (by kernel_rfl) (Below.refl _ _).drew ?_
  (repeat (first | (refine Flow.skip (by rfl) ?_; simp only [Act.put, List.setIfInBounds_toArray, List.set_cons_zero, List.set_cons_succ]) | (refine' Flow.take _ (by rfl) (fun W hW R hR => ?_) ?_; rotate_left; (go_simp; (try go_bits); with_reducible exact hR); simp only [Act.put, List.setIfInBounds_toArray, List.set_cons_zero, List.set_cons_succ])))
  (refine Flow.call 45 #[.int .i64 (j : Int)] (.int .i64 ((nx j : Nat) : Int)) (by rfl) (fun X hX => by go_simp) (fun X hX => (across_nx j _ (by omega)).mono fun e' w' ⟨he, hw⟩ => ⟨he, hw ▸ hX⟩) ?_; simp only [Act.put, List.setIfInBounds_toArray, List.set_cons_zero, List.set_cons_succ])
  (repeat (first | (refine Flow.skip (by rfl) ?_; simp only [Act.put, List.setIfInBounds_toArray, List.set_cons_zero, List.set_cons_succ]) | (refine' Flow.take _ (by rfl) (fun W hW R hR => ?_) ?_; rotate_left; (go_simp; (try go_bits); with_reducible exact hR); simp only [Act.put, List.setIfInBounds_toArray, List.set_cons_zero, List.set_cons_succ])))
  (refine Flow.call 45 #[.int .i64 (i : Int)] (.int .i64 ((nx i : Nat) : Int)) (by rfl) (fun X hX => by go_simp) (fun X hX => (across_nx i _ (by omega)).mono fun e' w' ⟨he, hw⟩ => ⟨he, hw ▸ hX⟩) ?_; simp only [Act.put, List.setIfInBounds_toArray, List.set_cons_zero, List.set_cons_succ])
  (repeat (first | (refine Flow.skip (by rfl) ?_; simp only [Act.put, List.setIfInBounds_toArray, List.set_cons_zero, List.set_cons_succ]) | (refine' Flow.take _ (by rfl) (fun W hW R hR => ?_) ?_; rotate_left; (go_simp; (try go_bits); with_reducible exact hR); simp only [Act.put, List.setIfInBounds_toArray, List.set_cons_zero, List.set_cons_succ])))
  intro W4 hW4
  clear f2
  replace hb1 := bup hb1 hW4
  replace p1 := p1.later hW4
  replace k7 := k7.later hW4
  replace own1 := own1.below hW4
  obtain ⟨g2, o2, e2, _, c4⟩ := own1.rd (nx j * N + nx i) (by rw [List.length_set]; exact d4)
  obtain ⟨rfl, rfl⟩ : g1 = g2 ∧ 0 = o2 := by simpa using e2
  clear e2
  have f4 := own1.frozen (nx j * N + nx i)
  rw [Nat.zero_add] at c4
  go_upto_region 5 with fail
  clear c4 f4
  replace hb1 := hb1.trans (below1 (W := W4) (g := g1) (i := nx j * N + nx i) (v := .int .i64 9223372036854775807) (by omega) hb1.size)
  replace p1 := p1.far (p := ⟨g1, nx j * N + nx i, none⟩) (by simp; omega) (.int .i64 9223372036854775807)
  replace k7 := k7.far (p := ⟨g1, nx j * N + nx i, none⟩) hn7 (.int .i64 9223372036854775807)
  replace own1 := own1.store (nx j * N + nx i) 9223372036854775807
  rw [← HV.out] at own1
  generalize W4.setCell ⟨g1, nx j * N + nx i, none⟩ (.int .i64 9223372036854775807) = W3 at *
  obtain ⟨x0, x1, x2, fx⟩ := octbox p1
  obtain ⟨y0, y1, y2, fy⟩ := octbox k7
  have hln := openM_len N i j m
  have HLN := hid hln
  clear hln
  go_wp2
  have q3 := p1.set3 (v0 := .int .i64 n) (v1 := .bool e) (v2 := .slice (some ⟨g1, 0, none⟩) m.length c1)
  obtain ⟨z0, z1, z2, fz⟩ := octbox q3
  refine bodyPost_ret (v := .agg #[.int .i64 n, .bool e, .slice (some ⟨g1, 0, none⟩) m.length c1]) (by simp [results, Try.results61, go_sem, z0, z1, z2]) rfl ⟨some ⟨g1, 0, none⟩, c1, by rw [HLN.out], ?_, ?_⟩
  · exact (((own1.setFar (by simp; omega) _).setFar (by simp; omega) _).setFar (by simp; omega) _).less (by omega)
  · exact hb1.trans (below3 (by omega) hb1.size)

set_option maxHeartbeats 1000000 in
theorem first_any (i j : Nat) (w : World) (b : Bool) (hi : i ≤ 1000) (hj : j ≤ 1000) (h : firstB i j = b) :
    Calls Try.prog 84 #[.int .i64 (i : Int), .int .i64 (j : Int)] w fun e w' => e = .returned (.bool b) ∧ w = w' := by
  have hb : b = decide (i < nx j ∨ (i = nx j ∧ j ≤ nx i)) := by rw [← h]; rfl
  have HB := hid hb
  clear hb h
  cases h1 : decide ((i : Int) < ((nx j : Nat) : Int)) <;> cases h2 : ((i : Int) == ((nx j : Nat) : Int)) <;> cases h3 : decide ((j : Int) ≤ ((nx i : Nat) : Int))
  all_goals
    have H1 := hid h1
    have H2 := hid h2
    have H3 := hid h3
    have g1 : decide (i < nx j) = decide ((i : Int) < ((nx j : Nat) : Int)) := by rw [decide_eq_decide]; omega
    have g3 : decide (j ≤ nx i) = decide ((j : Int) ≤ ((nx i : Nat) : Int)) := by rw [decide_eq_decide]; omega
    rw [h1] at g1
    rw [h3] at g3
    clear h1 h3
    go_enter Try.func84, Try.ntmps84
    go_wp2_with fail
    refine (across_nx j _ hj).mono ?_
    rintro e1 w1 ⟨rfl, rfl⟩
    go_wp2_with fail
    refine (across_nx i _ hi).mono ?_
    rintro e1 w1 ⟨rfl, rfl⟩
    go_wp2
    go_ret
    refine ⟨retb ?_, rfl⟩
    rw [HB.out]
    have q1 := H1.out
    have q2 := H2.out
    have q3 := H3.out
    simp at q1 q2 q3
    simp
    omega
end Go.Proofs.Ytanbplidigokgaa
