/-
  gnomonref16.bound: a variable bounded by a range, in place.
-/
import Derived.Test.YtnmpgijiimglcaaGreatRBound
namespace Go.Proofs.YtnmpgijiimglcaaGreat
open Go.RowKit
attribute [local go_sem ↓] Go.wp_at_zero Go.wp_at_succ

set_option maxRecDepth 8000 in
set_option maxHeartbeats 2000000 in
theorem rranged_ff (n : Int) (o : O) (ok : OkO n o) (v base : Nat) (hv : (v : Int) < n) (lo hi : Int) (hlo : I64 lo) (A : Option Addr) (cap : Nat) (w : World) (own : Own w base A cap o.m) (hbase : base ≤ w.heap.size) :
    Calls Tryz.prog 76 #[.agg #[.int .i64 o.n, .bool o.e, .slice A o.m.length cap], .int .i64 (v : Int), .agg #[.int .i64 lo, .int .i64 hi, .bool false, .bool false]] w (RRes w base A cap (rangedO o v ⟨lo, hi, false, false⟩)) := by
  have hrng := ok.rng
  have HU : Hid (rangedO o v ⟨lo, hi, false, false⟩ = o) := hid rfl
  generalize rangedO o v ⟨lo, hi, false, false⟩ = U at *
  have fr := Fr.refl w A
  have own0 := own
  obtain ⟨p0, p1, p2, hbn, -⟩ := new_three w #[.int .i64 o.n, .bool o.e, .slice A o.m.length cap] #[.int .i64 lo, .int .i64 hi, .bool false, .bool false] #[.int .i64 0, .bool false, .slice none 0 0] 24 49 24
  replace own := own.below hbn
  replace fr := fr.below hbn
  go_enter Tryz.func76, Tryz.ntmps76
  obtain ⟨p0_0, p0_1, p0_2, p0_f⟩ := octbox p0
  obtain ⟨p1_0, p1_1, p1_2, p1_3, p1_f⟩ := rgbox p1
  go_wp2
  clear p0_0 p0_1 p0_2 p0_f p1_0 p1_1 p1_2 p1_3 p1_f
  rw [HU.out]
  refine bodyPost_ret (v := .agg #[.int .i64 o.n, .bool o.e, .slice A o.m.length cap]) (by simp [results, Tryz.results76, go_sem]) rfl ?_
  have hbX : ∀ W, Below w.heap.size w W → RRes w base A cap o (.returned (.agg #[.int .i64 o.n, .bool o.e, .slice A o.m.length cap])) W := fun W hW => ⟨A, cap, rfl, own0.below hW, .inl rfl, grown_of_below hW _, fun _ => ⟨rfl, rfl⟩⟩
  exact hbX _ (((Below.refl _ _).alloc (Nat.le_refl _) _).alloc (by simp) _ |>.alloc (by simp; try omega) _)

set_option maxRecDepth 8000 in
set_option maxHeartbeats 2000000 in
theorem rranged_ft (n : Int) (o : O) (ok : OkO n o) (v base : Nat) (hv : (v : Int) < n) (lo hi : Int) (hlo : I64 lo) (A : Option Addr) (cap : Nat) (w : World) (own : Own w base A cap o.m) (hbase : base ≤ w.heap.size) :
    Calls Tryz.prog 76 #[.agg #[.int .i64 o.n, .bool o.e, .slice A o.m.length cap], .int .i64 (v : Int), .agg #[.int .i64 lo, .int .i64 hi, .bool false, .bool true]] w (RRes w base A cap (rangedO o v ⟨lo, hi, false, true⟩)) := by
  have hrng := ok.rng
  have ok1 : OkO n (withO o (2 * v) (2 * v + 1) (twiceB hi)) := ok.with_ (by omega) (by omega) _
  have HU : Hid (rangedO o v ⟨lo, hi, false, true⟩ = withO o (2 * v) (2 * v + 1) (twiceB hi)) := hid rfl
  generalize rangedO o v ⟨lo, hi, false, true⟩ = U at *
  have fr := Fr.refl w A
  obtain ⟨p0, p1, p2, hbn, -⟩ := new_three w #[.int .i64 o.n, .bool o.e, .slice A o.m.length cap] #[.int .i64 lo, .int .i64 hi, .bool false, .bool true] #[.int .i64 0, .bool false, .slice none 0 0] 24 49 24
  replace own := own.below hbn
  replace fr := fr.below hbn
  go_enter Tryz.func76, Tryz.ntmps76
  obtain ⟨p0_0, p0_1, p0_2, p0_f⟩ := octbox p0
  obtain ⟨p1_0, p1_1, p1_2, p1_3, p1_f⟩ := rgbox p1
  go_wp2
  clear p0_0 p0_1 p0_2 p0_f p1_0 p1_1 p1_2 p1_3 p1_f
  generalize ((w.alloc (Obj.cells #[.int .i64 o.n, .bool o.e, .slice A o.m.length cap] 24)).alloc (Obj.cells #[.int .i64 lo, .int .i64 hi, .bool false, .bool true] 49)).alloc (Obj.cells #[.int .i64 0, .bool false, .slice none 0 0] 24) = w1 at *
  have f0 := later (show w1.cell? ⟨w.heap.size, 0, none⟩ = some (.int .i64 o.n) from p0.cell 0)
  have f1 := later (show w1.cell? ⟨w.heap.size, 1, none⟩ = some (.bool o.e) from p0.cell 1)
  have f2 := later (show w1.cell? ⟨w.heap.size, 2, none⟩ = some (.slice A o.m.length cap) from p0.cell 2)
  have j1 := later (show w1.cell? ⟨w.heap.size + 1, 1, none⟩ = some (.int .i64 hi) from p1.cell 1)
  refine wp_region_flow 9 (fun X => Below w1.heap.size w1 X) (by kernel_rfl) (by kernel_rfl) (Below.refl _ _).drew ?_
  (repeat (first | (refine Flow.skip (by rfl) ?_; simp only [Act.put, List.setIfInBounds_toArray, List.set_cons_zero, List.set_cons_succ]) | (refine' Flow.take _ (by rfl) (fun W hW R hR => ?_) ?_; rotate_left; (go_simp; (try go_bits); with_reducible exact hR); simp only [Act.put, List.setIfInBounds_toArray, List.set_cons_zero, List.set_cons_succ])))
  (refine Flow.call 153 #[.int .i64 hi] (.int .i64 (twiceB hi)) (by rfl) (fun X hX => by go_simp) (fun X hX => (rtwice_ok hi _).mono fun e' w' ⟨he, hw⟩ => ⟨he, hw ▸ hX⟩) ?_; simp only [Act.put, List.setIfInBounds_toArray, List.set_cons_zero, List.set_cons_succ])
  (repeat (first | (refine Flow.skip (by rfl) ?_; simp only [Act.put, List.setIfInBounds_toArray, List.set_cons_zero, List.set_cons_succ]) | (refine' Flow.take _ (by rfl) (fun W hW R hR => ?_) ?_; rotate_left; (go_simp; (try go_bits); with_reducible exact hR); simp only [Act.put, List.setIfInBounds_toArray, List.set_cons_zero, List.set_cons_succ])))
  intro w2 hbf
  clear f0 f1 f2 j1
  replace p0 := p0.later hbf
  replace p1 := p1.later hbf
  replace p2 := p2.later hbf
  replace own := own.below hbf
  replace fr := fr.below hbf
  clear hbf
  have hbs := Nat.le_trans hbase fr.size
  have HB := hid (rbound_o n o ok (2 * v) (2 * v + 1) base (by omega) (by omega) (by omega) (twiceB hi) A cap w2 own hbs)
  rw [show ((2 * v : Nat) : Int) = 2 * (v : Int) by omega, show ((2 * v + 1 : Nat) : Int) = 2 * (v : Int) + 1 by omega] at HB
  generalize withO o (2 * v) (2 * v + 1) (twiceB hi) = r1 at *
  go_wp2_with fail
  (with_reducible refine (HB.out).mono ?_)
  rintro e_w3 w3 ⟨A1, c1, rfl, own_w3, ha_w3, hg_w3, hp_A1⟩
  replace p0 := p0.kept hg_w3 (row_ne own p0 (by decide))
  replace p1 := p1.kept hg_w3 (row_ne own p1 (by decide))
  replace p2 := p2.kept hg_w3 (row_ne own p2 (by decide))
  replace fr := fr.call ha_w3 hg_w3
  clear own ha_w3 hg_w3
  have own := own_w3
  clear own_w3
  clear HB hbs
  obtain ⟨p0_0, p0_1, p0_2, p0_f⟩ := octbox p0
  obtain ⟨p1_0, p1_1, p1_2, p1_3, p1_f⟩ := rgbox p1
  obtain ⟨p2_0, p2_1, p2_2, p2_f⟩ := octbox p2
  go_wp2
  clear p0_0 p0_1 p0_2 p0_f p1_0 p1_1 p1_2 p1_3 p1_f p2_0 p2_1 p2_2 p2_f
  replace own := own.far3 (g := w.heap.size) (v0 := .int .i64 r1.n) (v1 := .bool r1.e) (v2 := .slice A1 r1.m.length c1) (own_blk' own p0 (by decide))
  replace p1 := p1.far3 (g := w.heap.size) (v0 := .int .i64 r1.n) (v1 := .bool r1.e) (v2 := .slice A1 r1.m.length c1) (by omega)
  replace p2 := p2.far3 (g := w.heap.size) (v0 := .int .i64 r1.n) (v1 := .bool r1.e) (v2 := .slice A1 r1.m.length c1) (by omega)
  replace p0 := p0.set3 (v0 := .int .i64 r1.n) (v1 := .bool r1.e) (v2 := .slice A1 r1.m.length c1)
  replace fr := fr.set3 (g := w.heap.size) (v0 := .int .i64 r1.n) (v1 := .bool r1.e) (v2 := .slice A1 r1.m.length c1) (by omega)
  generalize ((w3.setCell ⟨w.heap.size, 0, none⟩ (.int .i64 r1.n)).setCell ⟨w.heap.size, 1, none⟩ (.bool r1.e)).setCell ⟨w.heap.size, 2, none⟩ (.slice A1 r1.m.length c1) = w4 at *
  rw [HU.out]
  have q9 := p2.set3 (v0 := .int .i64 r1.n) (v1 := .bool r1.e) (v2 := .slice A1 r1.m.length c1)
  have fr9 := fr.set3 (g := w.heap.size + 1 + 1) (v0 := .int .i64 r1.n) (v1 := .bool r1.e) (v2 := .slice A1 r1.m.length c1) (by omega)
  have own9 := own.far3 (g := w.heap.size + 1 + 1) (v0 := .int .i64 r1.n) (v1 := .bool r1.e) (v2 := .slice A1 r1.m.length c1) (own_blk' own p2 (by decide))
  obtain ⟨z0, z1, z2, fz⟩ := octbox q9
  refine bodyPost_ret (v := .agg #[.int .i64 r1.n, .bool r1.e, .slice A1 r1.m.length c1]) (by simp [results, Tryz.results76, go_sem, z0, z1, z2]) rfl ?_
  exact ⟨_, _, rfl, own9, fr9.1, fr9.2, hp_A1⟩

set_option maxRecDepth 8000 in
set_option maxHeartbeats 2000000 in
theorem rranged_tf (n : Int) (o : O) (ok : OkO n o) (v base : Nat) (hv : (v : Int) < n) (lo hi : Int) (hlo : I64 lo) (hl : lo ≤ 2305843009213693952) (A : Option Addr) (cap : Nat) (w : World) (own : Own w base A cap o.m) (hbase : base ≤ w.heap.size) :
    Calls Tryz.prog 76 #[.agg #[.int .i64 o.n, .bool o.e, .slice A o.m.length cap], .int .i64 (v : Int), .agg #[.int .i64 lo, .int .i64 hi, .bool true, .bool false]] w (RRes w base A cap (rangedO o v ⟨lo, hi, true, false⟩)) := by
  have hrng := ok.rng
  have HU : Hid (rangedO o v ⟨lo, hi, true, false⟩ = withO (o) (2 * v + 1) (2 * v) (twiceB (negB lo))) := hid rfl
  have t9 : decide (lo ≤ 2305843009213693952) = true := by rw [decide_eq_true_eq]; omega
  generalize rangedO o v ⟨lo, hi, true, false⟩ = U at *
  have fr := Fr.refl w A
  obtain ⟨p0, p1, p2, hbn, -⟩ := new_three w #[.int .i64 o.n, .bool o.e, .slice A o.m.length cap] #[.int .i64 lo, .int .i64 hi, .bool true, .bool false] #[.int .i64 0, .bool false, .slice none 0 0] 24 49 24
  replace own := own.below hbn
  replace fr := fr.below hbn
  go_enter Tryz.func76, Tryz.ntmps76
  obtain ⟨p0_0, p0_1, p0_2, p0_f⟩ := octbox p0
  obtain ⟨p1_0, p1_1, p1_2, p1_3, p1_f⟩ := rgbox p1
  go_wp2_with fail
  clear p0_0 p0_1 p0_2 p0_f p1_0 p1_1 p1_2 p1_3 p1_f
  generalize ((w.alloc (Obj.cells #[.int .i64 o.n, .bool o.e, .slice A o.m.length cap] 24)).alloc (Obj.cells #[.int .i64 lo, .int .i64 hi, .bool true, .bool false] 49)).alloc (Obj.cells #[.int .i64 0, .bool false, .slice none 0 0] 24) = w1 at *
  (with_reducible refine (rminus_ok lo hlo w1).mono ?_)
  rintro e_w2 w2 ⟨rfl, rfl⟩
  go_wp2_with fail
  (with_reducible refine (rtwice_ok (negB lo) w1).mono ?_)
  rintro e_w3 w3 ⟨rfl, rfl⟩
  obtain ⟨p0_0, p0_1, p0_2, p0_f⟩ := octbox p0
  go_wp2_with fail
  clear p0_0 p0_1 p0_2 p0_f
  have hbs := Nat.le_trans hbase fr.size
  have HB := hid (rbound_o n o ok (2 * v + 1) (2 * v) base (by omega) (by omega) (by omega) (twiceB (negB lo)) A cap w1 own hbs)
  rw [show ((2 * v : Nat) : Int) = 2 * (v : Int) by omega, show ((2 * v + 1 : Nat) : Int) = 2 * (v : Int) + 1 by omega] at HB
  rw [← HU.out] at HB
  (with_reducible refine (HB.out).mono ?_)
  rintro e_w4 w4 ⟨A2, c2, rfl, own_w4, ha_w4, hg_w4, hp_A2⟩
  replace p0 := p0.kept hg_w4 (row_ne own p0 (by decide))
  replace p1 := p1.kept hg_w4 (row_ne own p1 (by decide))
  replace p2 := p2.kept hg_w4 (row_ne own p2 (by decide))
  replace fr := fr.call ha_w4 hg_w4
  clear own ha_w4 hg_w4
  have own := own_w4
  clear own_w4
  clear HB
  obtain ⟨p0_0, p0_1, p0_2, p0_f⟩ := octbox p0
  obtain ⟨p2_0, p2_1, p2_2, p2_f⟩ := octbox p2
  go_wp2
  clear p0_0 p0_1 p0_2 p0_f p2_0 p2_1 p2_2 p2_f
  replace own := own.far3 (g := w.heap.size) (v0 := .int .i64 U.n) (v1 := .bool U.e) (v2 := .slice A2 U.m.length c2) (own_blk' own p0 (by decide))
  replace p1 := p1.far3 (g := w.heap.size) (v0 := .int .i64 U.n) (v1 := .bool U.e) (v2 := .slice A2 U.m.length c2) (by omega)
  replace p2 := p2.far3 (g := w.heap.size) (v0 := .int .i64 U.n) (v1 := .bool U.e) (v2 := .slice A2 U.m.length c2) (by omega)
  replace p0 := p0.set3 (v0 := .int .i64 U.n) (v1 := .bool U.e) (v2 := .slice A2 U.m.length c2)
  replace fr := fr.set3 (g := w.heap.size) (v0 := .int .i64 U.n) (v1 := .bool U.e) (v2 := .slice A2 U.m.length c2) (by omega)
  generalize ((w4.setCell ⟨w.heap.size, 0, none⟩ (.int .i64 U.n)).setCell ⟨w.heap.size, 1, none⟩ (.bool U.e)).setCell ⟨w.heap.size, 2, none⟩ (.slice A2 U.m.length c2) = w5 at *
  have q9 := p2.set3 (v0 := .int .i64 U.n) (v1 := .bool U.e) (v2 := .slice A2 U.m.length c2)
  have fr9 := fr.set3 (g := w.heap.size + 1 + 1) (v0 := .int .i64 U.n) (v1 := .bool U.e) (v2 := .slice A2 U.m.length c2) (by omega)
  have own9 := own.far3 (g := w.heap.size + 1 + 1) (v0 := .int .i64 U.n) (v1 := .bool U.e) (v2 := .slice A2 U.m.length c2) (own_blk' own p2 (by decide))
  obtain ⟨z0, z1, z2, fz⟩ := octbox q9
  refine bodyPost_ret (v := .agg #[.int .i64 U.n, .bool U.e, .slice A2 U.m.length c2]) (by simp [results, Tryz.results76, go_sem, z0, z1, z2]) rfl ?_
  exact ⟨_, _, rfl, own9, fr9.1, fr9.2, hp_A2⟩

set_option maxRecDepth 8000 in
set_option maxHeartbeats 2000000 in
theorem rranged_tfb (n : Int) (o : O) (ok : OkO n o) (v base : Nat) (hv : (v : Int) < n) (lo hi : Int) (hlo : I64 lo) (hl : 2305843009213693952 < lo) (A : Option Addr) (cap : Nat) (w : World) (own : Own w base A cap o.m) (hbase : base ≤ w.heap.size) :
    Calls Tryz.prog 76 #[.agg #[.int .i64 o.n, .bool o.e, .slice A o.m.length cap], .int .i64 (v : Int), .agg #[.int .i64 lo, .int .i64 hi, .bool true, .bool false]] w (RRes w base A cap (rangedO o v ⟨lo, hi, true, false⟩)) := by
  have hrng := ok.rng
  have htw : twiceB (negB lo) = -4611686018427387904 := by rw [show negB lo = -lo by unfold negB; rw [if_neg (by omega)]]; unfold twiceB; rw [if_neg (by omega), if_pos (by omega)]
  have HU : Hid (rangedO o v ⟨lo, hi, true, false⟩ = withO (o) (2 * v + 1) (2 * v) (-4611686018427387904)) := hid (by rw [← htw]; rfl)
  clear htw
  have t9 : decide (lo ≤ 2305843009213693952) = false := by rw [decide_eq_false_iff_not]; omega
  generalize rangedO o v ⟨lo, hi, true, false⟩ = U at *
  have fr := Fr.refl w A
  obtain ⟨p0, p1, p2, hbn, -⟩ := new_three w #[.int .i64 o.n, .bool o.e, .slice A o.m.length cap] #[.int .i64 lo, .int .i64 hi, .bool true, .bool false] #[.int .i64 0, .bool false, .slice none 0 0] 24 49 24
  replace own := own.below hbn
  replace fr := fr.below hbn
  go_enter Tryz.func76, Tryz.ntmps76
  obtain ⟨p0_0, p0_1, p0_2, p0_f⟩ := octbox p0
  obtain ⟨p1_0, p1_1, p1_2, p1_3, p1_f⟩ := rgbox p1
  go_wp2_with fail
  clear p0_0 p0_1 p0_2 p0_f p1_0 p1_1 p1_2 p1_3 p1_f
  generalize ((w.alloc (Obj.cells #[.int .i64 o.n, .bool o.e, .slice A o.m.length cap] 24)).alloc (Obj.cells #[.int .i64 lo, .int .i64 hi, .bool true, .bool false] 49)).alloc (Obj.cells #[.int .i64 0, .bool false, .slice none 0 0] 24) = w1 at *
  have hbs := Nat.le_trans hbase fr.size
  have HB := hid (rbound_o n o ok (2 * v + 1) (2 * v) base (by omega) (by omega) (by omega) (-4611686018427387904) A cap w1 own hbs)
  rw [show ((2 * v : Nat) : Int) = 2 * (v : Int) by omega, show ((2 * v + 1 : Nat) : Int) = 2 * (v : Int) + 1 by omega] at HB
  rw [← HU.out] at HB
  (with_reducible refine (HB.out).mono ?_)
  rintro e_w2 w2 ⟨A2, c2, rfl, own_w2, ha_w2, hg_w2, hp_A2⟩
  replace p0 := p0.kept hg_w2 (row_ne own p0 (by decide))
  replace p1 := p1.kept hg_w2 (row_ne own p1 (by decide))
  replace p2 := p2.kept hg_w2 (row_ne own p2 (by decide))
  replace fr := fr.call ha_w2 hg_w2
  clear own ha_w2 hg_w2
  have own := own_w2
  clear own_w2
  clear HB
  obtain ⟨p0_0, p0_1, p0_2, p0_f⟩ := octbox p0
  obtain ⟨p2_0, p2_1, p2_2, p2_f⟩ := octbox p2
  go_wp2
  clear p0_0 p0_1 p0_2 p0_f p2_0 p2_1 p2_2 p2_f
  replace own := own.far3 (g := w.heap.size) (v0 := .int .i64 U.n) (v1 := .bool U.e) (v2 := .slice A2 U.m.length c2) (own_blk' own p0 (by decide))
  replace p1 := p1.far3 (g := w.heap.size) (v0 := .int .i64 U.n) (v1 := .bool U.e) (v2 := .slice A2 U.m.length c2) (by omega)
  replace p2 := p2.far3 (g := w.heap.size) (v0 := .int .i64 U.n) (v1 := .bool U.e) (v2 := .slice A2 U.m.length c2) (by omega)
  replace p0 := p0.set3 (v0 := .int .i64 U.n) (v1 := .bool U.e) (v2 := .slice A2 U.m.length c2)
  replace fr := fr.set3 (g := w.heap.size) (v0 := .int .i64 U.n) (v1 := .bool U.e) (v2 := .slice A2 U.m.length c2) (by omega)
  generalize ((w2.setCell ⟨w.heap.size, 0, none⟩ (.int .i64 U.n)).setCell ⟨w.heap.size, 1, none⟩ (.bool U.e)).setCell ⟨w.heap.size, 2, none⟩ (.slice A2 U.m.length c2) = w3 at *
  have q9 := p2.set3 (v0 := .int .i64 U.n) (v1 := .bool U.e) (v2 := .slice A2 U.m.length c2)
  have fr9 := fr.set3 (g := w.heap.size + 1 + 1) (v0 := .int .i64 U.n) (v1 := .bool U.e) (v2 := .slice A2 U.m.length c2) (by omega)
  have own9 := own.far3 (g := w.heap.size + 1 + 1) (v0 := .int .i64 U.n) (v1 := .bool U.e) (v2 := .slice A2 U.m.length c2) (own_blk' own p2 (by decide))
  obtain ⟨z0, z1, z2, fz⟩ := octbox q9
  refine bodyPost_ret (v := .agg #[.int .i64 U.n, .bool U.e, .slice A2 U.m.length c2]) (by simp [results, Tryz.results76, go_sem, z0, z1, z2]) rfl ?_
  exact ⟨_, _, rfl, own9, fr9.1, fr9.2, hp_A2⟩

set_option maxRecDepth 8000 in
set_option maxHeartbeats 2000000 in
theorem rranged_tt (n : Int) (o : O) (ok : OkO n o) (v base : Nat) (hv : (v : Int) < n) (lo hi : Int) (hlo : I64 lo) (hl : lo ≤ 2305843009213693952) (A : Option Addr) (cap : Nat) (w : World) (own : Own w base A cap o.m) (hbase : base ≤ w.heap.size) :
    Calls Tryz.prog 76 #[.agg #[.int .i64 o.n, .bool o.e, .slice A o.m.length cap], .int .i64 (v : Int), .agg #[.int .i64 lo, .int .i64 hi, .bool true, .bool true]] w (RRes w base A cap (rangedO o v ⟨lo, hi, true, true⟩)) := by
  have hrng := ok.rng
  have ok1 : OkO n (withO o (2 * v) (2 * v + 1) (twiceB hi)) := ok.with_ (by omega) (by omega) _
  have HU : Hid (rangedO o v ⟨lo, hi, true, true⟩ = withO (withO o (2 * v) (2 * v + 1) (twiceB hi)) (2 * v + 1) (2 * v) (twiceB (negB lo))) := hid rfl
  have t9 : decide (lo ≤ 2305843009213693952) = true := by rw [decide_eq_true_eq]; omega
  generalize rangedO o v ⟨lo, hi, true, true⟩ = U at *
  have fr := Fr.refl w A
  obtain ⟨p0, p1, p2, hbn, -⟩ := new_three w #[.int .i64 o.n, .bool o.e, .slice A o.m.length cap] #[.int .i64 lo, .int .i64 hi, .bool true, .bool true] #[.int .i64 0, .bool false, .slice none 0 0] 24 49 24
  replace own := own.below hbn
  replace fr := fr.below hbn
  go_enter Tryz.func76, Tryz.ntmps76
  obtain ⟨p0_0, p0_1, p0_2, p0_f⟩ := octbox p0
  obtain ⟨p1_0, p1_1, p1_2, p1_3, p1_f⟩ := rgbox p1
  go_wp2
  clear p0_0 p0_1 p0_2 p0_f p1_0 p1_1 p1_2 p1_3 p1_f
  generalize ((w.alloc (Obj.cells #[.int .i64 o.n, .bool o.e, .slice A o.m.length cap] 24)).alloc (Obj.cells #[.int .i64 lo, .int .i64 hi, .bool true, .bool true] 49)).alloc (Obj.cells #[.int .i64 0, .bool false, .slice none 0 0] 24) = w1 at *
  have f0 := later (show w1.cell? ⟨w.heap.size, 0, none⟩ = some (.int .i64 o.n) from p0.cell 0)
  have f1 := later (show w1.cell? ⟨w.heap.size, 1, none⟩ = some (.bool o.e) from p0.cell 1)
  have f2 := later (show w1.cell? ⟨w.heap.size, 2, none⟩ = some (.slice A o.m.length cap) from p0.cell 2)
  have j1 := later (show w1.cell? ⟨w.heap.size + 1, 1, none⟩ = some (.int .i64 hi) from p1.cell 1)
  refine wp_region_flow 9 (fun X => Below w1.heap.size w1 X) (by kernel_rfl) (by kernel_rfl) (Below.refl _ _).drew ?_
  (repeat (first | (refine Flow.skip (by rfl) ?_; simp only [Act.put, List.setIfInBounds_toArray, List.set_cons_zero, List.set_cons_succ]) | (refine' Flow.take _ (by rfl) (fun W hW R hR => ?_) ?_; rotate_left; (go_simp; (try go_bits); with_reducible exact hR); simp only [Act.put, List.setIfInBounds_toArray, List.set_cons_zero, List.set_cons_succ])))
  (refine Flow.call 153 #[.int .i64 hi] (.int .i64 (twiceB hi)) (by rfl) (fun X hX => by go_simp) (fun X hX => (rtwice_ok hi _).mono fun e' w' ⟨he, hw⟩ => ⟨he, hw ▸ hX⟩) ?_; simp only [Act.put, List.setIfInBounds_toArray, List.set_cons_zero, List.set_cons_succ])
  (repeat (first | (refine Flow.skip (by rfl) ?_; simp only [Act.put, List.setIfInBounds_toArray, List.set_cons_zero, List.set_cons_succ]) | (refine' Flow.take _ (by rfl) (fun W hW R hR => ?_) ?_; rotate_left; (go_simp; (try go_bits); with_reducible exact hR); simp only [Act.put, List.setIfInBounds_toArray, List.set_cons_zero, List.set_cons_succ])))
  intro w2 hbf
  clear f0 f1 f2 j1
  replace p0 := p0.later hbf
  replace p1 := p1.later hbf
  replace p2 := p2.later hbf
  replace own := own.below hbf
  replace fr := fr.below hbf
  clear hbf
  have hbs := Nat.le_trans hbase fr.size
  have HB := hid (rbound_o n o ok (2 * v) (2 * v + 1) base (by omega) (by omega) (by omega) (twiceB hi) A cap w2 own hbs)
  rw [show ((2 * v : Nat) : Int) = 2 * (v : Int) by omega, show ((2 * v + 1 : Nat) : Int) = 2 * (v : Int) + 1 by omega] at HB
  generalize withO o (2 * v) (2 * v + 1) (twiceB hi) = r1 at *
  go_wp2_with fail
  (with_reducible refine (HB.out).mono ?_)
  rintro e_w3 w3 ⟨A1, c1, rfl, own_w3, ha_w3, hg_w3, hp_A1⟩
  replace p0 := p0.kept hg_w3 (row_ne own p0 (by decide))
  replace p1 := p1.kept hg_w3 (row_ne own p1 (by decide))
  replace p2 := p2.kept hg_w3 (row_ne own p2 (by decide))
  replace fr := fr.call ha_w3 hg_w3
  clear own ha_w3 hg_w3
  have own := own_w3
  clear own_w3
  clear HB hbs
  obtain ⟨p0_0, p0_1, p0_2, p0_f⟩ := octbox p0
  obtain ⟨p1_0, p1_1, p1_2, p1_3, p1_f⟩ := rgbox p1
  go_wp2_with fail
  clear p0_0 p0_1 p0_2 p0_f p1_0 p1_1 p1_2 p1_3 p1_f
  replace own := own.far3 (g := w.heap.size) (v0 := .int .i64 r1.n) (v1 := .bool r1.e) (v2 := .slice A1 r1.m.length c1) (own_blk' own p0 (by decide))
  replace p1 := p1.far3 (g := w.heap.size) (v0 := .int .i64 r1.n) (v1 := .bool r1.e) (v2 := .slice A1 r1.m.length c1) (by omega)
  replace p2 := p2.far3 (g := w.heap.size) (v0 := .int .i64 r1.n) (v1 := .bool r1.e) (v2 := .slice A1 r1.m.length c1) (by omega)
  replace p0 := p0.set3 (v0 := .int .i64 r1.n) (v1 := .bool r1.e) (v2 := .slice A1 r1.m.length c1)
  replace fr := fr.set3 (g := w.heap.size) (v0 := .int .i64 r1.n) (v1 := .bool r1.e) (v2 := .slice A1 r1.m.length c1) (by omega)
  generalize ((w3.setCell ⟨w.heap.size, 0, none⟩ (.int .i64 r1.n)).setCell ⟨w.heap.size, 1, none⟩ (.bool r1.e)).setCell ⟨w.heap.size, 2, none⟩ (.slice A1 r1.m.length c1) = w4 at *
  (with_reducible refine (rminus_ok lo hlo w4).mono ?_)
  rintro e_w5 w5 ⟨rfl, rfl⟩
  go_wp2_with fail
  (with_reducible refine (rtwice_ok (negB lo) w4).mono ?_)
  rintro e_w6 w6 ⟨rfl, rfl⟩
  obtain ⟨p0_0, p0_1, p0_2, p0_f⟩ := octbox p0
  go_wp2_with fail
  clear p0_0 p0_1 p0_2 p0_f
  have hbs := Nat.le_trans hbase fr.size
  have HB := hid (rbound_o n r1 ok1 (2 * v + 1) (2 * v) base (by omega) (by omega) (by omega) (twiceB (negB lo)) A1 c1 w4 own hbs)
  rw [show ((2 * v : Nat) : Int) = 2 * (v : Int) by omega, show ((2 * v + 1 : Nat) : Int) = 2 * (v : Int) + 1 by omega] at HB
  rw [← HU.out] at HB
  (with_reducible refine (HB.out).mono ?_)
  rintro e_w7 w7 ⟨A2, c2, rfl, own_w7, ha_w7, hg_w7, hp_A2⟩
  replace p0 := p0.kept hg_w7 (row_ne own p0 (by decide))
  replace p1 := p1.kept hg_w7 (row_ne own p1 (by decide))
  replace p2 := p2.kept hg_w7 (row_ne own p2 (by decide))
  replace fr := fr.call ha_w7 hg_w7
  clear own ha_w7 hg_w7
  have own := own_w7
  clear own_w7
  obtain ⟨p0_0, p0_1, p0_2, p0_f⟩ := octbox p0
  obtain ⟨p2_0, p2_1, p2_2, p2_f⟩ := octbox p2
  go_wp2
  clear p0_0 p0_1 p0_2 p0_f p2_0 p2_1 p2_2 p2_f
  replace own := own.far3 (g := w.heap.size) (v0 := .int .i64 U.n) (v1 := .bool U.e) (v2 := .slice A2 U.m.length c2) (own_blk' own p0 (by decide))
  replace p1 := p1.far3 (g := w.heap.size) (v0 := .int .i64 U.n) (v1 := .bool U.e) (v2 := .slice A2 U.m.length c2) (by omega)
  replace p2 := p2.far3 (g := w.heap.size) (v0 := .int .i64 U.n) (v1 := .bool U.e) (v2 := .slice A2 U.m.length c2) (by omega)
  replace p0 := p0.set3 (v0 := .int .i64 U.n) (v1 := .bool U.e) (v2 := .slice A2 U.m.length c2)
  replace fr := fr.set3 (g := w.heap.size) (v0 := .int .i64 U.n) (v1 := .bool U.e) (v2 := .slice A2 U.m.length c2) (by omega)
  generalize ((w7.setCell ⟨w.heap.size, 0, none⟩ (.int .i64 U.n)).setCell ⟨w.heap.size, 1, none⟩ (.bool U.e)).setCell ⟨w.heap.size, 2, none⟩ (.slice A2 U.m.length c2) = w8 at *
  have q9 := p2.set3 (v0 := .int .i64 U.n) (v1 := .bool U.e) (v2 := .slice A2 U.m.length c2)
  have fr9 := fr.set3 (g := w.heap.size + 1 + 1) (v0 := .int .i64 U.n) (v1 := .bool U.e) (v2 := .slice A2 U.m.length c2) (by omega)
  have own9 := own.far3 (g := w.heap.size + 1 + 1) (v0 := .int .i64 U.n) (v1 := .bool U.e) (v2 := .slice A2 U.m.length c2) (own_blk' own p2 (by decide))
  obtain ⟨z0, z1, z2, fz⟩ := octbox q9
  refine bodyPost_ret (v := .agg #[.int .i64 U.n, .bool U.e, .slice A2 U.m.length c2]) (by simp [results, Tryz.results76, go_sem, z0, z1, z2]) rfl ?_
  exact ⟨_, _, rfl, own9, fr9.1, fr9.2, fun h => by obtain ⟨e1, e2⟩ := hp_A2 h; obtain ⟨e3, e4⟩ := hp_A1 (withO_e (show (withO r1 _ _ _).e = false from HU.out ▸ h)); exact ⟨e1.trans e3, e2.trans e4⟩⟩

set_option maxRecDepth 8000 in
set_option maxHeartbeats 2000000 in
theorem rranged_ttb (n : Int) (o : O) (ok : OkO n o) (v base : Nat) (hv : (v : Int) < n) (lo hi : Int) (hlo : I64 lo) (hl : 2305843009213693952 < lo) (A : Option Addr) (cap : Nat) (w : World) (own : Own w base A cap o.m) (hbase : base ≤ w.heap.size) :
    Calls Tryz.prog 76 #[.agg #[.int .i64 o.n, .bool o.e, .slice A o.m.length cap], .int .i64 (v : Int), .agg #[.int .i64 lo, .int .i64 hi, .bool true, .bool true]] w (RRes w base A cap (rangedO o v ⟨lo, hi, true, true⟩)) := by
  have hrng := ok.rng
  have ok1 : OkO n (withO o (2 * v) (2 * v + 1) (twiceB hi)) := ok.with_ (by omega) (by omega) _
  have htw : twiceB (negB lo) = -4611686018427387904 := by rw [show negB lo = -lo by unfold negB; rw [if_neg (by omega)]]; unfold twiceB; rw [if_neg (by omega), if_pos (by omega)]
  have HU : Hid (rangedO o v ⟨lo, hi, true, true⟩ = withO (withO o (2 * v) (2 * v + 1) (twiceB hi)) (2 * v + 1) (2 * v) (-4611686018427387904)) := hid (by rw [← htw]; rfl)
  clear htw
  have t9 : decide (lo ≤ 2305843009213693952) = false := by rw [decide_eq_false_iff_not]; omega
  generalize rangedO o v ⟨lo, hi, true, true⟩ = U at *
  have fr := Fr.refl w A
  obtain ⟨p0, p1, p2, hbn, -⟩ := new_three w #[.int .i64 o.n, .bool o.e, .slice A o.m.length cap] #[.int .i64 lo, .int .i64 hi, .bool true, .bool true] #[.int .i64 0, .bool false, .slice none 0 0] 24 49 24
  replace own := own.below hbn
  replace fr := fr.below hbn
  go_enter Tryz.func76, Tryz.ntmps76
  obtain ⟨p0_0, p0_1, p0_2, p0_f⟩ := octbox p0
  obtain ⟨p1_0, p1_1, p1_2, p1_3, p1_f⟩ := rgbox p1
  go_wp2
  clear p0_0 p0_1 p0_2 p0_f p1_0 p1_1 p1_2 p1_3 p1_f
  generalize ((w.alloc (Obj.cells #[.int .i64 o.n, .bool o.e, .slice A o.m.length cap] 24)).alloc (Obj.cells #[.int .i64 lo, .int .i64 hi, .bool true, .bool true] 49)).alloc (Obj.cells #[.int .i64 0, .bool false, .slice none 0 0] 24) = w1 at *
  have f0 := later (show w1.cell? ⟨w.heap.size, 0, none⟩ = some (.int .i64 o.n) from p0.cell 0)
  have f1 := later (show w1.cell? ⟨w.heap.size, 1, none⟩ = some (.bool o.e) from p0.cell 1)
  have f2 := later (show w1.cell? ⟨w.heap.size, 2, none⟩ = some (.slice A o.m.length cap) from p0.cell 2)
  have j1 := later (show w1.cell? ⟨w.heap.size + 1, 1, none⟩ = some (.int .i64 hi) from p1.cell 1)
  refine wp_region_flow 9 (fun X => Below w1.heap.size w1 X) (by kernel_rfl) (by kernel_rfl) (Below.refl _ _).drew ?_
  (repeat (first | (refine Flow.skip (by rfl) ?_; simp only [Act.put, List.setIfInBounds_toArray, List.set_cons_zero, List.set_cons_succ]) | (refine' Flow.take _ (by rfl) (fun W hW R hR => ?_) ?_; rotate_left; (go_simp; (try go_bits); with_reducible exact hR); simp only [Act.put, List.setIfInBounds_toArray, List.set_cons_zero, List.set_cons_succ])))
  (refine Flow.call 153 #[.int .i64 hi] (.int .i64 (twiceB hi)) (by rfl) (fun X hX => by go_simp) (fun X hX => (rtwice_ok hi _).mono fun e' w' ⟨he, hw⟩ => ⟨he, hw ▸ hX⟩) ?_; simp only [Act.put, List.setIfInBounds_toArray, List.set_cons_zero, List.set_cons_succ])
  (repeat (first | (refine Flow.skip (by rfl) ?_; simp only [Act.put, List.setIfInBounds_toArray, List.set_cons_zero, List.set_cons_succ]) | (refine' Flow.take _ (by rfl) (fun W hW R hR => ?_) ?_; rotate_left; (go_simp; (try go_bits); with_reducible exact hR); simp only [Act.put, List.setIfInBounds_toArray, List.set_cons_zero, List.set_cons_succ])))
  intro w2 hbf
  clear f0 f1 f2 j1
  replace p0 := p0.later hbf
  replace p1 := p1.later hbf
  replace p2 := p2.later hbf
  replace own := own.below hbf
  replace fr := fr.below hbf
  clear hbf
  have hbs := Nat.le_trans hbase fr.size
  have HB := hid (rbound_o n o ok (2 * v) (2 * v + 1) base (by omega) (by omega) (by omega) (twiceB hi) A cap w2 own hbs)
  rw [show ((2 * v : Nat) : Int) = 2 * (v : Int) by omega, show ((2 * v + 1 : Nat) : Int) = 2 * (v : Int) + 1 by omega] at HB
  generalize withO o (2 * v) (2 * v + 1) (twiceB hi) = r1 at *
  go_wp2_with fail
  (with_reducible refine (HB.out).mono ?_)
  rintro e_w3 w3 ⟨A1, c1, rfl, own_w3, ha_w3, hg_w3, hp_A1⟩
  replace p0 := p0.kept hg_w3 (row_ne own p0 (by decide))
  replace p1 := p1.kept hg_w3 (row_ne own p1 (by decide))
  replace p2 := p2.kept hg_w3 (row_ne own p2 (by decide))
  replace fr := fr.call ha_w3 hg_w3
  clear own ha_w3 hg_w3
  have own := own_w3
  clear own_w3
  clear HB hbs
  obtain ⟨p0_0, p0_1, p0_2, p0_f⟩ := octbox p0
  obtain ⟨p1_0, p1_1, p1_2, p1_3, p1_f⟩ := rgbox p1
  go_wp2_with fail
  clear p0_0 p0_1 p0_2 p0_f p1_0 p1_1 p1_2 p1_3 p1_f
  replace own := own.far3 (g := w.heap.size) (v0 := .int .i64 r1.n) (v1 := .bool r1.e) (v2 := .slice A1 r1.m.length c1) (own_blk' own p0 (by decide))
  replace p1 := p1.far3 (g := w.heap.size) (v0 := .int .i64 r1.n) (v1 := .bool r1.e) (v2 := .slice A1 r1.m.length c1) (by omega)
  replace p2 := p2.far3 (g := w.heap.size) (v0 := .int .i64 r1.n) (v1 := .bool r1.e) (v2 := .slice A1 r1.m.length c1) (by omega)
  replace p0 := p0.set3 (v0 := .int .i64 r1.n) (v1 := .bool r1.e) (v2 := .slice A1 r1.m.length c1)
  replace fr := fr.set3 (g := w.heap.size) (v0 := .int .i64 r1.n) (v1 := .bool r1.e) (v2 := .slice A1 r1.m.length c1) (by omega)
  generalize ((w3.setCell ⟨w.heap.size, 0, none⟩ (.int .i64 r1.n)).setCell ⟨w.heap.size, 1, none⟩ (.bool r1.e)).setCell ⟨w.heap.size, 2, none⟩ (.slice A1 r1.m.length c1) = w4 at *
  have hbs := Nat.le_trans hbase fr.size
  have HB := hid (rbound_o n r1 ok1 (2 * v + 1) (2 * v) base (by omega) (by omega) (by omega) (-4611686018427387904) A1 c1 w4 own hbs)
  rw [show ((2 * v : Nat) : Int) = 2 * (v : Int) by omega, show ((2 * v + 1 : Nat) : Int) = 2 * (v : Int) + 1 by omega] at HB
  rw [← HU.out] at HB
  (with_reducible refine (HB.out).mono ?_)
  rintro e_w5 w5 ⟨A2, c2, rfl, own_w5, ha_w5, hg_w5, hp_A2⟩
  replace p0 := p0.kept hg_w5 (row_ne own p0 (by decide))
  replace p1 := p1.kept hg_w5 (row_ne own p1 (by decide))
  replace p2 := p2.kept hg_w5 (row_ne own p2 (by decide))
  replace fr := fr.call ha_w5 hg_w5
  clear own ha_w5 hg_w5
  have own := own_w5
  clear own_w5
  obtain ⟨p0_0, p0_1, p0_2, p0_f⟩ := octbox p0
  obtain ⟨p2_0, p2_1, p2_2, p2_f⟩ := octbox p2
  go_wp2
  clear p0_0 p0_1 p0_2 p0_f p2_0 p2_1 p2_2 p2_f
  replace own := own.far3 (g := w.heap.size) (v0 := .int .i64 U.n) (v1 := .bool U.e) (v2 := .slice A2 U.m.length c2) (own_blk' own p0 (by decide))
  replace p1 := p1.far3 (g := w.heap.size) (v0 := .int .i64 U.n) (v1 := .bool U.e) (v2 := .slice A2 U.m.length c2) (by omega)
  replace p2 := p2.far3 (g := w.heap.size) (v0 := .int .i64 U.n) (v1 := .bool U.e) (v2 := .slice A2 U.m.length c2) (by omega)
  replace p0 := p0.set3 (v0 := .int .i64 U.n) (v1 := .bool U.e) (v2 := .slice A2 U.m.length c2)
  replace fr := fr.set3 (g := w.heap.size) (v0 := .int .i64 U.n) (v1 := .bool U.e) (v2 := .slice A2 U.m.length c2) (by omega)
  generalize ((w5.setCell ⟨w.heap.size, 0, none⟩ (.int .i64 U.n)).setCell ⟨w.heap.size, 1, none⟩ (.bool U.e)).setCell ⟨w.heap.size, 2, none⟩ (.slice A2 U.m.length c2) = w6 at *
  have q9 := p2.set3 (v0 := .int .i64 U.n) (v1 := .bool U.e) (v2 := .slice A2 U.m.length c2)
  have fr9 := fr.set3 (g := w.heap.size + 1 + 1) (v0 := .int .i64 U.n) (v1 := .bool U.e) (v2 := .slice A2 U.m.length c2) (by omega)
  have own9 := own.far3 (g := w.heap.size + 1 + 1) (v0 := .int .i64 U.n) (v1 := .bool U.e) (v2 := .slice A2 U.m.length c2) (own_blk' own p2 (by decide))
  obtain ⟨z0, z1, z2, fz⟩ := octbox q9
  refine bodyPost_ret (v := .agg #[.int .i64 U.n, .bool U.e, .slice A2 U.m.length c2]) (by simp [results, Tryz.results76, go_sem, z0, z1, z2]) rfl ?_
  exact ⟨_, _, rfl, own9, fr9.1, fr9.2, fun h => by obtain ⟨e1, e2⟩ := hp_A2 h; obtain ⟨e3, e4⟩ := hp_A1 (withO_e (show (withO r1 _ _ _).e = false from HU.out ▸ h)); exact ⟨e1.trans e3, e2.trans e4⟩⟩

theorem rranged_ok (n : Int) (o : O) (ok : OkO n o) (v base : Nat) (hv : (v : Int) < n) (r : Rg) (hlo : I64 r.lo) (A : Option Addr) (cap : Nat) (w : World) (own : Own w base A cap o.m) (hbase : base ≤ w.heap.size) :
    Calls Tryz.prog 76 #[.agg #[.int .i64 o.n, .bool o.e, .slice A o.m.length cap], .int .i64 (v : Int), r.val] w (RRes w base A cap (rangedO o v r)) := by
  obtain ⟨lo, hi, hl, hh⟩ := r
  unfold Rg.val
  dsimp only at *
  cases hl
  · cases hh
    · exact rranged_ff n o ok v base hv lo hi hlo A cap w own hbase
    · exact rranged_ft n o ok v base hv lo hi hlo A cap w own hbase
  · by_cases h : lo ≤ 2305843009213693952
    · cases hh
      · exact rranged_tf n o ok v base hv lo hi hlo h A cap w own hbase
      · exact rranged_tt n o ok v base hv lo hi hlo h A cap w own hbase
    · cases hh
      · exact rranged_tfb n o ok v base hv lo hi hlo (by omega) A cap w own hbase
      · exact rranged_ttb n o ok v base hv lo hi hlo (by omega) A cap w own hbase

end Go.Proofs.YtnmpgijiimglcaaGreat
