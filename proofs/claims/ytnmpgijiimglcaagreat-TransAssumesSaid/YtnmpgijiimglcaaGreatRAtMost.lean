/-
  gnomonref16.atMost: what it answers, in place.
-/
import Derived.Test.YtnmpgijiimglcaaGreatRRanged
import Derived.Test.YtnmpgijiimglcaaGreatBTA07
namespace Go.Proofs.YtnmpgijiimglcaaGreat
open Go.RowKit
attribute [local go_sem ↓] Go.wp_at_zero Go.wp_at_succ

theorem row_none {w : World} : ∀ k, rowB (none : Option Addr) = some k → w.heap.size ≤ k := fun k e => by cases e

set_option maxRecDepth 8000 in
set_option maxHeartbeats 2000000 in
theorem ratMost_At (n : Int) (o : O) (ok : OkO n o) (av an bv bn : Int) (h0 : 0 ≤ av) (hab : av = bv) (A : Option Addr) (cap base : Nat) (w : World) (own : Own w base A cap o.m) (hbase : base ≤ w.heap.size) :
    Calls Tryz.prog 126 #[.agg #[.int .i64 o.n, .bool o.e, .slice A o.m.length cap], .bool true, .agg #[.int .i64 av, .int .i64 an], .agg #[.int .i64 bv, .int .i64 bn]] w (RRes w base A cap (emptyO o.n)) := by
  have hrng := ok.rng
  have hno := ok.n_
  have HNO := hid hno
  have HRNG := hid hrng
  clear hno hrng
  subst hab
  obtain ⟨a, rfl⟩ := Int.eq_ofNat_of_zero_le h0
  have t1 : decide (0 ≤ (a : Int)) = true := by rw [decide_eq_true_eq]; omega
  have t2 : decide (0 ≤ (a : Int)) = true := by rw [decide_eq_true_eq]; omega
  have t3 : ((a : Int) == (a : Int)) = true := by simp
  have fr := Fr.refl w A
  have own0 := own
  obtain ⟨p0, p1, p2, p3, hbn, -⟩ := new_four w #[.int .i64 o.n, .bool o.e, .slice A o.m.length cap] #[.int .i64 (a : Int), .int .i64 an] #[.int .i64 (a : Int), .int .i64 bn] #[.int .i64 0, .bool false, .slice none 0 0] 24 26 26 24
  replace own := own.below hbn
  replace fr := fr.below hbn
  go_enter Tryz.func126, Tryz.ntmps126
  obtain ⟨p0_0, p0_1, p0_2, p0_f⟩ := octbox p0
  obtain ⟨p1_0, p1_1, p1_f⟩ := opbox p1
  obtain ⟨p2_0, p2_1, p2_f⟩ := opbox p2
  clear own0
  go_wp2_with fail
  clear p0_0 p0_1 p0_2 p0_f p1_0 p1_1 p1_f p2_0 p2_1 p2_f
  generalize (((w.alloc (Obj.cells #[.int .i64 o.n, .bool o.e, .slice A o.m.length cap] 24)).alloc (Obj.cells #[.int .i64 (a : Int), .int .i64 an] 26)).alloc (Obj.cells #[.int .i64 (a : Int), .int .i64 bn] 26)).alloc (Obj.cells #[.int .i64 0, .bool false, .slice none 0 0] 24) = w1 at *
  (with_reducible refine (rempty_any o.n w1).mono ?_)
  rintro e_w2 w2 ⟨rfl, hb_w2⟩
  replace p0 := p0.later hb_w2
  replace p1 := p1.later hb_w2
  replace p2 := p2.later hb_w2
  replace p3 := p3.later hb_w2
  replace own := own.below hb_w2
  replace fr := fr.below hb_w2
  obtain ⟨p3_0, p3_1, p3_2, p3_f⟩ := octbox p3
  go_wp2
  clear p3_0 p3_1 p3_2 p3_f
  unfold emptyO
  have own1 : Own w2 base none 0 [] := own_nil _ _
  replace fr : Fr w w2 A none := ⟨.inr row_none, fr.2⟩
  have q9 := p3.set3 (v0 := .int .i64 o.n) (v1 := .bool true) (v2 := .slice none 0 0)
  have fr9 := fr.set3 (g := w.heap.size + 1 + 1 + 1) (v0 := .int .i64 o.n) (v1 := .bool true) (v2 := .slice none 0 0) (by omega)
  have own9 := own1.far3 (g := w.heap.size + 1 + 1 + 1) (v0 := .int .i64 o.n) (v1 := .bool true) (v2 := .slice none 0 0) (own_blk' own1 p3 (by decide))
  obtain ⟨z0, z1, z2, fz⟩ := octbox q9
  refine bodyPost_ret (v := .agg #[.int .i64 o.n, .bool true, .slice none 0 0]) (by simp [results, Tryz.results126, go_sem, z0, z1, z2]) rfl ?_
  exact ⟨_, _, rfl, own9, fr9.1, fr9.2, fun h => by cases h⟩

set_option maxRecDepth 8000 in
set_option maxHeartbeats 2000000 in
theorem ratMost_Af (n : Int) (o : O) (ok : OkO n o) (av an bv bn : Int) (h0 : 0 ≤ av) (hab : av = bv) (A : Option Addr) (cap base : Nat) (w : World) (own : Own w base A cap o.m) (hbase : base ≤ w.heap.size) :
    Calls Tryz.prog 126 #[.agg #[.int .i64 o.n, .bool o.e, .slice A o.m.length cap], .bool false, .agg #[.int .i64 av, .int .i64 an], .agg #[.int .i64 bv, .int .i64 bn]] w (RRes w base A cap (o)) := by
  have hrng := ok.rng
  have hno := ok.n_
  have HNO := hid hno
  have HRNG := hid hrng
  clear hno hrng
  subst hab
  obtain ⟨a, rfl⟩ := Int.eq_ofNat_of_zero_le h0
  have t1 : decide (0 ≤ (a : Int)) = true := by rw [decide_eq_true_eq]; omega
  have t2 : decide (0 ≤ (a : Int)) = true := by rw [decide_eq_true_eq]; omega
  have t3 : ((a : Int) == (a : Int)) = true := by simp
  have fr := Fr.refl w A
  have own0 := own
  obtain ⟨p0, p1, p2, p3, hbn, -⟩ := new_four w #[.int .i64 o.n, .bool o.e, .slice A o.m.length cap] #[.int .i64 (a : Int), .int .i64 an] #[.int .i64 (a : Int), .int .i64 bn] #[.int .i64 0, .bool false, .slice none 0 0] 24 26 26 24
  replace own := own.below hbn
  replace fr := fr.below hbn
  go_enter Tryz.func126, Tryz.ntmps126
  obtain ⟨p0_0, p0_1, p0_2, p0_f⟩ := octbox p0
  obtain ⟨p1_0, p1_1, p1_f⟩ := opbox p1
  obtain ⟨p2_0, p2_1, p2_f⟩ := opbox p2
  go_wp2
  clear p0_0 p0_1 p0_2 p0_f p1_0 p1_1 p1_f p2_0 p2_1 p2_f
  refine bodyPost_ret (v := .agg #[.int .i64 o.n, .bool o.e, .slice A o.m.length cap]) (by simp [results, Tryz.results126, go_sem]) rfl ?_
  have hbX : ∀ W, Below w.heap.size w W → RRes w base A cap o (.returned (.agg #[.int .i64 o.n, .bool o.e, .slice A o.m.length cap])) W := fun W hW => ⟨A, cap, rfl, own0.below hW, .inl rfl, grown_of_below hW _, fun _ => ⟨rfl, rfl⟩⟩
  exact hbX _ ((((Below.refl _ _).alloc (Nat.le_refl _) _).alloc (by simp) _ |>.alloc (by simp; try omega) _).alloc (by simp; try omega) _)

set_option maxRecDepth 8000 in
set_option maxHeartbeats 2000000 in
theorem ratMost_Ct (n : Int) (o : O) (ok : OkO n o) (av an bv bn : Int) (h0 : 0 ≤ av) (h1 : 0 ≤ bv) (ha : av < n) (hb : bv < n) (hab : av ≠ bv) (A : Option Addr) (cap base : Nat) (w : World) (own : Own w base A cap o.m) (hbase : base ≤ w.heap.size) :
    Calls Tryz.prog 126 #[.agg #[.int .i64 o.n, .bool o.e, .slice A o.m.length cap], .bool true, .agg #[.int .i64 av, .int .i64 an], .agg #[.int .i64 bv, .int .i64 bn]] w (RRes w base A cap (withO o (2 * av.toNat) (2 * bv.toNat) (-1))) := by
  have hrng := ok.rng
  have hno := ok.n_
  have HNO := hid hno
  have HRNG := hid hrng
  clear hno hrng
  obtain ⟨a, rfl⟩ := Int.eq_ofNat_of_zero_le h0
  obtain ⟨b, rfl⟩ := Int.eq_ofNat_of_zero_le h1
  have t1 : decide (0 ≤ (a : Int)) = true := by rw [decide_eq_true_eq]; omega
  have t2 : decide (0 ≤ (b : Int)) = true := by rw [decide_eq_true_eq]; omega
  have t3 : ((a : Int) == (b : Int)) = false := by rw [beq_eq_false_iff_ne]; exact hab
  rw [Int.toNat_natCast, Int.toNat_natCast]
  have hlim : 2 * (a : Int) + 2 < 200 ∧ 2 * (b : Int) + 2 < 200 := by have := HRNG.out; omega
  have HAB := hid hab
  clear hab
  obtain ⟨r, hr⟩ : ∃ r, r = withO o (2 * a) (2 * b) (-1) := ⟨_, rfl⟩
  rw [← hr]
  have HR := hid hr
  clear hr
  have fr := Fr.refl w A
  have own0 := own
  obtain ⟨p0, p1, p2, p3, hbn, -⟩ := new_four w #[.int .i64 o.n, .bool o.e, .slice A o.m.length cap] #[.int .i64 (a : Int), .int .i64 an] #[.int .i64 (b : Int), .int .i64 bn] #[.int .i64 0, .bool false, .slice none 0 0] 24 26 26 24
  replace own := own.below hbn
  replace fr := fr.below hbn
  go_enter Tryz.func126, Tryz.ntmps126
  obtain ⟨p0_0, p0_1, p0_2, p0_f⟩ := octbox p0
  obtain ⟨p1_0, p1_1, p1_f⟩ := opbox p1
  obtain ⟨p2_0, p2_1, p2_f⟩ := opbox p2
  clear own0
  go_wp2_with fail
  clear p0_0 p0_1 p0_2 p0_f p1_0 p1_1 p1_f p2_0 p2_1 p2_f
  generalize (((w.alloc (Obj.cells #[.int .i64 o.n, .bool o.e, .slice A o.m.length cap] 24)).alloc (Obj.cells #[.int .i64 (a : Int), .int .i64 an] 26)).alloc (Obj.cells #[.int .i64 (b : Int), .int .i64 bn] 26)).alloc (Obj.cells #[.int .i64 0, .bool false, .slice none 0 0] 24) = w1 at *
  have hbs := Nat.le_trans hbase fr.size
  have HB := hid (rbound_o n o ok (2 * a) (2 * b) base (by omega) (by omega) (by have := HAB.out; omega) (-1) A cap w1 own hbs)
  rw [show ((2 * a : Nat) : Int) = 2 * (a : Int) by omega, show ((2 * b : Nat) : Int) = 2 * (b : Int) by omega, ← HR.out] at HB
  (with_reducible refine (HB.out).mono ?_)
  rintro e_w2 w2 ⟨A1, c1, rfl, own_w2, ha_w2, hg_w2, hp_A1⟩
  replace p0 := p0.kept hg_w2 (row_ne own p0 (by decide))
  replace p1 := p1.kept hg_w2 (row_ne own p1 (by decide))
  replace p2 := p2.kept hg_w2 (row_ne own p2 (by decide))
  replace p3 := p3.kept hg_w2 (row_ne own p3 (by decide))
  replace fr := fr.call ha_w2 hg_w2
  clear own ha_w2 hg_w2
  have own := own_w2
  clear own_w2
  clear HB
  obtain ⟨p3_0, p3_1, p3_2, p3_f⟩ := octbox p3
  go_wp2
  clear p3_0 p3_1 p3_2 p3_f
  have q9 := p3.set3 (v0 := .int .i64 r.n) (v1 := .bool r.e) (v2 := .slice A1 r.m.length c1)
  have fr9 := fr.set3 (g := w.heap.size + 1 + 1 + 1) (v0 := .int .i64 r.n) (v1 := .bool r.e) (v2 := .slice A1 r.m.length c1) (by omega)
  have own9 := own.far3 (g := w.heap.size + 1 + 1 + 1) (v0 := .int .i64 r.n) (v1 := .bool r.e) (v2 := .slice A1 r.m.length c1) (own_blk' own p3 (by decide))
  obtain ⟨z0, z1, z2, fz⟩ := octbox q9
  refine bodyPost_ret (v := .agg #[.int .i64 r.n, .bool r.e, .slice A1 r.m.length c1]) (by simp [results, Tryz.results126, go_sem, z0, z1, z2]) rfl ?_
  exact ⟨_, _, rfl, own9, fr9.1, fr9.2, hp_A1⟩

set_option maxRecDepth 8000 in
set_option maxHeartbeats 2000000 in
theorem ratMost_Cf (n : Int) (o : O) (ok : OkO n o) (av an bv bn : Int) (h0 : 0 ≤ av) (h1 : 0 ≤ bv) (ha : av < n) (hb : bv < n) (hab : av ≠ bv) (A : Option Addr) (cap base : Nat) (w : World) (own : Own w base A cap o.m) (hbase : base ≤ w.heap.size) :
    Calls Tryz.prog 126 #[.agg #[.int .i64 o.n, .bool o.e, .slice A o.m.length cap], .bool false, .agg #[.int .i64 av, .int .i64 an], .agg #[.int .i64 bv, .int .i64 bn]] w (RRes w base A cap (withO o (2 * av.toNat) (2 * bv.toNat) (0))) := by
  have hrng := ok.rng
  have hno := ok.n_
  have HNO := hid hno
  have HRNG := hid hrng
  clear hno hrng
  obtain ⟨a, rfl⟩ := Int.eq_ofNat_of_zero_le h0
  obtain ⟨b, rfl⟩ := Int.eq_ofNat_of_zero_le h1
  have t1 : decide (0 ≤ (a : Int)) = true := by rw [decide_eq_true_eq]; omega
  have t2 : decide (0 ≤ (b : Int)) = true := by rw [decide_eq_true_eq]; omega
  have t3 : ((a : Int) == (b : Int)) = false := by rw [beq_eq_false_iff_ne]; exact hab
  rw [Int.toNat_natCast, Int.toNat_natCast]
  have hlim : 2 * (a : Int) + 2 < 200 ∧ 2 * (b : Int) + 2 < 200 := by have := HRNG.out; omega
  have HAB := hid hab
  clear hab
  obtain ⟨r, hr⟩ : ∃ r, r = withO o (2 * a) (2 * b) (0) := ⟨_, rfl⟩
  rw [← hr]
  have HR := hid hr
  clear hr
  have fr := Fr.refl w A
  have own0 := own
  obtain ⟨p0, p1, p2, p3, hbn, -⟩ := new_four w #[.int .i64 o.n, .bool o.e, .slice A o.m.length cap] #[.int .i64 (a : Int), .int .i64 an] #[.int .i64 (b : Int), .int .i64 bn] #[.int .i64 0, .bool false, .slice none 0 0] 24 26 26 24
  replace own := own.below hbn
  replace fr := fr.below hbn
  go_enter Tryz.func126, Tryz.ntmps126
  obtain ⟨p0_0, p0_1, p0_2, p0_f⟩ := octbox p0
  obtain ⟨p1_0, p1_1, p1_f⟩ := opbox p1
  obtain ⟨p2_0, p2_1, p2_f⟩ := opbox p2
  clear own0
  go_wp2_with fail
  clear p0_0 p0_1 p0_2 p0_f p1_0 p1_1 p1_f p2_0 p2_1 p2_f
  generalize (((w.alloc (Obj.cells #[.int .i64 o.n, .bool o.e, .slice A o.m.length cap] 24)).alloc (Obj.cells #[.int .i64 (a : Int), .int .i64 an] 26)).alloc (Obj.cells #[.int .i64 (b : Int), .int .i64 bn] 26)).alloc (Obj.cells #[.int .i64 0, .bool false, .slice none 0 0] 24) = w1 at *
  have hbs := Nat.le_trans hbase fr.size
  have HB := hid (rbound_o n o ok (2 * a) (2 * b) base (by omega) (by omega) (by have := HAB.out; omega) (0) A cap w1 own hbs)
  rw [show ((2 * a : Nat) : Int) = 2 * (a : Int) by omega, show ((2 * b : Nat) : Int) = 2 * (b : Int) by omega, ← HR.out] at HB
  (with_reducible refine (HB.out).mono ?_)
  rintro e_w2 w2 ⟨A1, c1, rfl, own_w2, ha_w2, hg_w2, hp_A1⟩
  replace p0 := p0.kept hg_w2 (row_ne own p0 (by decide))
  replace p1 := p1.kept hg_w2 (row_ne own p1 (by decide))
  replace p2 := p2.kept hg_w2 (row_ne own p2 (by decide))
  replace p3 := p3.kept hg_w2 (row_ne own p3 (by decide))
  replace fr := fr.call ha_w2 hg_w2
  clear own ha_w2 hg_w2
  have own := own_w2
  clear own_w2
  clear HB
  obtain ⟨p3_0, p3_1, p3_2, p3_f⟩ := octbox p3
  go_wp2
  clear p3_0 p3_1 p3_2 p3_f
  have q9 := p3.set3 (v0 := .int .i64 r.n) (v1 := .bool r.e) (v2 := .slice A1 r.m.length c1)
  have fr9 := fr.set3 (g := w.heap.size + 1 + 1 + 1) (v0 := .int .i64 r.n) (v1 := .bool r.e) (v2 := .slice A1 r.m.length c1) (by omega)
  have own9 := own.far3 (g := w.heap.size + 1 + 1 + 1) (v0 := .int .i64 r.n) (v1 := .bool r.e) (v2 := .slice A1 r.m.length c1) (own_blk' own p3 (by decide))
  obtain ⟨z0, z1, z2, fz⟩ := octbox q9
  refine bodyPost_ret (v := .agg #[.int .i64 r.n, .bool r.e, .slice A1 r.m.length c1]) (by simp [results, Tryz.results126, go_sem, z0, z1, z2]) rfl ?_
  exact ⟨_, _, rfl, own9, fr9.1, fr9.2, hp_A1⟩

set_option maxRecDepth 8000 in
set_option maxHeartbeats 2000000 in
theorem ratMost_Dt (n : Int) (o : O) (ok : OkO n o) (av an bv bn : Int) (h0 : 0 ≤ av) (h1 : bv < 0) (hab : bn = -9223372036854775808) (A : Option Addr) (cap base : Nat) (w : World) (own : Own w base A cap o.m) (hbase : base ≤ w.heap.size) :
    Calls Tryz.prog 126 #[.agg #[.int .i64 o.n, .bool o.e, .slice A o.m.length cap], .bool true, .agg #[.int .i64 av, .int .i64 an], .agg #[.int .i64 bv, .int .i64 bn]] w (RRes w base A cap (emptyO o.n)) := by
  have hrng := ok.rng
  have hno := ok.n_
  have HNO := hid hno
  have HRNG := hid hrng
  clear hno hrng
  obtain ⟨a, rfl⟩ := Int.eq_ofNat_of_zero_le h0
  have t1 : decide (0 ≤ (a : Int)) = true := by rw [decide_eq_true_eq]; omega
  have t2 : decide (0 ≤ bv) = false := by rw [decide_eq_false_iff_not]; omega
  have t3 : (bn == -9223372036854775808) = true := by rw [beq_iff_eq]; exact hab
  clear hab
  have fr := Fr.refl w A
  have own0 := own
  obtain ⟨p0, p1, p2, p3, hbn, -⟩ := new_four w #[.int .i64 o.n, .bool o.e, .slice A o.m.length cap] #[.int .i64 (a : Int), .int .i64 an] #[.int .i64 bv, .int .i64 bn] #[.int .i64 0, .bool false, .slice none 0 0] 24 26 26 24
  replace own := own.below hbn
  replace fr := fr.below hbn
  go_enter Tryz.func126, Tryz.ntmps126
  obtain ⟨p0_0, p0_1, p0_2, p0_f⟩ := octbox p0
  obtain ⟨p1_0, p1_1, p1_f⟩ := opbox p1
  obtain ⟨p2_0, p2_1, p2_f⟩ := opbox p2
  clear own0
  go_wp2_with fail
  clear p0_0 p0_1 p0_2 p0_f p1_0 p1_1 p1_f p2_0 p2_1 p2_f
  generalize (((w.alloc (Obj.cells #[.int .i64 o.n, .bool o.e, .slice A o.m.length cap] 24)).alloc (Obj.cells #[.int .i64 (a : Int), .int .i64 an] 26)).alloc (Obj.cells #[.int .i64 bv, .int .i64 bn] 26)).alloc (Obj.cells #[.int .i64 0, .bool false, .slice none 0 0] 24) = w1 at *
  (with_reducible refine (rempty_any o.n w1).mono ?_)
  rintro e_w2 w2 ⟨rfl, hb_w2⟩
  replace p0 := p0.later hb_w2
  replace p1 := p1.later hb_w2
  replace p2 := p2.later hb_w2
  replace p3 := p3.later hb_w2
  replace own := own.below hb_w2
  replace fr := fr.below hb_w2
  obtain ⟨p3_0, p3_1, p3_2, p3_f⟩ := octbox p3
  go_wp2
  clear p3_0 p3_1 p3_2 p3_f
  unfold emptyO
  have own1 : Own w2 base none 0 [] := own_nil _ _
  replace fr : Fr w w2 A none := ⟨.inr row_none, fr.2⟩
  have q9 := p3.set3 (v0 := .int .i64 o.n) (v1 := .bool true) (v2 := .slice none 0 0)
  have fr9 := fr.set3 (g := w.heap.size + 1 + 1 + 1) (v0 := .int .i64 o.n) (v1 := .bool true) (v2 := .slice none 0 0) (by omega)
  have own9 := own1.far3 (g := w.heap.size + 1 + 1 + 1) (v0 := .int .i64 o.n) (v1 := .bool true) (v2 := .slice none 0 0) (own_blk' own1 p3 (by decide))
  obtain ⟨z0, z1, z2, fz⟩ := octbox q9
  refine bodyPost_ret (v := .agg #[.int .i64 o.n, .bool true, .slice none 0 0]) (by simp [results, Tryz.results126, go_sem, z0, z1, z2]) rfl ?_
  exact ⟨_, _, rfl, own9, fr9.1, fr9.2, fun h => by cases h⟩

set_option maxRecDepth 8000 in
set_option maxHeartbeats 2000000 in
theorem ratMost_Et (n : Int) (o : O) (ok : OkO n o) (av an bv bn : Int) (h0 : 0 ≤ av) (h1 : bv < 0) (ha : av < n) (hab : -9223372036854775808 < bn ∧ bn ≤ 9223372036854775807) (A : Option Addr) (cap base : Nat) (w : World) (own : Own w base A cap o.m) (hbase : base ≤ w.heap.size) :
    Calls Tryz.prog 126 #[.agg #[.int .i64 o.n, .bool o.e, .slice A o.m.length cap], .bool true, .agg #[.int .i64 av, .int .i64 an], .agg #[.int .i64 bv, .int .i64 bn]] w (RRes w base A cap (rangedO o av.toNat ⟨0, bn + -1, false, true⟩)) := by
  have hrng := ok.rng
  have hno := ok.n_
  have HNO := hid hno
  have HRNG := hid hrng
  clear hno hrng
  obtain ⟨a, rfl⟩ := Int.eq_ofNat_of_zero_le h0
  have t1 : decide (0 ≤ (a : Int)) = true := by rw [decide_eq_true_eq]; omega
  have t2 : decide (0 ≤ bv) = false := by rw [decide_eq_false_iff_not]; omega
  have t3 : (bn == -9223372036854775808) = false := by rw [beq_eq_false_iff_ne]; omega
  rw [Int.toNat_natCast]
  obtain ⟨r, hr⟩ : ∃ r, r = rangedO o a ⟨0, bn + -1, false, true⟩ := ⟨_, rfl⟩
  rw [← hr]
  have HR := hid hr
  clear hr
  obtain ⟨hn1, hn2⟩ := hab
  have fr := Fr.refl w A
  have own0 := own
  obtain ⟨p0, p1, p2, p3, hbn, -⟩ := new_four w #[.int .i64 o.n, .bool o.e, .slice A o.m.length cap] #[.int .i64 (a : Int), .int .i64 an] #[.int .i64 bv, .int .i64 bn] #[.int .i64 0, .bool false, .slice none 0 0] 24 26 26 24
  replace own := own.below hbn
  replace fr := fr.below hbn
  go_enter Tryz.func126, Tryz.ntmps126
  obtain ⟨p0_0, p0_1, p0_2, p0_f⟩ := octbox p0
  obtain ⟨p1_0, p1_1, p1_f⟩ := opbox p1
  obtain ⟨p2_0, p2_1, p2_f⟩ := opbox p2
  clear own0
  go_wp2
  clear p0_0 p0_1 p0_2 p0_f p1_0 p1_1 p1_f p2_0 p2_1 p2_f
  generalize (((w.alloc (Obj.cells #[.int .i64 o.n, .bool o.e, .slice A o.m.length cap] 24)).alloc (Obj.cells #[.int .i64 (a : Int), .int .i64 an] 26)).alloc (Obj.cells #[.int .i64 bv, .int .i64 bn] 26)).alloc (Obj.cells #[.int .i64 0, .bool false, .slice none 0 0] 24) = w1 at *
  have f0 := later (show w1.cell? ⟨w.heap.size, 0, none⟩ = some (.int .i64 o.n) from p0.cell 0)
  have f1 := later (show w1.cell? ⟨w.heap.size, 1, none⟩ = some (.bool o.e) from p0.cell 1)
  have f2 := later (show w1.cell? ⟨w.heap.size, 2, none⟩ = some (.slice A o.m.length cap) from p0.cell 2)
  have j0 := later (show w1.cell? ⟨w.heap.size + 1, 0, none⟩ = some (.int .i64 (a : Int)) from p1.cell 0)
  have j1 := later (show w1.cell? ⟨w.heap.size + 1, 1, none⟩ = some (.int .i64 an) from p1.cell 1)
  have l0 := later (show w1.cell? ⟨w.heap.size + 1 + 1, 0, none⟩ = some (.int .i64 bv) from p2.cell 0)
  have l1 := later (show w1.cell? ⟨w.heap.size + 1 + 1, 1, none⟩ = some (.int .i64 bn) from p2.cell 1)
  refine wp_region_flow 5 (fun X => Below w1.heap.size w1 X) (by kernel_rfl) (by kernel_rfl) (Below.refl _ _).drew ?_
  (repeat (first | (refine Flow.skip (by rfl) ?_; simp only [Act.put, List.setIfInBounds_toArray, List.set_cons_zero, List.set_cons_succ]) | (refine' Flow.take _ (by rfl) (fun W hW R hR => ?_) ?_; rotate_left; (go_simp; (try go_bits); with_reducible exact hR); simp only [Act.put, List.setIfInBounds_toArray, List.set_cons_zero, List.set_cons_succ])))
  (refine Flow.call 190 #[.int .i64 (bn - 1)] (.agg #[.int .i64 0, .int .i64 (bn - 1), .bool false, .bool true]) (by rfl) (fun X hX => by go_simp) (fun X hX => (rupTo_ok (bn - 1) _).mono fun e' w' ⟨he, hb'⟩ => ⟨he, bstep hX hX.size hb'⟩) ?_; simp only [Act.put, List.setIfInBounds_toArray, List.set_cons_zero, List.set_cons_succ])
  intro w2 hbf
  clear f0 f1 f2 j0 j1 l0 l1
  replace p0 := p0.later hbf
  replace p1 := p1.later hbf
  replace p2 := p2.later hbf
  replace p3 := p3.later hbf
  replace own := own.below hbf
  replace fr := fr.below hbf
  clear hbf
  go_wp2_with fail
  have hbs := Nat.le_trans hbase fr.size
  have HB := hid (rranged_ok n o ok a base (by omega) ⟨0, bn + -1, false, true⟩ (by unfold I64; dsimp only; omega) A cap w2 own hbs)
  unfold Rg.val at HB
  dsimp only at HB
  rw [← HR.out] at HB
  rw [show bn + -1 = bn - 1 by omega] at HB
  (with_reducible refine (HB.out).mono ?_)
  rintro e_w3 w3 ⟨A1, c1, rfl, own_w3, ha_w3, hg_w3, hp_A1⟩
  replace p0 := p0.kept hg_w3 (row_ne own p0 (by decide))
  replace p1 := p1.kept hg_w3 (row_ne own p1 (by decide))
  replace p2 := p2.kept hg_w3 (row_ne own p2 (by decide))
  replace p3 := p3.kept hg_w3 (row_ne own p3 (by decide))
  replace fr := fr.call ha_w3 hg_w3
  clear own ha_w3 hg_w3
  have own := own_w3
  clear own_w3
  clear HB
  obtain ⟨p3_0, p3_1, p3_2, p3_f⟩ := octbox p3
  go_wp2
  clear p3_0 p3_1 p3_2 p3_f
  have q9 := p3.set3 (v0 := .int .i64 r.n) (v1 := .bool r.e) (v2 := .slice A1 r.m.length c1)
  have fr9 := fr.set3 (g := w.heap.size + 1 + 1 + 1) (v0 := .int .i64 r.n) (v1 := .bool r.e) (v2 := .slice A1 r.m.length c1) (by omega)
  have own9 := own.far3 (g := w.heap.size + 1 + 1 + 1) (v0 := .int .i64 r.n) (v1 := .bool r.e) (v2 := .slice A1 r.m.length c1) (own_blk' own p3 (by decide))
  obtain ⟨z0, z1, z2, fz⟩ := octbox q9
  refine bodyPost_ret (v := .agg #[.int .i64 r.n, .bool r.e, .slice A1 r.m.length c1]) (by simp [results, Tryz.results126, go_sem, z0, z1, z2]) rfl ?_
  exact ⟨_, _, rfl, own9, fr9.1, fr9.2, hp_A1⟩

set_option maxRecDepth 8000 in
set_option maxHeartbeats 2000000 in
theorem ratMost_Ef (n : Int) (o : O) (ok : OkO n o) (av an bv bn : Int) (h0 : 0 ≤ av) (h1 : bv < 0) (ha : av < n) (hab : -9223372036854775808 ≤ bn ∧ bn ≤ 9223372036854775807) (A : Option Addr) (cap base : Nat) (w : World) (own : Own w base A cap o.m) (hbase : base ≤ w.heap.size) :
    Calls Tryz.prog 126 #[.agg #[.int .i64 o.n, .bool o.e, .slice A o.m.length cap], .bool false, .agg #[.int .i64 av, .int .i64 an], .agg #[.int .i64 bv, .int .i64 bn]] w (RRes w base A cap (rangedO o av.toNat ⟨0, bn, false, true⟩)) := by
  have hrng := ok.rng
  have hno := ok.n_
  have HNO := hid hno
  have HRNG := hid hrng
  clear hno hrng
  obtain ⟨a, rfl⟩ := Int.eq_ofNat_of_zero_le h0
  have t1 : decide (0 ≤ (a : Int)) = true := by rw [decide_eq_true_eq]; omega
  have t2 : decide (0 ≤ bv) = false := by rw [decide_eq_false_iff_not]; omega
  rw [Int.toNat_natCast]
  obtain ⟨r, hr⟩ : ∃ r, r = rangedO o a ⟨0, bn, false, true⟩ := ⟨_, rfl⟩
  rw [← hr]
  have HR := hid hr
  clear hr
  obtain ⟨hn1, hn2⟩ := hab
  have fr := Fr.refl w A
  have own0 := own
  obtain ⟨p0, p1, p2, p3, hbn, -⟩ := new_four w #[.int .i64 o.n, .bool o.e, .slice A o.m.length cap] #[.int .i64 (a : Int), .int .i64 an] #[.int .i64 bv, .int .i64 bn] #[.int .i64 0, .bool false, .slice none 0 0] 24 26 26 24
  replace own := own.below hbn
  replace fr := fr.below hbn
  go_enter Tryz.func126, Tryz.ntmps126
  obtain ⟨p0_0, p0_1, p0_2, p0_f⟩ := octbox p0
  obtain ⟨p1_0, p1_1, p1_f⟩ := opbox p1
  obtain ⟨p2_0, p2_1, p2_f⟩ := opbox p2
  clear own0
  go_wp2
  clear p0_0 p0_1 p0_2 p0_f p1_0 p1_1 p1_f p2_0 p2_1 p2_f
  generalize (((w.alloc (Obj.cells #[.int .i64 o.n, .bool o.e, .slice A o.m.length cap] 24)).alloc (Obj.cells #[.int .i64 (a : Int), .int .i64 an] 26)).alloc (Obj.cells #[.int .i64 bv, .int .i64 bn] 26)).alloc (Obj.cells #[.int .i64 0, .bool false, .slice none 0 0] 24) = w1 at *
  have f0 := later (show w1.cell? ⟨w.heap.size, 0, none⟩ = some (.int .i64 o.n) from p0.cell 0)
  have f1 := later (show w1.cell? ⟨w.heap.size, 1, none⟩ = some (.bool o.e) from p0.cell 1)
  have f2 := later (show w1.cell? ⟨w.heap.size, 2, none⟩ = some (.slice A o.m.length cap) from p0.cell 2)
  have j0 := later (show w1.cell? ⟨w.heap.size + 1, 0, none⟩ = some (.int .i64 (a : Int)) from p1.cell 0)
  have j1 := later (show w1.cell? ⟨w.heap.size + 1, 1, none⟩ = some (.int .i64 an) from p1.cell 1)
  have l0 := later (show w1.cell? ⟨w.heap.size + 1 + 1, 0, none⟩ = some (.int .i64 bv) from p2.cell 0)
  have l1 := later (show w1.cell? ⟨w.heap.size + 1 + 1, 1, none⟩ = some (.int .i64 bn) from p2.cell 1)
  refine wp_region_flow 5 (fun X => Below w1.heap.size w1 X) (by kernel_rfl) (by kernel_rfl) (Below.refl _ _).drew ?_
  (repeat (first | (refine Flow.skip (by rfl) ?_; simp only [Act.put, List.setIfInBounds_toArray, List.set_cons_zero, List.set_cons_succ]) | (refine' Flow.take _ (by rfl) (fun W hW R hR => ?_) ?_; rotate_left; (go_simp; (try go_bits); with_reducible exact hR); simp only [Act.put, List.setIfInBounds_toArray, List.set_cons_zero, List.set_cons_succ])))
  (refine Flow.call 190 #[.int .i64 (bn)] (.agg #[.int .i64 0, .int .i64 (bn), .bool false, .bool true]) (by rfl) (fun X hX => by go_simp) (fun X hX => (rupTo_ok (bn) _).mono fun e' w' ⟨he, hb'⟩ => ⟨he, bstep hX hX.size hb'⟩) ?_; simp only [Act.put, List.setIfInBounds_toArray, List.set_cons_zero, List.set_cons_succ])
  intro w2 hbf
  clear f0 f1 f2 j0 j1 l0 l1
  replace p0 := p0.later hbf
  replace p1 := p1.later hbf
  replace p2 := p2.later hbf
  replace p3 := p3.later hbf
  replace own := own.below hbf
  replace fr := fr.below hbf
  clear hbf
  go_wp2_with fail
  have hbs := Nat.le_trans hbase fr.size
  have HB := hid (rranged_ok n o ok a base (by omega) ⟨0, bn, false, true⟩ (by unfold I64; dsimp only; omega) A cap w2 own hbs)
  unfold Rg.val at HB
  dsimp only at HB
  rw [← HR.out] at HB
  (with_reducible refine (HB.out).mono ?_)
  rintro e_w3 w3 ⟨A1, c1, rfl, own_w3, ha_w3, hg_w3, hp_A1⟩
  replace p0 := p0.kept hg_w3 (row_ne own p0 (by decide))
  replace p1 := p1.kept hg_w3 (row_ne own p1 (by decide))
  replace p2 := p2.kept hg_w3 (row_ne own p2 (by decide))
  replace p3 := p3.kept hg_w3 (row_ne own p3 (by decide))
  replace fr := fr.call ha_w3 hg_w3
  clear own ha_w3 hg_w3
  have own := own_w3
  clear own_w3
  clear HB
  obtain ⟨p3_0, p3_1, p3_2, p3_f⟩ := octbox p3
  go_wp2
  clear p3_0 p3_1 p3_2 p3_f
  have q9 := p3.set3 (v0 := .int .i64 r.n) (v1 := .bool r.e) (v2 := .slice A1 r.m.length c1)
  have fr9 := fr.set3 (g := w.heap.size + 1 + 1 + 1) (v0 := .int .i64 r.n) (v1 := .bool r.e) (v2 := .slice A1 r.m.length c1) (by omega)
  have own9 := own.far3 (g := w.heap.size + 1 + 1 + 1) (v0 := .int .i64 r.n) (v1 := .bool r.e) (v2 := .slice A1 r.m.length c1) (own_blk' own p3 (by decide))
  obtain ⟨z0, z1, z2, fz⟩ := octbox q9
  refine bodyPost_ret (v := .agg #[.int .i64 r.n, .bool r.e, .slice A1 r.m.length c1]) (by simp [results, Tryz.results126, go_sem, z0, z1, z2]) rfl ?_
  exact ⟨_, _, rfl, own9, fr9.1, fr9.2, hp_A1⟩

set_option maxRecDepth 8000 in
set_option maxHeartbeats 2000000 in
theorem ratMost_Ft (n : Int) (o : O) (ok : OkO n o) (av an bv bn : Int) (h0 : av < 0) (h1 : 0 ≤ bv) (hab : an = 9223372036854775807) (A : Option Addr) (cap base : Nat) (w : World) (own : Own w base A cap o.m) (hbase : base ≤ w.heap.size) :
    Calls Tryz.prog 126 #[.agg #[.int .i64 o.n, .bool o.e, .slice A o.m.length cap], .bool true, .agg #[.int .i64 av, .int .i64 an], .agg #[.int .i64 bv, .int .i64 bn]] w (RRes w base A cap (emptyO o.n)) := by
  have hrng := ok.rng
  have hno := ok.n_
  have HNO := hid hno
  have HRNG := hid hrng
  clear hno hrng
  obtain ⟨b, rfl⟩ := Int.eq_ofNat_of_zero_le h1
  have t1 : decide (0 ≤ av) = false := by rw [decide_eq_false_iff_not]; omega
  have t2 : decide (0 ≤ (b : Int)) = true := by rw [decide_eq_true_eq]; omega
  have t3 : (an == 9223372036854775807) = true := by rw [beq_iff_eq]; exact hab
  clear hab
  have fr := Fr.refl w A
  have own0 := own
  obtain ⟨p0, p1, p2, p3, hbn, -⟩ := new_four w #[.int .i64 o.n, .bool o.e, .slice A o.m.length cap] #[.int .i64 av, .int .i64 an] #[.int .i64 (b : Int), .int .i64 bn] #[.int .i64 0, .bool false, .slice none 0 0] 24 26 26 24
  replace own := own.below hbn
  replace fr := fr.below hbn
  go_enter Tryz.func126, Tryz.ntmps126
  obtain ⟨p0_0, p0_1, p0_2, p0_f⟩ := octbox p0
  obtain ⟨p1_0, p1_1, p1_f⟩ := opbox p1
  obtain ⟨p2_0, p2_1, p2_f⟩ := opbox p2
  clear own0
  go_wp2_with fail
  clear p0_0 p0_1 p0_2 p0_f p1_0 p1_1 p1_f p2_0 p2_1 p2_f
  generalize (((w.alloc (Obj.cells #[.int .i64 o.n, .bool o.e, .slice A o.m.length cap] 24)).alloc (Obj.cells #[.int .i64 av, .int .i64 an] 26)).alloc (Obj.cells #[.int .i64 (b : Int), .int .i64 bn] 26)).alloc (Obj.cells #[.int .i64 0, .bool false, .slice none 0 0] 24) = w1 at *
  (with_reducible refine (rempty_any o.n w1).mono ?_)
  rintro e_w2 w2 ⟨rfl, hb_w2⟩
  replace p0 := p0.later hb_w2
  replace p1 := p1.later hb_w2
  replace p2 := p2.later hb_w2
  replace p3 := p3.later hb_w2
  replace own := own.below hb_w2
  replace fr := fr.below hb_w2
  obtain ⟨p3_0, p3_1, p3_2, p3_f⟩ := octbox p3
  go_wp2
  clear p3_0 p3_1 p3_2 p3_f
  unfold emptyO
  have own1 : Own w2 base none 0 [] := own_nil _ _
  replace fr : Fr w w2 A none := ⟨.inr row_none, fr.2⟩
  have q9 := p3.set3 (v0 := .int .i64 o.n) (v1 := .bool true) (v2 := .slice none 0 0)
  have fr9 := fr.set3 (g := w.heap.size + 1 + 1 + 1) (v0 := .int .i64 o.n) (v1 := .bool true) (v2 := .slice none 0 0) (by omega)
  have own9 := own1.far3 (g := w.heap.size + 1 + 1 + 1) (v0 := .int .i64 o.n) (v1 := .bool true) (v2 := .slice none 0 0) (own_blk' own1 p3 (by decide))
  obtain ⟨z0, z1, z2, fz⟩ := octbox q9
  refine bodyPost_ret (v := .agg #[.int .i64 o.n, .bool true, .slice none 0 0]) (by simp [results, Tryz.results126, go_sem, z0, z1, z2]) rfl ?_
  exact ⟨_, _, rfl, own9, fr9.1, fr9.2, fun h => by cases h⟩

set_option maxRecDepth 8000 in
set_option maxHeartbeats 2000000 in
theorem ratMost_Gt (n : Int) (o : O) (ok : OkO n o) (av an bv bn : Int) (h0 : av < 0) (h1 : 0 ≤ bv) (hb : bv < n) (hab : -9223372036854775808 ≤ an ∧ an < 9223372036854775807) (A : Option Addr) (cap base : Nat) (w : World) (own : Own w base A cap o.m) (hbase : base ≤ w.heap.size) :
    Calls Tryz.prog 126 #[.agg #[.int .i64 o.n, .bool o.e, .slice A o.m.length cap], .bool true, .agg #[.int .i64 av, .int .i64 an], .agg #[.int .i64 bv, .int .i64 bn]] w (RRes w base A cap (rangedO o bv.toNat ⟨an + 1, 0, true, false⟩)) := by
  have hrng := ok.rng
  have hno := ok.n_
  have HNO := hid hno
  have HRNG := hid hrng
  clear hno hrng
  obtain ⟨b, rfl⟩ := Int.eq_ofNat_of_zero_le h1
  have t1 : decide (0 ≤ av) = false := by rw [decide_eq_false_iff_not]; omega
  have t2 : decide (0 ≤ (b : Int)) = true := by rw [decide_eq_true_eq]; omega
  have t3 : (an == 9223372036854775807) = false := by rw [beq_eq_false_iff_ne]; omega
  rw [Int.toNat_natCast]
  obtain ⟨r, hr⟩ : ∃ r, r = rangedO o b ⟨an + 1, 0, true, false⟩ := ⟨_, rfl⟩
  rw [← hr]
  have HR := hid hr
  clear hr
  obtain ⟨hn1, hn2⟩ := hab
  have fr := Fr.refl w A
  have own0 := own
  obtain ⟨p0, p1, p2, p3, hbn, -⟩ := new_four w #[.int .i64 o.n, .bool o.e, .slice A o.m.length cap] #[.int .i64 av, .int .i64 an] #[.int .i64 (b : Int), .int .i64 bn] #[.int .i64 0, .bool false, .slice none 0 0] 24 26 26 24
  replace own := own.below hbn
  replace fr := fr.below hbn
  go_enter Tryz.func126, Tryz.ntmps126
  obtain ⟨p0_0, p0_1, p0_2, p0_f⟩ := octbox p0
  obtain ⟨p1_0, p1_1, p1_f⟩ := opbox p1
  obtain ⟨p2_0, p2_1, p2_f⟩ := opbox p2
  clear own0
  go_wp2
  clear p0_0 p0_1 p0_2 p0_f p1_0 p1_1 p1_f p2_0 p2_1 p2_f
  generalize (((w.alloc (Obj.cells #[.int .i64 o.n, .bool o.e, .slice A o.m.length cap] 24)).alloc (Obj.cells #[.int .i64 av, .int .i64 an] 26)).alloc (Obj.cells #[.int .i64 (b : Int), .int .i64 bn] 26)).alloc (Obj.cells #[.int .i64 0, .bool false, .slice none 0 0] 24) = w1 at *
  have f0 := later (show w1.cell? ⟨w.heap.size, 0, none⟩ = some (.int .i64 o.n) from p0.cell 0)
  have f1 := later (show w1.cell? ⟨w.heap.size, 1, none⟩ = some (.bool o.e) from p0.cell 1)
  have f2 := later (show w1.cell? ⟨w.heap.size, 2, none⟩ = some (.slice A o.m.length cap) from p0.cell 2)
  have j0 := later (show w1.cell? ⟨w.heap.size + 1, 0, none⟩ = some (.int .i64 av) from p1.cell 0)
  have j1 := later (show w1.cell? ⟨w.heap.size + 1, 1, none⟩ = some (.int .i64 an) from p1.cell 1)
  have l0 := later (show w1.cell? ⟨w.heap.size + 1 + 1, 0, none⟩ = some (.int .i64 (b : Int)) from p2.cell 0)
  have l1 := later (show w1.cell? ⟨w.heap.size + 1 + 1, 1, none⟩ = some (.int .i64 bn) from p2.cell 1)
  refine wp_region_flow 5 (fun X => Below w1.heap.size w1 X) (by kernel_rfl) (by kernel_rfl) (Below.refl _ _).drew ?_
  (repeat (first | (refine Flow.skip (by rfl) ?_; simp only [Act.put, List.setIfInBounds_toArray, List.set_cons_zero, List.set_cons_succ]) | (refine' Flow.take _ (by rfl) (fun W hW R hR => ?_) ?_; rotate_left; (go_simp; (try go_bits); with_reducible exact hR); simp only [Act.put, List.setIfInBounds_toArray, List.set_cons_zero, List.set_cons_succ])))
  (refine Flow.call 191 #[.int .i64 (an + 1)] (.agg #[.int .i64 (an + 1), .int .i64 0, .bool true, .bool false]) (by rfl) (fun X hX => by go_simp) (fun X hX => (rfrom_ok (an + 1) _).mono fun e' w' ⟨he, hb'⟩ => ⟨he, bstep hX hX.size hb'⟩) ?_; simp only [Act.put, List.setIfInBounds_toArray, List.set_cons_zero, List.set_cons_succ])
  intro w2 hbf
  clear f0 f1 f2 j0 j1 l0 l1
  replace p0 := p0.later hbf
  replace p1 := p1.later hbf
  replace p2 := p2.later hbf
  replace p3 := p3.later hbf
  replace own := own.below hbf
  replace fr := fr.below hbf
  clear hbf
  go_wp2_with fail
  have hbs := Nat.le_trans hbase fr.size
  have HB := hid (rranged_ok n o ok b base (by omega) ⟨an + 1, 0, true, false⟩ (by unfold I64; dsimp only; omega) A cap w2 own hbs)
  unfold Rg.val at HB
  dsimp only at HB
  rw [← HR.out] at HB
  (with_reducible refine (HB.out).mono ?_)
  rintro e_w3 w3 ⟨A1, c1, rfl, own_w3, ha_w3, hg_w3, hp_A1⟩
  replace p0 := p0.kept hg_w3 (row_ne own p0 (by decide))
  replace p1 := p1.kept hg_w3 (row_ne own p1 (by decide))
  replace p2 := p2.kept hg_w3 (row_ne own p2 (by decide))
  replace p3 := p3.kept hg_w3 (row_ne own p3 (by decide))
  replace fr := fr.call ha_w3 hg_w3
  clear own ha_w3 hg_w3
  have own := own_w3
  clear own_w3
  clear HB
  obtain ⟨p3_0, p3_1, p3_2, p3_f⟩ := octbox p3
  go_wp2
  clear p3_0 p3_1 p3_2 p3_f
  have q9 := p3.set3 (v0 := .int .i64 r.n) (v1 := .bool r.e) (v2 := .slice A1 r.m.length c1)
  have fr9 := fr.set3 (g := w.heap.size + 1 + 1 + 1) (v0 := .int .i64 r.n) (v1 := .bool r.e) (v2 := .slice A1 r.m.length c1) (by omega)
  have own9 := own.far3 (g := w.heap.size + 1 + 1 + 1) (v0 := .int .i64 r.n) (v1 := .bool r.e) (v2 := .slice A1 r.m.length c1) (own_blk' own p3 (by decide))
  obtain ⟨z0, z1, z2, fz⟩ := octbox q9
  refine bodyPost_ret (v := .agg #[.int .i64 r.n, .bool r.e, .slice A1 r.m.length c1]) (by simp [results, Tryz.results126, go_sem, z0, z1, z2]) rfl ?_
  exact ⟨_, _, rfl, own9, fr9.1, fr9.2, hp_A1⟩

set_option maxRecDepth 8000 in
set_option maxHeartbeats 2000000 in
theorem ratMost_Gf (n : Int) (o : O) (ok : OkO n o) (av an bv bn : Int) (h0 : av < 0) (h1 : 0 ≤ bv) (hb : bv < n) (hab : -9223372036854775808 ≤ an ∧ an ≤ 9223372036854775807) (A : Option Addr) (cap base : Nat) (w : World) (own : Own w base A cap o.m) (hbase : base ≤ w.heap.size) :
    Calls Tryz.prog 126 #[.agg #[.int .i64 o.n, .bool o.e, .slice A o.m.length cap], .bool false, .agg #[.int .i64 av, .int .i64 an], .agg #[.int .i64 bv, .int .i64 bn]] w (RRes w base A cap (rangedO o bv.toNat ⟨an, 0, true, false⟩)) := by
  have hrng := ok.rng
  have hno := ok.n_
  have HNO := hid hno
  have HRNG := hid hrng
  clear hno hrng
  obtain ⟨b, rfl⟩ := Int.eq_ofNat_of_zero_le h1
  have t1 : decide (0 ≤ av) = false := by rw [decide_eq_false_iff_not]; omega
  have t2 : decide (0 ≤ (b : Int)) = true := by rw [decide_eq_true_eq]; omega
  rw [Int.toNat_natCast]
  obtain ⟨r, hr⟩ : ∃ r, r = rangedO o b ⟨an, 0, true, false⟩ := ⟨_, rfl⟩
  rw [← hr]
  have HR := hid hr
  clear hr
  obtain ⟨hn1, hn2⟩ := hab
  have fr := Fr.refl w A
  have own0 := own
  obtain ⟨p0, p1, p2, p3, hbn, -⟩ := new_four w #[.int .i64 o.n, .bool o.e, .slice A o.m.length cap] #[.int .i64 av, .int .i64 an] #[.int .i64 (b : Int), .int .i64 bn] #[.int .i64 0, .bool false, .slice none 0 0] 24 26 26 24
  replace own := own.below hbn
  replace fr := fr.below hbn
  go_enter Tryz.func126, Tryz.ntmps126
  obtain ⟨p0_0, p0_1, p0_2, p0_f⟩ := octbox p0
  obtain ⟨p1_0, p1_1, p1_f⟩ := opbox p1
  obtain ⟨p2_0, p2_1, p2_f⟩ := opbox p2
  clear own0
  go_wp2
  clear p0_0 p0_1 p0_2 p0_f p1_0 p1_1 p1_f p2_0 p2_1 p2_f
  generalize (((w.alloc (Obj.cells #[.int .i64 o.n, .bool o.e, .slice A o.m.length cap] 24)).alloc (Obj.cells #[.int .i64 av, .int .i64 an] 26)).alloc (Obj.cells #[.int .i64 (b : Int), .int .i64 bn] 26)).alloc (Obj.cells #[.int .i64 0, .bool false, .slice none 0 0] 24) = w1 at *
  have f0 := later (show w1.cell? ⟨w.heap.size, 0, none⟩ = some (.int .i64 o.n) from p0.cell 0)
  have f1 := later (show w1.cell? ⟨w.heap.size, 1, none⟩ = some (.bool o.e) from p0.cell 1)
  have f2 := later (show w1.cell? ⟨w.heap.size, 2, none⟩ = some (.slice A o.m.length cap) from p0.cell 2)
  have j0 := later (show w1.cell? ⟨w.heap.size + 1, 0, none⟩ = some (.int .i64 av) from p1.cell 0)
  have j1 := later (show w1.cell? ⟨w.heap.size + 1, 1, none⟩ = some (.int .i64 an) from p1.cell 1)
  have l0 := later (show w1.cell? ⟨w.heap.size + 1 + 1, 0, none⟩ = some (.int .i64 (b : Int)) from p2.cell 0)
  have l1 := later (show w1.cell? ⟨w.heap.size + 1 + 1, 1, none⟩ = some (.int .i64 bn) from p2.cell 1)
  refine wp_region_flow 5 (fun X => Below w1.heap.size w1 X) (by kernel_rfl) (by kernel_rfl) (Below.refl _ _).drew ?_
  (repeat (first | (refine Flow.skip (by rfl) ?_; simp only [Act.put, List.setIfInBounds_toArray, List.set_cons_zero, List.set_cons_succ]) | (refine' Flow.take _ (by rfl) (fun W hW R hR => ?_) ?_; rotate_left; (go_simp; (try go_bits); with_reducible exact hR); simp only [Act.put, List.setIfInBounds_toArray, List.set_cons_zero, List.set_cons_succ])))
  (refine Flow.call 191 #[.int .i64 (an)] (.agg #[.int .i64 (an), .int .i64 0, .bool true, .bool false]) (by rfl) (fun X hX => by go_simp) (fun X hX => (rfrom_ok (an) _).mono fun e' w' ⟨he, hb'⟩ => ⟨he, bstep hX hX.size hb'⟩) ?_; simp only [Act.put, List.setIfInBounds_toArray, List.set_cons_zero, List.set_cons_succ])
  intro w2 hbf
  clear f0 f1 f2 j0 j1 l0 l1
  replace p0 := p0.later hbf
  replace p1 := p1.later hbf
  replace p2 := p2.later hbf
  replace p3 := p3.later hbf
  replace own := own.below hbf
  replace fr := fr.below hbf
  clear hbf
  go_wp2_with fail
  have hbs := Nat.le_trans hbase fr.size
  have HB := hid (rranged_ok n o ok b base (by omega) ⟨an, 0, true, false⟩ (by unfold I64; dsimp only; omega) A cap w2 own hbs)
  unfold Rg.val at HB
  dsimp only at HB
  rw [← HR.out] at HB
  (with_reducible refine (HB.out).mono ?_)
  rintro e_w3 w3 ⟨A1, c1, rfl, own_w3, ha_w3, hg_w3, hp_A1⟩
  replace p0 := p0.kept hg_w3 (row_ne own p0 (by decide))
  replace p1 := p1.kept hg_w3 (row_ne own p1 (by decide))
  replace p2 := p2.kept hg_w3 (row_ne own p2 (by decide))
  replace p3 := p3.kept hg_w3 (row_ne own p3 (by decide))
  replace fr := fr.call ha_w3 hg_w3
  clear own ha_w3 hg_w3
  have own := own_w3
  clear own_w3
  clear HB
  obtain ⟨p3_0, p3_1, p3_2, p3_f⟩ := octbox p3
  go_wp2
  clear p3_0 p3_1 p3_2 p3_f
  have q9 := p3.set3 (v0 := .int .i64 r.n) (v1 := .bool r.e) (v2 := .slice A1 r.m.length c1)
  have fr9 := fr.set3 (g := w.heap.size + 1 + 1 + 1) (v0 := .int .i64 r.n) (v1 := .bool r.e) (v2 := .slice A1 r.m.length c1) (by omega)
  have own9 := own.far3 (g := w.heap.size + 1 + 1 + 1) (v0 := .int .i64 r.n) (v1 := .bool r.e) (v2 := .slice A1 r.m.length c1) (own_blk' own p3 (by decide))
  obtain ⟨z0, z1, z2, fz⟩ := octbox q9
  refine bodyPost_ret (v := .agg #[.int .i64 r.n, .bool r.e, .slice A1 r.m.length c1]) (by simp [results, Tryz.results126, go_sem, z0, z1, z2]) rfl ?_
  exact ⟨_, _, rfl, own9, fr9.1, fr9.2, hp_A1⟩

theorem ratMost_ok (n : Int) (o : O) (ok : OkO n o) (av an bv bn : Int) (s : Bool) (ha : av < n) (hb : bv < n) (hab : 0 ≤ av ∨ 0 ≤ bv) (ia : I64 an) (ib : I64 bn) (A : Option Addr) (cap base : Nat) (w : World) (own : Own w base A cap o.m) (hbase : base ≤ w.heap.size) :
    Calls Tryz.prog 126 #[.agg #[.int .i64 o.n, .bool o.e, .slice A o.m.length cap], .bool s, .agg #[.int .i64 av, .int .i64 an], .agg #[.int .i64 bv, .int .i64 bn]] w (RRes w base A cap (atMostO o av an bv bn s)) := by
  unfold I64 at ia ib
  unfold atMostO
  by_cases h0 : 0 ≤ av
  · rw [if_pos h0]
    by_cases h1 : 0 ≤ bv
    · rw [if_pos h1]
      by_cases e : av = bv
      · rw [if_pos e]
        cases s
        · exact ratMost_Af n o ok av an bv bn h0 e A cap base w own hbase
        · exact ratMost_At n o ok av an bv bn h0 e A cap base w own hbase
      · rw [if_neg e]
        cases s
        · exact ratMost_Cf n o ok av an bv bn h0 h1 ha hb e A cap base w own hbase
        · exact ratMost_Ct n o ok av an bv bn h0 h1 ha hb e A cap base w own hbase
    · rw [if_neg h1]
      cases s
      · have := ratMost_Ef n o ok av an bv bn h0 (by omega) ha (by omega) A cap base w own hbase
        simpa [lessD] using this
      · by_cases e : bn = -9223372036854775808
        · rw [if_pos (by simp [e])]
          exact ratMost_Dt n o ok av an bv bn h0 (by omega) e A cap base w own hbase
        · rw [if_neg (by simp [e])]
          have := ratMost_Et n o ok av an bv bn h0 (by omega) ha (by omega) A cap base w own hbase
          simpa [lessD] using this
  · rw [if_neg h0]
    cases s
    · have := ratMost_Gf n o ok av an bv bn (by omega) (by omega) hb (by omega) A cap base w own hbase
      simpa [lessD] using this
    · by_cases e : an = 9223372036854775807
      · rw [if_pos (by simp [e])]
        exact ratMost_Ft n o ok av an bv bn (by omega) (by omega) e A cap base w own hbase
      · rw [if_neg (by simp [e])]
        have := ratMost_Gt n o ok av an bv bn (by omega) (by omega) hb (by omega) A cap base w own hbase
        rw [show an - lessD true = an + 1 from by unfold lessD; simp]
        exact this
end Go.Proofs.YtnmpgijiimglcaaGreat
