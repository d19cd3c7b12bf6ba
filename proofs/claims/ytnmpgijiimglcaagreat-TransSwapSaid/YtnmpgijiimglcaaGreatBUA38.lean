/-
  gnomonlaw17.known: it says yes.
  gnomonlaw17.SafeFits.
  Ranges that fit: no two numbers go wrong; ranges that don't: two do. Plain, and gnomonref15.Has.
  gnomonlaw17.SafeRanges.
  From the row to the walk: five parameters; a slice of int64 whose cells are such numbers.
-/
import Derived.Test.YtnmpgijiimglcaaGreatSEdge
import Derived.Test.YtnmpgijiimglcaaGreatBUA24
import Derived.Test.YtnmpgijiimglcaaGreatRTop
import Derived.Test.YtnmpgijiimglcaaGreatBUA35
import Derived.Test.YtnmpgijiimglcaaGreatBUA36
import Derived.Test.YtnmpgijiimglcaaGreatBUA29
namespace Go.Proofs.YtnmpgijiimglcaaGreat
section
open Go.RowKit
attribute [local go_sem ↓] Go.wp_at_zero Go.wp_at_succ

def k17 : O := ⟨1, false, boundM 2 0 1 10 (topM 2 2)⟩
def e17 (kd : Int) : Edg := ⟨0, 0, kd, 0, -1, 0, 0, 0, -1, 1⟩
theorem k17_len : k17.m.length = 4 := by unfold k17; dsimp only; rw [boundM_len, topM_len 2 2]
theorem k17_ok : check k17 = 0 := by kernel_rfl
theorem k17_e4 : transErr k17 (e17 4) = 0 := by kernel_rfl
theorem k17_e5 : transErr k17 (e17 5) = 0 := by kernel_rfl
theorem k17_4 : ((closeO k17).e || fits4 (opdR (2 * (closeO k17).n).toNat (closeO k17).m 0 0) (opdR (2 * (closeO k17).n).toNat (closeO k17).m (-1) 1)) = true := by kernel_rfl
theorem k17_5 : ((closeO k17).e || fits5 (opdR (2 * (closeO k17).n).toNat (closeO k17).m 0 0) (opdR (2 * (closeO k17).n).toNat (closeO k17).m (-1) 1)) = false := by kernel_rfl
theorem k17_s4 (A : Option Addr) (cap : Nat) (W : World) (h : Rd W W.heap.size A k17.m) : Calls Tryz.prog 43 #[.agg #[.int .i64 1, .bool false, .slice A 4 cap], .agg #[.int .i64 0, .int .i64 0, .int .i64 4, .int .i64 0, .int .i64 (-1), .int .i64 0, .int .i64 0, .int .i64 0, .int .i64 (-1), .int .i64 1], .int .i64 0] W fun e w' => e = .returned (.tuple #[.bool true, .int .i64 0]) ∧ Below W.heap.size W w' := by
  have q := sedge_4 k17 (transAns k17 (e17 4)) 0 0 0 (-1) 0 0 0 (-1) 1 0 (by omega) (by unfold I64; omega) k17_ok (by show (0 : Int) < 1; omega) (by unfold I64; omega) (closeO k17) rfl A cap W h (by rw [k17_len]; omega) (fun V hV hr => by
    have h2 := tEdge_self k17 0 0 (-1) 0 0 (-1) 1 0 (by unfold I64; omega) (by omega) (by omega) (by show (0 : Int) < 1; omega) A cap V hr (by rw [k17_len]; omega) W.heap.size hV
    rw [show (⟨0, 0, 4, ((0 : Nat) : Int), -1, 0, ((0 : Nat) : Int), 0, -1, 1⟩ : Edg) = e17 4 from rfl, k17_e4] at h2
    exact h2)
  rw [k17_4, k17_len] at q
  exact q
theorem k17_s5 (A : Option Addr) (cap : Nat) (W : World) (h : Rd W W.heap.size A k17.m) : Calls Tryz.prog 43 #[.agg #[.int .i64 1, .bool false, .slice A 4 cap], .agg #[.int .i64 0, .int .i64 0, .int .i64 5, .int .i64 0, .int .i64 (-1), .int .i64 0, .int .i64 0, .int .i64 0, .int .i64 (-1), .int .i64 1], .int .i64 0] W fun e w' => e = .returned (.tuple #[.bool false, .int .i64 0]) ∧ Below W.heap.size W w' := by
  have q := sedge_5 k17 (transAns k17 (e17 5)) 0 0 0 (-1) 0 0 0 (-1) 1 0 (by omega) (by unfold I64; omega) k17_ok (by show (0 : Int) < 1; omega) (by unfold I64; omega) (closeO k17) rfl A cap W h (by rw [k17_len]; omega) (fun V hV hr => by
    have h2 := tEdge_self5 k17 0 0 (-1) 0 0 (-1) 1 0 (by unfold I64; omega) (by omega) (by omega) (by show (0 : Int) < 1; omega) A cap V hr (by rw [k17_len]; omega) W.heap.size hV
    rw [show (⟨0, 0, 5, ((0 : Nat) : Int), -1, 0, ((0 : Nat) : Int), 0, -1, 1⟩ : Edg) = e17 5 from rfl, k17_e5] at h2
    exact h2)
  rw [k17_5, k17_len] at q
  exact q
def r15 : Rg := ⟨1, 5, true, true⟩
theorem k17_f (W : World) : Calls Tryz.prog 46 #[.int .i64 7, .agg #[.int .i64 0, .int .i64 0, .bool false, .bool false], .agg #[.int .i64 1, .int .i64 5, .bool true, .bool true]] W fun e w' => e = .returned (.bool true) ∧ Below W.heap.size W w' :=
  safefits_7 rg0 r15 (by unfold rg0 loR hiR I64; simp) (by unfold r15 loR hiR I64; simp) W

set_option maxRecDepth 8000 in
set_option maxHeartbeats 4000000 in
theorem known17_any (w : World) :
    Calls Tryz.prog 42 #[] w fun e w' => e = .returned (.bool true) ∧ Below w.heap.size w w' := by
  have u_len : (topM 2 2).length = 4 := topM_len 2 2
  have HL := hid k17_len
  have HS4 := hid k17_s4
  have HS5 := hid k17_s5
  go_enter Tryz.func42, Tryz.ntmps42
  go_wp2_with fail
  refine (rtop_any 1 2 w (by omega) rfl).mono ?_
  rintro e1 w1 ⟨A1, c1, rfl, own1, hb1⟩
  dsimp only at own1 ⊢
  rw [u_len]
  have HB1 := hid (rbound_ok 1 (topM 2 2) 2 0 1 w.heap.size 10 A1 c1 w1 own1 hb1.size rfl (by omega) u_len (by omega) (by omega) (by omega))
  rw [u_len] at HB1
  go_wp2_with fail
  refine HB1.out.mono ?_
  clear HB1
  rintro e2 w2 ⟨rfl, own2, hb2⟩
  have hb0 : Below w.heap.size w w2 := hb1.trans hb2
  replace own2 : Own w2 w.heap.size A1 c1 k17.m := own2
  have hg : w.heap.size ≤ w2.heap.size := hb0.size
  clear own1 hb1 hb2 u_len
  obtain ⟨p1, p2, hbn, -⟩ := new_two w2 #[.int .i64 1, .bool false, .slice A1 4 c1] #[.int .i64 0, .int .i64 0, .int .i64 4, .int .i64 0, .int .i64 (-1), .int .i64 0, .int .i64 0, .int .i64 0, .int .i64 (-1), .int .i64 1] 24 44
  replace own2 := own2.below hbn
  replace hb0 := bup hb0 hbn
  clear hbn
  obtain ⟨x0, x1, x2, fx⟩ := octbox p1
  obtain ⟨y0, y1, y2, y3, y4, y5, y6, y7, y8, y9, fy⟩ := edgbox p2
  go_wp2_with fail
  clear x0 x1 x2 fx y0 y1 y2 y3 y4 y5 y6 y7 y8 y9 fy
  generalize (w2.alloc (Obj.cells #[.int .i64 1, .bool false, .slice A1 4 c1] 24)).alloc (Obj.cells #[.int .i64 0, .int .i64 0, .int .i64 4, .int .i64 0, .int .i64 (-1), .int .i64 0, .int .i64 0, .int .i64 0, .int .i64 (-1), .int .i64 1] 44) = w3 at *
  generalize w2.heap.size = g1 at *
  (with_reducible refine (HS4.out A1 c1 w3 own2.rd).mono ?_)
  rintro e4 w4 ⟨rfl, hb4⟩
  replace p1 := p1.later hb4
  replace p2 := p2.later hb4
  replace own2 := own2.below hb4
  replace hb0 := bup hb0 hb4
  clear hb4 HS4
  obtain ⟨y0, y1, y2, y3, y4, y5, y6, y7, y8, y9, fy⟩ := edgbox p2
  have q2 := p2.set_ 2 (.int .i64 5)
  have q1 := p1.far (p := ⟨g1 + 1, 2, none⟩) (by simp) (.int .i64 5)
  have o2 := own2.far1 (i := 2) (v := .int .i64 5) (own_blk' own2 p2 (by decide))
  have hb9 := hb0.trans (below1 (i := 2) (v := .int .i64 5) (show w.heap.size ≤ g1 + 1 by omega) hb0.size)
  obtain ⟨x0, x1, x2, fx⟩ := octbox p1
  go_wp2_with fail
  clear x0 x1 x2 fx y0 y1 y2 y3 y4 y5 y6 y7 y8 y9 fy p1 p2 own2 hb0
  generalize w4.setCell ⟨g1 + 1, 2, none⟩ (.int .i64 5) = w5 at *
  (with_reducible refine (HS5.out A1 c1 w5 o2.rd).mono ?_)
  rintro e6 w6 ⟨rfl, hb6⟩
  replace hb9 := bup hb9 hb6
  clear hb6 HS5 q1 q2 o2
  go_wp2_with fail
  (with_reducible refine (k17_f _).mono ?_)
  rintro e7 w7 ⟨rfl, hb7⟩
  go_wp2
  go_ret
  exact ⟨rfl, bup hb9 hb7⟩
end
section
open Go.RowKit
attribute [local go_sem ↓] Go.wp_at_zero Go.wp_at_succ

set_option maxRecDepth 8000 in
set_option maxHeartbeats 4000000 in
theorem safeFits_walk (kd : Int) (r s : Rg) (r1 : I64 r.lo) (r2 : I64 r.hi) (s1 : I64 s.lo) (s2 : I64 s.hi) (w : World) :
    Calls Tryz.prog 13 #[.int .i64 kd, r.val, s.val] w fun e w' => e = .returned (.bool true) ∧ Below w.heap.size w w' := by
  have HK := hid (fun W => known17_any W)
  have HF := hid (fun W => safefits_any kd r s (ends_i64 ⟨r1, r2⟩) (ends_i64 ⟨s1, s2⟩) W)
  have HG := hid (fun W => rfits_any kd r s (ends_i64 ⟨r1, r2⟩) (ends_i64 ⟨s1, s2⟩) W)
  clear r1 r2 s1 s2
  generalize fitsK kd r s = Q at *
  rw [Rg.val_eq] at HF HG
  rw [Rg.val_eq] at HF HG
  rw [Rg.val_eq, Rg.val_eq]
  obtain ⟨p0, p1, hb0, hsz⟩ := new_two w #[.int .i64 r.lo, .int .i64 r.hi, .bool r.hl, .bool r.hh] #[.int .i64 s.lo, .int .i64 s.hi, .bool s.hl, .bool s.hh] 49 49
  clear hsz
  go_enter Tryz.func13, Tryz.ntmps13
  go_upto_region 1 with fail
  generalize (w.alloc (Obj.cells #[.int .i64 r.lo, .int .i64 r.hi, .bool r.hl, .bool r.hh] 49)).alloc (Obj.cells #[.int .i64 s.lo, .int .i64 s.hi, .bool s.hl, .bool s.hh] 49) = w1 at *
  have f0 := laterE (show w1.cell? ⟨w.heap.size, 0, none⟩ = some (.int .i64 r.lo) from p0.cell 0)
  have f1 := laterE (show w1.cell? ⟨w.heap.size, 1, none⟩ = some (.int .i64 r.hi) from p0.cell 1)
  have f2 := laterE (show w1.cell? ⟨w.heap.size, 2, none⟩ = some (.bool r.hl) from p0.cell 2)
  have f3 := laterE (show w1.cell? ⟨w.heap.size, 3, none⟩ = some (.bool r.hh) from p0.cell 3)
  have j0 := laterE (show w1.cell? ⟨w.heap.size + 1, 0, none⟩ = some (.int .i64 s.lo) from p1.cell 0)
  have j1 := laterE (show w1.cell? ⟨w.heap.size + 1, 1, none⟩ = some (.int .i64 s.hi) from p1.cell 1)
  have j2 := laterE (show w1.cell? ⟨w.heap.size + 1, 2, none⟩ = some (.bool s.hl) from p1.cell 2)
  have j3 := laterE (show w1.cell? ⟨w.heap.size + 1, 3, none⟩ = some (.bool s.hh) from p1.cell 3)
  refine wp_region_flowE 9 [Sp.val (.bool true), Sp.val (.bool true), Sp.val (.int .i64 kd), Sp.val (.agg #[.int .i64 r.lo, .int .i64 r.hi, .bool r.hl, .bool r.hh]), Sp.val (.agg #[.int .i64 s.lo, .int .i64 s.hi, .bool s.hl, .bool s.hh]), Sp.val (.bool Q), Sp.val (.int .i64 kd), Sp.val (.agg #[.int .i64 r.lo, .int .i64 r.hi, .bool r.hl, .bool r.hh]), Sp.val (.agg #[.int .i64 s.lo, .int .i64 s.hi, .bool s.hl, .bool s.hh])] (by kernel_rfl) (by kernel_rfl) ?_
  refine FlowE.callFV (by rfl) (fun W hW hf => ⟨42, #[], by go_simp, HK.out W⟩) (fun _ _ => ?_)
  simp only [Act.put, List.setIfInBounds_toArray, List.set_cons_zero, List.set_cons_succ]
  (refine FlowE.take (by rfl) (fun W hW R hR => ?_) (fun _ _ => ?_); (go_simp; (try go_bits); with_reducible exact hR); simp only [Act.put, List.setIfInBounds_toArray, List.set_cons_zero, List.set_cons_succ])
  (refine FlowE.take (by rfl) (fun W hW R hR => ?_) (fun _ _ => ?_); (go_simp; (try go_bits); with_reducible exact hR); simp only [Act.put, List.setIfInBounds_toArray, List.set_cons_zero, List.set_cons_succ])
  (refine FlowE.take (by rfl) (fun W hW R hR => ?_) (fun _ _ => ?_); (go_simp; (try go_bits); with_reducible exact hR); simp only [Act.put, List.setIfInBounds_toArray, List.set_cons_zero, List.set_cons_succ])
  (refine FlowE.take (by rfl) (fun W hW R hR => ?_) (fun _ _ => ?_); (go_simp; (try go_bits); with_reducible exact hR); simp only [Act.put, List.setIfInBounds_toArray, List.set_cons_zero, List.set_cons_succ])
  refine FlowE.callFV (by rfl) (fun W hW hf => ⟨46, #[.int .i64 kd, .agg #[.int .i64 r.lo, .int .i64 r.hi, .bool r.hl, .bool r.hh], .agg #[.int .i64 s.lo, .int .i64 s.hi, .bool s.hl, .bool s.hh]], by go_simp, HF.out W⟩) (fun _ _ => ?_)
  simp only [Act.put, List.setIfInBounds_toArray, List.set_cons_zero, List.set_cons_succ]
  (refine FlowE.take (by rfl) (fun W hW R hR => ?_) (fun _ _ => ?_); (go_simp; (try go_bits); with_reducible exact hR); simp only [Act.put, List.setIfInBounds_toArray, List.set_cons_zero, List.set_cons_succ])
  (refine FlowE.take (by rfl) (fun W hW R hR => ?_) (fun _ _ => ?_); (go_simp; (try go_bits); with_reducible exact hR); simp only [Act.put, List.setIfInBounds_toArray, List.set_cons_zero, List.set_cons_succ])
  (refine FlowE.take (by rfl) (fun W hW R hR => ?_) (fun _ _ => ?_); (go_simp; (try go_bits); with_reducible exact hR); simp only [Act.put, List.setIfInBounds_toArray, List.set_cons_zero, List.set_cons_succ])
  refine FlowE.tail (fun W hW hf hd => ?_)
  replace hW : Below w1.heap.size w1 W := Ext.trans (Below.refl _ _).drew hW
  replace hb0 := bup hb0 hW
  clear hf hd f0 f1 f2 f3 j0 j1 j2 j3 HK HF hW p0 p1
  cases Q
  all_goals
    go_wp2_with fail
    (with_reducible refine (HG.out _).mono ?_)
    rintro e9 w9 ⟨rfl, hb9⟩
    go_wp2
    go_ret
    exact ⟨rfl, bup hb0 hb9⟩
end
section
open Go.RowKit
attribute [local go_sem ↓] Go.wp_at_zero Go.wp_at_succ

theorem fit_zero (a : Int) : (fit a).2 = 0 ↔ I64 a := by
  constructor
  · intro h
    by_cases q : -9223372036854775808 ≤ a ∧ a ≤ 9223372036854775807
    · exact q
    · rw [fit_out (by omega)] at h; cases h
  · intro h; rw [fit_in h]
theorem div_zero (a b : Int) : (divW a b).2 = 0 ↔ divErr a b = 0 := by
  unfold divW
  by_cases h : divErr a b = 0
  · rw [if_pos h]; simp [h]
  · rw [if_neg h]
theorem rem_zero (a b : Int) : (remW a b).2 = 0 ↔ divErr a b = 0 := by
  unfold remW
  by_cases h : divErr a b = 0
  · rw [if_pos h]; simp [h]
  · rw [if_neg h]
theorem divErr_zero (a b : Int) : divErr a b = 0 ↔ b ≠ 0 ∧ ¬ (a = -9223372036854775808 ∧ b = -1) := by
  unfold divErr
  by_cases h : b = 0
  · rw [if_pos h]; simp [h]
  · rw [if_neg h]
    by_cases q : a = -9223372036854775808 ∧ b = -1
    · rw [if_pos q]; simp [q]
    · rw [if_neg q]; exact ⟨fun _ => ⟨h, q⟩, fun _ => rfl⟩
theorem mul_line {p q y z L H : Int} (h1 : p ≤ y) (h2 : y ≤ q) (l1 : L ≤ z * p) (l2 : L ≤ z * q) (u1 : z * p ≤ H) (u2 : z * q ≤ H) : L ≤ z * y ∧ z * y ≤ H := by
  rcases Int.le_total 0 z with h | h
  · have := Int.mul_le_mul_of_nonneg_left h1 h
    have := Int.mul_le_mul_of_nonneg_left h2 h
    omega
  · have := Int.mul_le_mul_of_nonpos_left h h1
    have := Int.mul_le_mul_of_nonpos_left h h2
    omega
theorem mul_mid {a b c d x y L H : Int} (ha : a ≤ x) (hb : x ≤ b) (hc : c ≤ y) (hd : y ≤ d) (l1 : L ≤ a * c) (u1 : a * c ≤ H) (l2 : L ≤ a * d) (u2 : a * d ≤ H) (l3 : L ≤ b * c) (u3 : b * c ≤ H) (l4 : L ≤ b * d) (u4 : b * d ≤ H) : L ≤ x * y ∧ x * y ≤ H := by
  have k1 := mul_line hc hd l1 l2 u1 u2
  have k2 := mul_line hc hd l3 l4 u3 u4
  rw [Int.mul_comm a y] at k1
  rw [Int.mul_comm b y] at k2
  rw [Int.mul_comm x y]
  exact mul_line ha hb k1.1 k2.1 k1.2 k2.2

/-- Two numbers of ranges that fit don't go wrong. -/
theorem fits_sound {kd : Int} (hk : 3 ≤ kd ∧ kd ≤ 8) {r s : Rg} (ir : I64 (loR r) ∧ I64 (hiR r)) {x y : Int} (hx : loR r ≤ x ∧ x ≤ hiR r) (hy : loR s ≤ y ∧ y ≤ hiR s) (h : fitsK kd r s = true) : (doW (kd + 2) x y).2 = 0 := by
  unfold fitsK at h
  generalize loR r = a at *
  generalize hiR r = b at *
  generalize loR s = c at *
  generalize hiR s = d at *
  rw [Bool.and_eq_true] at h
  obtain ⟨-, h⟩ := h
  unfold I64 at ir
  have : kd = 3 ∨ kd = 4 ∨ kd = 5 ∨ kd = 6 ∨ kd = 7 ∨ kd = 8 := by omega
  rcases this with rfl | rfl | rfl | rfl | rfl | rfl
  · show (fit (-x)).2 = 0
    have h' : -9223372036854775808 < a := by simpa using h
    rw [fit_zero]; unfold I64; omega
  · have h' : (addW a c).2 = 0 ∧ (addW b d).2 = 0 := by simpa using h
    unfold addW at h'
    rw [fit_zero, fit_zero] at h'
    show (fit (x + y)).2 = 0
    rw [fit_zero]; unfold I64 at *; omega
  · have h' : (subW a d).2 = 0 ∧ (subW b c).2 = 0 := by simpa using h
    unfold subW at h'
    rw [fit_zero, fit_zero] at h'
    show (fit (x - y)).2 = 0
    rw [fit_zero]; unfold I64 at *; omega
  · have h' : (((mulW a c).2 = 0 ∧ (mulW a d).2 = 0) ∧ (mulW b c).2 = 0) ∧ (mulW b d).2 = 0 := by simpa using h
    unfold mulW at h'
    rw [fit_zero, fit_zero, fit_zero, fit_zero] at h'
    show (fit (x * y)).2 = 0
    rw [fit_zero]
    obtain ⟨⟨⟨k1, k2⟩, k3⟩, k4⟩ := h'
    exact mul_mid hx.1 hx.2 hy.1 hy.2 k1.1 k1.2 k2.1 k2.2 k3.1 k3.2 k4.1 k4.2
  · show (divW x y).2 = 0
    rw [div_zero, divErr_zero]
    simp at h
    omega
  · show (remW x y).2 = 0
    rw [rem_zero, divErr_zero]
    simp at h
    omega
/-- Of ranges with both ends that don't fit two numbers go wrong. -/
theorem unfit_two {kd : Int} (hk : 3 ≤ kd ∧ kd ≤ 8) {a b c d : Int} (ia : I64 a ∧ I64 b) (hab : a ≤ b) (hcd : c ≤ d) (h : fitsK kd ⟨a, b, true, true⟩ ⟨c, d, true, true⟩ = false) :
    ∃ x y : Int, a ≤ x ∧ x ≤ b ∧ c ≤ y ∧ y ≤ d ∧ (doW (kd + 2) x y).2 ≠ 0 := by
  unfold fitsK at h
  rw [show loR ⟨a, b, true, true⟩ = a from rfl, show hiR ⟨a, b, true, true⟩ = b from rfl, show loR ⟨c, d, true, true⟩ = c from rfl, show hiR ⟨c, d, true, true⟩ = d from rfl] at h
  rw [decide_eq_false (show ¬ b < a by omega), decide_eq_false (show ¬ d < c by omega)] at h
  rw [show (!(false || false)) = true from rfl, Bool.true_and] at h
  unfold I64 at ia
  have : kd = 3 ∨ kd = 4 ∨ kd = 5 ∨ kd = 6 ∨ kd = 7 ∨ kd = 8 := by omega
  rcases this with rfl | rfl | rfl | rfl | rfl | rfl
  · have h' : ¬ -9223372036854775808 < a := by simpa using h
    refine ⟨a, c, by omega, by omega, by omega, by omega, ?_⟩
    show (fit (-a)).2 ≠ 0
    rw [Ne, fit_zero]; unfold I64; omega
  · have h' : (addW a c).2 = 0 → ¬ (addW b d).2 = 0 := by simpa using h
    by_cases q : (addW a c).2 = 0
    · exact ⟨b, d, by omega, by omega, by omega, by omega, h' q⟩
    · exact ⟨a, c, by omega, by omega, by omega, by omega, q⟩
  · have h' : (subW a d).2 = 0 → ¬ (subW b c).2 = 0 := by simpa using h
    by_cases q : (subW a d).2 = 0
    · exact ⟨b, c, by omega, by omega, by omega, by omega, h' q⟩
    · exact ⟨a, d, by omega, by omega, by omega, by omega, q⟩
  · have h' : (mulW a c).2 = 0 → (mulW a d).2 = 0 → (mulW b c).2 = 0 → ¬ (mulW b d).2 = 0 := by simpa using h
    by_cases q1 : (mulW a c).2 = 0
    · by_cases q2 : (mulW a d).2 = 0
      · by_cases q3 : (mulW b c).2 = 0
        · exact ⟨b, d, by omega, by omega, by omega, by omega, h' q1 q2 q3⟩
        · exact ⟨b, c, by omega, by omega, by omega, by omega, q3⟩
      · exact ⟨a, d, by omega, by omega, by omega, by omega, q2⟩
    · exact ⟨a, c, by omega, by omega, by omega, by omega, q1⟩
  all_goals
    simp at h
    by_cases q : c ≤ 0 ∧ 0 ≤ d
    · refine ⟨a, 0, by omega, by omega, by omega, by omega, ?_⟩
      first
      | (show (divW a 0).2 ≠ 0; rw [Ne, div_zero, divErr_zero]; omega)
      | (show (remW a 0).2 ≠ 0; rw [Ne, rem_zero, divErr_zero]; omega)
    · refine ⟨a, -1, by omega, by omega, by omega, by omega, ?_⟩
      first
      | (show (divW a (-1)).2 ≠ 0; rw [Ne, div_zero, divErr_zero]; omega)
      | (show (remW a (-1)).2 ≠ 0; rw [Ne, rem_zero, divErr_zero]; omega)

/-- Is a number of a range? -/
def hasR (r : Rg) (x : Int) : Bool := (!r.hl || decide (r.lo ≤ x)) && (!r.hh || decide (x ≤ r.hi))
theorem hasR_ends {r : Rg} {x : Int} (hx : I64 x) (h : hasR r x = true) : loR r ≤ x ∧ x ≤ hiR r := by
  obtain ⟨lo, hi, hl, hh⟩ := r
  unfold hasR at h
  unfold I64 at hx
  unfold loR hiR
  cases hl <;> cases hh <;> simp at h ⊢ <;> omega
set_option maxHeartbeats 1000000 in
theorem rhas15_ok (r : Rg) (x : Int) (w : World) : Calls Tryz.prog 48 #[r.val, .int .i64 x] w fun e w' => e = .returned (.bool (hasR r x)) ∧ Below w.heap.size w w' := by
  obtain ⟨lo, hi, hl, hh⟩ := r
  unfold Rg.val hasR
  dsimp only
  obtain ⟨p0, hb0, -⟩ := new_one w #[.int .i64 lo, .int .i64 hi, .bool hl, .bool hh] 49
  obtain ⟨x0, x1, x2, x3, fx⟩ := rgbox p0
  cases hl <;> cases hh <;> cases t1 : decide (lo ≤ x) <;> cases t2 : decide (x ≤ hi)
  all_goals
    go_enter Tryz.func48, Tryz.ntmps48
    go_wp2
    go_ret
    exact ⟨rfl, hb0⟩
end
section
open Go.RowKit
attribute [local go_sem ↓] Go.wp_at_zero Go.wp_at_succ

theorem u64_in {n : Int} (h : 0 ≤ n ∧ n ≤ 1000) : IntKind.u64.wrap n = n := by
  simp only [IntKind.wrap, IntKind.signed, IntKind.bits]
  simp
  omega
set_option maxRecDepth 8000 in
set_option maxHeartbeats 8000000 in
theorem safeRanges_walk (kd : Int) (r s : Rg) (x y : Int) (ix : I64 x) (iy : I64 y) (r1 : I64 r.lo) (r2 : I64 r.hi) (s1 : I64 s.lo) (s2 : I64 s.hi) (w : World) :
    Calls Tryz.prog 14 #[.int .i64 kd, r.val, s.val, .int .i64 x, .int .i64 y] w fun e w' => e = .returned (.bool true) ∧ Below w.heap.size w w' := by
  have HF := hid (fun W => safefits_any kd r s (ends_i64 ⟨r1, r2⟩) (ends_i64 ⟨s1, s2⟩) W)
  have HX := hid (fun W => rhas15_ok r x W)
  have HY := hid (fun W => rhas15_ok s y W)
  have HO : Hid (kd < 3 ∨ 8 < kd → fitsK kd r s = false) := hid (fun h => by
    unfold fitsK
    rw [if_neg (by omega), if_neg (by omega), if_neg (by omega), if_neg (by omega), if_neg (by omega), Bool.and_false])
  have HD := hid (fun (a b : Int) W (ia : I64 a) (ib : I64 b) => r7do_any (kd + 2) a b W ia ib)
  have HS : Hid (3 ≤ kd ∧ kd ≤ 8 → hasR r x = true → hasR s y = true → fitsK kd r s = true → (doW (kd + 2) x y).2 = 0) := hid (fun hk hx hy hf => fits_sound hk (ends_i64 ⟨r1, r2⟩) (hasR_ends ix hx) (hasR_ends iy hy) hf)
  have HI := hid (And.intro ix iy)
  obtain ⟨a, b, hl, hh⟩ := r
  obtain ⟨c, d, sl, sh⟩ := s
  have HU : Hid (3 ≤ kd ∧ kd ≤ 8 → hl = true → hh = true → sl = true → sh = true → a ≤ b → c ≤ d → fitsK kd ⟨a, b, hl, hh⟩ ⟨c, d, sl, sh⟩ = false → ∃ x y : Int, a ≤ x ∧ x ≤ b ∧ c ≤ y ∧ y ≤ d ∧ (doW (kd + 2) x y).2 ≠ 0) := hid (fun hk e1 e2 e3 e4 hab hcd hf => by
    subst e1 e2 e3 e4
    exact unfit_two hk ⟨r1, r2⟩ hab hcd hf)
  dsimp only at r1 r2 s1 s2
  have HAB := hid (And.intro (And.intro r1 r2) (And.intro s1 s2))
  clear r1 r2 s1 s2 ix iy
  unfold Rg.val at *
  dsimp only at *
  generalize fitsK kd ⟨a, b, hl, hh⟩ ⟨c, d, sl, sh⟩ = Q at *
  generalize hasR ⟨a, b, hl, hh⟩ x = qx at *
  generalize hasR ⟨c, d, sl, sh⟩ y = qy at *
  obtain ⟨p0, p1, hb0, -⟩ := new_two w #[.int .i64 a, .int .i64 b, .bool hl, .bool hh] #[.int .i64 c, .int .i64 d, .bool sl, .bool sh] 49 49
  go_enter Tryz.func14, Tryz.ntmps14
  go_wp2_with fail
  generalize (w.alloc (Obj.cells #[.int .i64 a, .int .i64 b, .bool hl, .bool hh] 49)).alloc (Obj.cells #[.int .i64 c, .int .i64 d, .bool sl, .bool sh] 49) = w1 at *
  (with_reducible refine (known17_any w1).mono ?_)
  rintro e2 w2 ⟨rfl, hb2⟩
  replace p0 := p0.later hb2
  replace p1 := p1.later hb2
  replace hb0 := bup hb0 hb2
  clear hb2
  obtain ⟨x0, x1, x2, x3, fx⟩ := rgbox p0
  obtain ⟨y0, y1, y2, y3, fy⟩ := rgbox p1
  by_cases hk : 3 ≤ kd ∧ kd ≤ 8
  rotate_left
  · have hq := HO.out (by omega)
    subst hq
    clear HU HS HD HX HY HI HAB
    cases t1 : decide (kd < 3) <;> cases t2 : decide (8 < kd)
    · exfalso
      simp at t1 t2
      omega
    all_goals
      clear hk
      go_wp2_with fail
      (with_reducible refine (HF.out w2).mono ?_)
      rintro e3 w3 ⟨rfl, hb3⟩
      go_wp2
      go_ret
      exact ⟨rfl, bup hb0 hb3⟩
  have t1 : decide (kd < 3) = false := by rw [decide_eq_false_iff_not]; omega
  have t2 : decide (8 < kd) = false := by rw [decide_eq_false_iff_not]; omega
  have HK := hid hk
  have hkw : wrap64 (wrap64 (5 + kd) - 3) = kd + 2 := by
    rw [IntWalk.wrap64_in (5 + kd) (by omega), IntWalk.wrap64_in _ (by omega)]
    omega
  clear hk HO
  go_wp2_with fail
  clear x0 x1 x2 x3 fx y0 y1 y2 y3 fy
  (with_reducible refine (HF.out w2).mono ?_)
  rintro e3 w3 ⟨rfl, hb3⟩
  replace p0 := p0.later hb3
  replace p1 := p1.later hb3
  replace hb0 := bup hb0 hb3
  clear hb3 HF
  obtain ⟨x0, x1, x2, x3, fx⟩ := rgbox p0
  obtain ⟨y0, y1, y2, y3, fy⟩ := rgbox p1
  cases Q with
  | true =>
    clear HU HAB
    go_wp2_with fail
    clear x0 x1 x2 x3 fx y0 y1 y2 y3 fy
    (with_reducible refine (HX.out w3).mono ?_)
    rintro e4 w4 ⟨rfl, hb4⟩
    replace p0 := p0.later hb4
    replace p1 := p1.later hb4
    replace hb0 := bup hb0 hb4
    clear hb4 HX
    obtain ⟨x0, x1, x2, x3, fx⟩ := rgbox p0
    obtain ⟨y0, y1, y2, y3, fy⟩ := rgbox p1
    cases qx with
    | false =>
      go_wp2
      go_ret
      exact ⟨rfl, hb0⟩
    | true =>
      go_wp2_with fail
      clear x0 x1 x2 x3 fx y0 y1 y2 y3 fy
      (with_reducible refine (HY.out w4).mono ?_)
      rintro e5 w5 ⟨rfl, hb5⟩
      replace p0 := p0.later hb5
      replace p1 := p1.later hb5
      replace hb0 := bup hb0 hb5
      clear hb5 HY
      obtain ⟨x0, x1, x2, x3, fx⟩ := rgbox p0
      obtain ⟨y0, y1, y2, y3, fy⟩ := rgbox p1
      cases qy with
      | false =>
        go_wp2
        go_ret
        exact ⟨rfl, hb0⟩
      | true =>
        have HD2 := hid (HD.out x y w5 HI.out.1 HI.out.2)
        have HS2 := hid (HS.out HK.out (by first | rfl | trivial) (by first | rfl | trivial) (by first | rfl | trivial))
        generalize doW (kd + 2) x y = pr at *
        obtain ⟨u, v⟩ := pr
        unfold PairRes pairV at HD2
        dsimp only at HD2 HS2
        rw [HS2.out] at HD2
        clear HD HS HS2
        go_wp2_with fail
        (with_reducible refine HD2.out.mono ?_)
        rintro e6 w6 ⟨rfl, rfl⟩
        go_wp2
        go_ret
        exact ⟨rfl, hb0⟩
  | false =>
    clear HX HY HS
    cases hl with
    | false =>
      go_wp2
      go_ret
      exact ⟨rfl, hb0⟩
    | true =>
    cases hh with
    | false =>
      go_wp2
      go_ret
      exact ⟨rfl, hb0⟩
    | true =>
    cases sl with
    | false =>
      go_wp2
      go_ret
      exact ⟨rfl, hb0⟩
    | true =>
    cases sh with
    | false =>
      go_wp2
      go_ret
      exact ⟨rfl, hb0⟩
    | true =>
    cases t3 : decide (b < a) with
    | true =>
      go_wp2
      go_ret
      exact ⟨rfl, hb0⟩
    | false =>
    cases t4 : decide (d < c) with
    | true =>
      go_wp2
      go_ret
      exact ⟨rfl, hb0⟩
    | false =>
    have hab : a ≤ b := by simp at t3; exact t3
    have hcd : c ≤ d := by simp at t4; exact t4
    obtain ⟨n1, hn1⟩ : ∃ n1 : Nat, b = a + n1 := ⟨(b - a).toNat, by omega⟩
    obtain ⟨n2, hn2⟩ : ∃ n2 : Nat, d = c + n2 := ⟨(d - c).toNat, by omega⟩
    have hu1 : IntKind.u64.wrap (wrap64 (b - a)) = (n1 : Int) := by
      have := HAB.out
      unfold I64 at this
      simp only [IntKind.wrap, IntKind.signed, IntKind.bits, wrap64]
      simp
      omega
    have hu2 : IntKind.u64.wrap (wrap64 (d - c)) = (n2 : Int) := by
      have := HAB.out
      unfold I64 at this
      simp only [IntKind.wrap, IntKind.signed, IntKind.bits, wrap64]
      simp
      omega
    have HW := hid (HU.out HK.out (by first | rfl | trivial) (by first | rfl | trivial) (by first | rfl | trivial) (by first | rfl | trivial) hab hcd (by first | rfl | trivial))
    have HN := hid (And.intro hn1 hn2)
    clear HU hab hcd hn1 hn2
    cases t5 : decide (30 < (n1 : Int)) with
    | true =>
      go_wp2
      go_ret
      exact ⟨rfl, hb0⟩
    | false =>
    cases t6 : decide (30 < (n2 : Int)) with
    | true =>
      go_wp2
      go_ret
      exact ⟨rfl, hb0⟩
    | false =>
    have h30 : n1 ≤ 30 ∧ n2 ≤ 30 := by simp at t5 t6; omega
    have H30 := hid h30
    clear h30
    go_wp2
    go_loopw [14] (fun t wq => wq = w3 ∧ ∃ i : Nat, i ≤ n1 + 1 ∧ t = .int .u64 i ∧ ∀ p q : Nat, p < i → q ≤ n2 → (doW (kd + 2) (a + p) (c + q)).2 = 0) (fun t _ => n1 + 1 - (Go.RowKit.intOf t).toNat)
    case atStart => exact ⟨rfl, 0, by omega, rfl, fun p q h => by omega⟩
    case round =>
      obtain ⟨rfl, i, hi, rfl, hno⟩ := hrel
      have HNO := hid hno
      clear hno
      by_cases hlt : i ≤ n1
      · have hlti : (i : Int) ≤ (n1 : Int) := by omega
        go_wp2
        go_loopw [15] (fun t wq => wq = wr ∧ ∃ j : Nat, j ≤ n2 + 1 ∧ t = .int .u64 j ∧ ∀ q : Nat, q < j → (doW (kd + 2) (a + i) (c + q)).2 = 0) (fun t _ => n2 + 1 - (Go.RowKit.intOf t).toNat)
        case atStart => exact ⟨rfl, 0, by omega, rfl, fun q h => by omega⟩
        case round =>
          obtain ⟨rfl, j, hj, rfl, hno2⟩ := hrel
          have HNO2 := hid hno2
          clear hno2
          by_cases hlt2 : j ≤ n2
          · have hltj : (j : Int) ≤ (n2 : Int) := by omega
            have hbd : I64 (a + i) ∧ I64 (c + j) := by
              have q1 := HAB.out
              have q2 := HN.out
              unfold I64 at *
              omega
            have hci : wrap64 (i : Int) = i := IntWalk.wrap64_in _ (by have := H30.out; omega)
            have hcj : wrap64 (j : Int) = j := IntWalk.wrap64_in _ (by have := H30.out; omega)
            have hwj : IntKind.u64.wrap ((j : Int) + 1) = (j : Int) + 1 := u64_in (by have := H30.out; omega)
            have hvi : wrap64 (a + i) = a + i := IntWalk.wrap64_in _ hbd.1
            have hvj : wrap64 (c + j) = c + j := IntWalk.wrap64_in _ hbd.2
            have HD2 := hid (HD.out (a + i) (c + j) wr hbd.1 hbd.2)
            obtain ⟨pr, hpr⟩ : ∃ pr, pr = doW (kd + 2) (a + i) (c + j) := ⟨_, rfl⟩
            rw [← hpr] at HD2
            have HPR := hid hpr
            clear hpr hbd
            obtain ⟨u, v⟩ := pr
            unfold PairRes pairV at HD2
            dsimp only at HD2
            go_wp2_with fail
            (with_reducible refine HD2.out.mono ?_)
            rintro e6 w6 ⟨rfl, rfl⟩
            cases t9 : (v != 0) with
            | true =>
              go_wp2
              go_ret
              exact ⟨rfl, hb0⟩
            | false =>
              have hv : v = 0 := by simpa using t9
              have HV : Hid ((doW (kd + 2) (a + i) (c + j)).2 = 0) := hid (by rw [← HPR.out]; exact hv)
              go_wp2
              go_roundw
              case rel => exact ⟨by first | rfl | trivial, j + 1, by omega, by go_num, fun q h => if e : q = j then e ▸ HV.out else HNO2.out q (by omega)⟩
              case measure => simp [Go.RowKit.intOf]; omega
          · obtain rfl : j = n2 + 1 := by omega
            have hwi : IntKind.u64.wrap ((i : Int) + 1) = (i : Int) + 1 := u64_in (by have := H30.out; omega)
            go_wp2
            go_roundw
            case rel => exact ⟨by first | rfl | trivial, i + 1, by omega, by go_num, fun p q h k => if e : p = i then e ▸ HNO2.out q (by omega) else HNO.out p q (by omega) k⟩
            case measure => simp [Go.RowKit.intOf]; omega
      · exfalso
        obtain ⟨x', y', q1, q2, q3, q4, q5⟩ := HW.out
        have q6 := HN.out
        have := HNO.out (x' - a).toNat (y' - c).toNat (by omega) (by omega)
        rw [show a + ((x' - a).toNat : Int) = x' by omega, show c + ((y' - c).toNat : Int) = y' by omega] at this
        exact q5 this
end
section
open Go.ChangeShapes Go.WideShapes Go.ChangeAt Go.RowKit Go.Joins

section
variable {H : Type} {enc : TypeId × Value → H} {P : Program} {w : World} {base : Nat} {held : Bool} {spare : Nat → Bool}
theorem trodAll_five {t0 t1 t2 t3 t4 : TypeId} {args : Array Value} {ds : List (DataW H)} {ps : List MemPlace} (h : DataW.TrodAll enc P w base spare held [t0, t1, t2, t3, t4] args.toList ds ps) :
    ∃ v0 v1 v2 v3 v4 d0 d1 d2 d3 d4 p0 p1 p2 p3 p4, args = #[v0, v1, v2, v3, v4] ∧ ds = [d0, d1, d2, d3, d4] ∧ ps = p0 ++ p1 ++ p2 ++ p3 ++ p4 ∧ DataW.Trod enc P w base spare held t0 v0 d0 p0 ∧ DataW.Trod enc P w base spare held t1 v1 d1 p1 ∧ DataW.Trod enc P w base spare held t2 v2 d2 p2 ∧ DataW.Trod enc P w base spare held t3 v3 d3 p3 ∧ DataW.Trod enc P w base spare held t4 v4 d4 p4 := by
  obtain ⟨v, vs, d, ds', p, q, hargs, rfl, rfl, hd, hrest⟩ := trodAll_cons h
  obtain ⟨v', vs', d', ds'', p', q', rfl, rfl, rfl, hd', hrest'⟩ := trodAll_cons hrest
  obtain ⟨v'', vs'', d'', ds''', p'', q'', rfl, rfl, rfl, hd'', hrest''⟩ := trodAll_cons hrest'
  obtain ⟨v3, vs3, d3, ds3, p3, q3, rfl, rfl, rfl, hd3, hrest3⟩ := trodAll_cons hrest''
  obtain ⟨v4, vs4, d4, ds4, p4, q4, rfl, rfl, rfl, hd4, hrest4⟩ := trodAll_cons hrest3
  obtain ⟨rfl, rfl, rfl⟩ := trodAll_nil hrest4
  exact ⟨v, v', v'', v3, v4, d, d', d'', d3, d4, p, p', p'', p3, p4, by cases args; simp_all, rfl, by simp, hd, hd', hd'', hd3, hd4⟩
theorem trodAll_mk5 {t0 t1 t2 t3 t4 : TypeId} {v0 v1 v2 v3 v4 : Value} {d0 d1 d2 d3 d4 : DataW H} {p0 p1 p2 p3 p4 : List MemPlace} (h0 : DataW.Trod enc P w base spare held t0 v0 d0 p0) (h1 : DataW.Trod enc P w base spare held t1 v1 d1 p1)
    (h2 : DataW.Trod enc P w base spare held t2 v2 d2 p2) (h3 : DataW.Trod enc P w base spare held t3 v3 d3 p3) (h4 : DataW.Trod enc P w base spare held t4 v4 d4 p4) : DataW.TrodAll enc P w base spare held [t0, t1, t2, t3, t4] [v0, v1, v2, v3, v4] [d0, d1, d2, d3, d4] (p0 ++ (p1 ++ (p2 ++ (p3 ++ p4)))) :=
  ⟨p0, p1 ++ (p2 ++ (p3 ++ p4)), h0, trodAll_mk4 h1 h2 h3 h4, rfl⟩
end
section
variable {H : Type} {enc : TypeId × Value → H} {W : World} {base : Nat} {held : Bool} {spare : Nat → Bool} {r : Reach} {b0 : Nat} {v : Value} {d : DataW H} {p : List MemPlace}
end
end
end Go.Proofs.YtnmpgijiimglcaaGreat
