/-
  trans.gives, trans.Give: what they answer.
  trans.equals, trans.shift (another variable; too far): what they answer.
  gnomonref12.half, gnomonref12.Diff of numbers that are near.
-/
import Derived.Test.YtnmpgijiimglcaaGreatForget2
import Derived.Test.YtnmpgijiimglcaaGreatBTS29
import Derived.Test.YtnmpgijiimglcaaGreatBTS35
import Derived.Test.YtnmpgijiimglcaaGreatShift
import Derived.Test.YtnmpgijiimglcaaGreatBTS42
import Derived.Test.YtnmpgijiimglcaaGreatBTS03
import Derived.Test.YtnmpgijiimglcaaGreatFlow
namespace Go.Proofs.YtnmpgijiimglcaaGreat
section
open Go.RowKit
attribute [local go_sem ↓] Go.wp_at_zero Go.wp_at_succ
end
section
open Go.RowKit
attribute [local go_sem ↓] Go.wp_at_zero Go.wp_at_succ

set_option maxRecDepth 8000 in
set_option maxHeartbeats 2000000 in
theorem tequals_ok (o : O) (ok : check o = 0) (d j : Nat) (hd : (d : Int) < o.n) (hj : (j : Int) < 2 * o.n) (A : Option Addr) (cap : Nat) (w : World) (hx : Rd w w.heap.size A o.m) (hm : o.m.length ≤ 17592186044416) :
    Calls Tryz.prog 134 #[.agg #[.int .i64 o.n, .bool o.e, .slice A o.m.length cap], .int .i64 (d : Int), .int .i64 (j : Int)] w (OctOwn w (linkO o (2 * d) j 0)) := by
  have okF : OkO o.n (forgetO o d) := OkO.forget ⟨rfl, ok⟩ d
  have okP : OkO o.n (withO (forgetO o d) (2 * d) j 0) := okF.with_ (by omega) hj _
  have okQ : OkO o.n (withO (withO (forgetO o d) (2 * d) j 0) j (2 * d) 0) := okP.with_ hj (by omega) _
  have hmF := OkO.small okF
  have hmP := OkO.small okP
  have hmQ := OkO.small okQ
  have HF := hid (fun W (h : Rd W W.heap.size A o.m) => tforgets_ok o ok d hd A cap W h hm)
  have HG := hid (show linkO o (2 * d) j 0 = closeO (withO (withO (forgetO o d) (2 * d) j 0) j (2 * d) 0) by unfold linkO; rw [show 2 * d / 2 = d by omega]; try rfl)
  generalize linkO o (2 * d) j 0 = G at *
  have HL1 := hid (fun A c W h => limits_ok o.n (forgetO o d) okF (2 * d) j (by omega) hj 0 A c W h hmF)
  generalize forgetO o d = F at *
  have HL2 := hid (fun A c W h => limits_ok o.n (withO F (2 * d) j 0) okP j (2 * d) hj (by omega) 0 A c W h hmP)
  generalize withO F (2 * d) j 0 = P at *
  have HCL := hid (fun A c W h => tclosed_ok (withO P j (2 * d) 0) okQ.ok A c W h hmQ)
  rw [← HG.out] at HCL
  generalize withO P j (2 * d) 0 = Q at *
  have HP := hid (fun W => (plus_ok d (by have := okF.rng; omega) W : Calls Tryz.prog 135 #[.int .i64 (d : Int)] W (IntRes ((2 * d : Nat) : Int) W)))
  have e2 : ((2 * d : Nat) : Int) = 2 * (d : Int) := by simp
  rw [e2] at HP HL1 HL2
  clear HG okF okP okQ
  obtain ⟨p0, p1, hb0, hsz⟩ := new_two w #[.int .i64 o.n, .bool o.e, .slice A o.m.length cap] #[.int .i64 0, .bool false, .slice none 0 0] 24 24
  replace hx := hx.up hb0
  have HSZ := hid hsz
  clear hsz
  obtain ⟨p0_0, p0_1, p0_2, p0_f⟩ := octbox p0
  go_enter Tryz.func134, Tryz.ntmps134
  go_wp2_with fail
  clear p0_0 p0_1 p0_2 p0_f
  generalize (w.alloc (Obj.cells #[.int .i64 o.n, .bool o.e, .slice A o.m.length cap] 24)).alloc (Obj.cells #[.int .i64 0, .bool false, .slice none 0 0] 24) = w1 at *
  (with_reducible refine (HF.out w1 hx).mono ?_)
  rintro e_w2 w2 ⟨A1, c1, rfl, own1, hb_w2⟩
  replace p0 := p0.later hb_w2
  replace p1 := p1.later hb_w2
  replace hx := hx.up hb_w2
  replace hb0 := bup hb0 hb_w2
  clear hx
  go_wp2_with fail
  (with_reducible refine (HP.out w2).mono ?_)
  rintro e_w3 w3 ⟨rfl, rfl⟩
  go_wp2_with fail
  (with_reducible refine (HL1.out A1 c1 w2 own1.rd).mono ?_)
  rintro e_w4 w4 ⟨A2, c2, rfl, own2, hb_w4⟩
  replace p0 := p0.later hb_w4
  replace p1 := p1.later hb_w4
  replace hb0 := bup hb0 hb_w4
  clear own1
  have hg2 : w.heap.size + 2 ≤ w4.heap.size := by have := hb0.size; have := p1.lt; omega
  have hw2 := hb0.size
  have rd2 := own2.rd
  clear own2
  obtain ⟨p2, hbn, -⟩ := new_one w4 #[.int .i64 P.n, .bool P.e, .slice A2 P.m.length c2] 24
  replace p0 := p0.later hbn
  replace p1 := p1.later hbn
  replace rd2 := rd2.up hbn
  replace hb0 := bup hb0 hbn
  go_upto_region 2 with fail
  generalize w4.alloc (Obj.cells #[.int .i64 P.n, .bool P.e, .slice A2 P.m.length c2] 24) = w5 at *
  have f0 := laterE (show w5.cell? ⟨w4.heap.size, 0, none⟩ = some (.int .i64 P.n) from p2.cell 0)
  have f1 := laterE (show w5.cell? ⟨w4.heap.size, 1, none⟩ = some (.bool P.e) from p2.cell 1)
  have f2 := laterE (show w5.cell? ⟨w4.heap.size, 2, none⟩ = some (.slice A2 P.m.length c2) from p2.cell 2)
  refine wp_region_flowE 4 [Sp.val (.agg #[.int .i64 P.n, .bool P.e, .slice A2 P.m.length c2]), Sp.val (.int .i64 (j : Int)), Sp.val (.int .i64 (d : Int)), Sp.val (.int .i64 (2 * (d : Int)))] (by kernel_rfl) (by kernel_rfl) ?_
  (refine FlowE.take (by rfl) (fun W hW R hR => ?_) (fun _ _ => ?_); (go_simp; (try go_bits); with_reducible exact hR); simp only [Act.put, List.setIfInBounds_toArray, List.set_cons_zero, List.set_cons_succ])
  (refine FlowE.take (by rfl) (fun W hW R hR => ?_) (fun _ _ => ?_); (go_simp; (try go_bits); with_reducible exact hR); simp only [Act.put, List.setIfInBounds_toArray, List.set_cons_zero, List.set_cons_succ])
  (refine FlowE.take (by rfl) (fun W hW R hR => ?_) (fun _ _ => ?_); (go_simp; (try go_bits); with_reducible exact hR); simp only [Act.put, List.setIfInBounds_toArray, List.set_cons_zero, List.set_cons_succ])
  refine FlowE.callFV (by rfl) (fun W hW hf => ⟨135, #[.int .i64 (d : Int)], by go_simp, (HP.out W).mono fun e w2 ⟨he, hw⟩ => ⟨he, hw ▸ Ext.refl W⟩⟩) (fun _ _ => ?_)
  simp only [Act.put, List.setIfInBounds_toArray, List.set_cons_zero, List.set_cons_succ]
  refine FlowE.tail (fun W hW hf hd => ?_)
  replace hW : Below w5.heap.size w5 W := Ext.trans (Below.refl _ _).drew hW
  clear hf hd f0 f1 f2
  replace p0 := p0.later hW
  replace p1 := p1.later hW
  replace p2 := p2.later hW
  replace rd2 := rd2.up hW
  replace hb0 := bup hb0 hW
  go_wp2_with fail
  (with_reducible refine (HL2.out A2 c2 W rd2).mono ?_)
  rintro e_w6 w6 ⟨A3, c3, rfl, own3, hb_w6⟩
  have rd3 := own3.rd
  clear own3
  replace p0 := p0.later hb_w6
  replace p1 := p1.later hb_w6
  replace p2 := p2.later hb_w6
  replace rd2 := rd2.up hb_w6
  replace hb0 := bup hb0 hb_w6
  clear rd2
  go_wp2_with fail
  have hle3 := hb0.size
  (with_reducible refine (HCL.out A3 c3 w6 rd3).mono ?_)
  rintro e_w7 w7 ⟨A4, c4, rfl, own4, hb_w7⟩
  replace p0 := p0.later hb_w7
  replace p1 := p1.later hb_w7
  replace p2 := p2.later hb_w7
  replace rd3 := rd3.up hb_w7
  replace hb0 := bup hb0 hb_w7
  obtain ⟨p1_0, p1_1, p1_2, p1_f⟩ := octbox p1
  go_wp2
  clear p1_0 p1_1 p1_2 p1_f
  have o9 := own4.far3 (g := w.heap.size + 1) (v0 := .int .i64 G.n) (v1 := .bool G.e) (v2 := .slice A4 G.m.length c4) (own_blk' own4 p1 (by decide))
  have q9 := p1.set3 (v0 := .int .i64 G.n) (v1 := .bool G.e) (v2 := .slice A4 G.m.length c4)
  have hb9 := hb0.trans (below3 (W := w7) (g := w.heap.size + 1) (v0 := .int .i64 G.n) (v1 := .bool G.e) (v2 := .slice A4 G.m.length c4) (by omega) hb0.size)
  obtain ⟨z0, z1, z2, fz⟩ := octbox q9
  refine bodyPost_ret (v := .agg #[.int .i64 G.n, .bool G.e, .slice A4 G.m.length c4]) (by simp [results, Tryz.results134, go_sem, z0, z1, z2]) rfl ?_
  exact ⟨_, _, rfl, o9.less hle3, hb9⟩
end
section
open Go.RowKit
attribute [local go_sem ↓] Go.wp_at_zero Go.wp_at_succ

def NearV (v : Int) : Prop := -1099511627776 ≤ v ∧ v ≤ 1099511627776
theorem halves (v : Int) : ∃ q r : Int, Int.tdiv v 2 = q ∧ Int.tmod v 2 = r ∧ 2 * q + r = v ∧ -1 ≤ r ∧ r ≤ 1 := by
  refine ⟨_, _, rfl, rfl, Int.mul_tdiv_add_tmod v 2, ?_, ?_⟩
  · obtain ⟨n, rfl | rfl⟩ := Int.eq_nat_or_neg v
    · rw [Int.tmod_eq_emod_of_nonneg (by omega)]; omega
    · rw [Int.neg_tmod, Int.tmod_eq_emod_of_nonneg (by omega)]; omega
  · obtain ⟨n, rfl | rfl⟩ := Int.eq_nat_or_neg v
    · rw [Int.tmod_eq_emod_of_nonneg (by omega)]; omega
    · rw [Int.neg_tmod, Int.tmod_eq_emod_of_nonneg (by omega)]; omega
def HalfRes (u : Int) (w : World) (e : Ending) (w' : World) : Prop := ∃ h r, e = .returned (.tuple #[.int .i64 h, .int .i64 r]) ∧ 2 * h + r = u ∧ 0 ≤ r ∧ r ≤ 1 ∧ Below w.heap.size w w'
set_option maxHeartbeats 1000000 in
theorem half_ok (v : Int) (hv : NearV v) (b : Bool) (w : World) : Calls Tryz.prog 128 #[.int .i64 v, .bool b] w (HalfRes (if b then -v else v) w) := by
  unfold NearV at hv
  obtain ⟨q, r, hq, hr, hs, h1, h2⟩ := halves v
  have q0 : -9223372036854775808 ≤ q - 1 := by omega
  have q1 : q + 1 ≤ 9223372036854775807 := by omega
  have q2 : -9223372036854775808 ≤ -q - 1 := by omega
  cases b with
  | false =>
    by_cases hr0 : r < 0
    · have HX : Hid (∃ h r', 2 * h + r' = v ∧ 0 ≤ r' ∧ r' ≤ 1 ∧ h = q - 1 ∧ r' = 1) := hid ⟨q - 1, 1, by omega, by omega, by omega, rfl, rfl⟩
      have t1 : decide (r < 0) = true := by rw [decide_eq_true_eq]; exact hr0
      clear hr0
      go_enter Tryz.func128, Tryz.ntmps128
      go_wp2
      refine bodyPost_ret (v := .tuple #[.int .i64 (q - 1), .int .i64 1]) (by simp [results, Tryz.results128, go_sem]) rfl ?_
      obtain ⟨h, r', a, b, c, rfl, rfl⟩ := HX.out
      exact ⟨_, _, rfl, a, b, c, Below.refl _ _⟩
    · have t1 : decide (r < 0) = false := by rw [decide_eq_false_iff_not]; exact hr0
      have HX : Hid (2 * q + r = v ∧ 0 ≤ r ∧ r ≤ 1) := hid ⟨by omega, by omega, by omega⟩
      clear hr0
      go_enter Tryz.func128, Tryz.ntmps128
      go_wp2
      refine bodyPost_ret (v := .tuple #[.int .i64 q, .int .i64 r]) (by simp [results, Tryz.results128, go_sem]) rfl ?_
      exact ⟨_, _, rfl, HX.out.1, HX.out.2.1, HX.out.2.2, Below.refl _ _⟩
  | true =>
    by_cases hr0 : -r < 0
    · have HX : Hid (∃ h r', 2 * h + r' = -v ∧ 0 ≤ r' ∧ r' ≤ 1 ∧ h = -q - 1 ∧ r' = 1) := hid ⟨-q - 1, 1, by omega, by omega, by omega, rfl, rfl⟩
      have t1 : decide (-r < 0) = true := by rw [decide_eq_true_eq]; exact hr0
      have t2 : decide (0 < r) = true := by rw [decide_eq_true_eq]; omega
      clear hr0
      go_enter Tryz.func128, Tryz.ntmps128
      go_wp2
      refine bodyPost_ret (v := .tuple #[.int .i64 (-q - 1), .int .i64 1]) (by simp [results, Tryz.results128, go_sem]) rfl ?_
      obtain ⟨h, r', a, b, c, rfl, rfl⟩ := HX.out
      exact ⟨_, _, rfl, a, b, c, Below.refl _ _⟩
    · have t1 : decide (-r < 0) = false := by rw [decide_eq_false_iff_not]; exact hr0
      have t2 : decide (0 < r) = false := by rw [decide_eq_false_iff_not]; omega
      have HX : Hid (2 * (-q) + -r = -v ∧ 0 ≤ -r ∧ -r ≤ 1) := hid ⟨by omega, by omega, by omega⟩
      clear hr0
      go_enter Tryz.func128, Tryz.ntmps128
      go_wp2
      refine bodyPost_ret (v := .tuple #[.int .i64 (-q), .int .i64 (-r)]) (by simp [results, Tryz.results128, go_sem]) rfl ?_
      exact ⟨_, _, rfl, HX.out.1, HX.out.2.1, HX.out.2.2, Below.refl _ _⟩

set_option maxRecDepth 8000 in
set_option maxHeartbeats 4000000 in
theorem rdiffp_ok (xs : List Int) (hn : ∀ k : Nat, NearV (gI xs (k : Int))) (i j : Nat) (hi : i / 2 < xs.length) (hj : j / 2 < xs.length) (hm : i ≤ 1000 ∧ j ≤ 1000) (X : Option Addr) (xc : Nat) (w : World) (hx : Rd w w.heap.size X xs) :
    Calls Tryz.prog 66 #[.slice X xs.length xc, .int .i64 (i : Int), .int .i64 (j : Int)] w fun e w' => e = .returned (.tuple #[.int .i64 (apartX xs i j), .int .i64 0]) ∧ Below w.heap.size w w' := by
  obtain ⟨xi, hxi⟩ : ∃ v, v = gI xs ((i / 2 : Nat) : Int) := ⟨_, rfl⟩
  obtain ⟨xj, hxj⟩ : ∃ v, v = gI xs ((j / 2 : Nat) : Int) := ⟨_, rfl⟩
  obtain ⟨i2, hi2⟩ : ∃ v, v = i / 2 := ⟨_, rfl⟩
  obtain ⟨j2, hj2⟩ : ∃ v, v = j / 2 := ⟨_, rfl⟩
  obtain ⟨bi, hbi⟩ : ∃ b : Bool, ((((i % 2 : Nat)) : Int) == 1) = b := ⟨_, rfl⟩
  obtain ⟨bj, hbj⟩ : ∃ b : Bool, ((((j % 2 : Nat)) : Int) == 0) = b := ⟨_, rfl⟩
  have HR : Hid (apartX xs i j = (if bi then -xi else xi) + (if bj then -xj else xj)) := hid (by
    unfold apartX sideX
    rw [← hxi, ← hxj]
    have ei : (i % 2 = 0 ∧ bi = false) ∨ (i % 2 = 1 ∧ bi = true) := by
      rcases Nat.mod_two_eq_zero_or_one i with h | h
      · left; exact ⟨h, by rw [← hbi, h]; rfl⟩
      · right; exact ⟨h, by rw [← hbi, h]; rfl⟩
    have ej : (j % 2 = 0 ∧ bj = true) ∨ (j % 2 = 1 ∧ bj = false) := by
      rcases Nat.mod_two_eq_zero_or_one j with h | h
      · left; exact ⟨h, by rw [← hbj, h]; rfl⟩
      · right; exact ⟨h, by rw [← hbj, h]; rfl⟩
    rcases ei with ⟨e1, e2⟩ | ⟨e1, e2⟩ <;> rcases ej with ⟨e3, e4⟩ | ⟨e3, e4⟩ <;> rw [e2, e4] <;> simp [e1, e3] <;> omega)
  generalize apartX xs i j = R at *
  have ni : NearV xi := hxi ▸ hn _
  have nj : NearV xj := hxj ▸ hn _
  rw [← hi2] at hi hxi
  rw [← hj2] at hj hxj
  obtain ⟨g1, o1, rfl, hg1, ci⟩ := hx i2 hi
  obtain ⟨_, _, e1, -, cj⟩ := hx j2 hj
  injection e1 with e1; injection e1 with e1 e2; subst e1; subst e2
  rw [← hxi] at ci
  rw [← hxj] at cj
  have hi' : (i2 : Int) < (xs.length : Int) := by omega
  have hj' : (j2 : Int) < (xs.length : Int) := by omega
  have di1 : Int.tdiv (i : Int) 2 = (i2 : Int) := by rw [Int.tdiv_eq_ediv_of_nonneg (by omega)]; omega
  have di2 : (i : Int) / 2 = (i2 : Int) := by omega
  have dj1 : Int.tdiv (j : Int) 2 = (j2 : Int) := by rw [Int.tdiv_eq_ediv_of_nonneg (by omega)]; omega
  have dj2 : (j : Int) / 2 = (j2 : Int) := by omega
  have mi1 : Int.tmod (i : Int) 2 = ((i % 2 : Nat) : Int) := by rw [Int.tmod_eq_emod_of_nonneg (by omega)]; omega
  have mi2 : (i : Int) % 2 = ((i % 2 : Nat) : Int) := by omega
  have mj1 : Int.tmod (j : Int) 2 = ((j % 2 : Nat) : Int) := by rw [Int.tmod_eq_emod_of_nonneg (by omega)]; omega
  have mj2 : (j : Int) % 2 = ((j % 2 : Nat) : Int) := by omega
  clear hi2 hj2 hxi hxj hn hi hj hx
  have hi3 : i % 2 ≤ 1 := by omega
  have hj3 : j % 2 ≤ 1 := by omega
  generalize i % 2 = ri at *
  generalize j % 2 = rj at *
  have Hi := hid (half_ok xi ni bi)
  have Hj := hid (half_ok xj nj bj)
  have NI := hid ni
  have NJ := hid nj
  clear ni nj
  go_enter Tryz.func66, Tryz.ntmps66
  go_upto_region 1 with fail
  have fi := later ci
  have fj := later cj
  clear ci cj
  refine wp_region_flow 11 (fun X => Below w.heap.size w X) (by kernel_rfl) (by kernel_rfl) (Below.refl _ _).drew ?_
  (repeat (first | (refine Flow.skip (by rfl) ?_; simp only [Act.put, List.setIfInBounds_toArray, List.set_cons_zero, List.set_cons_succ]) | (refine' Flow.take _ (by rfl) (fun W hW R hR => ?_) ?_; rotate_left; (go_simp; (try go_bits); with_reducible exact hR); simp only [Act.put, List.setIfInBounds_toArray, List.set_cons_zero, List.set_cons_succ])))
  intro w3 hb3
  clear fi fj
  go_wp2_with fail
  (with_reducible refine (Hi.out w3).mono ?_)
  rintro e4 w4 ⟨a, ra, rfl, ha, ra0, ra1, hb4⟩
  replace hb3 := bup hb3 hb4
  clear hb4
  go_wp2_with fail
  (with_reducible refine (Hj.out w4).mono ?_)
  rintro e5 w5 ⟨b, rb, rfl, hb, rb0, rb1, hb5⟩
  replace hb3 := bup hb3 hb5
  clear hb5 Hi Hj
  have ba : -1099511627777 ≤ a ∧ a ≤ 1099511627777 := by
    have := NI.out; unfold NearV at this
    cases bi <;> simp at ha <;> omega
  have bb : -1099511627777 ≤ b ∧ b ≤ 1099511627777 := by
    have := NJ.out; unfold NearV at this
    cases bj <;> simp at hb <;> omega
  rw [← ha, ← hb] at HR
  obtain ⟨a0, a1⟩ := ba
  obtain ⟨b0, b1⟩ := bb
  clear ha hb
  have t1 : decide (2305843009213693952 - b < a) = false := by rw [decide_eq_false_iff_not]; omega
  have t2 : decide (a < -2305843009213693953 - b) = false := by rw [decide_eq_false_iff_not]; omega
  have e1 : ra = 0 ∨ ra = 1 := by omega
  have e2 : rb = 0 ∨ rb = 1 := by omega
  clear ra0 ra1 rb0 rb1 mi1 mi2 mj1 mj2 hbi hbj di1 di2 dj1 dj2
  rcases e1 with rfl | rfl <;> rcases e2 with rfl | rfl
  all_goals go_wp2
  all_goals (first
    | (exfalso; omega)
    | (refine bodyPost_ret (v := .tuple #[.int .i64 R, .int .i64 0]) (by simp [results, Tryz.results66, go_sem]; have := HR.out; omega) rfl ?_; exact ⟨rfl, hb3⟩)
    | (refine bodyPost_ret (v := .tuple #[.int .i64 R, .int .i64 0]) (by have := HR.out; simp [results, Tryz.results66, go_sem, this]; try omega) rfl ?_; exact ⟨rfl, hb3⟩))
end
end Go.Proofs.YtnmpgijiimglcaaGreat
