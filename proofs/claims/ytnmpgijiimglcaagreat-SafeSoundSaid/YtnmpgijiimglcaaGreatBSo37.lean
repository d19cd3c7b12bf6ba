import Derived.Test.YtnmpgijiimglcaaGreatBSo34
import Derived.Test.YtnmpgijiimglcaaGreatBSo35
import Derived.Test.YtnmpgijiimglcaaGreatBSo23
namespace Go.Proofs.YtnmpgijiimglcaaGreat
section
open Go.RowKit
set_option maxRecDepth 100000
set_option maxHeartbeats 8000000
attribute [local go_sem ↓] Go.wp_at_zero Go.wp_at_succ
theorem sedgeA_3 (o R : O) (fr te dst arr op av an bv bn sz : Int) (hbv : bv < o.n) (ib : I64 bn) (hk : check o = 0) (hav : av < o.n) (ian : I64 an) (C : O) (hC : C = closeO o) (A : Option Addr) (cap : Nat) (w : World) (hx : Rd w w.heap.size A o.m) (hm : o.m.length ≤ 17592186044416)
  (HP : ∀ W, w.heap.size ≤ W.heap.size → Rd W W.heap.size A o.m → Calls Tryz.prog 28 #[.agg #[o.n, o.e, .slice A o.m.length cap], .agg #[fr, te, .int .i64 3, dst, arr, op, av, an, bv, bn]] W (ErrSx W w.heap.size R 0)) :
  Calls Tryz.prog 43 #[.agg #[o.n, o.e, .slice A o.m.length cap], .agg #[fr, te, .int .i64 3, dst, arr, op, av, an, bv, bn], sz] w fun e w' => e = .returned (.tuple #[.bool (C.e || fitsK 3 (opdR (2 * C.n).toNat C.m av an) rg0), .int .i64 0]) ∧ Below w.heap.size w w' := by
 have okc : OkO o.n C := hC ▸ (⟨rfl, hk⟩ : OkO o.n o).close
 have HT := hid HP
 have HC := hid (fun W (h : Rd W W.heap.size A o.m) => (show Calls Tryz.prog 89 #[.agg #[o.n, o.e, .slice A o.m.length cap]] W (CloseRes W C 0) from by have h1 := close_all o A cap W h hm; unfold closedO at h1; rw [if_pos hk, hk, ← hC] at h1; exact h1))
 clear HP hC hk
 have hn := okc.n_
 obtain ⟨CN, Ce, cm⟩ := C
 dsimp only at hn
 subst hn
 have hB : w.heap.size ≤ w.heap.size := Nat.le_refl _
 have d0 : Ce = false → ∃ N : Nat, (2 * o.n).toNat = N ∧ (N : Int) = 2 * o.n ∧ N ≤ 128 ∧ Cells N cm ∧ cm.length ≤ 17592186044416 := by
  intro he
  subst he
  obtain ⟨n0, n1, _, _⟩ := check_ok okc.ok
  dsimp only at n0 n1
  exact ⟨(2 * o.n).toNat, rfl, by omega, by omega, cells_of (by omega) okc.ok, OkO.small okc⟩
 have H1 := hid (fun (he : Ce = false) A2 c2 W (h : Rd W W.heap.size A2 cm) => (show Calls Tryz.prog 90 #[.agg #[o.n, false, .slice A2 cm.length c2], .agg #[av, an]] W (BelVal (opdR (2 * o.n).toNat cm av an).val W) from by
  obtain ⟨N, hNt, hN, hn, d9, e0⟩ := d0 he
  rw [hNt]
  exact operand_ok o.n cm N av an A2 c2 W hN hn d9 hav h e0))
 have H2 := hid (fun (he : Ce = false) A2 c2 W (h : Rd W W.heap.size A2 cm) => (show Calls Tryz.prog 90 #[.agg #[o.n, false, .slice A2 cm.length c2], .agg #[bv, bn]] W (BelVal (opdR (2 * o.n).toNat cm bv bn).val W) from by
  obtain ⟨N, hNt, hN, hn, d9, e0⟩ := d0 he
  rw [hNt]
  exact operand_ok o.n cm N bv bn A2 c2 W hN hn d9 hbv h e0))
 have I1 := opd_i64R (2 * o.n).toNat cm av an ian
 have I2 := opd_i64R (2 * o.n).toNat cm bv bn ib
 dsimp only
 generalize opdR (2 * o.n).toNat cm av an = r at *
 generalize opdR (2 * o.n).toNat cm bv bn = s at *
 clear okc d0 hav hbv ib ian
 have HF := hid (fun W => (show Calls Tryz.prog 46 #[.int .i64 3, r.val, rg0.val] W (fun e w' => e = .returned (.bool (fitsK 3 r rg0)) ∧ Below W.heap.size W w') from safefits_any 3 r rg0 I1 (by unfold rg0 loR hiR I64; simp) W))
 clear I1 I2
 generalize fitsK 3 r rg0 = Q at *
 rw [Rg.val_eq] at H1 H2 HF
 rw [show rg0.val = .agg #[.int .i64 0, .int .i64 0, false, false] from rfl] at HF
 obtain ⟨p0, p1, a4, hsz⟩ := new_two w #[o.n, o.e, .slice A o.m.length cap] #[fr, te, .int .i64 3, dst, arr, op, av, an, bv, bn] 24 44
 clear hsz
 replace hx := hx.up a4
 go_enter Tryz.func43, Tryz.ntmps43
 obtain ⟨c8, c7, c9, c6⟩ := octbox p0
 obtain ⟨a6, b2, a5, a8, b0, b5, a9, b4, b1, b3, b6⟩ := edgbox p1
 go_wp2_with fail
 clear c8 c7 c9 c6 a6 b2 a5 a8 b0 b5 a9 b4 b1 b3 b6
 generalize (w.alloc (Obj.cells #[o.n, o.e, .slice A o.m.length cap] 24)).alloc (Obj.cells #[fr, te, .int .i64 3, dst, arr, op, av, an, bv, bn] 44) = w1 at *
 (with_reducible refine (HT.out w1 a4.size hx).mono ?_)
 rintro e_w2 w2 ⟨A1, c1, rfl, sx1, a7⟩
 clear sx1 HT
 replace p0 := p0.later a7
 replace p1 := p1.later a7
 replace hx := hx.up a7
 replace a4 := bup a4 a7
 clear a7
 obtain ⟨p8, b8, -⟩ := new_one w2 #[R.n, R.e, .slice A1 R.m.length c1] 24
 replace p0 := p0.later b8
 replace p1 := p1.later b8
 replace hx := hx.up b8
 replace a4 := bup a4 b8
 obtain ⟨c8, c7, c9, c6⟩ := octbox p0
 obtain ⟨a6, b2, a5, a8, b0, b5, a9, b4, b1, b3, b6⟩ := edgbox p1
 go_wp2_with fail
 clear c8 c7 c9 c6 a6 b2 a5 a8 b0 b5 a9 b4 b1 b3 b6
 generalize w2.alloc (Obj.cells #[R.n, R.e, .slice A1 R.m.length c1] 24) = w3 at *
 clear p8
 have hB2 := a4.size
 (with_reducible refine (HC.out w3 hx).mono ?_)
 rintro e_w4 w4 ⟨A2, c2, s2, rfl, own, b7⟩
 clear HC hx
 replace p0 := p0.later b7
 replace p1 := p1.later b7
 replace a4 := bup a4 b7
 clear b7
 dsimp only at own
 have sx := Sx.of_own own hB2
 clear own hB2
 cases Ce with
 | true =>
  obtain ⟨p10, b8, -⟩ := new_one w4 #[o.n, true, .slice A2 cm.length c2] 24
  replace p0 := p0.later b8
  replace p1 := p1.later b8
  replace sx := sx.later b8 (Nat.le_trans hB a4.size)
  replace a4 := bup a4 b8
  obtain ⟨c4, c5, c3, c0⟩ := octbox p10
  obtain ⟨a6, b2, a5, a8, b0, b5, a9, b4, b1, b3, b6⟩ := edgbox p1
  go_wp2
  refine bodyPost_ret (v := .tuple #[true, .int .i64 0]) (by simp [results, Tryz.results43, go_sem]) rfl ⟨rfl, a4⟩
 | false =>
  obtain ⟨k0, k1, k2, k3, k4, k5, k6, k7, k8, k9, fk⟩ := edgbox (p1.later (new1 w4 (Obj.cells #[o.n, false, .slice A2 cm.length c2] 24)))
  obtain ⟨p10, p13, b8, -⟩ := new_two w4 #[o.n, false, .slice A2 cm.length c2] #[o.n, false, .slice A2 cm.length c2] 24 125
  replace p0 := p0.later b8
  replace p1 := p1.later b8
  replace sx := sx.later b8 (Nat.le_trans hB a4.size)
  replace a4 := bup a4 b8
  obtain ⟨c4, c5, c3, c0⟩ := octbox p10
  obtain ⟨a6, b2, a5, a8, b0, b5, a9, b4, b1, b3, b6⟩ := edgbox p1
  go_upto_region 17 with fail
  clear c4 c5 c3 c0 a6 b2 a5 a8 b0 b5 a9 b4 b1 b3 b6
  clear k0 k1 k2 k3 k4 k5 k6 k7 k8 k9 fk
  generalize (w4.alloc (Obj.cells #[o.n, false, .slice A2 cm.length c2] 24)).alloc (Obj.cells #[o.n, false, .slice A2 cm.length c2] 125) = w5 at *
  have f0 := laterE (show w5.cell? ⟨w4.heap.size + 1, 0, none⟩ = some (.int .i64 o.n) from p13.cell 0)
  have f1 := laterE (show w5.cell? ⟨w4.heap.size + 1, 1, none⟩ = some (.bool false) from p13.cell 1)
  have f2 := laterE (show w5.cell? ⟨w4.heap.size + 1, 2, none⟩ = some (.slice A2 cm.length c2) from p13.cell 2)
  have j6 := laterE (show w5.cell? ⟨w.heap.size + 1, 6, none⟩ = some (.int .i64 av) from p1.cell 6)
  have j7 := laterE (show w5.cell? ⟨w.heap.size + 1, 7, none⟩ = some (.int .i64 an) from p1.cell 7)
  have j8 := laterE (show w5.cell? ⟨w.heap.size + 1, 8, none⟩ = some (.int .i64 bv) from p1.cell 8)
  have j9 := laterE (show w5.cell? ⟨w.heap.size + 1, 9, none⟩ = some (.int .i64 bn) from p1.cell 9)
  refine wp_region_flowE 10 [Sp.val (.agg #[o.n, false, .slice A2 cm.length c2]), Sp.val (.pointer (some ⟨w.heap.size + 1, 6, none⟩)), Sp.val (.agg #[av, an]), Sp.val (.agg #[r.lo, r.hi, r.hl, r.hh]), Sp.val (.agg #[o.n, false, .slice A2 cm.length c2]), Sp.val (.pointer (some ⟨w.heap.size + 1, 8, none⟩)), Sp.val (.agg #[bv, bn]), Sp.val (.agg #[s.lo, s.hi, s.hl, s.hh]), Sp.any (IsBox 49 #[.int .i64 0, .int .i64 0, false, false]), Sp.any (IsBox 49 #[.int .i64 0, .int .i64 0, false, false])] (by kernel_rfl) (by kernel_rfl) ?_
  (refine fe_t (fun _ _ => ?_))
  (refine fe_t (fun _ _ => ?_))
  (refine fe_t (fun _ _ => ?_))
  refine FlowE.callFV (by rfl) (fun W hW hf => ⟨90, #[.agg #[o.n, false, .slice A2 cm.length c2], .agg #[av, an]], by go_simp, H1.out (by first | rfl | trivial) A2 c2 W ((sx.later (Ext.trans (Below.refl _ _).drew hW) (Nat.le_trans hB a4.size)).rd (Nat.le_trans (Nat.le_trans hB a4.size) (Ext.trans (Below.refl _ _).drew hW : Below w5.heap.size w5 W).size))⟩) (fun _ _ => ?_)
  refine fe_p ?_
  (refine fe_t (fun _ _ => ?_))
  (refine fe_t (fun _ _ => ?_))
  (refine fe_t (fun _ _ => ?_))
  refine FlowE.callFV (by rfl) (fun W hW hf => ⟨90, #[.agg #[o.n, false, .slice A2 cm.length c2], .agg #[bv, bn]], by go_simp, H2.out (by first | rfl | trivial) A2 c2 W ((sx.later (Ext.trans (Below.refl _ _).drew hW) (Nat.le_trans hB a4.size)).rd (Nat.le_trans (Nat.le_trans hB a4.size) (Ext.trans (Below.refl _ _).drew hW : Below w5.heap.size w5 W).size))⟩) (fun _ _ => ?_)
  refine fe_p ?_
  refine FlowE.step (by rfl) (fun W hW K hK => ?_) (fun v8 l8 h8 => ?_)
  ·go_simp
   exact hK _ _ (new1 _ _) ⟨rfl, Blk.new _ _ _, by simp⟩
  refine fe_p ?_
  refine FlowE.step (by rfl) (fun W hW K hK => ?_) (fun v9 l9 h9 => ?_)
  ·go_simp
   exact hK _ _ (new1 _ _) ⟨rfl, Blk.new _ _ _, by simp⟩
  refine fe_p ?_
  refine FlowE.tail (fun W hW hf hd => ?_)
  replace hW : Below w5.heap.size w5 W := Ext.trans (Below.refl _ _).drew hW
  obtain ⟨g8, rfl, k8, lo8, e8, e8'⟩ := fact_box (show Sp.fact w5.drew (Sp.any (IsBox 49 #[.int .i64 0, .int .i64 0, false, false])) v8 l8 h8 W from hf 8)
  obtain ⟨g9, rfl, k9, lo9, e9, e9'⟩ := fact_box (show Sp.fact w5.drew (Sp.any (IsBox 49 #[.int .i64 0, .int .i64 0, false, false])) v9 l9 h9 W from hf 9)
  have dd : h8 ≤ l9 ∨ h9 ≤ l8 := hd 8 9 (by decide)
  have d8 : g8 ≠ g9 := by omega
  have hs8 : w5.heap.size ≤ g8 := lo8
  have hs9 : w5.heap.size ≤ g9 := lo9
  have l1 := p1.lt
  have l13 := p13.lt
  have hw := a4.size
  have n81 : g8 ≠ w.heap.size + 1 := by omega
  have n91 : g9 ≠ w.heap.size + 1 := by omega
  have n8d : g8 ≠ w4.heap.size + 1 := by omega
  have n9d : g9 ≠ w4.heap.size + 1 := by omega
  have l8 : w.heap.size ≤ g8 := by omega
  have l9 : w.heap.size ≤ g9 := by omega
  clear hf hd H1 H2 e8 e8' e9 e9' dd hs8 hs9 lo8 lo9 l1 l13 p10 p0 f0 f1 f2 j6 j7 j8 j9
  replace p1 := p1.later hW
  replace p13 := p13.later hW
  replace sx := sx.later hW (Nat.le_trans hB a4.size)
  replace a4 := bup a4 hW
  clear hW
  obtain ⟨q8, q9, b9, far⟩ := two_sets k8 k9 d8 a4 (Nat.le_refl _) l8 l9 (.int .i64 r.lo) (.int .i64 r.hi) (.bool r.hl) (.bool r.hh) (.int .i64 s.lo) (.int .i64 s.hi) (.bool s.hl) (.bool s.hh)
  have q1 := far _ _ _ p1 n81 n91
  have q13 := far _ _ _ p13 n8d n9d
  clear far
  have d7 := (sx.far4 (g := g8) (v0 := .int .i64 r.lo) (v1 := .int .i64 r.hi) (v2 := .bool r.hl) (v3 := .bool r.hh) l8 k8 (by decide)).far4 (g := g9) (v0 := .int .i64 s.lo) (v1 := .int .i64 s.hi) (v2 := .bool s.hl) (v3 := .bool s.hh) l9 (k9.far4 d8) (by decide)
  have m81 := Ne.symm n81
  have m91 := Ne.symm n91
  have m8d := Ne.symm n8d
  have m9d := Ne.symm n9d
  have mne := Ne.symm d8
  obtain ⟨a6, b2, a5, a8, b0, b5, a9, b4, b1, b3, b6⟩ := edgbox p1
  obtain ⟨d1, d6, d4, d3⟩ := octbox p13
  obtain ⟨x0, x1, x2, x3, fx⟩ := rgbox k8
  obtain ⟨y0, y1, y2, y3, fy⟩ := rgbox k9
  go_upto_region 18 with fail
  clear a6 b2 a5 a8 b0 b5 a9 b4 b1 b3 b6 d1 d6 d4 d3
  clear x0 x1 x2 x3 fx y0 y1 y2 y3 fy k8 k9 p1 p13 a4 sx
  generalize (((((((W.setCell ⟨g8, 0, none⟩ (.int .i64 r.lo)).setCell ⟨g8, 1, none⟩ (.int .i64 r.hi)).setCell ⟨g8, 2, none⟩ (.bool r.hl)).setCell ⟨g8, 3, none⟩ (.bool r.hh)).setCell ⟨g9, 0, none⟩ (.int .i64 s.lo)).setCell ⟨g9, 1, none⟩ (.int .i64 s.hi)).setCell ⟨g9, 2, none⟩ (.bool s.hl)).setCell ⟨g9, 3, none⟩ (.bool s.hh) = w5 at *
  obtain ⟨x0, x1, x2, x3, x4, x5, x6, x7, x8, x9, fx⟩ := edgbox q1
  obtain ⟨y0, y1, y2, y3, fy⟩ := rgbox q9
  obtain ⟨a0, a1, a2, a3, fa⟩ := rgbox q8
  go_wp2_with fail
  clear x0 x1 x2 x3 x4 x5 x6 x7 x8 x9 fx y0 y1 y2 y3 fy a0 a1 a2 a3 fa
  have d2 := b9.trans (below4 (g := g9) (v0 := .int .i64 0) (v1 := .int .i64 0) (v2 := .bool false) (v3 := .bool false) l9 b9.size)
  replace d7 := d7.far4 (g := g9) (v0 := .int .i64 0) (v1 := .int .i64 0) (v2 := .bool false) (v3 := .bool false) l9 q9 (by decide)
  replace q8 := q8.far4 (g := g9) (v0 := .int .i64 0) (v1 := .int .i64 0) (v2 := .bool false) (v3 := .bool false) mne
  replace q1 := q1.far4 (g := g9) (v0 := .int .i64 0) (v1 := .int .i64 0) (v2 := .bool false) (v3 := .bool false) n91
  replace q13 := q13.far4 (g := g9) (v0 := .int .i64 0) (v1 := .int .i64 0) (v2 := .bool false) (v3 := .bool false) n9d
  replace q9 := q9.set4 (v0 := .int .i64 0) (v1 := .int .i64 0) (v2 := .bool false) (v3 := .bool false)
  clear b9
  have b9 := d2
  clear d2
  generalize (((w5.setCell ⟨g9, 0, none⟩ (.int .i64 0)).setCell ⟨g9, 1, none⟩ (.int .i64 0)).setCell ⟨g9, 2, none⟩ (.bool false)).setCell ⟨g9, 3, none⟩ (.bool false) = w5b at *
  (with_reducible refine (HF.out _).mono ?_)
  rintro e6 w6 ⟨rfl, d5⟩
  replace d7 := d7.later d5 b9.size
  replace q1 := q1.later d5
  replace q13 := q13.later d5
  replace b9 := bup b9 d5
  clear d5 HF q8 q9
  cases Q with
  | true =>
   go_wp2
   refine bodyPost_ret (v := .tuple #[true, .int .i64 0]) (by simp [results, Tryz.results43, go_sem]) rfl ⟨rfl, b9⟩
  | false =>
   obtain ⟨x0, x1, x2, x3, x4, x5, x6, x7, x8, x9, fx⟩ := edgbox q1
   obtain ⟨y0, y1, y2, fy⟩ := octbox q13
   go_wp2
   refine bodyPost_ret (v := .tuple #[false, .int .i64 0]) (by simp [results, Tryz.results43, go_sem]) rfl ⟨rfl, b9⟩
end
section
open Go.RowKit
set_option maxRecDepth 100000
set_option maxHeartbeats 8000000
attribute [local go_sem ↓] Go.wp_at_zero Go.wp_at_succ
theorem sedgeA_l (kd : Int) (hkd : kd = 10 ∨ kd = 11) (o R : O) (fr te dst arr op av an bv bn sz : Int) (hbv : bv < o.n) (ib : I64 bn) (hk : check o = 0) (hav : av < o.n) (ian : I64 an) (C : O) (hC : C = closeO o) (A : Option Addr) (cap : Nat) (w : World) (hx : Rd w w.heap.size A o.m) (hm : o.m.length ≤ 17592186044416)
  (HP : ∀ W, w.heap.size ≤ W.heap.size → Rd W W.heap.size A o.m → Calls Tryz.prog 28 #[.agg #[o.n, o.e, .slice A o.m.length cap], .agg #[fr, te, kd, dst, arr, op, av, an, bv, bn]] W (ErrSx W w.heap.size R 0)) :
  Calls Tryz.prog 43 #[.agg #[o.n, o.e, .slice A o.m.length cap], .agg #[fr, te, kd, dst, arr, op, av, an, bv, bn], sz] w fun e w' => e = .returned (.tuple #[.bool (C.e || placeB (opdR (2 * C.n).toNat C.m av an) sz), .int .i64 0]) ∧ Below w.heap.size w w' := by
 rcases hkd with h | h
 all_goals
  have k1 := kdf h 1
  have k2 := kdf h 2
  have k3 := kdf h 3
  have k4 := kdf h 4
  have k5 := kdf h 5
  have k6 := kdf h 6
  have k7 := kdf h 7
  have k8 := kdf h 8
  have k9 := kdf h 9
  have k10 := kdf h 10
  have k11 := kdf h 11
  have k12 := kdf h 12
  have k13 := kdf h 13
  have k14 := kdf h 14
  clear h
  have okc : OkO o.n C := hC ▸ (⟨rfl, hk⟩ : OkO o.n o).close
  have HT := hid HP
  have HC := hid (fun W (h : Rd W W.heap.size A o.m) => (show Calls Tryz.prog 89 #[.agg #[o.n, o.e, .slice A o.m.length cap]] W (CloseRes W C 0) from by have h1 := close_all o A cap W h hm; unfold closedO at h1; rw [if_pos hk, hk, ← hC] at h1; exact h1))
  clear HP hC hk
  have hn := okc.n_
  obtain ⟨CN, Ce, cm⟩ := C
  dsimp only at hn
  subst hn
  have hB : w.heap.size ≤ w.heap.size := Nat.le_refl _
  have c5 : Ce = false → ∃ N : Nat, (2 * o.n).toNat = N ∧ (N : Int) = 2 * o.n ∧ N ≤ 128 ∧ Cells N cm ∧ cm.length ≤ 17592186044416 := by
   intro he
   subst he
   obtain ⟨n0, n1, _, _⟩ := check_ok okc.ok
   dsimp only at n0 n1
   exact ⟨(2 * o.n).toNat, rfl, by omega, by omega, cells_of (by omega) okc.ok, OkO.small okc⟩
  have H1 := hid (fun (he : Ce = false) A2 c2 W (h : Rd W W.heap.size A2 cm) => (show Calls Tryz.prog 90 #[.agg #[o.n, false, .slice A2 cm.length c2], .agg #[av, an]] W (BelVal (opdR (2 * o.n).toNat cm av an).val W) from by
   obtain ⟨N, hNt, hN, hn, d2, d4⟩ := c5 he
   rw [hNt]
   exact operand_ok o.n cm N av an A2 c2 W hN hn d2 hav h d4))
  have H2 := hid (fun (he : Ce = false) A2 c2 W (h : Rd W W.heap.size A2 cm) => (show Calls Tryz.prog 90 #[.agg #[o.n, false, .slice A2 cm.length c2], .agg #[bv, bn]] W (BelVal (opdR (2 * o.n).toNat cm bv bn).val W) from by
   obtain ⟨N, hNt, hN, hn, d2, d4⟩ := c5 he
   rw [hNt]
   exact operand_ok o.n cm N bv bn A2 c2 W hN hn d2 hbv h d4))
  dsimp only
  generalize opdR (2 * o.n).toNat cm av an = r at *
  generalize opdR (2 * o.n).toNat cm bv bn = s at *
  clear okc c5 hav hbv ib ian
  have HQ : Hid (placeB r sz = (((r.hl && r.hh) && decide (0 ≤ r.lo)) && decide (r.hi < sz))) := hid rfl
  have HF := hid (fun W => whole_ok r W)
  generalize placeB r sz = Q at *
  rw [Rg.val_eq] at H1 H2 HF
  obtain ⟨p0, p1, a0, hsz⟩ := new_two w #[o.n, o.e, .slice A o.m.length cap] #[fr, te, kd, dst, arr, op, av, an, bv, bn] 24 44
  clear hsz
  replace hx := hx.up a0
  go_enter Tryz.func43, Tryz.ntmps43
  obtain ⟨c0, b9, c4, c3⟩ := octbox p0
  obtain ⟨a8, a5, a3, b1, a2, a9, a1, a7, a4, a6, b2⟩ := edgbox p1
  go_wp2_with fail
  clear c0 b9 c4 c3 a8 a5 a3 b1 a2 a9 a1 a7 a4 a6 b2
  generalize (w.alloc (Obj.cells #[o.n, o.e, .slice A o.m.length cap] 24)).alloc (Obj.cells #[fr, te, kd, dst, arr, op, av, an, bv, bn] 44) = w1 at *
  (with_reducible refine (HT.out w1 a0.size hx).mono ?_)
  rintro e_w2 w2 ⟨A1, c1, rfl, sx1, b0⟩
  clear sx1 HT
  replace p0 := p0.later b0
  replace p1 := p1.later b0
  replace hx := hx.up b0
  replace a0 := bup a0 b0
  clear b0
  obtain ⟨p8, b4, -⟩ := new_one w2 #[R.n, R.e, .slice A1 R.m.length c1] 24
  replace p0 := p0.later b4
  replace p1 := p1.later b4
  replace hx := hx.up b4
  replace a0 := bup a0 b4
  obtain ⟨c0, b9, c4, c3⟩ := octbox p0
  obtain ⟨a8, a5, a3, b1, a2, a9, a1, a7, a4, a6, b2⟩ := edgbox p1
  go_wp2_with fail
  clear c0 b9 c4 c3 a8 a5 a3 b1 a2 a9 a1 a7 a4 a6 b2
  generalize w2.alloc (Obj.cells #[R.n, R.e, .slice A1 R.m.length c1] 24) = w3 at *
  clear p8
  have hB2 := a0.size
  (with_reducible refine (HC.out w3 hx).mono ?_)
  rintro e_w4 w4 ⟨A2, c2, s2, rfl, own, b3⟩
  clear HC hx
  replace p0 := p0.later b3
  replace p1 := p1.later b3
  replace a0 := bup a0 b3
  clear b3
  dsimp only at own
  have sx := Sx.of_own own hB2
  clear own hB2
  cases Ce with
  | true =>
   obtain ⟨p10, b4, -⟩ := new_one w4 #[o.n, true, .slice A2 cm.length c2] 24
   replace p0 := p0.later b4
   replace p1 := p1.later b4
   replace sx := sx.later b4 (Nat.le_trans hB a0.size)
   replace a0 := bup a0 b4
   obtain ⟨b8, b6, b7, b5⟩ := octbox p10
   obtain ⟨a8, a5, a3, b1, a2, a9, a1, a7, a4, a6, b2⟩ := edgbox p1
   go_wp2
   refine bodyPost_ret (v := .tuple #[true, .int .i64 0]) (by simp [results, Tryz.results43, go_sem]) rfl ⟨rfl, a0⟩
  | false =>
   obtain ⟨k0, k1, k2, k3, k4, k5, k6, k7, k8, k9, fk⟩ := edgbox (p1.later (new1 w4 (Obj.cells #[o.n, false, .slice A2 cm.length c2] 24)))
   obtain ⟨p10, p13, b4, -⟩ := new_two w4 #[o.n, false, .slice A2 cm.length c2] #[o.n, false, .slice A2 cm.length c2] 24 125
   replace p0 := p0.later b4
   replace p1 := p1.later b4
   replace sx := sx.later b4 (Nat.le_trans hB a0.size)
   replace a0 := bup a0 b4
   obtain ⟨b8, b6, b7, b5⟩ := octbox p10
   obtain ⟨a8, a5, a3, b1, a2, a9, a1, a7, a4, a6, b2⟩ := edgbox p1
   go_upto_region 17 with fail
   clear b8 b6 b7 b5 a8 a5 a3 b1 a2 a9 a1 a7 a4 a6 b2
   clear k0 k1 k2 k3 k4 k5 k6 k7 k8 k9 fk
   generalize (w4.alloc (Obj.cells #[o.n, false, .slice A2 cm.length c2] 24)).alloc (Obj.cells #[o.n, false, .slice A2 cm.length c2] 125) = w5 at *
   have f0 := laterE (show w5.cell? ⟨w4.heap.size + 1, 0, none⟩ = some (.int .i64 o.n) from p13.cell 0)
   have f1 := laterE (show w5.cell? ⟨w4.heap.size + 1, 1, none⟩ = some (.bool false) from p13.cell 1)
   have f2 := laterE (show w5.cell? ⟨w4.heap.size + 1, 2, none⟩ = some (.slice A2 cm.length c2) from p13.cell 2)
   have j6 := laterE (show w5.cell? ⟨w.heap.size + 1, 6, none⟩ = some (.int .i64 av) from p1.cell 6)
   have j7 := laterE (show w5.cell? ⟨w.heap.size + 1, 7, none⟩ = some (.int .i64 an) from p1.cell 7)
   have j8 := laterE (show w5.cell? ⟨w.heap.size + 1, 8, none⟩ = some (.int .i64 bv) from p1.cell 8)
   have j9 := laterE (show w5.cell? ⟨w.heap.size + 1, 9, none⟩ = some (.int .i64 bn) from p1.cell 9)
   refine wp_region_flowE 10 [Sp.val (.agg #[o.n, false, .slice A2 cm.length c2]), Sp.val (.pointer (some ⟨w.heap.size + 1, 6, none⟩)), Sp.val (.agg #[av, an]), Sp.val (.agg #[r.lo, r.hi, r.hl, r.hh]), Sp.val (.agg #[o.n, false, .slice A2 cm.length c2]), Sp.val (.pointer (some ⟨w.heap.size + 1, 8, none⟩)), Sp.val (.agg #[bv, bn]), Sp.val (.agg #[s.lo, s.hi, s.hl, s.hh]), Sp.any (IsBox 49 #[.int .i64 0, .int .i64 0, false, false]), Sp.any (IsBox 49 #[.int .i64 0, .int .i64 0, false, false])] (by kernel_rfl) (by kernel_rfl) ?_
   (refine fe_t (fun _ _ => ?_))
   (refine fe_t (fun _ _ => ?_))
   (refine fe_t (fun _ _ => ?_))
   refine FlowE.callFV (by rfl) (fun W hW hf => ⟨90, #[.agg #[o.n, false, .slice A2 cm.length c2], .agg #[av, an]], by go_simp, H1.out (by first | rfl | trivial) A2 c2 W ((sx.later (Ext.trans (Below.refl _ _).drew hW) (Nat.le_trans hB a0.size)).rd (Nat.le_trans (Nat.le_trans hB a0.size) (Ext.trans (Below.refl _ _).drew hW : Below w5.heap.size w5 W).size))⟩) (fun _ _ => ?_)
   refine fe_p ?_
   (refine fe_t (fun _ _ => ?_))
   (refine fe_t (fun _ _ => ?_))
   (refine fe_t (fun _ _ => ?_))
   refine FlowE.callFV (by rfl) (fun W hW hf => ⟨90, #[.agg #[o.n, false, .slice A2 cm.length c2], .agg #[bv, bn]], by go_simp, H2.out (by first | rfl | trivial) A2 c2 W ((sx.later (Ext.trans (Below.refl _ _).drew hW) (Nat.le_trans hB a0.size)).rd (Nat.le_trans (Nat.le_trans hB a0.size) (Ext.trans (Below.refl _ _).drew hW : Below w5.heap.size w5 W).size))⟩) (fun _ _ => ?_)
   refine fe_p ?_
   refine FlowE.step (by rfl) (fun W hW K hK => ?_) (fun v8 l8 h8 => ?_)
   ·go_simp
    exact hK _ _ (new1 _ _) ⟨rfl, Blk.new _ _ _, by simp⟩
   refine fe_p ?_
   refine FlowE.step (by rfl) (fun W hW K hK => ?_) (fun v9 l9 h9 => ?_)
   ·go_simp
    exact hK _ _ (new1 _ _) ⟨rfl, Blk.new _ _ _, by simp⟩
   refine fe_p ?_
   refine FlowE.tail (fun W hW hf hd => ?_)
   replace hW : Below w5.heap.size w5 W := Ext.trans (Below.refl _ _).drew hW
   obtain ⟨g8, rfl, k8, lo8, e8, e8'⟩ := fact_box (show Sp.fact w5.drew (Sp.any (IsBox 49 #[.int .i64 0, .int .i64 0, false, false])) v8 l8 h8 W from hf 8)
   obtain ⟨g9, rfl, k9, lo9, e9, e9'⟩ := fact_box (show Sp.fact w5.drew (Sp.any (IsBox 49 #[.int .i64 0, .int .i64 0, false, false])) v9 l9 h9 W from hf 9)
   have dd : h8 ≤ l9 ∨ h9 ≤ l8 := hd 8 9 (by decide)
   have d1 : g8 ≠ g9 := by omega
   have hs8 : w5.heap.size ≤ g8 := lo8
   have hs9 : w5.heap.size ≤ g9 := lo9
   have l1 := p1.lt
   have l13 := p13.lt
   have hw := a0.size
   have n81 : g8 ≠ w.heap.size + 1 := by omega
   have n91 : g9 ≠ w.heap.size + 1 := by omega
   have n8d : g8 ≠ w4.heap.size + 1 := by omega
   have n9d : g9 ≠ w4.heap.size + 1 := by omega
   have l8 : w.heap.size ≤ g8 := by omega
   have l9 : w.heap.size ≤ g9 := by omega
   clear hf hd H1 H2 e8 e8' e9 e9' dd hs8 hs9 lo8 lo9 l1 l13 p10 p0 f0 f1 f2 j6 j7 j8 j9
   replace p1 := p1.later hW
   replace p13 := p13.later hW
   replace sx := sx.later hW (Nat.le_trans hB a0.size)
   replace a0 := bup a0 hW
   clear hW
   obtain ⟨q8, q9, d0, far⟩ := two_sets k8 k9 d1 a0 (Nat.le_refl _) l8 l9 (.int .i64 r.lo) (.int .i64 r.hi) (.bool r.hl) (.bool r.hh) (.int .i64 s.lo) (.int .i64 s.hi) (.bool s.hl) (.bool s.hh)
   have q1 := far _ _ _ p1 n81 n91
   have q13 := far _ _ _ p13 n8d n9d
   clear far
   have sx9 := (sx.far4 (g := g8) (v0 := .int .i64 r.lo) (v1 := .int .i64 r.hi) (v2 := .bool r.hl) (v3 := .bool r.hh) l8 k8 (by decide)).far4 (g := g9) (v0 := .int .i64 s.lo) (v1 := .int .i64 s.hi) (v2 := .bool s.hl) (v3 := .bool s.hh) l9 (k9.far4 d1) (by decide)
   have m81 := Ne.symm n81
   have m91 := Ne.symm n91
   have m8d := Ne.symm n8d
   have m9d := Ne.symm n9d
   have mne := Ne.symm d1
   obtain ⟨a8, a5, a3, b1, a2, a9, a1, a7, a4, a6, b2⟩ := edgbox p1
   obtain ⟨c9, c8, c7, c6⟩ := octbox p13
   obtain ⟨x0, x1, x2, x3, fx⟩ := rgbox k8
   obtain ⟨y0, y1, y2, y3, fy⟩ := rgbox k9
   go_wp2_with fail
   clear a8 a5 a3 b1 a2 a9 a1 a7 a4 a6 b2 c9 c8 c7 c6
   clear x0 x1 x2 x3 fx y0 y1 y2 y3 fy k8 k9 p1 p13 a0 sx
   generalize (((((((W.setCell ⟨g8, 0, none⟩ (.int .i64 r.lo)).setCell ⟨g8, 1, none⟩ (.int .i64 r.hi)).setCell ⟨g8, 2, none⟩ (.bool r.hl)).setCell ⟨g8, 3, none⟩ (.bool r.hh)).setCell ⟨g9, 0, none⟩ (.int .i64 s.lo)).setCell ⟨g9, 1, none⟩ (.int .i64 s.hi)).setCell ⟨g9, 2, none⟩ (.bool s.hl)).setCell ⟨g9, 3, none⟩ (.bool s.hh) = w5 at *
   (with_reducible refine (HF.out _).mono ?_)
   rintro e6 w6 ⟨rfl, d3⟩
   clear sx9 q1 q13
   replace q8 := q8.later d3
   replace d0 := bup d0 d3
   clear d3 HF q9
   obtain ⟨x0, x1, x2, x3, fx⟩ := rgbox q8
   have hQ := HQ.out
   clear HQ q8
   obtain ⟨lo, hi, hl, hh⟩ := r
   dsimp only at *
   cases hl <;> cases hh <;> cases t8 : decide (0 ≤ lo) <;> cases t9 : decide (hi < sz)
   all_goals
    rw [t8, t9] at hQ
    subst hQ
    go_wp2
    refine bodyPost_ret (v := .tuple #[.bool _, .int .i64 0]) (by simp [results, Tryz.results43, go_sem]; try rfl) rfl ⟨rfl, d0⟩
end
end Go.Proofs.YtnmpgijiimglcaaGreat
