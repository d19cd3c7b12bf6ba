import Derived.Test.YtnmpgijiimglcaaGreatBSe42
import Derived.Test.YtnmpgijiimglcaaGreatBSe29
namespace Go.Proofs.YtnmpgijiimglcaaGreat
open Go.RowKit
set_option maxRecDepth 100000
set_option maxHeartbeats 8000000
attribute [local go_sem ↓] Go.wp_at_zero Go.wp_at_succ
theorem set8 {w W : World} {B g : Nat} {t : TypeId} {c0 c1 c2 c3 c4 c5 c6 c7 : Value} (k : Blk W g t #[c0, c1, c2, c3, c4, c5, c6, c7]) (hb : Below B w W) (hB : B ≤ w.heap.size) (hg : B ≤ g) (v0 v1 v2 v3 v4 v5 v6 v7 : Value) :
  Blk ((((((((W.setCell ⟨g, 0, none⟩ v0).setCell ⟨g, 1, none⟩ v1).setCell ⟨g, 2, none⟩ v2).setCell ⟨g, 3, none⟩ v3).setCell ⟨g, 4, none⟩ v4).setCell ⟨g, 5, none⟩ v5).setCell ⟨g, 6, none⟩ v6).setCell ⟨g, 7, none⟩ v7) g t #[v0, v1, v2, v3, v4, v5, v6, v7] ∧ Below B w ((((((((W.setCell ⟨g, 0, none⟩ v0).setCell ⟨g, 1, none⟩ v1).setCell ⟨g, 2, none⟩ v2).setCell ⟨g, 3, none⟩ v3).setCell ⟨g, 4, none⟩ v4).setCell ⟨g, 5, none⟩ v5).setCell ⟨g, 6, none⟩ v6).setCell ⟨g, 7, none⟩ v7) ∧ ∀ q u cs, Blk W q u cs → g ≠ q → Blk ((((((((W.setCell ⟨g, 0, none⟩ v0).setCell ⟨g, 1, none⟩ v1).setCell ⟨g, 2, none⟩ v2).setCell ⟨g, 3, none⟩ v3).setCell ⟨g, 4, none⟩ v4).setCell ⟨g, 5, none⟩ v5).setCell ⟨g, 6, none⟩ v6).setCell ⟨g, 7, none⟩ v7) q u cs := by
 refine ⟨((((((((k.set_ 0 v0).set_ 1 v1).set_ 2 v2).set_ 3 v3).set_ 4 v4).set_ 5 v5).set_ 6 v6).set_ 7 v7), ?_, fun q u cs h hne => ((((((((h.far (p := ⟨g, 0, none⟩) hne v0).far (p := ⟨g, 1, none⟩) hne v1).far (p := ⟨g, 2, none⟩) hne v2).far (p := ⟨g, 3, none⟩) hne v3).far (p := ⟨g, 4, none⟩) hne v4).far (p := ⟨g, 5, none⟩) hne v5).far (p := ⟨g, 6, none⟩) hne v6).far (p := ⟨g, 7, none⟩) hne v7)⟩
 have s0 : B ≤ W.heap.size := Nat.le_trans hB hb.size
 have h0 := zaL (W := W) (i := 0) (v := v0) hg s0
 have s1 := Nat.le_trans s0 h0.size
 have h1 := zaL (W := (W.setCell ⟨g, 0, none⟩ v0)) (i := 1) (v := v1) hg s1
 have s2 := Nat.le_trans s1 h1.size
 have h2 := zaL (W := ((W.setCell ⟨g, 0, none⟩ v0).setCell ⟨g, 1, none⟩ v1)) (i := 2) (v := v2) hg s2
 have s3 := Nat.le_trans s2 h2.size
 have h3 := zaL (W := (((W.setCell ⟨g, 0, none⟩ v0).setCell ⟨g, 1, none⟩ v1).setCell ⟨g, 2, none⟩ v2)) (i := 3) (v := v3) hg s3
 have s4 := Nat.le_trans s3 h3.size
 have h4 := zaL (W := ((((W.setCell ⟨g, 0, none⟩ v0).setCell ⟨g, 1, none⟩ v1).setCell ⟨g, 2, none⟩ v2).setCell ⟨g, 3, none⟩ v3)) (i := 4) (v := v4) hg s4
 have s5 := Nat.le_trans s4 h4.size
 have h5 := zaL (W := (((((W.setCell ⟨g, 0, none⟩ v0).setCell ⟨g, 1, none⟩ v1).setCell ⟨g, 2, none⟩ v2).setCell ⟨g, 3, none⟩ v3).setCell ⟨g, 4, none⟩ v4)) (i := 5) (v := v5) hg s5
 have s6 := Nat.le_trans s5 h5.size
 have h6 := zaL (W := ((((((W.setCell ⟨g, 0, none⟩ v0).setCell ⟨g, 1, none⟩ v1).setCell ⟨g, 2, none⟩ v2).setCell ⟨g, 3, none⟩ v3).setCell ⟨g, 4, none⟩ v4).setCell ⟨g, 5, none⟩ v5)) (i := 6) (v := v6) hg s6
 have s7 := Nat.le_trans s6 h6.size
 have h7 := zaL (W := (((((((W.setCell ⟨g, 0, none⟩ v0).setCell ⟨g, 1, none⟩ v1).setCell ⟨g, 2, none⟩ v2).setCell ⟨g, 3, none⟩ v3).setCell ⟨g, 4, none⟩ v4).setCell ⟨g, 5, none⟩ v5).setCell ⟨g, 6, none⟩ v6)) (i := 7) (v := v7) hg s7
 have s8 := Nat.le_trans s7 h7.size
 exact ((((((((hb.trans h0).trans h1).trans h2).trans h3).trans h4).trans h5).trans h6).trans h7)
theorem zlr (c0 c1 c2 c3 c4 c5 c6 c7 : Value) (W : World) : (Instr.index 230 (.agg #[c0, c1, c2, c3, c4, c5, c6, c7]) (.int .i64 0)).run Tryz.prog W = .ok (.agg #[c0, c1]) W := by
 simp [Instr.index, run_underlying Tryz.underlying230, asIntOf, go_sem]
 try rfl
theorem zls (c0 c1 c2 c3 c4 c5 c6 c7 : Value) (W : World) : (Instr.index 230 (.agg #[c0, c1, c2, c3, c4, c5, c6, c7]) (.int .i64 1)).run Tryz.prog W = .ok (.agg #[c2, c3]) W := by
 simp [Instr.index, run_underlying Tryz.underlying230, asIntOf, go_sem]
 try rfl
theorem zly (c0 c1 c2 c3 c4 c5 c6 c7 : Value) (W : World) : (Instr.index 230 (.agg #[c0, c1, c2, c3, c4, c5, c6, c7]) (.int .i64 2)).run Tryz.prog W = .ok (.agg #[c4, c5]) W := by
 simp [Instr.index, run_underlying Tryz.underlying230, asIntOf, go_sem]
 try rfl
theorem zlJ (c0 c1 c2 c3 c4 c5 c6 c7 : Value) (W : World) : (Instr.index 230 (.agg #[c0, c1, c2, c3, c4, c5, c6, c7]) (.int .i64 3)).run Tryz.prog W = .ok (.agg #[c6, c7]) W := by
 simp [Instr.index, run_underlying Tryz.underlying230, asIntOf, go_sem]
 try rfl
def minTo (c0 c1 c2 c3 : Int) : Nat → Int
 | 0 => c0
 | 1 => min c0 c0
 | 2 => min (min c0 c0) c1
 | 3 => min (min (min c0 c0) c1) c2
 | _ => min (min (min (min c0 c0) c1) c2) c3
def maxTo (c0 c1 c2 c3 : Int) : Nat → Int
 | 0 => c0
 | 1 => max c0 c0
 | 2 => max (max c0 c0) c1
 | 3 => max (max (max c0 c0) c1) c2
 | _ => max (max (max (max c0 c0) c1) c2) c3
theorem zdn (n : Int) : IntKind.i64.wrap n = wrap64 n := by
 simp only [IntKind.wrap, IntKind.signed, IntKind.bits, wrap64]
 simp
 omega
theorem zdW {x y : Int} (h1 : -1073741824 ≤ x) (h2 : x ≤ 1073741824) (h3 : -1073741824 ≤ y) (h4 : y ≤ 1073741824) : -1152921504606846976 ≤ x * y ∧ x * y ≤ 1152921504606846976 := by
 have a := Int.mul_nonneg (show 0 ≤ 1073741824 - x by omega) (show 0 ≤ 1073741824 - y by omega)
 have b := Int.mul_nonneg (show 0 ≤ 1073741824 + x by omega) (show 0 ≤ 1073741824 + y by omega)
 have c := Int.mul_nonneg (show 0 ≤ 1073741824 - x by omega) (show 0 ≤ 1073741824 + y by omega)
 have d := Int.mul_nonneg (show 0 ≤ 1073741824 + x by omega) (show 0 ≤ 1073741824 - y by omega)
 rw [Int.sub_mul, Int.mul_sub, Int.mul_sub] at a
 rw [Int.add_mul, Int.mul_add, Int.mul_add] at b
 rw [Int.sub_mul, Int.mul_add, Int.mul_add] at c
 rw [Int.add_mul, Int.mul_sub, Int.mul_sub] at d
 generalize x * y = p at *
 omega
theorem zjt (a b : Rg) (w : World) : Calls Tryz.prog 231 #[a.val, b.val] w (zam (mulR a b).val w) := by
 obtain ⟨a0, a1, ahl, ahh⟩ := a
 obtain ⟨b0, b1, bhl, bhh⟩ := b
 have HE : Hid (mulR ⟨a0, a1, ahl, ahh⟩ ⟨b0, b1, bhl, bhh⟩ = if nearR ahl a0 && nearR ahh a1 && nearR bhl b0 && nearR bhh b1 then ⟨min (min (a0 * b0) (a0 * b1)) (min (a1 * b0) (a1 * b1)), max (max (a0 * b0) (a0 * b1)) (max (a1 * b0) (a1 * b1)), true, true⟩ else rg0) := hid rfl
 generalize mulR ⟨a0, a1, ahl, ahh⟩ ⟨b0, b1, bhl, bhh⟩ = R at *
 have b2 := hid (fun n (h : Bool) (q : nearR h n = true) => (show -1073741824 ≤ n ∧ n ≤ 1073741824 from by unfold nearR at q; simp at q; exact q.2))
 have HL1 := hid (fun W => zex a0 a1 ahl ahh W)
 have HH1 := hid (fun W => zez a0 a1 ahl ahh W)
 have a6 := hid (fun W => zex b0 b1 bhl bhh W)
 have HH2 := hid (fun W => zez b0 b1 bhl bhh W)
 have HN0 := hid (fun W => zdw a0 ahl W)
 have HN1 := hid (fun W => zdw a1 ahh W)
 have HN2 := hid (fun W => zdw b0 bhl W)
 have HN3 := hid (fun W => zdw b1 bhh W)
 have HB := hid (show nearR ahl a0 = true → nearR ahh a1 = true → nearR bhl b0 = true → nearR bhh b1 = true → (-1073741824 ≤ a0 ∧ a0 ≤ 1073741824) ∧ (-1073741824 ≤ a1 ∧ a1 ≤ 1073741824) ∧ (-1073741824 ≤ b0 ∧ b0 ≤ 1073741824) ∧ (-1073741824 ≤ b1 ∧ b1 ≤ 1073741824) from fun q0 q1 q2 q3 => ⟨b2.out _ _ q0, b2.out _ _ q1, b2.out _ _ q2, b2.out _ _ q3⟩)
 clear b2
 generalize nearR ahl a0 = z0 at *
 generalize nearR ahh a1 = z1 at *
 generalize nearR bhl b0 = z2 at *
 generalize nearR bhh b1 = z3 at *
 unfold Rg.val
 dsimp only
 obtain ⟨p2, p3, p4, a9, hsz⟩ := zaj w #[a0, a1, ahl, ahh] #[b0, b1, bhl, bhh] #[.int .i64 0, .int .i64 0, false, false] 49 49 49
 clear hsz
 go_enter Tryz.func231, Tryz.ntmps231
 go_upto_region 1 with fail
 generalize ((w.alloc (Obj.cells #[a0, a1, ahl, ahh] 49)).alloc (Obj.cells #[b0, b1, bhl, bhh] 49)).alloc (Obj.cells #[.int .i64 0, .int .i64 0, false, false] 49) = w1 at *
 have f0 := zab (show w1.cell? ⟨w.heap.size, 0, none⟩ = some (.int .i64 a0) from p2.cell 0)
 have f1 := zab (show w1.cell? ⟨w.heap.size, 1, none⟩ = some (.int .i64 a1) from p2.cell 1)
 have f2 := zab (show w1.cell? ⟨w.heap.size, 2, none⟩ = some (.bool ahl) from p2.cell 2)
 have f3 := zab (show w1.cell? ⟨w.heap.size, 3, none⟩ = some (.bool ahh) from p2.cell 3)
 have j0 := zab (show w1.cell? ⟨w.heap.size + 1, 0, none⟩ = some (.int .i64 b0) from p3.cell 0)
 have j1 := zab (show w1.cell? ⟨w.heap.size + 1, 1, none⟩ = some (.int .i64 b1) from p3.cell 1)
 have j2 := zab (show w1.cell? ⟨w.heap.size + 1, 2, none⟩ = some (.bool bhl) from p3.cell 2)
 have j3 := zab (show w1.cell? ⟨w.heap.size + 1, 3, none⟩ = some (.bool bhh) from p3.cell 3)
 refine zac 10 [Sp.val (.agg #[a0, a1, ahl, ahh]), Sp.val (.agg #[a0, ahl]), Sp.val (.agg #[a0, a1, ahl, ahh]), Sp.val (.agg #[a1, ahh]), Sp.val (.agg #[b0, b1, bhl, bhh]), Sp.val (.agg #[b0, bhl]), Sp.val (.agg #[b0, b1, bhl, bhh]), Sp.val (.agg #[b1, bhh]), Sp.val (.agg #[a0, ahl, a1, ahh, b0, bhl, b1, bhh]), Sp.any (zat 230 #[.int .i64 0, false, .int .i64 0, false, .int .i64 0, false, .int .i64 0, false])] (by kernel_rfl) (by kernel_rfl) ?_
 (refine fe_t (fun _ _ => ?_))
 refine zaf.callFV (by rfl) (fun W hW hf => ⟨244, #[.agg #[a0, a1, ahl, ahh]], by go_simp, HL1.out W⟩) (fun _ _ => ?_)
 refine fe_p ?_
 (refine fe_t (fun _ _ => ?_))
 refine zaf.callFV (by rfl) (fun W hW hf => ⟨245, #[.agg #[a0, a1, ahl, ahh]], by go_simp, HH1.out W⟩) (fun _ _ => ?_)
 refine fe_p ?_
 (refine fe_t (fun _ _ => ?_))
 refine zaf.callFV (by rfl) (fun W hW hf => ⟨244, #[.agg #[b0, b1, bhl, bhh]], by go_simp, a6.out W⟩) (fun _ _ => ?_)
 refine fe_p ?_
 (refine fe_t (fun _ _ => ?_))
 refine zaf.callFV (by rfl) (fun W hW hf => ⟨245, #[.agg #[b0, b1, bhl, bhh]], by go_simp, HH2.out W⟩) (fun _ _ => ?_)
 refine fe_p ?_
 (refine fe_t (fun _ _ => ?_))
 refine zaf.step (by rfl) (fun W hW K hK => ?_) (fun v9 l9 h9 => ?_)
 ·go_simp
  exact hK _ _ (new1 _ _) ⟨rfl, Blk.new _ _ _, by simp⟩
 refine fe_p ?_
 refine zaf.tail (fun W hW hf hd2 => ?_)
 replace hW : Below w1.heap.size w1 W := Ext.trans (Below.refl _ _).drew hW
 obtain ⟨g5, rfl, k5, lo5, e5, e5'⟩ := zap (show Sp.fact w1.drew (Sp.any (zat 230 #[.int .i64 0, false, .int .i64 0, false, .int .i64 0, false, .int .i64 0, false])) v9 l9 h9 W from hf 9)
 have hs5 : w1.heap.size ≤ g5 := lo5
 have l4 := p4.lt
 have hw0 := a9.size
 have n45 : g5 ≠ w.heap.size + 1 + 1 := by omega
 have lg5 : w.heap.size ≤ g5 := by omega
 clear hf hd2 lo5 e5 e5' hs5 l4 hw0 p2 p3 HL1 HH1 a6 HH2 f0 f1 f2 f3 j0 j1 j2 j3
 replace p4 := p4.later hW
 replace a9 := bup a9 hW
 clear hW
 have x0 := k5.cell 0
 have x1 := k5.cell 1
 have x2 := k5.cell 2
 have x3 := k5.cell 3
 have x4 := k5.cell 4
 have x5 := k5.cell 5
 have x6 := k5.cell 6
 have x7 := k5.cell 7
 have fx := k5.fr
 obtain ⟨q5, a2, far⟩ := set8 k5 a9 (Nat.le_refl _) lg5 (.int .i64 a0) (.bool ahl) (.int .i64 a1) (.bool ahh) (.int .i64 b0) (.bool bhl) (.int .i64 b1) (.bool bhh)
 have q4 := far _ _ _ p4 n45
 clear far
 go_wp2
 clear x0 x1 x2 x3 x4 x5 x6 x7 fx k5 p4 a9
 generalize (((((((W.setCell ⟨g5, 0, none⟩ (.int .i64 a0)).setCell ⟨g5, 1, none⟩ (.bool ahl)).setCell ⟨g5, 2, none⟩ (.int .i64 a1)).setCell ⟨g5, 3, none⟩ (.bool ahh)).setCell ⟨g5, 4, none⟩ (.int .i64 b0)).setCell ⟨g5, 5, none⟩ (.bool bhl)).setCell ⟨g5, 6, none⟩ (.int .i64 b1)).setCell ⟨g5, 7, none⟩ (.bool bhh) = w5 at *
 go_loopw [24] (fun t wq => ∃ i : Nat, i ≤ 4 ∧ t = .int .i64 i ∧ (1 ≤ i → z0 = true) ∧ (2 ≤ i → z1 = true) ∧ (3 ≤ i → z2 = true) ∧ (4 ≤ i → z3 = true) ∧ Blk wq (w.heap.size + 1 + 1) 49 #[.int .i64 0, .int .i64 0, false, false] ∧ Blk wq g5 230 #[a0, ahl, a1, ahh, b0, bhl, b1, bhh] ∧ Below w.heap.size w wq) (fun t _ => 4 - (RowKit.intOf t).toNat)
 case atStart => exact ⟨0, by omega, rfl, by omega, by omega, by omega, by omega, q4, q5, a2⟩
 case round =>
  clear q4 q5 a2
  obtain ⟨i, hi, rfl, i0, i1, i2, i3, q4, q5, a2⟩ := hrel
  have HI := hid (And.intro i0 (And.intro i1 (And.intro i2 i3)))
  clear i0 i1 i2 i3
  have a4 : i = 0 ∨ i = 1 ∨ i = 2 ∨ i = 3 ∨ i = 4 := by omega
  clear hi
  rcases a4 with rfl | rfl | rfl | rfl | rfl
  ·obtain ⟨b1, a3, -⟩ := zak wr #[a0, ahl] 185
   replace q4 := q4.later a3
   replace q5 := q5.later a3
   replace a2 := bup a2 a3
   clear a3
   go_wp2
   rw [zlr]
   obtain ⟨x0, x1, fx⟩ := zai b1
   go_wp2_with fail
   clear x0 x1 fx b1
   (with_reducible refine (HN0.out _).mono ?_)
   rintro e2 w2 ⟨rfl, a5⟩
   replace q4 := q4.later a5
   replace q5 := q5.later a5
   replace a2 := bup a2 a5
   clear a5
   cases z0 with
   | false =>
    have hR : R = rg0 := by rw [HE.out]; simp
    subst hR
    have y0 := zag q4
    go_wp2
    clear y0
    have z9 := (((q4.set_ 0 (.int .i64 0)).set_ 1 (.int .i64 0)).set_ 2 (.bool false)).set_ 3 (.bool false)
    have a7 := a2.trans (zav (W := w2) (g := w.heap.size + 1 + 1) (v0 := .int .i64 0) (v1 := .int .i64 0) (v2 := .bool false) (v3 := .bool false) (by omega) a2.size)
    obtain ⟨r0, r1, r2, r3, fr⟩ := zag (show Blk _ _ _ #[.int .i64 0, .int .i64 0, false, false] from z9)
    refine bodyPost_ret (v := .agg #[.int .i64 0, .int .i64 0, false, false]) (by simp [results, Tryz.results231, go_sem, r0, r1, r2, r3]) rfl (And.intro ?_ a7)
    rfl
   | true =>
    go_wp2
    go_roundw
    case rel => exact ⟨1, by omega, by go_num, fun _ => (by first | rfl | trivial), fun h => by omega, fun h => by omega, fun h => by omega, q4, q5, a2⟩
    case measure => simp [RowKit.intOf]
  ·obtain ⟨b1, a3, -⟩ := zak wr #[a1, ahh] 185
   replace q4 := q4.later a3
   replace q5 := q5.later a3
   replace a2 := bup a2 a3
   clear a3
   go_wp2
   rw [zls]
   obtain ⟨x0, x1, fx⟩ := zai b1
   go_wp2_with fail
   clear x0 x1 fx b1
   (with_reducible refine (HN1.out _).mono ?_)
   rintro e2 w2 ⟨rfl, a5⟩
   replace q4 := q4.later a5
   replace q5 := q5.later a5
   replace a2 := bup a2 a5
   clear a5
   cases z1 with
   | false =>
    have hR : R = rg0 := by rw [HE.out]; simp
    subst hR
    have y0 := zag q4
    go_wp2
    clear y0
    have z9 := (((q4.set_ 0 (.int .i64 0)).set_ 1 (.int .i64 0)).set_ 2 (.bool false)).set_ 3 (.bool false)
    have a7 := a2.trans (zav (W := w2) (g := w.heap.size + 1 + 1) (v0 := .int .i64 0) (v1 := .int .i64 0) (v2 := .bool false) (v3 := .bool false) (by omega) a2.size)
    obtain ⟨r0, r1, r2, r3, fr⟩ := zag (show Blk _ _ _ #[.int .i64 0, .int .i64 0, false, false] from z9)
    refine bodyPost_ret (v := .agg #[.int .i64 0, .int .i64 0, false, false]) (by simp [results, Tryz.results231, go_sem, r0, r1, r2, r3]) rfl (And.intro ?_ a7)
    rfl
   | true =>
    go_wp2
    go_roundw
    case rel => exact ⟨2, by omega, by go_num, fun _ => HI.out.1 (by omega), fun _ => (by first | rfl | trivial), fun h => by omega, fun h => by omega, q4, q5, a2⟩
    case measure => simp [RowKit.intOf]
  ·obtain ⟨b1, a3, -⟩ := zak wr #[b0, bhl] 185
   replace q4 := q4.later a3
   replace q5 := q5.later a3
   replace a2 := bup a2 a3
   clear a3
   go_wp2
   rw [zly]
   obtain ⟨x0, x1, fx⟩ := zai b1
   go_wp2_with fail
   clear x0 x1 fx b1
   (with_reducible refine (HN2.out _).mono ?_)
   rintro e2 w2 ⟨rfl, a5⟩
   replace q4 := q4.later a5
   replace q5 := q5.later a5
   replace a2 := bup a2 a5
   clear a5
   cases z2 with
   | false =>
    have hR : R = rg0 := by rw [HE.out]; simp
    subst hR
    have y0 := zag q4
    go_wp2
    clear y0
    have z9 := (((q4.set_ 0 (.int .i64 0)).set_ 1 (.int .i64 0)).set_ 2 (.bool false)).set_ 3 (.bool false)
    have a7 := a2.trans (zav (W := w2) (g := w.heap.size + 1 + 1) (v0 := .int .i64 0) (v1 := .int .i64 0) (v2 := .bool false) (v3 := .bool false) (by omega) a2.size)
    obtain ⟨r0, r1, r2, r3, fr⟩ := zag (show Blk _ _ _ #[.int .i64 0, .int .i64 0, false, false] from z9)
    refine bodyPost_ret (v := .agg #[.int .i64 0, .int .i64 0, false, false]) (by simp [results, Tryz.results231, go_sem, r0, r1, r2, r3]) rfl (And.intro ?_ a7)
    rfl
   | true =>
    go_wp2
    go_roundw
    case rel => exact ⟨3, by omega, by go_num, fun _ => HI.out.1 (by omega), fun _ => HI.out.2.1 (by omega), fun _ => (by first | rfl | trivial), fun h => by omega, q4, q5, a2⟩
    case measure => simp [RowKit.intOf]
  ·obtain ⟨b1, a3, -⟩ := zak wr #[b1, bhh] 185
   replace q4 := q4.later a3
   replace q5 := q5.later a3
   replace a2 := bup a2 a3
   clear a3
   go_wp2
   rw [zlJ]
   obtain ⟨x0, x1, fx⟩ := zai b1
   go_wp2_with fail
   clear x0 x1 fx b1
   (with_reducible refine (HN3.out _).mono ?_)
   rintro e2 w2 ⟨rfl, a5⟩
   replace q4 := q4.later a5
   replace q5 := q5.later a5
   replace a2 := bup a2 a5
   clear a5
   cases z3 with
   | false =>
    have hR : R = rg0 := by rw [HE.out]; simp
    subst hR
    have y0 := zag q4
    go_wp2
    clear y0
    have z9 := (((q4.set_ 0 (.int .i64 0)).set_ 1 (.int .i64 0)).set_ 2 (.bool false)).set_ 3 (.bool false)
    have a7 := a2.trans (zav (W := w2) (g := w.heap.size + 1 + 1) (v0 := .int .i64 0) (v1 := .int .i64 0) (v2 := .bool false) (v3 := .bool false) (by omega) a2.size)
    obtain ⟨r0, r1, r2, r3, fr⟩ := zag (show Blk _ _ _ #[.int .i64 0, .int .i64 0, false, false] from z9)
    refine bodyPost_ret (v := .agg #[.int .i64 0, .int .i64 0, false, false]) (by simp [results, Tryz.results231, go_sem, r0, r1, r2, r3]) rfl (And.intro ?_ a7)
    rfl
   | true =>
    go_wp2
    go_roundw
    case rel => exact ⟨4, by omega, by go_num, fun _ => HI.out.1 (by omega), fun _ => HI.out.2.1 (by omega), fun _ => HI.out.2.2.1 (by omega), fun _ => (by first | rfl | trivial), q4, q5, a2⟩
    case measure => simp [RowKit.intOf]
  ·obtain ⟨i0, i1, i2, i3⟩ := HI.out
   have e0 := i0 (by omega)
   have e1 := i1 (by omega)
   have e2 := i2 (by omega)
   have e3 := i3 (by omega)
   clear i0 i1 i2 i3 HI
   subst e0
   subst e1
   subst e2
   subst e3
   obtain ⟨⟨l0, u0⟩, ⟨l1, u1⟩, ⟨l2, u2⟩, ⟨l3, u3⟩⟩ := HB.out (by first | rfl | trivial) (by first | rfl | trivial) (by first | rfl | trivial) (by first | rfl | trivial)
   have hp : ∀ {x y : Int}, -1073741824 ≤ x → x ≤ 1073741824 → -1073741824 ≤ y → y ≤ 1073741824 → wrap64 (x * y) = x * y := fun hx1 hx2 hy1 hy2 => by
    refine IntWalk.wrap64_in _ ?_
    have := zdW hx1 hx2 hy1 hy2
    omega
   obtain ⟨c0, k0⟩ : ∃ c, c = a0 * b0 := ⟨_, rfl⟩
   obtain ⟨c1, k1⟩ : ∃ c, c = a0 * b1 := ⟨_, rfl⟩
   obtain ⟨c2, k2⟩ : ∃ c, c = a1 * b0 := ⟨_, rfl⟩
   obtain ⟨c3, k3⟩ : ∃ c, c = a1 * b1 := ⟨_, rfl⟩
   have m00 : wrap64 (a0 * b0) = c0 := by rw [k0]; exact hp l0 u0 l2 u2
   have m01 : wrap64 (a0 * b1) = c1 := by rw [k1]; exact hp l0 u0 l3 u3
   have m10 : wrap64 (a1 * b0) = c2 := by rw [k2]; exact hp l1 u1 l2 u2
   have m11 : wrap64 (a1 * b1) = c3 := by rw [k3]; exact hp l1 u1 l3 u3
   have w00 := (zdn (a0 * b0)).trans m00
   have w01 := (zdn (a0 * b1)).trans m01
   have w10 := (zdn (a1 * b0)).trans m10
   have w11 := (zdn (a1 * b1)).trans m11
   have hR : R = ⟨minTo c0 c1 c2 c3 4, maxTo c0 c1 c2 c3 4, true, true⟩ := by
    rw [HE.out, ← k0, ← k1, ← k2, ← k3]
    simp only [minTo, maxTo]
    simp
    all_goals omega
   clear hp l0 u0 l1 u1 l2 u2 l3 u3 HB HN0 HN1 HN2 HN3 HE k0 k1 k2 k3
   subst hR
   go_upto_region 8 with fail
   have f0 := zab (show wr.cell? ⟨g5, 0, none⟩ = some (.int .i64 a0) from q5.cell 0)
   have f4 := zab (show wr.cell? ⟨g5, 4, none⟩ = some (.int .i64 b0) from q5.cell 4)
   refine zac 15 [Sp.val (.pointer (some ⟨g5, 0, none⟩)), Sp.val (.pointer (some ⟨g5, 0, none⟩)), Sp.val (.int .i64 a0), Sp.val (.pointer (some ⟨g5, 4, none⟩)), Sp.val (.pointer (some ⟨g5, 4, none⟩)), Sp.val (.int .i64 b0), Sp.val (.int .i64 c0), Sp.val (.pointer (some ⟨g5, 0, none⟩)), Sp.val (.pointer (some ⟨g5, 0, none⟩)), Sp.val (.int .i64 a0), Sp.val (.pointer (some ⟨g5, 4, none⟩)), Sp.val (.pointer (some ⟨g5, 4, none⟩)), Sp.val (.int .i64 b0), Sp.val (.int .i64 c0), Sp.val (.int .i64 c0)] (by kernel_rfl) (by kernel_rfl) ?_
   iterate 6 (refine fe_t (fun _ _ => ?_))
   refine zaf.take (by rfl) (fun W hW R hR => ?_) (fun _ _ => ?_)
   ·go_simp
    exact hR
   refine fe_p ?_
   iterate 6 (refine fe_t (fun _ _ => ?_))
   refine zaf.take (by rfl) (fun W hW R hR => ?_) (fun _ _ => ?_)
   ·go_simp
    exact hR
   refine fe_p ?_
   (refine fe_t (fun _ _ => ?_))
   refine zaf.tail (fun W2 hW hf hd2 => ?_)
   replace hW : Below wr.heap.size wr W2 := Ext.trans (Below.refl _ _).drew hW
   clear hf hd2 f0 f4
   replace q4 := q4.later hW
   replace q5 := q5.later hW
   replace a2 := bup a2 hW
   clear hW
   go_wp2
   go_loopw [48, 8, 9] (fun t r m wq => ∃ i : Nat, i ≤ 2 ∧ t = .int .i64 i ∧ r = .int .i64 (minTo c0 c1 c2 c3 (2 * i)) ∧ m = .int .i64 (maxTo c0 c1 c2 c3 (2 * i)) ∧ Blk wq (w.heap.size + 1 + 1) 49 #[.int .i64 0, .int .i64 0, false, false] ∧ Blk wq g5 230 #[a0, ahl, a1, ahh, b0, bhl, b1, bhh] ∧ Below w.heap.size w wq) (fun t _ _ _ => 2 - (RowKit.intOf t).toNat)
   case atStart => exact ⟨0, by omega, rfl, rfl, rfl, q4, q5, a2⟩
   case round =>
    clear q4 q5 a2
    obtain ⟨i, hi, rfl, rfl, rfl, q4, q5, a2⟩ := hrel
    have a4 : i = 0 ∨ i = 1 ∨ i = 2 := by omega
    clear hi
    rcases a4 with rfl | rfl | rfl
    ·obtain ⟨k11, a3, -⟩ := zak wr #[a0, ahl] 185
     have x0 := q5.cell 0
     have x1 := q5.cell 1
     have l5 := q5.lt
     have nb : wr.heap.size ≠ g5 := by omega
     replace q4 := q4.later a3
     replace q5 := q5.later a3
     replace a2 := bup a2 a3
     clear a3
     go_wp2
     clear x0 x1 l5
     generalize wr.alloc (Obj.cells #[a0, ahl] 185) = w6 at *
     generalize wr.heap.size = g11 at *
     go_loopw [54, 8, 9] (fun t r m wq => ∃ j : Nat, j ≤ 2 ∧ t = .int .i64 j ∧ r = .int .i64 (minTo c0 c1 c2 c3 (0 + j)) ∧ m = .int .i64 (maxTo c0 c1 c2 c3 (0 + j)) ∧ Blk wq g11 185 #[a0, ahl] ∧ Blk wq (w.heap.size + 1 + 1) 49 #[.int .i64 0, .int .i64 0, false, false] ∧ Blk wq g5 230 #[a0, ahl, a1, ahh, b0, bhl, b1, bhh] ∧ Below w.heap.size w wq) (fun t _ _ _ => 2 - (RowKit.intOf t).toNat)
     case atStart => exact ⟨0, by omega, rfl, rfl, rfl, k11, q4, q5, a2⟩
     case round =>
      clear q4 q5 a2 k11
      obtain ⟨j, hj, rfl, rfl, rfl, k11, q4, q5, a2⟩ := hrel
      have a4 : j = 0 ∨ j = 1 ∨ j = 2 := by omega
      clear hj
      rcases a4 with rfl | rfl | rfl
      ·obtain ⟨k13, a3, -⟩ := zak wr #[b0, bhl] 185
       have x0 := q5.cell 4
       have x1 := q5.cell 5
       have l5 := q5.lt
       replace q4 := q4.later a3
       replace q5 := q5.later a3
       replace k11 := k11.later a3
       replace a2 := bup a2 a3
       clear a3
       have eL : minTo c0 c1 c2 c3 1 = min (minTo c0 c1 c2 c3 0) c0 := rfl
       have eM : maxTo c0 c1 c2 c3 1 = max (maxTo c0 c1 c2 c3 0) c0 := rfl
       have EL := hid eL
       have EM := hid eM
       clear eL eM
       rw [show (0 + 0 : Nat) = 0 from rfl]
       generalize minTo c0 c1 c2 c3 0 = L at *
       generalize maxTo c0 c1 c2 c3 0 = M at *
       go_upto_region 15 with fail
       clear x0 x1 l5
       generalize wr.alloc (Obj.cells #[b0, bhl] 185) = w7 at *
       generalize wr.heap.size = g13 at *
       have f0 := zab (show w7.cell? ⟨g11, 0, none⟩ = some (.int .i64 a0) from k11.cell 0)
       have f1 := zab (show w7.cell? ⟨g13, 0, none⟩ = some (.int .i64 b0) from k13.cell 0)
       obtain ⟨L2, hL2⟩ : ∃ l, l = min L c0 := ⟨_, rfl⟩
       obtain ⟨M2, hM2⟩ : ∃ l, l = max M c0 := ⟨_, rfl⟩
       have a6 := hid hL2
       have a8 := hid hM2
       rw [← hL2] at EL
       rw [← hM2] at EM
       clear hL2 hM2
       refine zac 15 [Sp.val (.int .i64 L), Sp.val (.pointer (some ⟨g11, 0, none⟩)), Sp.val (.int .i64 a0), Sp.val (.pointer (some ⟨g13, 0, none⟩)), Sp.val (.int .i64 b0), Sp.val (.int .i64 c0), Sp.val (.int .i64 L2), Sp.val (.int .i64 M), Sp.val (.pointer (some ⟨g11, 0, none⟩)), Sp.val (.int .i64 a0), Sp.val (.pointer (some ⟨g13, 0, none⟩)), Sp.val (.int .i64 b0), Sp.val (.int .i64 c0), Sp.val (.int .i64 M2), Sp.val (.int .i64 L2)] (by kernel_rfl) (by kernel_rfl) ?_
       iterate 5 (refine fe_t (fun _ _ => ?_))
       refine zaf.take (by rfl) (fun W hW R hR => ?_) (fun _ _ => ?_)
       ·go_simp
        exact hR
       refine fe_p ?_
       refine zaf.take (by rfl) (fun W hW R hR => ?_) (fun _ _ => ?_)
       ·go_simp
        have e : (if c0 < L then c0 else L) = L2 := by rw [a6.out]; split <;> omega
        rw [e]
        exact hR
       refine fe_p ?_
       iterate 5 (refine fe_t (fun _ _ => ?_))
       refine zaf.take (by rfl) (fun W hW R hR => ?_) (fun _ _ => ?_)
       ·go_simp
        exact hR
       refine fe_p ?_
       refine zaf.take (by rfl) (fun W hW R hR => ?_) (fun _ _ => ?_)
       ·go_simp
        have e : (if M < c0 then c0 else M) = M2 := by rw [a8.out]; split <;> omega
        rw [e]
        exact hR
       refine fe_p ?_
       (refine fe_t (fun _ _ => ?_))
       refine zaf.tail (fun W2 hW hf hd2 => ?_)
       replace hW : Below w7.heap.size w7 W2 := Ext.trans (Below.refl _ _).drew hW
       clear hf hd2 f0 f1 k13
       replace k11 := k11.later hW
       replace q4 := q4.later hW
       replace q5 := q5.later hW
       replace a2 := bup a2 hW
       clear hW
       go_wp2
       go_roundw
       case rel => exact ⟨1, by omega, by go_num, by rw [← EL.out], by rw [← EM.out], k11, q4, q5, a2⟩
       case measure => simp [RowKit.intOf]
      ·obtain ⟨k13, a3, -⟩ := zak wr #[b1, bhh] 185
       have x0 := q5.cell 6
       have x1 := q5.cell 7
       have l5 := q5.lt
       replace q4 := q4.later a3
       replace q5 := q5.later a3
       replace k11 := k11.later a3
       replace a2 := bup a2 a3
       clear a3
       have eL : minTo c0 c1 c2 c3 2 = min (minTo c0 c1 c2 c3 1) c1 := rfl
       have eM : maxTo c0 c1 c2 c3 2 = max (maxTo c0 c1 c2 c3 1) c1 := rfl
       have EL := hid eL
       have EM := hid eM
       clear eL eM
       rw [show (0 + 1 : Nat) = 1 from rfl]
       generalize minTo c0 c1 c2 c3 1 = L at *
       generalize maxTo c0 c1 c2 c3 1 = M at *
       go_upto_region 15 with fail
       clear x0 x1 l5
       generalize wr.alloc (Obj.cells #[b1, bhh] 185) = w7 at *
       generalize wr.heap.size = g13 at *
       have f0 := zab (show w7.cell? ⟨g11, 0, none⟩ = some (.int .i64 a0) from k11.cell 0)
       have f1 := zab (show w7.cell? ⟨g13, 0, none⟩ = some (.int .i64 b1) from k13.cell 0)
       obtain ⟨L2, hL2⟩ : ∃ l, l = min L c1 := ⟨_, rfl⟩
       obtain ⟨M2, hM2⟩ : ∃ l, l = max M c1 := ⟨_, rfl⟩
       have a6 := hid hL2
       have a8 := hid hM2
       rw [← hL2] at EL
       rw [← hM2] at EM
       clear hL2 hM2
       refine zac 15 [Sp.val (.int .i64 L), Sp.val (.pointer (some ⟨g11, 0, none⟩)), Sp.val (.int .i64 a0), Sp.val (.pointer (some ⟨g13, 0, none⟩)), Sp.val (.int .i64 b1), Sp.val (.int .i64 c1), Sp.val (.int .i64 L2), Sp.val (.int .i64 M), Sp.val (.pointer (some ⟨g11, 0, none⟩)), Sp.val (.int .i64 a0), Sp.val (.pointer (some ⟨g13, 0, none⟩)), Sp.val (.int .i64 b1), Sp.val (.int .i64 c1), Sp.val (.int .i64 M2), Sp.val (.int .i64 L2)] (by kernel_rfl) (by kernel_rfl) ?_
       iterate 5 (refine fe_t (fun _ _ => ?_))
       refine zaf.take (by rfl) (fun W hW R hR => ?_) (fun _ _ => ?_)
       ·go_simp
        exact hR
       refine fe_p ?_
       refine zaf.take (by rfl) (fun W hW R hR => ?_) (fun _ _ => ?_)
       ·go_simp
        have e : (if c1 < L then c1 else L) = L2 := by rw [a6.out]; split <;> omega
        rw [e]
        exact hR
       refine fe_p ?_
       iterate 5 (refine fe_t (fun _ _ => ?_))
       refine zaf.take (by rfl) (fun W hW R hR => ?_) (fun _ _ => ?_)
       ·go_simp
        exact hR
       refine fe_p ?_
       refine zaf.take (by rfl) (fun W hW R hR => ?_) (fun _ _ => ?_)
       ·go_simp
        have e : (if M < c1 then c1 else M) = M2 := by rw [a8.out]; split <;> omega
        rw [e]
        exact hR
       refine fe_p ?_
       (refine fe_t (fun _ _ => ?_))
       refine zaf.tail (fun W2 hW hf hd2 => ?_)
       replace hW : Below w7.heap.size w7 W2 := Ext.trans (Below.refl _ _).drew hW
       clear hf hd2 f0 f1 k13
       replace k11 := k11.later hW
       replace q4 := q4.later hW
       replace q5 := q5.later hW
       replace a2 := bup a2 hW
       clear hW
       go_wp2
       go_roundw
       case rel => exact ⟨2, by omega, by go_num, by rw [← EL.out], by rw [← EM.out], k11, q4, q5, a2⟩
       case measure => simp [RowKit.intOf]
      ·clear k11
       go_wp2
       go_roundw
       case rel => exact ⟨1, by omega, by go_num, rfl, rfl, q4, q5, a2⟩
       case measure => simp [RowKit.intOf]
    ·obtain ⟨k11, a3, -⟩ := zak wr #[a1, ahh] 185
     have x0 := q5.cell 2
     have x1 := q5.cell 3
     have l5 := q5.lt
     have nb : wr.heap.size ≠ g5 := by omega
     replace q4 := q4.later a3
     replace q5 := q5.later a3
     replace a2 := bup a2 a3
     clear a3
     go_wp2
     clear x0 x1 l5
     generalize wr.alloc (Obj.cells #[a1, ahh] 185) = w6 at *
     generalize wr.heap.size = g11 at *
     go_loopw [54, 8, 9] (fun t r m wq => ∃ j : Nat, j ≤ 2 ∧ t = .int .i64 j ∧ r = .int .i64 (minTo c0 c1 c2 c3 (2 + j)) ∧ m = .int .i64 (maxTo c0 c1 c2 c3 (2 + j)) ∧ Blk wq g11 185 #[a1, ahh] ∧ Blk wq (w.heap.size + 1 + 1) 49 #[.int .i64 0, .int .i64 0, false, false] ∧ Blk wq g5 230 #[a0, ahl, a1, ahh, b0, bhl, b1, bhh] ∧ Below w.heap.size w wq) (fun t _ _ _ => 2 - (RowKit.intOf t).toNat)
     case atStart => exact ⟨0, by omega, rfl, rfl, rfl, k11, q4, q5, a2⟩
     case round =>
      clear q4 q5 a2 k11
      obtain ⟨j, hj, rfl, rfl, rfl, k11, q4, q5, a2⟩ := hrel
      have a4 : j = 0 ∨ j = 1 ∨ j = 2 := by omega
      clear hj
      rcases a4 with rfl | rfl | rfl
      ·obtain ⟨k13, a3, -⟩ := zak wr #[b0, bhl] 185
       have x0 := q5.cell 4
       have x1 := q5.cell 5
       have l5 := q5.lt
       replace q4 := q4.later a3
       replace q5 := q5.later a3
       replace k11 := k11.later a3
       replace a2 := bup a2 a3
       clear a3
       have eL : minTo c0 c1 c2 c3 3 = min (minTo c0 c1 c2 c3 2) c2 := rfl
       have eM : maxTo c0 c1 c2 c3 3 = max (maxTo c0 c1 c2 c3 2) c2 := rfl
       have EL := hid eL
       have EM := hid eM
       clear eL eM
       rw [show (2 + 0 : Nat) = 2 from rfl]
       generalize minTo c0 c1 c2 c3 2 = L at *
       generalize maxTo c0 c1 c2 c3 2 = M at *
       go_upto_region 15 with fail
       clear x0 x1 l5
       generalize wr.alloc (Obj.cells #[b0, bhl] 185) = w7 at *
       generalize wr.heap.size = g13 at *
       have f0 := zab (show w7.cell? ⟨g11, 0, none⟩ = some (.int .i64 a1) from k11.cell 0)
       have f1 := zab (show w7.cell? ⟨g13, 0, none⟩ = some (.int .i64 b0) from k13.cell 0)
       obtain ⟨L2, hL2⟩ : ∃ l, l = min L c2 := ⟨_, rfl⟩
       obtain ⟨M2, hM2⟩ : ∃ l, l = max M c2 := ⟨_, rfl⟩
       have a6 := hid hL2
       have a8 := hid hM2
       rw [← hL2] at EL
       rw [← hM2] at EM
       clear hL2 hM2
       refine zac 15 [Sp.val (.int .i64 L), Sp.val (.pointer (some ⟨g11, 0, none⟩)), Sp.val (.int .i64 a1), Sp.val (.pointer (some ⟨g13, 0, none⟩)), Sp.val (.int .i64 b0), Sp.val (.int .i64 c2), Sp.val (.int .i64 L2), Sp.val (.int .i64 M), Sp.val (.pointer (some ⟨g11, 0, none⟩)), Sp.val (.int .i64 a1), Sp.val (.pointer (some ⟨g13, 0, none⟩)), Sp.val (.int .i64 b0), Sp.val (.int .i64 c2), Sp.val (.int .i64 M2), Sp.val (.int .i64 L2)] (by kernel_rfl) (by kernel_rfl) ?_
       iterate 5 (refine fe_t (fun _ _ => ?_))
       refine zaf.take (by rfl) (fun W hW R hR => ?_) (fun _ _ => ?_)
       ·go_simp
        exact hR
       refine fe_p ?_
       refine zaf.take (by rfl) (fun W hW R hR => ?_) (fun _ _ => ?_)
       ·go_simp
        have e : (if c2 < L then c2 else L) = L2 := by rw [a6.out]; split <;> omega
        rw [e]
        exact hR
       refine fe_p ?_
       iterate 5 (refine fe_t (fun _ _ => ?_))
       refine zaf.take (by rfl) (fun W hW R hR => ?_) (fun _ _ => ?_)
       ·go_simp
        exact hR
       refine fe_p ?_
       refine zaf.take (by rfl) (fun W hW R hR => ?_) (fun _ _ => ?_)
       ·go_simp
        have e : (if M < c2 then c2 else M) = M2 := by rw [a8.out]; split <;> omega
        rw [e]
        exact hR
       refine fe_p ?_
       (refine fe_t (fun _ _ => ?_))
       refine zaf.tail (fun W2 hW hf hd2 => ?_)
       replace hW : Below w7.heap.size w7 W2 := Ext.trans (Below.refl _ _).drew hW
       clear hf hd2 f0 f1 k13
       replace k11 := k11.later hW
       replace q4 := q4.later hW
       replace q5 := q5.later hW
       replace a2 := bup a2 hW
       clear hW
       go_wp2
       go_roundw
       case rel => exact ⟨1, by omega, by go_num, by rw [← EL.out], by rw [← EM.out], k11, q4, q5, a2⟩
       case measure => simp [RowKit.intOf]
      ·obtain ⟨k13, a3, -⟩ := zak wr #[b1, bhh] 185
       have x0 := q5.cell 6
       have x1 := q5.cell 7
       have l5 := q5.lt
       replace q4 := q4.later a3
       replace q5 := q5.later a3
       replace k11 := k11.later a3
       replace a2 := bup a2 a3
       clear a3
       have eL : minTo c0 c1 c2 c3 4 = min (minTo c0 c1 c2 c3 3) c3 := rfl
       have eM : maxTo c0 c1 c2 c3 4 = max (maxTo c0 c1 c2 c3 3) c3 := rfl
       have EL := hid eL
       have EM := hid eM
       clear eL eM
       rw [show (2 + 1 : Nat) = 3 from rfl]
       generalize minTo c0 c1 c2 c3 3 = L at *
       generalize maxTo c0 c1 c2 c3 3 = M at *
       go_upto_region 15 with fail
       clear x0 x1 l5
       generalize wr.alloc (Obj.cells #[b1, bhh] 185) = w7 at *
       generalize wr.heap.size = g13 at *
       have f0 := zab (show w7.cell? ⟨g11, 0, none⟩ = some (.int .i64 a1) from k11.cell 0)
       have f1 := zab (show w7.cell? ⟨g13, 0, none⟩ = some (.int .i64 b1) from k13.cell 0)
       obtain ⟨L2, hL2⟩ : ∃ l, l = min L c3 := ⟨_, rfl⟩
       obtain ⟨M2, hM2⟩ : ∃ l, l = max M c3 := ⟨_, rfl⟩
       have a6 := hid hL2
       have a8 := hid hM2
       rw [← hL2] at EL
       rw [← hM2] at EM
       clear hL2 hM2
       refine zac 15 [Sp.val (.int .i64 L), Sp.val (.pointer (some ⟨g11, 0, none⟩)), Sp.val (.int .i64 a1), Sp.val (.pointer (some ⟨g13, 0, none⟩)), Sp.val (.int .i64 b1), Sp.val (.int .i64 c3), Sp.val (.int .i64 L2), Sp.val (.int .i64 M), Sp.val (.pointer (some ⟨g11, 0, none⟩)), Sp.val (.int .i64 a1), Sp.val (.pointer (some ⟨g13, 0, none⟩)), Sp.val (.int .i64 b1), Sp.val (.int .i64 c3), Sp.val (.int .i64 M2), Sp.val (.int .i64 L2)] (by kernel_rfl) (by kernel_rfl) ?_
       iterate 5 (refine fe_t (fun _ _ => ?_))
       refine zaf.take (by rfl) (fun W hW R hR => ?_) (fun _ _ => ?_)
       ·go_simp
        exact hR
       refine fe_p ?_
       refine zaf.take (by rfl) (fun W hW R hR => ?_) (fun _ _ => ?_)
       ·go_simp
        have e : (if c3 < L then c3 else L) = L2 := by rw [a6.out]; split <;> omega
        rw [e]
        exact hR
       refine fe_p ?_
       iterate 5 (refine fe_t (fun _ _ => ?_))
       refine zaf.take (by rfl) (fun W hW R hR => ?_) (fun _ _ => ?_)
       ·go_simp
        exact hR
       refine fe_p ?_
       refine zaf.take (by rfl) (fun W hW R hR => ?_) (fun _ _ => ?_)
       ·go_simp
        have e : (if M < c3 then c3 else M) = M2 := by rw [a8.out]; split <;> omega
        rw [e]
        exact hR
       refine fe_p ?_
       (refine fe_t (fun _ _ => ?_))
       refine zaf.tail (fun W2 hW hf hd2 => ?_)
       replace hW : Below w7.heap.size w7 W2 := Ext.trans (Below.refl _ _).drew hW
       clear hf hd2 f0 f1 k13
       replace k11 := k11.later hW
       replace q4 := q4.later hW
       replace q5 := q5.later hW
       replace a2 := bup a2 hW
       clear hW
       go_wp2
       go_roundw
       case rel => exact ⟨2, by omega, by go_num, by rw [← EL.out], by rw [← EM.out], k11, q4, q5, a2⟩
       case measure => simp [RowKit.intOf]
      ·clear k11
       go_wp2
       go_roundw
       case rel => exact ⟨2, by omega, by go_num, rfl, rfl, q4, q5, a2⟩
       case measure => simp [RowKit.intOf]
    ·rw [show (2 * 2 : Nat) = 4 from rfl]
     generalize minTo c0 c1 c2 c3 4 = L at *
     generalize maxTo c0 c1 c2 c3 4 = M at *
     go_wp2_with fail
     (with_reducible refine (zcZ L wr).mono ?_)
     rintro e6 w6 ⟨rfl, b3⟩
     replace q4 := q4.later b3
     replace a2 := bup a2 b3
     clear b3 q5
     go_wp2_with fail
     (with_reducible refine (zcZ M w6).mono ?_)
     rintro e7 w7 ⟨rfl, b4⟩
     replace q4 := q4.later b4
     replace a2 := bup a2 b4
     clear b4
     go_wp2_with fail
     (with_reducible refine (zbb L M w7).mono ?_)
     rintro e8 w8 ⟨rfl, b5⟩
     replace q4 := q4.later b5
     replace a2 := bup a2 b5
     clear b5
     have y0 := zag q4
     go_wp2
     clear y0
     have z9 := (((q4.set_ 0 (.int .i64 L)).set_ 1 (.int .i64 M)).set_ 2 (.bool true)).set_ 3 (.bool true)
     have a7 := a2.trans (zav (W := w8) (g := w.heap.size + 1 + 1) (v0 := .int .i64 L) (v1 := .int .i64 M) (v2 := .bool true) (v3 := .bool true) (by omega) a2.size)
     obtain ⟨r0, r1, r2, r3, fr⟩ := zag (show Blk _ _ _ #[L, M, true, true] from z9)
     refine bodyPost_ret (v := .agg #[L, M, true, true]) (by simp [results, Tryz.results231, go_sem, r0, r1, r2, r3]) rfl (And.intro ?_ a7)
     rfl
end Go.Proofs.YtnmpgijiimglcaaGreat
