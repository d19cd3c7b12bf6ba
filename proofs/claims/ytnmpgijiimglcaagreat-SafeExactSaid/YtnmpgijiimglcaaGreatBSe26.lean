import Derived.Test.YtnmpgijiimglcaaGreatBSe24
import Derived.Test.YtnmpgijiimglcaaGreatBSe25
import Derived.Test.YtnmpgijiimglcaaGreatBSe11
import Derived.Test.YtnmpgijiimglcaaGreatBSe21
import Derived.Test.YtnmpgijiimglcaaGreatBSe23
namespace Go.Proofs.YtnmpgijiimglcaaGreat
open Go.RowKit
set_option maxRecDepth 100000
set_option maxHeartbeats 8000000
section
attribute [local go_sem ↓] Go.wp_at_zero Go.wp_at_succ
theorem zae {w : World} {g : Nat} {t : TypeId} {a0 a1 a2 a3 a4 a5 a6 a7 a8 a9 : Value} (h : Blk w g t #[a0, a1, a2, a3, a4, a5, a6, a7, a8, a9]) :
  w.cell? ⟨g, 0, none⟩ = some a0 ∧ w.cell? ⟨g, 1, none⟩ = some a1 ∧ w.cell? ⟨g, 2, none⟩ = some a2 ∧ w.cell? ⟨g, 3, none⟩ = some a3 ∧ w.cell? ⟨g, 4, none⟩ = some a4 ∧ w.cell? ⟨g, 5, none⟩ = some a5 ∧ w.cell? ⟨g, 6, none⟩ = some a6 ∧ w.cell? ⟨g, 7, none⟩ = some a7 ∧ w.cell? ⟨g, 8, none⟩ = some a8 ∧ w.cell? ⟨g, 9, none⟩ = some a9 ∧ ∀ j, w.frozen? ⟨g, j, none⟩ = false :=
 ⟨h.cell 0, h.cell 1, h.cell 2, h.cell 3, h.cell 4, h.cell 5, h.cell 6, h.cell 7, h.cell 8, h.cell 9, fun j => h.fr j⟩
theorem za6 (w : World) {s : Nat} (hs : w.heap.size = s) (cs0 cs1 : Array Value) (t0 t1 : TypeId) : Blk ((w.alloc (.cells cs0 t0)).alloc (.cells cs1 t1)).drew s t0 cs0 ∧ Blk ((w.alloc (.cells cs0 t0)).alloc (.cells cs1 t1)).drew (s + 1) t1 cs1 ∧ Below w.heap.size w ((w.alloc (.cells cs0 t0)).alloc (.cells cs1 t1)).drew := by
 subst hs
 obtain ⟨a, b, c, _⟩ := zal w cs0 cs1 t0 t1
 exact ⟨a, b, c.drew⟩
theorem zg8 (n : Int) (m : List Int) (fr te dst arr op av an bv bn : Int) (_ia : I64 an) (_ib : I64 bn) (h0 : 0 ≤ av) (h1 : bv < 0) (A : Option Addr) (cap : Nat) (w : World) (B : Nat) (hB : B ≤ w.heap.size) (hx : Sx w B A m) (R : O)
  (P : ∀ W, B ≤ W.heap.size → Sx W B A m → Calls Tryz.prog 197 #[.agg #[n, false, .slice A m.length cap], dst, av, bn] W (zar W B R)) :
  Calls Tryz.prog 139 #[.agg #[n, false, .slice A m.length cap], .agg #[fr, te, .int .i64 4, dst, arr, op, av, an, bv, bn]] w (zar w B R) := by
 have t1 : decide (0 ≤ av) = true := by rw [decide_eq_true_eq]; omega
 have t2 : decide (0 ≤ bv) = false := by rw [decide_eq_false_iff_not]; omega
 have t3 : decide (av < 0) = false := by rw [decide_eq_false_iff_not]; omega
 have HP := hid P
 clear P
 obtain ⟨p0, p1, p2, b1, d9⟩ := zaj w #[n, false, .slice A m.length cap] #[fr, te, .int .i64 4, dst, arr, op, av, an, bv, bn] #[.int .i64 0, false, .slice none 0 0] 24 44 24
 replace hx := hx.later b1 hB
 have HSZ := hid d9
 have c7 := zaa p0
 have c1 := zae p1
 go_enter Tryz.func139, Tryz.ntmps139
 go_upto_region 2 with fail
 clear c7 c1
 generalize ((w.alloc (Obj.cells #[n, false, .slice A m.length cap] 24)).alloc (Obj.cells #[fr, te, .int .i64 4, dst, arr, op, av, an, bv, bn] 44)).alloc (Obj.cells #[.int .i64 0, false, .slice none 0 0] 24) = w1 at *
 go_cut [6, 7] (fun s6 s7 W => ∃ g6 g7 : Nat, s6 = .pointer (some ⟨g6, 0, none⟩) ∧ s7 = .pointer (some ⟨g7, 0, none⟩) ∧ Blk W g6 26 #[av, an] ∧ Blk W g7 26 #[bv, bn] ∧ Below w1.heap.size w1 W)
 case first =>
  have c1 := zae p1
  go_region_held3 (fun W => W.cell? ⟨w.heap.size + 1, 6, none⟩ = some (.int .i64 av) ∧ W.cell? ⟨w.heap.size + 1, 7, none⟩ = some (.int .i64 an) ∧ W.cell? ⟨w.heap.size + 1, 8, none⟩ = some (.int .i64 bv) ∧ W.cell? ⟨w.heap.size + 1, 9, none⟩ = some (.int .i64 bn)) (go_keep) (fail)
  all_goals (go_wp2_with fail; go_meet)
  ·obtain ⟨q1, q2, q3⟩ := za6 w1 d9 #[av, an] #[bv, bn] 26 26
   exact ⟨_, _, rfl, rfl, q1, q2, q3⟩
  ·obtain ⟨q1, q2, q3⟩ := za6 w1 d9 #[bv, bn] #[av, an] 26 26
   exact ⟨_, _, rfl, rfl, q2, q1, q3⟩
 case rest =>
  obtain ⟨g6, g7, rfl, rfl, b6, b7, d4⟩ := hcut
  have hB0 := Nat.le_trans hB b1.size
  replace p0 := p0.later d4
  replace p1 := p1.later d4
  replace p2 := p2.later d4
  replace hx := hx.later d4 (Nat.le_trans hB b1.size)
  replace b1 := bup b1 d4
  have c7 := zaa p0
  have c1 := zae p1
  obtain ⟨d3, d6, d2⟩ := zai b6
  obtain ⟨d1, d5, d0⟩ := zai b7
  go_wp2_with fail
  clear c7 c1 d3 d6 d2 d1 d5 d0
  have hB1 := Nat.le_trans hB b1.size
  (with_reducible refine (HP.out wc hB1 hx).mono ?_)
  rintro e2 w2 ⟨A2, c2, rfl, e3, b0⟩
  replace p0 := p0.later b0
  replace p1 := p1.later b0
  replace p2 := p2.later b0
  replace b6 := b6.later b0
  replace b7 := b7.later b0
  replace hx := hx.later b0 (Nat.le_trans hB b1.size)
  replace b1 := bup b1 b0
  have e0 := zaa p2
  go_wp2
  clear e0
  have hBz := b1.size
  have s9 := e3.far3 (g := w.heap.size + 1 + 1) (v0 := .int .i64 R.n) (v1 := .bool R.e) (v2 := .slice A2 R.m.length c2) (by omega) p2 (by decide)
  have q9 := p2.set3 (v0 := .int .i64 R.n) (v1 := .bool R.e) (v2 := .slice A2 R.m.length c2)
  have e4 := b1.trans (zah (W := w2) (g := w.heap.size + 1 + 1) (v0 := .int .i64 R.n) (v1 := .bool R.e) (v2 := .slice A2 R.m.length c2) (by omega) b1.size)
  obtain ⟨z0, z1, z2, fz⟩ := zaa q9
  refine bodyPost_ret (v := .agg #[R.n, R.e, .slice A2 R.m.length c2]) (by simp [results, Tryz.results139, go_sem, z0, z1, z2]) rfl ?_
  exact ⟨_, _, rfl, s9, e4⟩
theorem zht (n : Int) (m : List Int) (fr te dst arr op av an bv bn : Int) (_ia : I64 an) (ib : I64 bn) (h0 : 0 ≤ av) (h1 : bv < 0) (hbn : bn ≠ -9223372036854775808) (A : Option Addr) (cap : Nat) (w : World) (B : Nat) (hB : B ≤ w.heap.size) (hx : Sx w B A m) (R : O)
  (P : ∀ W, B ≤ W.heap.size → Sx W B A m → Calls Tryz.prog 197 #[.agg #[n, false, .slice A m.length cap], dst, av, .int .i64 (-bn)] W (zar W B R)) :
  Calls Tryz.prog 139 #[.agg #[n, false, .slice A m.length cap], .agg #[fr, te, .int .i64 5, dst, arr, op, av, an, bv, bn]] w (zar w B R) := by
 have t1 : decide (0 ≤ av) = true := by rw [decide_eq_true_eq]; omega
 have t2 : decide (0 ≤ bv) = false := by rw [decide_eq_false_iff_not]; omega
 have t3 : decide (av < 0) = false := by rw [decide_eq_false_iff_not]; omega
 have HP := hid P
 clear P
 obtain ⟨p0, p1, p2, b1, d9⟩ := zaj w #[n, false, .slice A m.length cap] #[fr, te, .int .i64 5, dst, arr, op, av, an, bv, bn] #[.int .i64 0, false, .slice none 0 0] 24 44 24
 replace hx := hx.later b1 hB
 have HSZ := hid d9
 have c7 := zaa p0
 have c1 := zae p1
 go_enter Tryz.func139, Tryz.ntmps139
 go_upto_region 2 with fail
 clear c7 c1
 generalize ((w.alloc (Obj.cells #[n, false, .slice A m.length cap] 24)).alloc (Obj.cells #[fr, te, .int .i64 5, dst, arr, op, av, an, bv, bn] 44)).alloc (Obj.cells #[.int .i64 0, false, .slice none 0 0] 24) = w1 at *
 go_cut [6, 7] (fun s6 s7 W => ∃ g6 g7 : Nat, s6 = .pointer (some ⟨g6, 0, none⟩) ∧ s7 = .pointer (some ⟨g7, 0, none⟩) ∧ Blk W g6 26 #[av, an] ∧ Blk W g7 26 #[bv, bn] ∧ Below w1.heap.size w1 W)
 case first =>
  have c1 := zae p1
  go_region_held3 (fun W => W.cell? ⟨w.heap.size + 1, 6, none⟩ = some (.int .i64 av) ∧ W.cell? ⟨w.heap.size + 1, 7, none⟩ = some (.int .i64 an) ∧ W.cell? ⟨w.heap.size + 1, 8, none⟩ = some (.int .i64 bv) ∧ W.cell? ⟨w.heap.size + 1, 9, none⟩ = some (.int .i64 bn)) (go_keep) (fail)
  all_goals (go_wp2_with fail; go_meet)
  ·obtain ⟨q1, q2, q3⟩ := za6 w1 d9 #[av, an] #[bv, bn] 26 26
   exact ⟨_, _, rfl, rfl, q1, q2, q3⟩
  ·obtain ⟨q1, q2, q3⟩ := za6 w1 d9 #[bv, bn] #[av, an] 26 26
   exact ⟨_, _, rfl, rfl, q2, q1, q3⟩
 case rest =>
  obtain ⟨g6, g7, rfl, rfl, b6, b7, d4⟩ := hcut
  have hB0 := Nat.le_trans hB b1.size
  replace p0 := p0.later d4
  replace p1 := p1.later d4
  replace p2 := p2.later d4
  replace hx := hx.later d4 (Nat.le_trans hB b1.size)
  replace b1 := bup b1 d4
  have c7 := zaa p0
  have c1 := zae p1
  obtain ⟨d3, d6, d2⟩ := zai b6
  obtain ⟨d1, d5, d0⟩ := zai b7
  go_wp2_with fail
  clear c7 c1 d3 d6 d2 d1 d5 d0
  have HNG := hid (show Calls Tryz.prog 198 #[bn] wc (fun e w' => e = .returned (.tuple #[.int .i64 (-bn), .int .i64 0]) ∧ wc = w') from by
   have h := zeE bn wc ib
   have e : negW bn = (-bn, 0) := by unfold negW; unfold I64 at ib; exact zdk (by omega)
   rw [e] at h
   exact h)
  (with_reducible refine HNG.out.mono ?_)
  clear HNG
  rintro e_ng w_ng ⟨rfl, hw⟩
  subst w_ng
  have c7 := zaa p0
  have c1 := zae p1
  obtain ⟨d3, d6, d2⟩ := zai b6
  obtain ⟨d1, d5, d0⟩ := zai b7
  go_wp2_with fail
  clear c7 c1 d3 d6 d2 d1 d5 d0
  have hB1 := Nat.le_trans hB b1.size
  (with_reducible refine (HP.out wc hB1 hx).mono ?_)
  rintro e2 w2 ⟨A2, c2, rfl, e3, b0⟩
  replace p0 := p0.later b0
  replace p1 := p1.later b0
  replace p2 := p2.later b0
  replace b6 := b6.later b0
  replace b7 := b7.later b0
  replace hx := hx.later b0 (Nat.le_trans hB b1.size)
  replace b1 := bup b1 b0
  have e0 := zaa p2
  go_wp2
  clear e0
  have hBz := b1.size
  have s9 := e3.far3 (g := w.heap.size + 1 + 1) (v0 := .int .i64 R.n) (v1 := .bool R.e) (v2 := .slice A2 R.m.length c2) (by omega) p2 (by decide)
  have q9 := p2.set3 (v0 := .int .i64 R.n) (v1 := .bool R.e) (v2 := .slice A2 R.m.length c2)
  have e4 := b1.trans (zah (W := w2) (g := w.heap.size + 1 + 1) (v0 := .int .i64 R.n) (v1 := .bool R.e) (v2 := .slice A2 R.m.length c2) (by omega) b1.size)
  obtain ⟨z0, z1, z2, fz⟩ := zaa q9
  refine bodyPost_ret (v := .agg #[R.n, R.e, .slice A2 R.m.length c2]) (by simp [results, Tryz.results139, go_sem, z0, z1, z2]) rfl ?_
  exact ⟨_, _, rfl, s9, e4⟩
end
section
attribute [local go_sem ↓] Go.wp_at_zero Go.wp_at_succ
theorem ziQ (f g : Value) (W : World) : (Instr.field 203 (.agg #[f, g]) 0).run Tryz.prog W = .ok f W := by
 simp [Instr.field, run_underlying Tryz.underlying203, go_sem]
 try rfl
theorem zjc (f g : Value) (W : World) : (Instr.field 203 (.agg #[f, g]) 1).run Tryz.prog W = .ok g W := by
 simp [Instr.field, run_underlying Tryz.underlying203, go_sem]
 try rfl
theorem zd1 (a : Int) : I64 (fit a).1 := by
 by_cases q : -9223372036854775808 ≤ a ∧ a ≤ 9223372036854775807
 ·rw [zdk q]; exact q
 ·rw [zbt (by omega)]; unfold I64; omega
theorem zb4 (kd : Int) {a b : Int} (ha : I64 a) : I64 (zgs kd a b).1 := by
 unfold zgs
 split
 ·exact zd1 _
 ·split
  ·exact zd1 _
  ·split
   ·exact zd1 _
   ·split
    ·exact zd1 _
    ·have hz : I64 0 := by unfold I64; omega
     have hne : divErr a b = 0 → b ≠ 0 ∧ (a == -9223372036854775808 && b == -1) = false := fun e => by
      unfold divErr at e
      by_cases h : b = 0
      ·rw [if_pos h] at e; cases e
      ·rw [if_neg h] at e
       refine ⟨h, ?_⟩
       rw [Bool.eq_false_iff]; intro q
       simp only [Bool.and_eq_true, beq_iff_eq] at q
       rw [if_pos q] at e; cases e
     split
     ·unfold divW
      split
      ·rename_i e; exact zep ha (hne e).1 (hne e).2
      ·exact hz
     ·unfold remW
      split
      ·exact zhm ha
      ·exact hz
theorem zbZ (kd p q : Int) (N1 : FuncId) (F2 : Value) (R : O) (o : O) (ok : check o = 0) (fr te arr op av an bv bn : Int) (d : Nat) (hd : (d : Int) < o.n) (hp : I64 p) (hQ : ∀ W, Sem.run Tryz.prog (callFunc N1 #[an, bn]) W = Result.ok (Next.enter N1 #[an, bn]) W) (HE : Hid (R = if q = 0 then giveO o d (oneR p) else emptyO o.n))
  (HF : Hid (∀ W, Calls Tryz.prog N1 #[an, bn] W fun e w' => e = .returned (.tuple #[p, q]) ∧ Below W.heap.size W w'))
  (HR : Hid (∀ W, Calls Tryz.prog 193 #[kd] W fun e w' => e = .returned (.agg #[.func (.func N1) #[] #[], F2]) ∧ Below W.heap.size W w')) (A : Option Addr) (cap : Nat) (w : World) (hx : Rd w w.heap.size A o.m) (hm : o.m.length ≤ 17592186044416) :
  Calls Tryz.prog 136 #[.agg #[o.n, o.e, .slice A o.m.length cap], .agg #[fr, te, kd, (d : Int), arr, op, av, an, bv, bn]] w (zbh w R) := by
 obtain ⟨n0, n1, _, _⟩ := zas ok
 have HG := hid (fun W (h : Rd W W.heap.size A o.m) => (show Calls Tryz.prog 75 #[.agg #[o.n, o.e, .slice A o.m.length cap], (d : Int), .agg #[p, p, true, true]] W (zbh W (giveO o d (oneR p))) from zfa o ok d hd (oneR p) hp A cap W h hm))
 have HEM := hid (fun W => zbK o.n W n0 n1)
 have HO := hid (fun W => ziN p W)
 clear ok hm hp n0 n1
 obtain ⟨p2, p3, p4, a1, hsz⟩ := zaj w #[o.n, o.e, .slice A o.m.length cap] #[fr, te, kd, (d : Int), arr, op, av, an, bv, bn] #[.int .i64 0, false, .slice none 0 0] 24 44 24
 replace hx := hx.up a1
 clear hsz
 go_enter Tryz.func136, Tryz.ntmps136
 go_upto_region 1 with fail
 generalize ((w.alloc (Obj.cells #[o.n, o.e, .slice A o.m.length cap] 24)).alloc (Obj.cells #[fr, te, kd, (d : Int), arr, op, av, an, bv, bn] 44)).alloc (Obj.cells #[.int .i64 0, false, .slice none 0 0] 24) = w1 at *
 have f2 := zab (show w1.cell? ⟨w.heap.size + 1, 2, none⟩ = some (.int .i64 kd) from p3.cell 2)
 have f7 := zab (show w1.cell? ⟨w.heap.size + 1, 7, none⟩ = some (.int .i64 an) from p3.cell 7)
 have f9 := zab (show w1.cell? ⟨w.heap.size + 1, 9, none⟩ = some (.int .i64 bn) from p3.cell 9)
 refine zac 15 [Sp.val (.pointer (some ⟨w.heap.size + 1, 2, none⟩)), Sp.val (.int .i64 kd), Sp.val (.agg #[.func (.func N1) #[] #[], F2]), Sp.val (.func (.func N1) #[] #[]), Sp.val (.pointer (some ⟨w.heap.size + 1, 6, none⟩)), Sp.val (.pointer (some ⟨w.heap.size + 1, 7, none⟩)), Sp.val (.int .i64 an), Sp.val (.pointer (some ⟨w.heap.size + 1, 8, none⟩)), Sp.val (.pointer (some ⟨w.heap.size + 1, 9, none⟩)), Sp.val (.int .i64 bn), Sp.val (.tuple #[p, q]), Sp.val (.tuple #[p, q]), Sp.val (.int .i64 p), Sp.val (.int .i64 q), Sp.val (.int .i64 p)] (by kernel_rfl) (by kernel_rfl) ?_
 (refine fe_t (fun _ _ => ?_))
 (refine fe_t (fun _ _ => ?_))
 refine zaf.callFV (by rfl) (fun W hW hf => ⟨193, #[kd], by go_simp, HR.out W⟩) (fun _ _ => ?_)
 refine fe_p ?_
 refine zaf.take (by rfl) (fun W hW R hR => ?_) (fun _ _ => ?_)
 ·go_simp
  rw [ziQ]
  (try go_simp)
  exact hR
 refine fe_p ?_
 iterate 6 (refine fe_t (fun _ _ => ?_))
 refine zaf.callFV (by rfl) (fun W hW hf => ⟨N1, #[an, bn], by (try go_simp); (try exact hQ W), HF.out W⟩) (fun _ _ => ?_)
 refine fe_p ?_
 iterate 4 (refine fe_t (fun _ _ => ?_))
 refine zaf.tail (fun W hW hf hd2 => ?_)
 replace hW : Below w1.heap.size w1 W := Ext.trans (Below.refl _ _).drew hW
 clear hf hd2 HF HR f2 f7 f9
 replace p2 := p2.later hW
 replace p3 := p3.later hW
 replace p4 := p4.later hW
 replace hx := hx.up hW
 replace a1 := bup a1 hW
 clear hW
 cases t1 : (q != 0) with
 | true =>
  have hR : R = emptyO o.n := by rw [HE.out, if_neg (by simpa using t1)]
  clear HE
  subst hR
  have a4 := zaa p2
  have b8 := zae p3
  go_wp2_with fail
  clear a4 b8
  (with_reducible refine (HEM.out W).mono ?_)
  rintro c4 w2 ⟨A1, c1, rfl, own, a0⟩
  replace own := own.less a1.size
  replace p2 := p2.later a0
  replace p3 := p3.later a0
  replace p4 := p4.later a0
  replace hx := hx.up a0
  replace a1 := bup a1 a0
  clear a0 HEM
  have c2 := zaa p4
  go_wp2
  clear c2
  have q9 := p4.set3 (v0 := .int .i64 (emptyO o.n).n) (v1 := .bool (emptyO o.n).e) (v2 := .slice A1 (emptyO o.n).m.length c1)
  have c3 := a1.trans (zah (W := w2) (g := w.heap.size + 1 + 1) (v0 := .int .i64 (emptyO o.n).n) (v1 := .bool (emptyO o.n).e) (v2 := .slice A1 (emptyO o.n).m.length c1) (by omega) a1.size)
  have a9 := own.far3 (g := w.heap.size + 1 + 1) (v0 := .int .i64 (emptyO o.n).n) (v1 := .bool (emptyO o.n).e) (v2 := .slice A1 (emptyO o.n).m.length c1) (zan own p4 (by decide))
  obtain ⟨z0, z1, z2, fz⟩ := zaa q9
  refine bodyPost_ret (v := .agg #[.int .i64 (emptyO o.n).n, .bool (emptyO o.n).e, .slice A1 (emptyO o.n).m.length c1]) (by simp [results, Tryz.results136, go_sem, z0, z1, z2]) rfl ⟨A1, c1, rfl, a9, c3⟩
 | false =>
  have hR : R = giveO o d (oneR p) := by rw [HE.out, if_pos (by simpa using t1)]
  clear HE
  rw [← hR] at HG
  clear hR
  have a4 := zaa p2
  have b8 := zae p3
  go_upto_region 4 with fail
  clear a4 b8
  have f0 := zab (show W.cell? ⟨w.heap.size, 0, none⟩ = some (.int .i64 o.n) from p2.cell 0)
  have f1 := zab (show W.cell? ⟨w.heap.size, 1, none⟩ = some (.bool o.e) from p2.cell 1)
  have f2 := zab (show W.cell? ⟨w.heap.size, 2, none⟩ = some (.slice A o.m.length cap) from p2.cell 2)
  have f3 := zab (show W.cell? ⟨w.heap.size + 1, 3, none⟩ = some (.int .i64 (d : Int)) from p3.cell 3)
  refine zac 5 [Sp.val (.agg #[o.n, o.e, .slice A o.m.length cap]), Sp.val (.pointer (some ⟨w.heap.size + 1, 3, none⟩)), Sp.val (.int .i64 (d : Int)), Sp.val (.int .i64 p), Sp.val (.agg #[p, p, true, true])] (by kernel_rfl) (by kernel_rfl) ?_
  iterate 4 (refine fe_t (fun _ _ => ?_))
  refine zaf.callFV (by rfl) (fun W hW hf => ⟨133, #[p], by go_simp, HO.out W⟩) (fun _ _ => ?_)
  refine fe_p ?_
  refine zaf.tail (fun W2 hW hf hd2 => ?_)
  replace hW : Below W.heap.size W W2 := Ext.trans (Below.refl _ _).drew hW
  clear hf hd2 HO f0 f1 f2 f3
  replace p2 := p2.later hW
  replace p3 := p3.later hW
  replace p4 := p4.later hW
  replace hx := hx.up hW
  replace a1 := bup a1 hW
  clear hW
  go_wp2_with fail
  (with_reducible refine (HG.out W2 hx).mono ?_)
  rintro c4 w2 ⟨A1, c1, rfl, own, a0⟩
  replace own := own.less a1.size
  clear hx
  replace p2 := p2.later a0
  replace p3 := p3.later a0
  replace p4 := p4.later a0
  replace a1 := bup a1 a0
  clear a0 HG
  have c2 := zaa p4
  go_wp2
  clear c2
  have q9 := p4.set3 (v0 := .int .i64 R.n) (v1 := .bool R.e) (v2 := .slice A1 R.m.length c1)
  have c3 := a1.trans (zah (W := w2) (g := w.heap.size + 1 + 1) (v0 := .int .i64 R.n) (v1 := .bool R.e) (v2 := .slice A1 R.m.length c1) (by omega) a1.size)
  have a9 := own.far3 (g := w.heap.size + 1 + 1) (v0 := .int .i64 R.n) (v1 := .bool R.e) (v2 := .slice A1 R.m.length c1) (zan own p4 (by decide))
  obtain ⟨z0, z1, z2, fz⟩ := zaa q9
  refine bodyPost_ret (v := .agg #[.int .i64 R.n, .bool R.e, .slice A1 R.m.length c1]) (by simp [results, Tryz.results136, go_sem, z0, z1, z2]) rfl ⟨A1, c1, rfl, a9, c3⟩
theorem ziB (o : O) (ok : check o = 0) (fr te arr op av an bv bn : Int) (d : Nat) (hd : (d : Int) < o.n) (ia : I64 an) (_ib : I64 bn) (A : Option Addr) (cap : Nat) (w : World) (hx : Rd w w.heap.size A o.m) (hm : o.m.length ≤ 17592186044416) :
  Calls Tryz.prog 136 #[.agg #[o.n, o.e, .slice A o.m.length cap], .agg #[fr, te, .int .i64 3, (d : Int), arr, op, av, an, bv, bn]] w (zbh w (zaO o 3 d an bn)) :=
 zbZ 3 (negW an).1 (negW an).2 229 (.nilFunc) _ o ok fr te arr op av an bv bn d hd (zb4 3 (a := an) (b := bn) ia) (fun W => by go_simp) (hid rfl) (hid fun W => (zji an bn W ia).mono fun _ _ ⟨he, hw⟩ => ⟨he, hw ▸ Below.refl _ _⟩) (hid zhb) A cap w hx hm
theorem ziK (o : O) (ok : check o = 0) (fr te arr op av an bv bn : Int) (d : Nat) (hd : (d : Int) < o.n) (ia : I64 an) (ib : I64 bn) (A : Option Addr) (cap : Nat) (w : World) (hx : Rd w w.heap.size A o.m) (hm : o.m.length ≤ 17592186044416) :
  Calls Tryz.prog 136 #[.agg #[o.n, o.e, .slice A o.m.length cap], .agg #[fr, te, .int .i64 4, (d : Int), arr, op, av, an, bv, bn]] w (zbh w (zaO o 4 d an bn)) :=
 zbZ 4 (addW an bn).1 (addW an bn).2 101 (.nilFunc) _ o ok fr te arr op av an bv bn d hd (zb4 4 (a := an) (b := bn) ia) (fun W => by go_simp) (hid rfl) (hid fun W => (zeI an bn W ia ib).mono fun _ _ ⟨he, hw⟩ => ⟨he, hw ▸ Below.refl _ _⟩) (hid zhu) A cap w hx hm
theorem zhO (o : O) (ok : check o = 0) (fr te arr op av an bv bn : Int) (d : Nat) (hd : (d : Int) < o.n) (ia : I64 an) (ib : I64 bn) (A : Option Addr) (cap : Nat) (w : World) (hx : Rd w w.heap.size A o.m) (hm : o.m.length ≤ 17592186044416) :
  Calls Tryz.prog 136 #[.agg #[o.n, o.e, .slice A o.m.length cap], .agg #[fr, te, .int .i64 5, (d : Int), arr, op, av, an, bv, bn]] w (zbh w (zaO o 5 d an bn)) :=
 zbZ 5 (subW an bn).1 (subW an bn).2 102 (.nilFunc) _ o ok fr te arr op av an bv bn d hd (zb4 5 (a := an) (b := bn) ia) (fun W => by go_simp) (hid rfl) (hid fun W => (zcl an bn W ia ib).mono fun _ _ ⟨he, hw⟩ => ⟨he, hw ▸ Below.refl _ _⟩) (hid zil) A cap w hx hm
theorem zg5 (o : O) (ok : check o = 0) (fr te arr op av an bv bn : Int) (d : Nat) (hd : (d : Int) < o.n) (ia : I64 an) (ib : I64 bn) (A : Option Addr) (cap : Nat) (w : World) (hx : Rd w w.heap.size A o.m) (hm : o.m.length ≤ 17592186044416) :
  Calls Tryz.prog 136 #[.agg #[o.n, o.e, .slice A o.m.length cap], .agg #[fr, te, .int .i64 6, (d : Int), arr, op, av, an, bv, bn]] w (zbh w (zaO o 6 d an bn)) :=
 zbZ 6 (mulW an bn).1 (mulW an bn).2 230 (.func (.func 231) #[] #[]) _ o ok fr te arr op av an bv bn d hd (zb4 6 (a := an) (b := bn) ia) (fun W => by go_simp) (hid rfl) (hid fun W => (ziX an bn W ia ib).mono fun _ _ ⟨he, hw⟩ => ⟨he, hw ▸ Below.refl _ _⟩) (hid zeR) A cap w hx hm
theorem zhH (o : O) (ok : check o = 0) (fr te arr op av an bv bn : Int) (d : Nat) (hd : (d : Int) < o.n) (ia : I64 an) (ib : I64 bn) (A : Option Addr) (cap : Nat) (w : World) (hx : Rd w w.heap.size A o.m) (hm : o.m.length ≤ 17592186044416) :
  Calls Tryz.prog 136 #[.agg #[o.n, o.e, .slice A o.m.length cap], .agg #[fr, te, .int .i64 7, (d : Int), arr, op, av, an, bv, bn]] w (zbh w (zaO o 7 d an bn)) :=
 zbZ 7 (divW an bn).1 (divW an bn).2 232 (.func (.func 233) #[] #[]) _ o ok fr te arr op av an bv bn d hd (zb4 7 (a := an) (b := bn) ia) (fun W => by go_simp) (hid rfl) (hid fun W => (zfT an bn W ia ib).mono fun _ _ ⟨he, hw⟩ => ⟨he, hw ▸ Below.refl _ _⟩) (hid zeY) A cap w hx hm
theorem zig (o : O) (ok : check o = 0) (fr te arr op av an bv bn : Int) (d : Nat) (hd : (d : Int) < o.n) (ia : I64 an) (ib : I64 bn) (A : Option Addr) (cap : Nat) (w : World) (hx : Rd w w.heap.size A o.m) (hm : o.m.length ≤ 17592186044416) :
  Calls Tryz.prog 136 #[.agg #[o.n, o.e, .slice A o.m.length cap], .agg #[fr, te, .int .i64 8, (d : Int), arr, op, av, an, bv, bn]] w (zbh w (zaO o 8 d an bn)) :=
 zbZ 8 (remW an bn).1 (remW an bn).2 234 (.func (.func 235) #[] #[]) _ o ok fr te arr op av an bv bn d hd (zb4 8 (a := an) (b := bn) ia) (fun W => by go_simp) (hid rfl) (hid fun W => (zjp an bn W ia ib).mono fun _ _ ⟨he, hw⟩ => ⟨he, hw ▸ Below.refl _ _⟩) (hid zfe) A cap w hx hm
end
section
attribute [local go_sem ↓] Go.wp_at_zero Go.wp_at_succ
theorem ziO (r : Rg) (ir : I64 r.lo ∧ I64 r.hi) (w : World) : Calls Tryz.prog 236 #[r.val] w (zam (turnedR r).val w) := by
 obtain ⟨lo, hi, hl, hh⟩ := r
 dsimp only at ir
 have H1 := hid (fun W => (zbl hi ir.2 W).mono (R' := fun e w' => e = .returned (.int .i64 (negB hi)) ∧ Below W.heap.size W w') fun _ _ ⟨he, hw⟩ => ⟨he, hw ▸ Below.refl _ _⟩)
 have H2 := hid (fun W => (zbl lo ir.1 W).mono (R' := fun e w' => e = .returned (.int .i64 (negB lo)) ∧ Below W.heap.size W w') fun _ _ ⟨he, hw⟩ => ⟨he, hw ▸ Below.refl _ _⟩)
 clear ir
 unfold turnedR Rg.val
 dsimp only
 generalize negB hi = a at *
 generalize negB lo = b at *
 obtain ⟨p1, p2, a0, a6⟩ := zal w #[lo, hi, hl, hh] #[.int .i64 0, .int .i64 0, false, false] 49 49
 clear a6
 go_enter Tryz.func236, Tryz.ntmps236
 go_upto_region 1 with fail
 generalize (w.alloc (Obj.cells #[lo, hi, hl, hh] 49)).alloc (Obj.cells #[.int .i64 0, .int .i64 0, false, false] 49) = w1 at *
 have f0 := zab (show w1.cell? ⟨w.heap.size, 0, none⟩ = some (.int .i64 lo) from p1.cell 0)
 have f1 := zab (show w1.cell? ⟨w.heap.size, 1, none⟩ = some (.int .i64 hi) from p1.cell 1)
 have f2 := zab (show w1.cell? ⟨w.heap.size, 2, none⟩ = some (.bool hl) from p1.cell 2)
 have f3 := zab (show w1.cell? ⟨w.heap.size, 3, none⟩ = some (.bool hh) from p1.cell 3)
 refine zac 10 [Sp.val (.pointer (some ⟨w.heap.size, 1, none⟩)), Sp.val (.int .i64 hi), Sp.val (.int .i64 a), Sp.val (.pointer (some ⟨w.heap.size, 0, none⟩)), Sp.val (.int .i64 lo), Sp.val (.int .i64 b), Sp.val (.pointer (some ⟨w.heap.size, 3, none⟩)), Sp.val (.bool hh), Sp.val (.pointer (some ⟨w.heap.size, 2, none⟩)), Sp.val (.bool hl)] (by kernel_rfl) (by kernel_rfl) ?_
 (refine fe_t (fun _ _ => ?_))
 (refine fe_t (fun _ _ => ?_))
 refine zaf.callFV (by rfl) (fun W hW hf => ⟨206, #[hi], by go_simp, H1.out W⟩) (fun _ _ => ?_)
 refine fe_p ?_
 (refine fe_t (fun _ _ => ?_))
 (refine fe_t (fun _ _ => ?_))
 refine zaf.callFV (by rfl) (fun W hW hf => ⟨206, #[lo], by go_simp, H2.out W⟩) (fun _ _ => ?_)
 refine fe_p ?_
 iterate 4 (refine fe_t (fun _ _ => ?_))
 refine zaf.tail (fun W hW hf hd => ?_)
 replace hW : Below w1.heap.size w1 W := Ext.trans (Below.refl _ _).drew hW
 clear hf hd H1 H2 f0 f1 f2 f3
 replace p2 := p2.later hW
 replace a0 := bup a0 hW
 clear hW p1
 have x0 := zag p2
 go_wp2
 clear x0
 have q9 := (((p2.set_ 0 (.int .i64 a)).set_ 1 (.int .i64 b)).set_ 2 (.bool hh)).set_ 3 (.bool hl)
 have a3 := a0.trans (zav (W := W) (g := w.heap.size + 1) (v0 := .int .i64 a) (v1 := .int .i64 b) (v2 := .bool hh) (v3 := .bool hl) (by omega) a0.size)
 obtain ⟨z0, z1, z2, z3, fz⟩ := zag (show Blk _ _ _ #[a, b, hh, hl] from q9)
 refine bodyPost_ret (v := .agg #[a, b, hh, hl]) (by simp [results, Tryz.results236, go_sem, z0, z1, z2, z3]) rfl (And.intro ?_ a3)
 rfl
theorem zix {a : Int} (h : (fit a).2 ≠ 0) : (fit a).1 = 0 := by
 by_cases q : -9223372036854775808 ≤ a ∧ a ≤ 9223372036854775807
 ·rw [zdk q] at h; exact absurd rfl h
 ·rw [zbt (by omega)]
theorem zkO (k : Int) (r : Rg) (ik : I64 k) (ir : I64 r.lo ∧ I64 r.hi) (w : World) : Calls Tryz.prog 196 #[.int .i64 k, r.val] w (zam (restR k r).val w) := by
 obtain ⟨lo, hi, hl, hh⟩ := r
 dsimp only at ir
 have H1 := hid (fun W => zcl k hi W ik ir.2)
 have H2 := hid (fun W => zcl k lo W ik ir.1)
 have Z1 := hid (fun h : (subW k hi).2 ≠ 0 => (show (subW k hi).1 = 0 from zix h))
 have Z2 := hid (fun h : (subW k lo).2 ≠ 0 => (show (subW k lo).1 = 0 from zix h))
 clear ik ir
 have HE : Hid (restR k ⟨lo, hi, hl, hh⟩ = ⟨if hh then (subW k hi).1 else 0, if hl then (subW k lo).1 else 0, hh && decide ((subW k hi).2 = 0), hl && decide ((subW k lo).2 = 0)⟩) := hid rfl
 generalize restR k ⟨lo, hi, hl, hh⟩ = R at *
 generalize subW k hi = u at *
 generalize subW k lo = v at *
 obtain ⟨u, q1⟩ := u
 obtain ⟨v, q2⟩ := v
 unfold zaE zce at H1 H2
 dsimp only at H1 H2 Z1 Z2 HE
 rw [show Rg.val ⟨lo, hi, hl, hh⟩ = .agg #[.int .i64 lo, .int .i64 hi, hl, hh] from rfl]
 obtain ⟨p3, p4, p5, a0, a6⟩ := zaj w #[.int .i64 lo, .int .i64 hi, hl, hh] #[.int .i64 0, .int .i64 0, false, false] #[.int .i64 0, .int .i64 0, false, false] 49 49 49
 clear a6
 go_enter Tryz.func196, Tryz.ntmps196
 have x0 := zag p3
 go_wp2_with fail
 generalize ((w.alloc (Obj.cells #[.int .i64 lo, .int .i64 hi, hl, hh] 49)).alloc (Obj.cells #[.int .i64 0, .int .i64 0, false, false] 49)).alloc (Obj.cells #[.int .i64 0, .int .i64 0, false, false] 49) = w1 at *
 (with_reducible refine (H1.out w1).mono ?_)
 rintro e_1 w_1 ⟨rfl, rfl⟩
 clear H1
 have y0 := zag p5
 cases hh with
 | false =>
  go_wp2_with fail
  clear x0 y0
  (with_reducible refine (H2.out w1).mono ?_)
  rintro e_2 w_2 ⟨rfl, rfl⟩
  clear H2
  have x0 := zag p3
  have y0 := zag p5
  cases hl with
  | false =>
   have hR : R = ⟨0, 0, false, false⟩ := by rw [HE.out]; simp_all
   subst hR
   clear HE Z1 Z2
   have k0 := zag p4
   go_wp2
   clear x0 y0 k0
   have q9 := (((p4.set_ 0 (.int .i64 0)).set_ 1 (.int .i64 0)).set_ 2 (.bool false)).set_ 3 (.bool false)
   have a3 := a0.trans (zav (W := w1) (g := w.heap.size + 1) (v0 := .int .i64 0) (v1 := .int .i64 0) (v2 := .bool false) (v3 := .bool false) (by omega) a0.size)
   obtain ⟨z0, z1, z2, z3, fz⟩ := zag (show Blk _ _ _ #[.int .i64 0, .int .i64 0, false, false] from q9)
   refine bodyPost_ret (v := .agg #[.int .i64 0, .int .i64 0, false, false]) (by simp [results, Tryz.results196, go_sem, z0, z1, z2, z3]) rfl (And.intro rfl a3)
  | true =>
   cases t2 : (q2 == 0) with
   | false =>
    have hR : R = ⟨0, 0, false, false⟩ := by rw [HE.out]; have a2 := Z2.out (by simpa using t2); have b2 : ¬ q2 = 0 := (by simpa using t2); simp_all
    subst hR
    clear HE Z1 Z2
    have k0 := zag p4
    go_wp2
    clear x0 y0 k0
    have q9 := (((p4.set_ 0 (.int .i64 0)).set_ 1 (.int .i64 0)).set_ 2 (.bool false)).set_ 3 (.bool false)
    have a3 := a0.trans (zav (W := w1) (g := w.heap.size + 1) (v0 := .int .i64 0) (v1 := .int .i64 0) (v2 := .bool false) (v3 := .bool false) (by omega) a0.size)
    obtain ⟨z0, z1, z2, z3, fz⟩ := zag (show Blk _ _ _ #[.int .i64 0, .int .i64 0, false, false] from q9)
    refine bodyPost_ret (v := .agg #[.int .i64 0, .int .i64 0, false, false]) (by simp [results, Tryz.results196, go_sem, z0, z1, z2, z3]) rfl (And.intro rfl a3)
   | true =>
    have hR : R = ⟨0, v, false, true⟩ := by rw [HE.out]; have b2 : q2 = 0 := (by simpa using t2); simp_all
    subst hR
    clear HE Z1 Z2
    have k0 := zag p4
    go_wp2
    clear x0 y0 k0
    have n54 : (w.heap.size + 1 + 1) ≠ w.heap.size + 1 := by omega
    have a4 := (a0.trans (zaL (W := w1) (g := w.heap.size + 1 + 1) (i := 1) (v := .int .i64 v) (by omega) a0.size))
    have a5 := a4.trans (zaL (g := w.heap.size + 1 + 1) (i := 3) (v := .bool true) (by omega) a4.size)
    replace p4 := (p4.far (p := ⟨w.heap.size + 1 + 1, 1, none⟩) n54 (.int .i64 v)).far (p := ⟨w.heap.size + 1 + 1, 3, none⟩) n54 (.bool true)
    clear a0 a4
    have a0 := a5
    clear a5
    have q9 := (((p4.set_ 0 (.int .i64 0)).set_ 1 (.int .i64 v)).set_ 2 (.bool false)).set_ 3 (.bool true)
    have a3 := a0.trans (zav (W := (w1.setCell ⟨w.heap.size + 1 + 1, 1, none⟩ (.int .i64 v)).setCell ⟨w.heap.size + 1 + 1, 3, none⟩ (.bool true)) (g := w.heap.size + 1) (v0 := .int .i64 0) (v1 := .int .i64 v) (v2 := .bool false) (v3 := .bool true) (by omega) a0.size)
    obtain ⟨z0, z1, z2, z3, fz⟩ := zag (show Blk _ _ _ #[.int .i64 0, v, false, true] from q9)
    refine bodyPost_ret (v := .agg #[.int .i64 0, v, false, true]) (by simp [results, Tryz.results196, go_sem, z0, z1, z2, z3]) rfl (And.intro rfl a3)
 | true =>
  cases t1 : (q1 == 0) with
  | false =>
   go_wp2_with fail
   clear x0 y0
   (with_reducible refine (H2.out w1).mono ?_)
   rintro e_2 w_2 ⟨rfl, rfl⟩
   clear H2
   have x0 := zag p3
   have y0 := zag p5
   cases hl with
   | false =>
    have hR : R = ⟨0, 0, false, false⟩ := by rw [HE.out]; have a1 := Z1.out (by simpa using t1); have b1 : ¬ q1 = 0 := (by simpa using t1); simp_all
    subst hR
    clear HE Z1 Z2
    have k0 := zag p4
    go_wp2
    clear x0 y0 k0
    have q9 := (((p4.set_ 0 (.int .i64 0)).set_ 1 (.int .i64 0)).set_ 2 (.bool false)).set_ 3 (.bool false)
    have a3 := a0.trans (zav (W := w1) (g := w.heap.size + 1) (v0 := .int .i64 0) (v1 := .int .i64 0) (v2 := .bool false) (v3 := .bool false) (by omega) a0.size)
    obtain ⟨z0, z1, z2, z3, fz⟩ := zag (show Blk _ _ _ #[.int .i64 0, .int .i64 0, false, false] from q9)
    refine bodyPost_ret (v := .agg #[.int .i64 0, .int .i64 0, false, false]) (by simp [results, Tryz.results196, go_sem, z0, z1, z2, z3]) rfl (And.intro rfl a3)
   | true =>
    cases t2 : (q2 == 0) with
    | false =>
     have hR : R = ⟨0, 0, false, false⟩ := by rw [HE.out]; have a1 := Z1.out (by simpa using t1); have b1 : ¬ q1 = 0 := (by simpa using t1); have a2 := Z2.out (by simpa using t2); have b2 : ¬ q2 = 0 := (by simpa using t2); simp_all
     subst hR
     clear HE Z1 Z2
     have k0 := zag p4
     go_wp2
     clear x0 y0 k0
     have q9 := (((p4.set_ 0 (.int .i64 0)).set_ 1 (.int .i64 0)).set_ 2 (.bool false)).set_ 3 (.bool false)
     have a3 := a0.trans (zav (W := w1) (g := w.heap.size + 1) (v0 := .int .i64 0) (v1 := .int .i64 0) (v2 := .bool false) (v3 := .bool false) (by omega) a0.size)
     obtain ⟨z0, z1, z2, z3, fz⟩ := zag (show Blk _ _ _ #[.int .i64 0, .int .i64 0, false, false] from q9)
     refine bodyPost_ret (v := .agg #[.int .i64 0, .int .i64 0, false, false]) (by simp [results, Tryz.results196, go_sem, z0, z1, z2, z3]) rfl (And.intro rfl a3)
    | true =>
     have hR : R = ⟨0, v, false, true⟩ := by rw [HE.out]; have a1 := Z1.out (by simpa using t1); have b1 : ¬ q1 = 0 := (by simpa using t1); have b2 : q2 = 0 := (by simpa using t2); simp_all
     subst hR
     clear HE Z1 Z2
     have k0 := zag p4
     go_wp2
     clear x0 y0 k0
     have n54 : (w.heap.size + 1 + 1) ≠ w.heap.size + 1 := by omega
     have a4 := (a0.trans (zaL (W := w1) (g := w.heap.size + 1 + 1) (i := 1) (v := .int .i64 v) (by omega) a0.size))
     have a5 := a4.trans (zaL (g := w.heap.size + 1 + 1) (i := 3) (v := .bool true) (by omega) a4.size)
     replace p4 := (p4.far (p := ⟨w.heap.size + 1 + 1, 1, none⟩) n54 (.int .i64 v)).far (p := ⟨w.heap.size + 1 + 1, 3, none⟩) n54 (.bool true)
     clear a0 a4
     have a0 := a5
     clear a5
     have q9 := (((p4.set_ 0 (.int .i64 0)).set_ 1 (.int .i64 v)).set_ 2 (.bool false)).set_ 3 (.bool true)
     have a3 := a0.trans (zav (W := (w1.setCell ⟨w.heap.size + 1 + 1, 1, none⟩ (.int .i64 v)).setCell ⟨w.heap.size + 1 + 1, 3, none⟩ (.bool true)) (g := w.heap.size + 1) (v0 := .int .i64 0) (v1 := .int .i64 v) (v2 := .bool false) (v3 := .bool true) (by omega) a0.size)
     obtain ⟨z0, z1, z2, z3, fz⟩ := zag (show Blk _ _ _ #[.int .i64 0, v, false, true] from q9)
     refine bodyPost_ret (v := .agg #[.int .i64 0, v, false, true]) (by simp [results, Tryz.results196, go_sem, z0, z1, z2, z3]) rfl (And.intro rfl a3)
  | true =>
   go_wp2_with fail
   clear x0 y0
   have n53 : (w.heap.size + 1 + 1) ≠ w.heap.size := by omega
   have n54 : (w.heap.size + 1 + 1) ≠ w.heap.size + 1 := by omega
   have a4 := (a0.trans (zaL (W := w1) (g := w.heap.size + 1 + 1) (i := 0) (v := .int .i64 u) (by omega) a0.size))
   have a5 := a4.trans (zaL (g := w.heap.size + 1 + 1) (i := 2) (v := .bool true) (by omega) a4.size)
   replace p3 := (p3.far (p := ⟨w.heap.size + 1 + 1, 0, none⟩) n53 (.int .i64 u)).far (p := ⟨w.heap.size + 1 + 1, 2, none⟩) n53 (.bool true)
   replace p4 := (p4.far (p := ⟨w.heap.size + 1 + 1, 0, none⟩) n54 (.int .i64 u)).far (p := ⟨w.heap.size + 1 + 1, 2, none⟩) n54 (.bool true)
   replace p5 := (p5.set_ 0 (.int .i64 u)).set_ 2 (.bool true)
   clear a0 a4 n53 n54
   have a0 := a5
   clear a5
   generalize (w1.setCell ⟨w.heap.size + 1 + 1, 0, none⟩ (.int .i64 u)).setCell ⟨w.heap.size + 1 + 1, 2, none⟩ (.bool true) = wA at *
   replace p5 : Blk wA (w.heap.size + 1 + 1) 49 #[u, .int .i64 0, true, false] := p5
   (with_reducible refine (H2.out wA).mono ?_)
   rintro e_2 w_2 ⟨rfl, rfl⟩
   clear H2
   have x0 := zag p3
   have y0 := zag p5
   cases hl with
   | false =>
    have hR : R = ⟨u, 0, true, false⟩ := by rw [HE.out]; have b1 : q1 = 0 := (by simpa using t1); simp_all
    subst hR
    clear HE Z1 Z2
    have k0 := zag p4
    go_wp2
    clear x0 y0 k0
    have q9 := (((p4.set_ 0 (.int .i64 u)).set_ 1 (.int .i64 0)).set_ 2 (.bool true)).set_ 3 (.bool false)
    have a3 := a0.trans (zav (W := wA) (g := w.heap.size + 1) (v0 := .int .i64 u) (v1 := .int .i64 0) (v2 := .bool true) (v3 := .bool false) (by omega) a0.size)
    obtain ⟨z0, z1, z2, z3, fz⟩ := zag (show Blk _ _ _ #[u, .int .i64 0, true, false] from q9)
    refine bodyPost_ret (v := .agg #[u, .int .i64 0, true, false]) (by simp [results, Tryz.results196, go_sem, z0, z1, z2, z3]) rfl (And.intro rfl a3)
   | true =>
    cases t2 : (q2 == 0) with
    | false =>
     have hR : R = ⟨u, 0, true, false⟩ := by rw [HE.out]; have b1 : q1 = 0 := (by simpa using t1); have a2 := Z2.out (by simpa using t2); have b2 : ¬ q2 = 0 := (by simpa using t2); simp_all
     subst hR
     clear HE Z1 Z2
     have k0 := zag p4
     go_wp2
     clear x0 y0 k0
     have q9 := (((p4.set_ 0 (.int .i64 u)).set_ 1 (.int .i64 0)).set_ 2 (.bool true)).set_ 3 (.bool false)
     have a3 := a0.trans (zav (W := wA) (g := w.heap.size + 1) (v0 := .int .i64 u) (v1 := .int .i64 0) (v2 := .bool true) (v3 := .bool false) (by omega) a0.size)
     obtain ⟨z0, z1, z2, z3, fz⟩ := zag (show Blk _ _ _ #[u, .int .i64 0, true, false] from q9)
     refine bodyPost_ret (v := .agg #[u, .int .i64 0, true, false]) (by simp [results, Tryz.results196, go_sem, z0, z1, z2, z3]) rfl (And.intro rfl a3)
    | true =>
     have hR : R = ⟨u, v, true, true⟩ := by rw [HE.out]; have b1 : q1 = 0 := (by simpa using t1); have b2 : q2 = 0 := (by simpa using t2); simp_all
     subst hR
     clear HE Z1 Z2
     have k0 := zag p4
     go_wp2
     clear x0 y0 k0
     have n54 : (w.heap.size + 1 + 1) ≠ w.heap.size + 1 := by omega
     have a4 := (a0.trans (zaL (W := wA) (g := w.heap.size + 1 + 1) (i := 1) (v := .int .i64 v) (by omega) a0.size))
     have a5 := a4.trans (zaL (g := w.heap.size + 1 + 1) (i := 3) (v := .bool true) (by omega) a4.size)
     replace p4 := (p4.far (p := ⟨w.heap.size + 1 + 1, 1, none⟩) n54 (.int .i64 v)).far (p := ⟨w.heap.size + 1 + 1, 3, none⟩) n54 (.bool true)
     clear a0 a4
     have a0 := a5
     clear a5
     have q9 := (((p4.set_ 0 (.int .i64 u)).set_ 1 (.int .i64 v)).set_ 2 (.bool true)).set_ 3 (.bool true)
     have a3 := a0.trans (zav (W := (wA.setCell ⟨w.heap.size + 1 + 1, 1, none⟩ (.int .i64 v)).setCell ⟨w.heap.size + 1 + 1, 3, none⟩ (.bool true)) (g := w.heap.size + 1) (v0 := .int .i64 u) (v1 := .int .i64 v) (v2 := .bool true) (v3 := .bool true) (by omega) a0.size)
     obtain ⟨z0, z1, z2, z3, fz⟩ := zag (show Blk _ _ _ #[u, v, true, true] from q9)
     refine bodyPost_ret (v := .agg #[u, v, true, true]) (by simp [results, Tryz.results196, go_sem, z0, z1, z2, z3]) rfl (And.intro rfl a3)
end
end Go.Proofs.YtnmpgijiimglcaaGreat
