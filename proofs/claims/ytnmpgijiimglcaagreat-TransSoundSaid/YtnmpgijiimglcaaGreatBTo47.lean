import Derived.Test.YtnmpgijiimglcaaGreatBTo45
import Derived.Test.YtnmpgijiimglcaaGreatBTo46
import Derived.Test.YtnmpgijiimglcaaGreatBTo44
import Derived.Test.YtnmpgijiimglcaaGreatBTo01
import Derived.ProofKit
import Derived.SizedLaws
import Derived.Lib.SmallJoins
import Derived.Test.YtnmpgijiimglcaaGreatBTo02
import Derived.Test.YtnmpgijiimglcaaGreatBTo08
import Derived.Test.YtnmpgijiimglcaaGreatBTo10
import Derived.Test.YtnmpgijiimglcaaGreatBTo25
import Derived.Laws.IdiomArrays
namespace Go.Proofs.YtnmpgijiimglcaaGreat
section
open Go.RowKit
set_option maxRecDepth 100000
set_option maxHeartbeats 8000000
attribute [local go_sem ↓] Go.wp_at_zero Go.wp_at_succ
theorem rd_same {w : World} {g ga : Nat} {t : TypeId} {ks : List Int} (hg : g < w.heap.size) (_hga : ga < w.heap.size) {cs : Array Value} (h : Blk w g t cs) {n c : Nat} (hcs : ∀ k, k < n → cs[k]? = some (.slice (some ⟨ga, 0, none⟩) ks.length c)) (hk : Rd w w.heap.size (some ⟨ga, 0, none⟩) ks) : RdR w w.heap.size (some ⟨g, 0, none⟩) (List.replicate n ks) := by
 intro k hk'
 have hkn : k < n := by simpa using hk'
 refine ⟨g, 0, some ⟨ga, 0, none⟩, c, rfl, hg, ?_, ?_⟩
 ·rw [Nat.zero_add, h.cell k, hcs k hkn, List.getElem_replicate]
 ·rw [List.getElem_replicate]; exact hk
theorem blk_rd4 {w : World} {g : Nat} {t : TypeId} {a0 a1 a2 a3 : Int} (h : Blk w g t #[a0, a1, a2, a3]) : Rd w w.heap.size (some ⟨g, 0, none⟩) [a0, a1, a2, a3] := by
 intro k hk
 refine ⟨g, 0, rfl, h.lt, ?_⟩
 rw [Nat.zero_add, h.cell k]
 have e : k = 0 ∨ k = 1 ∨ k = 2 ∨ k = 3 := by simp at hk; omega
 rcases e with rfl | rfl | rfl | rfl <;> rfl
theorem right_opT {n : Int} {e : Edg} (hr : rightT n e = true) (k12 : e.kd = 12) : 1 ≤ e.op ∧ e.op ≤ 6 := by
 unfold rightT rightE wOp at hr
 simp only [Bool.and_eq_true] at hr
 have := hr.1.1.2
 rw [decide_eq_true k12] at this
 simpa using this
theorem transAns_ok {o : O} {e : Edg} (h : transErr o e = 0) : OkO o.n (transAns o e) := by
 obtain ⟨hc, hr⟩ := err_right h
 have okc := (⟨rfl, hc⟩ : OkO o.n o).close
 unfold transAns
 rw [if_pos h]
 unfold transO
 split
 ·exact okc
 ·rename_i he
  exact edgeO_ok okc (by simpa using he) okc.rng.1 hr
theorem one_ok (o : O) (e : Edg) (na : Nat) (hna : na ≤ 16) (sz : Int) (hsz : 1 ≤ sz ∧ sz ≤ 1024) (xs : List Int) (input : Int) (ks : List Int) (hks : (ks.length : Int) = sz) (n0 : 0 ≤ o.n) (n1 : o.n ≤ 64) (hr : rightT o.n e = true) (harr : e.arr < na) (hxl : (xs.length : Int) = o.n) (hI : I64s xs) (ia : I64 e.an) (ib : I64 e.bn)
  (D E A X : Option Addr) (cd ce ca xc : Nat) (W : World) (hD : RdD W W.heap.size D (List.replicate na sz)) (hE : RdE W W.heap.size E (gr1 o.n [] e).es) (hX : Rd W W.heap.size X xs) (hA : RdR W W.heap.size A (List.replicate na ks)) :
  Calls Tryz.prog 37 #[.agg #[.slice none 0 0, o.n, .slice D na cd, .int .i64 2, .int .i64 1, .slice E (gr1 o.n [] e).es.length ce], .slice X xs.length xc, .slice A na ca, input, .int .i64 0] W (OneRes W (oneW (gr1 o.n (List.replicate na sz) e) (List.replicate na ks) xs input 0)) := by
 have hrr := right_T (na := ((List.replicate na sz).length : Nat)) hr (by simp; exact harr) (by omega)
 have hc := gr1_ok (e := e) (sz := List.replicate na sz) n0 n1 (by simp; exact hna) (fun s h => by rw [List.eq_of_mem_replicate h]; omega) hrr
 have := r10one_ok (gr1 o.n (List.replicate na sz) e) none D E 0 cd ce xs X xc (List.replicate na ks) A ca input 0 W hD hE hX hA hI (fun x hx => by
   have hx' : x = e01 e ∨ x = e01n e := by
    unfold gr1 at hx
    dsimp only at hx
    split at hx
    ·simpa using hx
    ·left; simpa using hx
   rcases hx' with rfl | rfl <;> exact ⟨ia, ib⟩) hc (by show ((0 : Nat) : Int) < 2; omega) (by
   rw [show (gr1 o.n (List.replicate na sz) e).all = o.n by unfold Gr.all gr1; dsimp only; omega]; exact hxl) (by show (List.replicate na ks).length = (List.replicate na sz).length; simp) (fun k h => by
   have h4 : k < na := by simpa using h
   rw [List.getElem_replicate]
   show ((ks.length : Nat) : Int) = gI (List.replicate na sz) (k : Int)
   unfold gI
   simp [h4]
   omega)
 unfold grV at this
 rw [List.length_replicate] at this
 rw [show (gr1 o.n (List.replicate na sz) e).sz.length = na from List.length_replicate] at this
 exact this
theorem transSound_walk (o : O) (fr te kd dst arr op av an bv bn input a0 a1 a2 a3 : Int) (xs : List Int) (hI : I64s xs) (ia : I64 an) (ib : I64 bn) (hin : I64 input) (hks : I64s [a0, a1, a2, a3]) (A X : Option Addr) (cap xc : Nat) (w : World) (hx : Rd w w.heap.size A o.m) (hm : o.m.length ≤ 17592186044416) (hxs : Rd w w.heap.size X xs) :
  Calls Tryz.prog 10 #[.agg #[o.n, o.e, .slice A o.m.length cap], .agg #[fr, te, kd, dst, arr, op, av, an, bv, bn], .slice X xs.length xc, input, .agg #[a0, a1, a2, a3]] w fun e w' => e = .returned (.bool true) ∧ Below w.heap.size w w' := by
 have HT := hid (fun W (hB : w.heap.size ≤ W.heap.size) (h : Rd W W.heap.size A o.m) => tEdge_all o fr te kd dst arr op av an bv bn ia ib A cap W h hm w.heap.size hB)
 have a7 := hid (fun (hk : check o = 0) W (h : Rd W W.heap.size A o.m) (h2 : Rd W W.heap.size X xs) => has_ok o hk xs A X cap xc W h hm h2 hI)
 have c0 := hid (fun (hE : transErr o ⟨fr, te, kd, dst, arr, op, av, an, bv, bn⟩ = 0) => (err_right hE).1)
 have b6 : Hid (∀ (hE : transErr o ⟨fr, te, kd, dst, arr, op, av, an, bv, bn⟩ = 0) W, Calls Tryz.prog 38 #[o.n, .int .i64 4, .agg #[fr, te, kd, dst, arr, op, av, an, bv, bn]] W (GraphRes W o.n 4 (gr1 o.n [] ⟨fr, te, kd, dst, arr, op, av, an, bv, bn⟩).es)) := hid (fun hE W => graph_ok o.n 4 (by omega) fr te kd dst arr op av an bv bn (fun q => right_opT (err_right hE).2 q) W)
 have a5 := hid (fun (hE : transErr o ⟨fr, te, kd, dst, arr, op, av, an, bv, bn⟩ = 0) (hx : HasO o xs) (ha : arr ≤ 3) => one_ok o ⟨fr, te, kd, dst, arr, op, av, an, bv, bn⟩ 4 (by omega) 4 (by omega) xs input [a0, a1, a2, a3] rfl (check_ok (err_right hE).1).1 (check_ok (err_right hE).1).2.1 (err_right hE).2 (by show arr < 4; omega) hx.2.1 hI ia ib)
 have a6 := hid (fun (hE : transErr o ⟨fr, te, kd, dst, arr, op, av, an, bv, bn⟩ = 0) (hx : HasO o xs) => sound_law (sz := List.replicate 4 4) (ls := List.replicate 4 [a0, a1, a2, a3]) (input := input) hE hx hI ia ib)
 have HI2 : Hid (I64s (oneW (gr1 o.n (List.replicate 4 4) ⟨fr, te, kd, dst, arr, op, av, an, bv, bn⟩) (List.replicate 4 [a0, a1, a2, a3]) xs input 0).2.2) := hid (r10one_i64 hI ia hin (fun l h => by rw [List.eq_of_mem_replicate h]; exact hks))
 have b2 := hid (fun (hE : transErr o ⟨fr, te, kd, dst, arr, op, av, an, bv, bn⟩ = 0) => show check (transAns o ⟨fr, te, kd, dst, arr, op, av, an, bv, bn⟩) = 0 ∧ (transAns o ⟨fr, te, kd, dst, arr, op, av, an, bv, bn⟩).m.length ≤ 17592186044416 from ⟨(transAns_ok hE).ok, (transAns_ok hE).small⟩)
 have b9 := hid (fun (hx : HasO o xs) (hE : transErr o ⟨fr, te, kd, dst, arr, op, av, an, bv, bn⟩ = 0) => show xs.length ≤ 64 from by
  have := hx.2.1
  have := (check_ok (err_right hE).1).2.1
  omega)
 generalize (gr1 o.n [] ⟨fr, te, kd, dst, arr, op, av, an, bv, bn⟩).es = es at *
 generalize oneW (gr1 o.n (List.replicate 4 4) ⟨fr, te, kd, dst, arr, op, av, an, bv, bn⟩) (List.replicate 4 [a0, a1, a2, a3]) xs input 0 = q at *
 obtain ⟨qi, qw, ys⟩ := q
 generalize hE : transErr o ⟨fr, te, kd, dst, arr, op, av, an, bv, bn⟩ = E at *
 generalize hR : transAns o ⟨fr, te, kd, dst, arr, op, av, an, bv, bn⟩ = R at *
 clear hE hR ia ib hm hI hin
 obtain ⟨p0, p1, p2, a4, -⟩ := new_three w #[o.n, o.e, .slice A o.m.length cap] #[fr, te, kd, dst, arr, op, av, an, bv, bn] #[a0, a1, a2, a3] 24 44 58
 have HXS := hid hxs
 replace hx := hx.up a4
 replace hxs := hxs.up a4
 go_enter Tryz.func10, Tryz.ntmps10
 go_wp2_with fail
 generalize ((w.alloc (Obj.cells #[o.n, o.e, .slice A o.m.length cap] 24)).alloc (Obj.cells #[fr, te, kd, dst, arr, op, av, an, bv, bn] 44)).alloc (Obj.cells #[a0, a1, a2, a3] 58) = w1 at *
 (with_reducible refine (known16_any w1).mono ?_)
 rintro e2 w2 ⟨rfl, b3⟩
 replace p0 := p0.later b3
 replace p1 := p1.later b3
 replace p2 := p2.later b3
 replace hx := hx.up b3
 replace hxs := hxs.up b3
 replace a4 := bup a4 b3
 clear b3
 obtain ⟨x0, x1, x2, fx⟩ := octbox p0
 obtain ⟨y0, y1, y2, y3, y4, y5, y6, y7, y8, y9, fy⟩ := edgbox p1
 go_wp2_with fail
 clear x0 x1 x2 fx y0 y1 y2 y3 y4 y5 y6 y7 y8 y9 fy
 (with_reducible refine (HT.out w2 a4.size hx).mono ?_)
 rintro e3 w3 ⟨A1, c1, rfl, sx, c4⟩
 have n4 := new1 w3 (.cells #[.int .i64 R.n, .bool R.e, .slice A1 R.m.length c1] 24)
 have p3 := Blk.new w3 24 #[.int .i64 R.n, .bool R.e, .slice A1 R.m.length c1]
 have c5 := Nat.le_trans a4.size c4.size
 have b4 := bup c4 n4
 replace p0 := p0.later b4
 replace p1 := p1.later b4
 replace p2 := p2.later b4
 replace hx := hx.up b4
 replace hxs := hxs.up b4
 replace a4 := bup a4 b4
 replace sx := sx.later n4 c5
 clear c4 HT n4 b4
 by_cases hE : E = 0
 rotate_left
 ·have t1 : (E != 0) = true := by simpa using hE
  clear a7 a5 c0 a6 b6 HI2 b2 b9
  go_wp2
  go_ret
  exact ⟨rfl, a4⟩
 subst hE
 replace a7 := hid (a7.out (c0.out (by first | rfl | trivial)))
 replace b6 := hid (b6.out (by first | rfl | trivial))
 replace a5 := hid (a5.out (by first | rfl | trivial))
 replace a6 := hid (a6.out (by first | rfl | trivial))
 obtain ⟨hRk, hRm⟩ := b2.out (by first | rfl | trivial)
 have HRK := hid hRk
 have HRM := hid hRm
 clear c0 b2 hRk hRm
 obtain ⟨x0, x1, x2, fx⟩ := octbox p0
 go_wp2_with fail
 clear x0 x1 x2 fx
 generalize w3.alloc (.cells #[.int .i64 R.n, .bool R.e, .slice A1 R.m.length c1] 24) = w4 at *
 generalize w3.heap.size = g3 at *
 (with_reducible refine (a7.out w4 hx hxs).mono ?_)
 clear a7 hx
 rintro e5 w5 ⟨b, rfl, b7, b1⟩
 replace p0 := p0.later b1
 replace p1 := p1.later b1
 replace p2 := p2.later b1
 replace p3 := p3.later b1
 replace sx := sx.later b1 a4.size
 replace hxs := hxs.up b1
 replace a4 := bup a4 b1
 clear b1
 cases b
 ·clear b7 a5 a6 b6
  go_wp2
  go_ret
  exact ⟨rfl, a4⟩
 have a9 := b7.1 rfl
 replace a5 := hid (a5.out a9)
 replace a6 := hid (a6.out a9)
 have hxl := b9.out a9 (by first | rfl | trivial)
 clear b7 a9 b9
 obtain ⟨y0, y1, y2, y3, y4, y5, y6, y7, y8, y9, fy⟩ := edgbox p1
 by_cases ha : 3 < arr
 ·go_wp2
  go_ret
  exact ⟨rfl, a4⟩
 replace a5 := hid (a5.out (by omega))
 obtain ⟨x0, x1, x2, fx⟩ := octbox p0
 go_wp2_with fail
 clear x0 x1 x2 fx y0 y1 y2 y3 y4 y5 y6 y7 y8 y9 fy
 (with_reducible refine (b6.out w5).mono ?_)
 clear b6
 rintro e6 w6 ⟨D, cd, Ea, ce, rfl, hD, hEr, hb6⟩
 have n7 := new1 w6 (.cells #[.slice none 0 0, o.n, .slice D 4 cd, .int .i64 2, .int .i64 1, .slice Ea es.length ce] 64)
 have p4 := Blk.new w6 64 #[.slice none 0 0, o.n, .slice D 4 cd, .int .i64 2, .int .i64 1, .slice Ea es.length ce]
 have b5 := bup hb6 n7
 replace p2 := p2.later b5
 replace p3 := p3.later b5
 replace sx := sx.later b5 a4.size
 replace hxs := hxs.up b5
 replace a4 := bup a4 b5
 replace hD := hD.up n7
 replace hEr := hEr.up n7
 clear hb6 n7 b5 p0 p1
 go_wp2
 generalize w6.alloc (.cells #[.slice none 0 0, o.n, .slice D 4 cd, .int .i64 2, .int .i64 1, .slice Ea es.length ce] 64) = w7 at *
 generalize w6.heap.size = g4 at *
 refine wp_region_flow 4 (fun W => Below w7.heap.size w7 W) (by kernel_rfl) (by kernel_rfl) (Below.refl _ _).drew ?_
 (repeat (first | refine fl_s ?_ | refine fl_t ?_))
 intro w8 hb8
 have n9 := new1 w8 (.cells #[.slice (some ⟨w.heap.size + 1 + 1, 0, none⟩) 4 4, .slice (some ⟨w.heap.size + 1 + 1, 0, none⟩) 4 4, .slice (some ⟨w.heap.size + 1 + 1, 0, none⟩) 4 4, .slice (some ⟨w.heap.size + 1 + 1, 0, none⟩) 4 4] 22)
 have p5 := Blk.new w8 22 #[.slice (some ⟨w.heap.size + 1 + 1, 0, none⟩) 4 4, .slice (some ⟨w.heap.size + 1 + 1, 0, none⟩) 4 4, .slice (some ⟨w.heap.size + 1 + 1, 0, none⟩) 4 4, .slice (some ⟨w.heap.size + 1 + 1, 0, none⟩) 4 4]
 have b0 := bup hb8 n9
 replace p2 := p2.later b0
 replace p3 := p3.later b0
 replace p4 := p4.later b0
 replace sx := sx.later b0 a4.size
 replace hxs := hxs.up b0
 replace a4 := bup a4 b0
 replace hD := hD.up b0
 replace hEr := hEr.up b0
 clear hb8 n9 b0
 go_wp2
 generalize w8.alloc (.cells #[.slice (some ⟨w.heap.size + 1 + 1, 0, none⟩) 4 4, .slice (some ⟨w.heap.size + 1 + 1, 0, none⟩) 4 4, .slice (some ⟨w.heap.size + 1 + 1, 0, none⟩) 4 4, .slice (some ⟨w.heap.size + 1 + 1, 0, none⟩) 4 4] 22) = w9 at *
 generalize w8.heap.size = g5 at *
 have hR := rd_same (n := 4) (c := 4) (ks := [a0, a1, a2, a3]) p5.lt p2.lt p5 (fun k hk => by
  have e : k = 0 ∨ k = 1 ∨ k = 2 ∨ k = 3 := by omega
  rcases e with rfl | rfl | rfl | rfl <;> rfl) (blk_rd4 p2)
 clear p2 p5
 obtain ⟨f0, f1, f2, f3, f4, f5, ff⟩ := blk6 p4
 replace f0 := laterE f0
 replace f1 := laterE f1
 replace f2 := laterE f2
 replace f3 := laterE f3
 replace f4 := laterE f4
 replace f5 := laterE f5
 clear ff p4
 refine wp_region_flowE 14 [Sp.val (.agg #[.slice none 0 0, o.n, .slice D 4 cd, .int .i64 2, .int .i64 1, .slice Ea es.length ce]), Sp.val (.slice X xs.length xc), Sp.any (IsSl xs), Sp.val (.slice (some ⟨g5, 0, none⟩) 4 4), Sp.val (.int .i64 input), Sp.any (IsOneV (qi, qw, ys)), Sp.any (IsOneV (qi, qw, ys)), Sp.val (.int .i64 qi), Sp.val (.int .i64 qw), Sp.any (IsSl ys), Sp.val (.int .i64 0), Sp.val (.int .i64 qi), Sp.val (.int .i64 qw), Sp.any (IsSl ys)] (by kernel_rfl) (by kernel_rfl) ?_
 (refine fe_t (fun _ _ => ?_))
 (refine fe_t (fun _ _ => ?_))
 refine FlowE.step (by rfl) (fun W hW K hK => wp_append_op _ _ 22 rfl Tryz.underlying22 W.heap.size none 0 [] rfl (own_nil _ _) W.heap.size X xc xs xs rfl (hxs.up (Ext.trans (Below.refl _ _).drew hW)) rfl (by omega) (Nat.le_refl _) fun A' cap' w' hown hg _ => hK _ w' (below_grown hg (fun k hk => by simp [Value.ownBlock] at hk) (Nat.le_refl _)) ⟨A', cap', rfl, hown.rd⟩) (fun v2 l2 h2 => ?_)
 refine fe_p ?_
 (refine fe_t (fun _ _ => ?_))
 (refine fe_t (fun _ _ => ?_))
 refine FlowE.callG (by rfl) (fun W hW hf => ?_) (fun v5 l5 h5 => ?_)
 ·obtain ⟨A2, c2, rfl, hr2⟩ := fact_sl (show Sp.fact w9.drew (Sp.any (IsSl xs)) v2 l2 h2 W from hf 2 (by kernel_rfl))
  have c7 : Below w9.heap.size w9 W := Ext.trans (Below.refl _ _).drew hW
  refine ⟨37, #[.agg #[.slice none 0 0, o.n, .slice D 4 cd, .int .i64 2, .int .i64 1, .slice Ea es.length ce], .slice A2 xs.length c2, .slice (some ⟨g5, 0, none⟩) 4 4, input, .int .i64 0], by go_simp, (a5.out D Ea (some ⟨g5, 0, none⟩) A2 cd ce 4 c2 W (hD.up c7) (hEr.up c7) hr2 (hR.up c7)).mono ?_⟩
  rintro e' w' ⟨A3, c3, he, ho, hb⟩
  exact ⟨_, he, hb, A3, c3, rfl, ho.rd⟩
 refine fe_p ?_
 refine FlowE.takeR (by rfl) (fun W hW hf => ?_) (fun v6 l6 h6 => ?_)
 ·obtain ⟨A3, c3, rfl, a8⟩ := fact_one (show Sp.fact w9.drew (Sp.any (IsOneV (qi, qw, ys))) v5 l5 h5 W from hf 5 (by kernel_rfl))
  exact ⟨_, fun R hR => by go_simp; exact hR, A3, c3, rfl, a8⟩
 refine fe_p ?_
 refine FlowE.takeF (by rfl) (fun W hW hf R hR => ?_) (fun _ _ => ?_)
 ·obtain ⟨A3, c3, rfl, a8⟩ := fact_one (show Sp.fact w9.drew (Sp.any (IsOneV (qi, qw, ys))) v6 l6 h6 W from hf 6 (by kernel_rfl))
  go_simp
  exact hR
 refine fe_p ?_
 refine FlowE.takeF (by rfl) (fun W hW hf R hR => ?_) (fun _ _ => ?_)
 ·obtain ⟨A3, c3, rfl, a8⟩ := fact_one (show Sp.fact w9.drew (Sp.any (IsOneV (qi, qw, ys))) v6 l6 h6 W from hf 6 (by kernel_rfl))
  go_simp
  exact hR
 refine fe_p ?_
 refine FlowE.takeR (by rfl) (fun W hW hf => ?_) (fun v9 l9 h9 => ?_)
 ·obtain ⟨A3, c3, rfl, a8⟩ := fact_one (show Sp.fact w9.drew (Sp.any (IsOneV (qi, qw, ys))) v6 l6 h6 W from hf 6 (by kernel_rfl))
  exact ⟨_, fun R hR => by go_simp; exact hR, A3, c3, rfl, a8⟩
 refine fe_p ?_
 refine FlowE.takeF (by rfl) (fun W hW hf R hR => ?_) (fun _ _ => ?_)
 ·obtain ⟨A3, c3, rfl, a8⟩ := fact_one (show Sp.fact w9.drew (Sp.any (IsOneV (qi, qw, ys))) v6 l6 h6 W from hf 6 (by kernel_rfl))
  go_simp
  exact hR
 refine fe_p ?_
 (refine fe_t (fun _ _ => ?_))
 (refine fe_t (fun _ _ => ?_))
 refine FlowE.takeR (by rfl) (fun W hW hf => ?_) (fun v13 l13 h13 => ?_)
 ·obtain ⟨A3, c3, rfl, a8⟩ := fact_sl (show Sp.fact w9.drew (Sp.any (IsSl ys)) v9 l9 h9 W from hf 9 (by kernel_rfl))
  exact ⟨_, fun R hR => by go_simp; exact hR, A3, c3, rfl, a8⟩
 refine fe_p ?_
 refine FlowE.tail (fun W hW hf hd => ?_)
 replace hW : Below w9.heap.size w9 W := Ext.trans (Below.refl _ _).drew hW
 obtain ⟨A3, c3, rfl, a8⟩ := fact_sl (show Sp.fact w9.drew (Sp.any (IsSl ys)) v13 l13 h13 W from hf 13)
 clear hf hd f0 f1 f2 f3 f4 f5 a5 hD hEr hR hxs
 replace p3 := p3.later hW
 replace sx := sx.later hW a4.size
 replace a4 := bup a4 hW
 have hsx := sx.rd a4.size
 clear hW sx
 by_cases hqi : qi = 0
 rotate_left
 ·have t1 : (qi != 0) = true := by simpa using hqi
  go_wp2
  go_ret
  exact ⟨rfl, a4⟩
 by_cases hqw : qw = 0
 rotate_left
 ·have t1 : (qw != 0) = true := by simpa using hqw
  go_wp2
  go_ret
  exact ⟨rfl, a4⟩
 have b8 := hid (a6.out hqi hqw)
 subst hqi
 subst hqw
 have HH := hid (has_ok R HRK.out ys A1 A3 c1 c3 W hsx HRM.out a8 (fun k => HI2.out k))
 obtain ⟨x0, x1, x2, fx⟩ := octbox p3
 go_wp2_with fail
 clear x0 x1 x2 fx
 (with_reducible refine HH.out.mono ?_)
 rintro e10 w10 ⟨b, rfl, b7, c6⟩
 have hb : b = true := b7.2 b8.out
 subst hb
 go_wp2
 go_ret
 exact ⟨rfl, bup a4 c6⟩
theorem four_i64 {a0 a1 a2 a3 : Int} (h0 : I64 a0) (h1 : I64 a1) (h2 : I64 a2) (h3 : I64 a3) : I64s [a0, a1, a2, a3] := fun i => by
 match i with
 | 0 => exact h0
 | 1 => exact h1
 | 2 => exact h2
 | 3 => exact h3
 | i + 4 =>
  have : gI [a0, a1, a2, a3] ((i + 4 : Nat) : Int) = 0 := by unfold gI; rw [show ((i + 4 : Nat) : Int).toNat = i + 4 by omega]; rfl
  rw [this]; omega
theorem transSound_walkE (o : O) (e : Edg) (xs : List Int) (input a0 a1 a2 a3 : Int) (hin : I64 input) (ia : I64 e.an) (ib : I64 e.bn) (h0 : I64 a0) (h1 : I64 a1) (h2 : I64 a2) (h3 : I64 a3) (A X : Option Addr) (cap xc : Nat) (w : World) (hx : Rd w w.heap.size A o.m) (hxs : Rd w w.heap.size X xs) (hm : o.m.length ≤ 17592186044416) (_ : xs.length ≤ 17592186044416) (hI : ∀ k : Nat, I64 (gI xs (k : Int))) :
  Calls Tryz.prog 10 #[.agg #[o.n, o.e, .slice A o.m.length cap], e.val, .slice X xs.length xc, input, .agg #[a0, a1, a2, a3]] w fun e w' => e = .returned (.bool true) ∧ Below w.heap.size w w' :=
 transSound_walk o e.fr e.te e.kd e.dst e.arr e.op e.av e.an e.bv e.bn input a0 a1 a2 a3 xs (fun k => hI k) ia ib hin (four_i64 h0 h1 h2 h3) A X cap xc w hx hm hxs
end
section
set_option maxRecDepth 100000
set_option maxHeartbeats 8000000
open Go.ChangeShapes Go.WideShapes Go.ChangeAt Go.RowKit Go.Joins
theorem Tryz.own : ownKnob Tryz.prog.godebug = none := by kernel_rfl
theorem Tryz.laidOut : laidOutB Tryz.prog = true := by kernel_rfl
theorem cells_i64 : Tryz.prog.cellsOf 2 = 1 := by kernel_rfl
theorem cells_oct : Tryz.prog.cellsOf 24 = 3 := by kernel_rfl
theorem bytes_i64 : Tryz.prog.bytesOf 2 = 8 := by kernel_rfl
section
variable {H : Type} {enc : TypeId × Value → H} {W : World} {base : Nat} {held : Bool}
theorem cell_lt {w : World} {p : Addr} {v : Value} (h : w.cell? p = some v) : p.block < w.heap.size ∧ p.spot = none := by
 unfold World.cell? at h
 split at h
 ·rename_i hb
  refine ⟨(Array.getElem?_eq_some_iff.1 hb).1, ?_⟩
  split at h
  ·cases h
  ·rename_i hs
   simpa using hs
 ·cases h
theorem row_ints {spare : Nat → Bool} {fuel : Nat} {cs : List Value} {x : DataW H × List MemPlace} (h : DataW.trod enc Tryz.prog W base spare held fuel 22 cs = some x) :
  ∃ (A : Option Addr) (c : Nat) (m : List Int), cs = [.slice A m.length c] ∧ Rd W W.heap.size A m ∧ ((∀ n ∈ x.1.weights Tryz.prog 22, n ≤ reachBytes) → m.length ≤ 17592186044416) ∧ ∀ i : Nat, gI m i ≤ 9223372036854775807 := by
 rcases open_ints Tryz.underlying22 Tryz.underlying2 cells_i64 h with ⟨rfl, rfl⟩ | ⟨a, len, cap, zs, rfl, _, hl, _, hzl, rfl, hc, hwf⟩
 ·exact ⟨none, 0, [], rfl, fun k hk => absurd hk (by simp), fun _ => by simp, fun i => by simp [gI]⟩
 ·have hle : len ≤ zs.length := by rw [hzl]; split <;> omega
  have hml : (zs.take len).length = len := by simp; omega
  refine ⟨some a, cap, zs.take len, by rw [hml], fun k hk => ?_, fun hw => ?_, fun i => (range_i64 (zs := zs.take len) (fun n hn => hwf n (List.mem_of_mem_take hn)) i).2⟩
  ·rw [hml] at hk
   have h0 := cell_lt (hc 0 (by omega))
   have hk' := hc k (by omega)
   obtain ⟨b, off, sp⟩ := a
   have hsp : sp = none := by simpa [Addr.add] using h0.2
   subst hsp
   have hb : b < W.heap.size := by simpa [Addr.add] using h0.1
   refine ⟨b, off, rfl, hb, ?_⟩
   have e : (⟨b, off, none⟩ : Addr).add k = ⟨b, off + k, none⟩ := by unfold Addr.add; split <;> simp_all
   rw [← e, hk']
   unfold gI
   rw [getD_take_lt zs len _ 0 (by simpa using hk)]
   rfl
  ·have := hw (((lits (H := H) IntKind.i64 (zs.take len)).length + (lits (H := H) IntKind.i64 (zs.drop len)).length) * Tryz.prog.bytesOf 2) (by simp [DataW.weights, Tryz.underlying22])
   rw [bytes_i64] at this
   have hr := reachBytes_lt
   simp [lits] at this
   omega
theorem open_oct {r : Reach} {b0 : Nat} {spare : Nat → Bool} {v : Value} {d : DataW H} {p : List MemPlace} (hv : Value.okWide Tryz.prog W r b0 24 v) (h : DataW.Trod enc Tryz.prog W base spare held 24 v d p) :
  ∃ (A : Option Addr) (c : Nat) (o : O), v = .agg #[o.n, o.e, .slice A o.m.length c] ∧ Rd W W.heap.size A o.m ∧ ((∀ n ∈ d.weights Tryz.prog 24, n ≤ reachBytes) → o.m.length ≤ 17592186044416) := by
 obtain ⟨v0, v1, v2, y0, y1, y2, n, rfl, rfl, rfl, h0, h1, h2⟩ := open_agg3 Tryz.underlying24 (by kernel_rfl) cells_oct hv h
 obtain ⟨k, hk, rfl, _⟩ := DataW.trod_int Tryz.underlying3 h0
 obtain ⟨b, hb, rfl⟩ := DataW.trod_bool Tryz.underlying4 h1
 obtain ⟨A, c, m, he, hr, hw, _⟩ := row_ints h2
 injection hk with hk; subst hk
 injection hb with hb; subst hb
 injection he with he; subst he
 refine ⟨A, c, ⟨k, b, m⟩, rfl, hr, fun hn => hw fun q hq => hn q ?_⟩
 have e := Tryz.underlying24
 simp only [DataW.weights, e, DataW.weightsEach, List.map_cons, List.map_nil, List.mem_append]
 exact .inr (.inr (.inl hq))
theorem post_true {f : Func} {s : ChangeSpec} {W' : World} {args : Array Value} {ds : List (DataW H)} {before : List MemPlace} (hW : DataW.Whole enc Tryz.prog f.params.toList s.vars false W args.toList ds [] before)
  (hrt : f.resultTypes = #[4]) (hv : s.vars = []) (hfn : s.fn H (ds ++ []) = { results := [.lit (.bool true)], args := ds })
  (hargs : DataW.TrodAll enc Tryz.prog W' 0 (fun b => decide (b < W.heap.size)) true f.params.toList args.toList ds before) (hb : Below W.heap.size W W') :
  s.post enc Tryz.prog f false true false false W args (.bool true) W' := by
 refine ⟨ds, [], before, [], before, [], hW, ?_, ?_, ?_, World.keptBut_mono (fun p hp => ⟨hp, .inr (.inl hp)⟩) (hb.frame (· ∈ before)), fun h => by cases h⟩
 ·rw [hfn, hrt]
  exact trodAll_mk1 (shut_bool Tryz.underlying4 _)
 ·rw [hfn]; exact hargs
 ·rw [hfn, hv]; rfl
end
end
section
set_option maxRecDepth 100000
set_option maxHeartbeats 8000000
open Go.ChangeShapes Go.WideShapes Go.ChangeAt Go.RowKit Go.Joins
theorem wf_i64 {n : Int} (h : (Lit.int .i64 n).wf = true) : I64 n := range_i64 (zs := [n]) (fun k hk => by simp at hk; subst hk; exact h) 0
end
section
set_option maxRecDepth 100000
set_option maxHeartbeats 8000000
open Go.ChangeShapes Go.WideShapes Go.ChangeAt Go.RowKit Go.Joins
section
variable {H : Type} {enc : TypeId × Value → H} {P : Program} {w : World} {base : Nat} {held : Bool} {spare : Nat → Bool}
theorem trodAll_five {t0 t1 t2 t3 t4 : TypeId} {args : Array Value} {ds : List (DataW H)} {ps : List MemPlace} (h : DataW.TrodAll enc P w base spare held [t0, t1, t2, t3, t4] args.toList ds ps) :
  ∃ v0 v1 v2 v3 v4 d0 d1 d2 d3 d4 p0 p1 p2 p3 p4, args = #[v0, v1, v2, v3, v4] ∧ ds = [d0, d1, d2, d3, d4] ∧ ps = p0 ++ p1 ++ p2 ++ p3 ++ p4 ∧ DataW.Trod enc P w base spare held t0 v0 d0 p0 ∧ DataW.Trod enc P w base spare held t1 v1 d1 p1 ∧ DataW.Trod enc P w base spare held t2 v2 d2 p2 ∧ DataW.Trod enc P w base spare held t3 v3 d3 p3 ∧ DataW.Trod enc P w base spare held t4 v4 d4 p4 := by
 obtain ⟨v, vs, d, ds', p, q, hargs, rfl, rfl, hd, a3⟩ := trodAll_cons h
 obtain ⟨v', vs', d', ds'', p', q', rfl, rfl, rfl, hd', a1⟩ := trodAll_cons a3
 obtain ⟨v'', vs'', d'', ds''', p'', q'', rfl, rfl, rfl, hd'', hrest''⟩ := trodAll_cons a1
 obtain ⟨v3, vs3, d3, ds3, p3, q3, rfl, rfl, rfl, hd3, a2⟩ := trodAll_cons hrest''
 obtain ⟨v4, vs4, d4, ds4, p4, q4, rfl, rfl, rfl, hd4, a0⟩ := trodAll_cons a2
 obtain ⟨rfl, rfl, rfl⟩ := trodAll_nil a0
 exact ⟨v, v', v'', v3, v4, d, d', d'', d3, d4, p, p', p'', p3, p4, by cases args; simp_all, rfl, by simp, hd, hd', hd'', hd3, hd4⟩
theorem trodAll_mk5 {t0 t1 t2 t3 t4 : TypeId} {v0 v1 v2 v3 v4 : Value} {d0 d1 d2 d3 d4 : DataW H} {p0 p1 p2 p3 p4 : List MemPlace} (h0 : DataW.Trod enc P w base spare held t0 v0 d0 p0) (h1 : DataW.Trod enc P w base spare held t1 v1 d1 p1)
  (h2 : DataW.Trod enc P w base spare held t2 v2 d2 p2) (h3 : DataW.Trod enc P w base spare held t3 v3 d3 p3) (h4 : DataW.Trod enc P w base spare held t4 v4 d4 p4) : DataW.TrodAll enc P w base spare held [t0, t1, t2, t3, t4] [v0, v1, v2, v3, v4] [d0, d1, d2, d3, d4] (p0 ++ (p1 ++ (p2 ++ (p3 ++ p4)))) :=
 ⟨p0, p1 ++ (p2 ++ (p3 ++ p4)), h0, trodAll_mk4 h1 h2 h3 h4, rfl⟩
end
section
variable {H : Type} {enc : TypeId × Value → H} {W : World} {base : Nat} {held : Bool} {spare : Nat → Bool} {r : Reach} {b0 : Nat} {v : Value} {d : DataW H} {p : List MemPlace}
theorem row_intsI {spare : Nat → Bool} {fuel : Nat} {cs : List Value} {x : DataW H × List MemPlace} (h : DataW.trod enc Tryz.prog W base spare held fuel 22 cs = some x) :
  ∃ (A : Option Addr) (c : Nat) (m : List Int), cs = [.slice A m.length c] ∧ Rd W W.heap.size A m ∧ ((∀ n ∈ x.1.weights Tryz.prog 22, n ≤ reachBytes) → m.length ≤ 17592186044416) ∧ ∀ i : Nat, I64 (gI m (i : Int)) := by
 rcases open_ints Tryz.underlying22 Tryz.underlying2 cells_i64 h with ⟨rfl, rfl⟩ | ⟨a, len, cap, zs, rfl, _, hl, _, hzl, rfl, hc, hwf⟩
 ·exact ⟨none, 0, [], rfl, fun k hk => absurd hk (by simp), fun _ => by simp, fun i => by simp [gI, I64]⟩
 ·have hle : len ≤ zs.length := by rw [hzl]; split <;> omega
  have hml : (zs.take len).length = len := by simp; omega
  refine ⟨some a, cap, zs.take len, by rw [hml], fun k hk => ?_, fun hw => ?_, fun i => (range_i64 (zs := zs.take len) (fun n hn => hwf n (List.mem_of_mem_take hn)) i)⟩
  ·rw [hml] at hk
   have h0 := cell_lt (hc 0 (by omega))
   have hk' := hc k (by omega)
   obtain ⟨b, off, sp⟩ := a
   have hsp : sp = none := by simpa [Addr.add] using h0.2
   subst hsp
   have hb : b < W.heap.size := by simpa [Addr.add] using h0.1
   refine ⟨b, off, rfl, hb, ?_⟩
   have e : (⟨b, off, none⟩ : Addr).add k = ⟨b, off + k, none⟩ := by unfold Addr.add; split <;> simp_all
   rw [← e, hk']
   unfold gI
   rw [getD_take_lt zs len _ 0 (by simpa using hk)]
   rfl
  ·have := hw (((lits (H := H) IntKind.i64 (zs.take len)).length + (lits (H := H) IntKind.i64 (zs.drop len)).length) * Tryz.prog.bytesOf 2) (by simp [DataW.weights, Tryz.underlying22])
   rw [bytes_i64] at this
   have hr := reachBytes_lt
   simp [lits] at this
   omega
theorem open_longsI (hv : Value.okWide Tryz.prog W r b0 22 v) (h : DataW.Trod enc Tryz.prog W base spare held 22 v d p) :
  ∃ (A : Option Addr) (c : Nat) (m : List Int), v = .slice A m.length c ∧ Rd W W.heap.size A m ∧ (∀ k : Nat, I64 (gI m (k : Int))) ∧ ((∀ n ∈ d.weights Tryz.prog 22, n ≤ reachBytes) → m.length ≤ 17592186044416) := by
 obtain ⟨a, len, cap, rfl⟩ := okWide_slice Tryz.underlying22 hv
 obtain ⟨fuel, hf⟩ := h
 obtain ⟨A, c, m, he, hr, hw, hI⟩ := row_intsI hf
 simp [Value.cells] at he
 obtain ⟨rfl, rfl, rfl⟩ := he
 exact ⟨_, _, m, rfl, hr, hI, hw⟩
end
end
section
set_option maxRecDepth 100000
set_option maxHeartbeats 8000000
open Go.ChangeShapes Go.WideShapes Go.ChangeAt Go.RowKit Go.Joins
section
variable {H : Type} {enc : TypeId × Value → H} {W : World} {base : Nat} {held : Bool} {spare : Nat → Bool}
theorem fieldG {fs : Array Field} {xs : List (DataW H × List MemPlace)} {n : Nat} {cs : List Value} (hf : ∀ (i : Nat) (f : Field), fs[i]? = some f → DataW.trod enc Tryz.prog W base spare held n f.type ((cs.drop f.offset).take (Tryz.prog.cellsOf f.type)) = xs[i]?)
  (i : Nat) (ty : TypeId) (off : Nat) (hi : (fs[i]?).map (fun f => (f.type, f.offset)) = some (ty, off)) : DataW.trod enc Tryz.prog W base spare held n ty ((cs.drop off).take (Tryz.prog.cellsOf ty)) = xs[i]? := by
 rw [Option.map_eq_some_iff] at hi
 obtain ⟨f, h1, h2⟩ := hi
 injection h2 with h2 h3
 subst h2 h3
 exact hf i f h1
def i64R (n : Int) : Prop := -9223372036854775808 ≤ n ∧ n ≤ 9223372036854775807
theorem wf_i64G {n : Int} (h : (Lit.int .i64 n).wf = true) : i64R n := by
 unfold i64R
 have h : (decide (IntKind.i64.min ≤ n) && decide (n ≤ IntKind.i64.max)) = true := h
 have e1 : IntKind.i64.min = -9223372036854775808 := by kernel_rfl
 have e2 : IntKind.i64.max = 9223372036854775807 := by kernel_rfl
 rw [e1, e2] at h
 simpa using h
theorem cells_int : Tryz.prog.cellsOf 3 = 1 := by kernel_rfl
theorem cells_edge : Tryz.prog.cellsOf 44 = 10 := by kernel_rfl
theorem cells_opd : Tryz.prog.cellsOf 26 = 2 := by kernel_rfl
theorem int_of {fuel : Nat} {t : TypeId} {k : IntKind} {cs : List Value} {c : Value} {y : Option (DataW H × List MemPlace)} (ht : Tryz.prog.underlying t = some (.int k)) (h : DataW.trod enc Tryz.prog W base spare held fuel t cs = y) (hy : y.isSome = true) (hc : cs = [c]) : ∃ n, c = .int k n ∧ (Lit.int k n).wf = true := by
 obtain ⟨z, rfl⟩ := Option.isSome_iff_exists.1 hy
 obtain ⟨n, h1, _, h2⟩ := DataW.trod_int ht h
 rw [hc] at h1
 injection h1 with h1
 exact ⟨n, h1, h2⟩
def EdgI (e : Edg) : Prop := i64R e.fr ∧ i64R e.te ∧ i64R e.kd ∧ i64R e.dst ∧ i64R e.arr ∧ i64R e.op ∧ i64R e.av ∧ i64R e.an ∧ i64R e.bv ∧ i64R e.bn
theorem list10 {α : Type} {l : List α} (h : l.length = 10) : ∃ c0 c1 c2 c3 c4 c5 c6 c7 c8 c9, l = [c0, c1, c2, c3, c4, c5, c6, c7, c8, c9] := by
 match l, h with
 | [c0, c1, c2, c3, c4, c5, c6, c7, c8, c9], _ => exact ⟨c0, c1, c2, c3, c4, c5, c6, c7, c8, c9, rfl⟩
theorem read_opd {fuel : Nat} {cs : List Value} {c0 c1 : Value} {y : Option (DataW H × List MemPlace)} (h : DataW.trod enc Tryz.prog W base spare held fuel 26 cs = y) (hy : y.isSome = true) (hc : cs = [c0, c1]) :
  ∃ v n, c0 = .int .i64 v ∧ c1 = .int .i64 n ∧ i64R v ∧ i64R n := by
 obtain ⟨z, rfl⟩ := Option.isSome_iff_exists.1 hy
 subst hc
 obtain ⟨xs, n, _, _, _, b0, hf⟩ := DataW.trod_struct Tryz.underlying26 h
 have sm : ∀ i, i < 2 → (xs[i]?).isSome = true := fun i hi => by rw [List.getElem?_eq_getElem (by rw [b0]; exact hi)]; rfl
 have ei : Tryz.prog.cellsOf 3 = 1 := by kernel_rfl
 have el : Tryz.prog.cellsOf 2 = 1 := by kernel_rfl
 have f0 := fieldG hf 0 3 0 rfl
 have f1 := fieldG hf 1 2 1 rfl
 rw [ei] at f0
 rw [el] at f1
 obtain ⟨a, ha, wa⟩ := int_of Tryz.underlying3 f0 (sm 0 (by omega)) rfl
 obtain ⟨b, hb, wb⟩ := int_of Tryz.underlying2 f1 (sm 1 (by omega)) rfl
 exact ⟨a, b, ha, hb, wf_i64G wa, wf_i64G wb⟩
theorem read_edge {fuel : Nat} {cs : List Value} {x : DataW H × List MemPlace} (h : DataW.trod enc Tryz.prog W base spare held fuel 44 cs = some x) :
  ∃ e : Edg, cs = e.cells ∧ EdgI e := by
 obtain ⟨xs, n, _, _, hl, b0, hf⟩ := DataW.trod_struct Tryz.underlying44 h
 rw [cells_edge] at hl
 obtain ⟨c0, c1, c2, c3, c4, c5, c6, c7, c8, c9, rfl⟩ := list10 hl
 have sm : ∀ i, i < 8 → (xs[i]?).isSome = true := fun i hi => by rw [List.getElem?_eq_getElem (by rw [b0]; exact hi)]; rfl
 have f0 := fieldG hf 0 3 0 rfl
 have f1 := fieldG hf 1 3 1 rfl
 have f2 := fieldG hf 2 3 2 rfl
 have f3 := fieldG hf 3 3 3 rfl
 have f4 := fieldG hf 4 3 4 rfl
 have f5 := fieldG hf 5 3 5 rfl
 have f6 := fieldG hf 6 26 6 rfl
 have f7 := fieldG hf 7 26 8 rfl
 rw [cells_int] at f0 f1 f2 f3 f4 f5
 rw [cells_opd] at f6 f7
 clear hf
 obtain ⟨a0, rfl, w0⟩ := int_of Tryz.underlying3 f0 (sm 0 (by omega)) rfl
 obtain ⟨a1, rfl, w1⟩ := int_of Tryz.underlying3 f1 (sm 1 (by omega)) rfl
 obtain ⟨a2, rfl, w2⟩ := int_of Tryz.underlying3 f2 (sm 2 (by omega)) rfl
 obtain ⟨a3, rfl, w3⟩ := int_of Tryz.underlying3 f3 (sm 3 (by omega)) rfl
 obtain ⟨a4, rfl, w4⟩ := int_of Tryz.underlying3 f4 (sm 4 (by omega)) rfl
 obtain ⟨a5, rfl, w5⟩ := int_of Tryz.underlying3 f5 (sm 5 (by omega)) rfl
 obtain ⟨a6, a7, rfl, rfl, w6, w7⟩ := read_opd f6 (sm 6 (by omega)) rfl
 obtain ⟨a8, a9, rfl, rfl, w8, w9⟩ := read_opd f7 (sm 7 (by omega)) rfl
 exact ⟨⟨a0, a1, a2, a3, a4, a5, a6, a7, a8, a9⟩, rfl, wf_i64G w0, wf_i64G w1, wf_i64G w2, wf_i64G w3, wf_i64G w4, wf_i64G w5, w6, w7, w8, w9⟩
end
end
section
set_option maxRecDepth 100000
set_option maxHeartbeats 8000000
open Go.ChangeShapes Go.WideShapes Go.ChangeAt Go.RowKit Go.Joins
section
variable {H : Type} {enc : TypeId × Value → H} {W : World} {base : Nat} {held : Bool} {spare : Nat → Bool} {r : Reach} {b0 : Nat} {v : Value} {d : DataW H} {p : List MemPlace}
theorem open_edg (hv : Value.okWide Tryz.prog W r b0 44 v) (h : DataW.Trod enc Tryz.prog W base spare held 44 v d p) :
  ∃ e : Edg, v = e.val ∧ I64 e.an ∧ I64 e.bn := by
 obtain ⟨cs, rfl, _⟩ := okWide_struct Tryz.underlying44 hv
 obtain ⟨fuel, hf⟩ := h
 obtain ⟨e, he, hi⟩ := read_edge hf
 refine ⟨e, ?_, hi.2.2.2.2.2.2.2.1, hi.2.2.2.2.2.2.2.2.2⟩
 have hc : cs.toList = e.cells := by simpa [Value.cells] using he
 have : cs = e.cells.toArray := by rw [← hc]
 rw [this]
 rfl
end
end
section

end
section
set_option maxRecDepth 100000
set_option maxHeartbeats 8000000
open Go.ChangeShapes Go.WideShapes Go.ChangeAt Go.RowKit Go.Joins
theorem okWide_arr {P : Program} {w : World} {r : Reach} {b0 n : Nat} {t e : TypeId} {v : Value} (ht : P.underlying t = some (.array n e)) (h : Value.okWide P w r b0 t v) : ∃ cs, v = .agg cs ∧ cs.size = P.cellsOf t := by
 simp only [Value.okWide, ht] at h
 obtain ⟨cs, h1, h2, _⟩ := h
 exact ⟨cs, h1, h2⟩
theorem cells_a4 : Tryz.prog.cellsOf 58 = 4 := by kernel_rfl
theorem cells_i64a : Tryz.prog.cellsOf 2 = 1 := by kernel_rfl
theorem list4A {α : Type} {l : List α} (h : l.length = 4) : ∃ c0 c1 c2 c3, l = [c0, c1, c2, c3] := by
 match l, h with
 | [c0, c1, c2, c3], _ => exact ⟨c0, c1, c2, c3, rfl⟩
section
variable {H : Type} {enc : TypeId × Value → H} {W : World} {base : Nat} {held : Bool} {spare : Nat → Bool} {r : Reach} {b0 : Nat} {v : Value} {d : DataW H} {p : List MemPlace}
theorem open_arr4 (hv : Value.okWide Tryz.prog W r b0 58 v) (h : DataW.Trod enc Tryz.prog W base spare held 58 v d p) :
  ∃ a0 a1 a2 a3 : Int, v = .agg #[.int .i64 a0, .int .i64 a1, .int .i64 a2, .int .i64 a3] ∧ I64 a0 ∧ I64 a1 ∧ I64 a2 ∧ I64 a3 := by
 obtain ⟨cs, rfl, hs⟩ := okWide_arr Tryz.underlying58 hv
 rw [cells_a4] at hs
 obtain ⟨c0, c1, c2, c3, hc⟩ := list4A (l := cs.toList) (by simpa using hs)
 obtain ⟨fuel, hf⟩ := h
 have hf' : DataW.trod enc Tryz.prog W base spare held fuel 58 [c0, c1, c2, c3] = some (d, p) := by rw [← hc]; simpa [Value.cells] using hf
 obtain ⟨y0, y1, y2, y3, n, -, h0, h1, h2, h3⟩ := trod_array4 Tryz.underlying58 cells_i64a hf'
 obtain ⟨k0, a6, rfl, w0⟩ := DataW.trod_int Tryz.underlying2 h0
 obtain ⟨k1, a4, rfl, w1⟩ := DataW.trod_int Tryz.underlying2 h1
 obtain ⟨k2, a7, rfl, w2⟩ := DataW.trod_int Tryz.underlying2 h2
 obtain ⟨k3, a5, rfl, w3⟩ := DataW.trod_int Tryz.underlying2 h3
 injection a6 with a6; subst a6
 injection a4 with a4; subst a4
 injection a7 with a7; subst a7
 injection a5 with a5; subst a5
 refine ⟨k0, k1, k2, k3, ?_, wf_i64 w0, wf_i64 w1, wf_i64 w2, wf_i64 w3⟩
 have : cs = #[.int .i64 k0, .int .i64 k1, .int .i64 k2, .int .i64 k3] := by
  apply Array.ext'
  simpa using hc
 rw [this]
end
end
end Go.Proofs.YtnmpgijiimglcaaGreat
