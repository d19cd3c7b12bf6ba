import Derived.Test.YtnmpgijiimglcaaGreatBSo30
import Derived.Test.YtnmpgijiimglcaaGreatBSo46
import Derived.Test.YtnmpgijiimglcaaGreatBSo01
import Derived.ProofKit
import Derived.SizedLaws
import Derived.Lib.SmallJoins
import Derived.Test.YtnmpgijiimglcaaGreatBSo02
import Derived.Test.YtnmpgijiimglcaaGreatBSo07
import Derived.Test.YtnmpgijiimglcaaGreatBSo09
import Derived.Test.YtnmpgijiimglcaaGreatBSo20
namespace Go.Proofs.YtnmpgijiimglcaaGreat
section
open Go.RowKit
set_option maxRecDepth 100000
set_option maxHeartbeats 8000000
attribute [local go_sem ↓] Go.wp_at_zero Go.wp_at_succ
theorem blk_rdE {w : World} {g : Nat} {y : Edg} (h : Blk w g 44 (ecs y)) : RdE w w.heap.size (some ⟨g, 0, none⟩) [y] := by
 intro k hk
 obtain rfl : k = 0 := by simpa using hk
 refine ⟨g, 0, rfl, h.lt, fun r hr => ?_⟩
 rw [show 0 + 0 * 10 + r = r by omega, h.cell r]
 simp [ecs, Edg.cells]
theorem own_rdR {w : World} {base : Nat} {A : Option Addr} {cap : Nat} {zs : List At64.R1} {ls : List (List Int)} (h : At64.OwnR w base A cap zs) (hl : zs.map (·.1) = ls) : RdR w w.heap.size A ls := by
 subst hl
 intro k hk
 have hk' : k < zs.length := by simpa using hk
 obtain ⟨g, hA, _, hg, hc⟩ := h.cell hk'
 refine ⟨g, 0, zs[k].2.1, zs[k].2.2, hA, hg, ?_, ?_⟩
 ·rw [Nat.zero_add, hc]; simp
 ·have := (h.own zs[k] (List.getElem_mem hk')).rd
  simpa using this
theorem rep_succ {α : Type} (k : Nat) (x : α) : List.replicate k x ++ [x] = List.replicate (k + 1) x := (List.replicate_succ' ..).symm
theorem one_safe (o : O) (e : Edg) (xs : List Int) (sz input : Int) (ls : List (List Int)) (hk : check o = 0) (hr : rightT o.n e = true) (hx : HasO o xs) (hI : I64s xs) (ia : I64 e.an) (ib : I64 e.bn)
  (hs : safeB (closeO o) e.kd e.av e.an e.bv e.bn sz = true) (h12 : e.kd ≠ 12) (harr : e.arr ≤ 3) (hsz : 1 ≤ sz ∧ sz ≤ 40) (hls : ls = List.replicate 4 (List.replicate sz.toNat 0))
  (D E A X : Option Addr) (cd ce ca xc : Nat) (W : World) (hD : RdD W W.heap.size D (List.replicate 4 sz)) (hE : RdE W W.heap.size E [e01 e]) (hX : Rd W W.heap.size X xs) (hA : RdR W W.heap.size A ls) :
  Calls Tryz.prog 37 #[.agg #[.slice none 0 0, o.n, .slice D 4 cd, .int .i64 2, .int .i64 1, .slice E 1 ce], .slice X xs.length xc, .slice A 4 ca, input, .int .i64 0] W fun e w' => ∃ i A l c, e = .returned (.tuple #[.int .i64 i, .int .i64 0, .slice A l c, .int .i64 0]) ∧ Below W.heap.size W w' := by
 obtain ⟨n0, n1, _, _⟩ := check_ok hk
 have hrr := right_T (na := ((List.replicate 4 sz).length : Nat)) hr (by simp; omega) (by omega)
 have hc := gr1_ok (e := e) (sz := List.replicate 4 sz) n0 n1 (by simp) (fun s h => by rw [List.eq_of_mem_replicate h]; omega) hrr
 have he : (gr1 o.n (List.replicate 4 sz) e).es = [e01 e] := by unfold gr1; rw [if_neg h12]
 have b8 : ls.length = 4 := by rw [hls]; simp
 have b4 := one_plain (n := o.n) (sz := List.replicate 4 sz) ls xs input h12
 have hd : (doesW ls e xs input).1 = 0 := safe_sound sz input ls hk hr hx hI ia ib hs (fun q => by
  have ha := right_T (na := 4) hr (by omega) (by omega)
  unfold rightE at ha
  simp only [Bool.and_eq_true] at ha
  have h1 := ha.1.1.1.2
  rw [show wArr e.kd = true from decide_eq_true q, cond_true, decide_eq_true_eq] at h1
  rw [hls, List.getD_eq_getElem?_getD, List.getElem?_replicate, if_pos (by omega)]
  simp; omega)
 have := r10one_ok (gr1 o.n (List.replicate 4 sz) e) none D E 0 cd ce xs X xc ls A ca input 0 W hD (by rw [he]; exact hE) hX hA hI (fun x hx => by
   rw [he] at hx
   rw [List.mem_singleton] at hx
   subst hx
   exact ⟨ia, ib⟩) hc (by show ((0 : Nat) : Int) < 2; omega) (by
   rw [show (gr1 o.n (List.replicate 4 sz) e).all = o.n by unfold Gr.all gr1; dsimp only; omega]; exact hx.2.1) (by rw [b8]; rfl) (fun k h => by
   have h4 : k < 4 := by omega
   subst hls
   rw [List.getElem_replicate, List.length_replicate]
   show ((sz.toNat : Nat) : Int) = gI (List.replicate 4 sz) (k : Int)
   have e4 : k = 0 ∨ k = 1 ∨ k = 2 ∨ k = 3 := by omega
   have e5 : gI (List.replicate 4 sz) (k : Int) = sz := by rcases e4 with rfl | rfl | rfl | rfl <;> rfl
   rw [e5]; omega)
 rw [b4, hd] at this
 unfold grV at this
 rw [he, b8] at this
 refine this.mono ?_
 rintro e' w' ⟨A', c', rfl, _, hb⟩
 exact ⟨_, _, _, _, rfl, hb⟩
theorem safeSound_walk (o : O) (fr te kd dst arr op av an bv bn sz input : Int) (xs : List Int) (hI : I64s xs) (ia : I64 an) (ib : I64 bn) (A X : Option Addr) (cap xc : Nat) (w : World) (hx : Rd w w.heap.size A o.m) (hm : o.m.length ≤ 17592186044416) (hxs : Rd w w.heap.size X xs) :
  Calls Tryz.prog 18 #[.agg #[o.n, o.e, .slice A o.m.length cap], .agg #[fr, te, kd, dst, arr, op, av, an, bv, bn], sz, .slice X xs.length xc, input] w fun e w' => e = .returned (.bool true) ∧ Below w.heap.size w w' := by
 have HS := hid (fun W (h : Rd W W.heap.size A o.m) => sEdge_all o fr te kd dst arr op av an bv bn sz ia ib A cap W h hm)
 have a2 := hid (fun (hk : check o = 0) W (h : Rd W W.heap.size A o.m) (h2 : Rd W W.heap.size X xs) => has_ok o hk xs A X cap xc W h hm h2 hI)
 have a0 := hid (fun (hE : transErr o ⟨fr, te, kd, dst, arr, op, av, an, bv, bn⟩ = 0) (hs : safeB (closeO o) kd av an bv bn sz = true) (hx : HasO o xs) => one_safe o ⟨fr, te, kd, dst, arr, op, av, an, bv, bn⟩ xs sz input (List.replicate 4 (List.replicate sz.toNat 0)) (err_right hE).1 (err_right hE).2 hx hI ia ib hs)
 have b3 := hid (fun (hE : transErr o ⟨fr, te, kd, dst, arr, op, av, an, bv, bn⟩ = 0) => (err_right hE).1)
 generalize hE : transErr o ⟨fr, te, kd, dst, arr, op, av, an, bv, bn⟩ = E at *
 generalize hQ : safeB (closeO o) kd av an bv bn sz = Q at *
 clear hE hQ
 obtain ⟨Y, hY⟩ : ∃ Y, Y = (if E = 0 then Q else false) := ⟨_, rfl⟩
 rw [← hY] at HS
 have HY := hid hY
 clear hY ia ib hm hI
 obtain ⟨p0, p1, a1, hs0⟩ := new_two w #[o.n, o.e, .slice A o.m.length cap] #[fr, te, kd, dst, arr, op, av, an, bv, bn] 24 44
 have HXS := hid hxs
 replace hx := hx.up a1
 replace hxs := hxs.up a1
 go_enter Tryz.func18, Tryz.ntmps18
 go_wp2_with fail
 generalize (w.alloc (Obj.cells #[o.n, o.e, .slice A o.m.length cap] 24)).alloc (Obj.cells #[fr, te, kd, dst, arr, op, av, an, bv, bn] 44) = w1 at *
 (with_reducible refine (known17_any w1).mono ?_)
 rintro e2 w2 ⟨rfl, a6⟩
 replace p0 := p0.later a6
 replace p1 := p1.later a6
 replace hx := hx.up a6
 replace hxs := hxs.up a6
 replace a1 := bup a1 a6
 clear a6
 obtain ⟨x0, x1, x2, fx⟩ := octbox p0
 obtain ⟨y0, y1, y2, y3, y4, y5, y6, y7, y8, y9, fy⟩ := edgbox p1
 go_wp2_with fail
 clear x0 x1 x2 fx y0 y1 y2 y3 y4 y5 y6 y7 y8 y9 fy
 (with_reducible refine (HS.out w2 hx).mono ?_)
 rintro e3 w3 ⟨rfl, a5⟩
 replace p0 := p0.later a5
 replace p1 := p1.later a5
 replace hx := hx.up a5
 replace hxs := hxs.up a5
 replace a1 := bup a1 a5
 clear a5 HS
 by_cases hE : E = 0
 rotate_left
 ·have t1 : (E != 0) = true := by simpa using hE
  have hY : Y = false := by rw [HY.out, if_neg hE]
  subst hY
  clear HY a2 a0 b3
  go_wp2
  go_ret
  exact ⟨rfl, a1⟩
 subst hE
 have hYQ : Y = Q := by rw [HY.out]; rfl
 subst hYQ
 clear HY
 cases Y
 ·clear a2 a0 b3
  go_wp2
  go_ret
  exact ⟨rfl, a1⟩
 replace a0 := hid (a0.out (by first | rfl | trivial) (by first | rfl | trivial))
 replace a2 := hid (a2.out (b3.out (by first | rfl | trivial)))
 clear b3
 obtain ⟨x0, x1, x2, fx⟩ := octbox p0
 go_wp2_with fail
 clear x0 x1 x2 fx
 (with_reducible refine (a2.out w3 hx hxs).mono ?_)
 clear a2 hx
 rintro e4 w4 ⟨b, rfl, b7, b0⟩
 replace p0 := p0.later b0
 replace p1 := p1.later b0
 replace hxs := hxs.up b0
 replace a1 := bup a1 b0
 clear b0
 cases b
 ·clear b7 a0
  go_wp2
  go_ret
  exact ⟨rfl, a1⟩
 replace a0 := hid (a0.out (b7.1 rfl))
 clear b7
 obtain ⟨y0, y1, y2, y3, y4, y5, y6, y7, y8, y9, fy⟩ := edgbox p1
 by_cases ha : 3 < arr
 ·go_wp2
  go_ret
  exact ⟨rfl, a1⟩
 by_cases hs1 : sz < 1
 ·go_wp2
  go_ret
  exact ⟨rfl, a1⟩
 by_cases hs2 : 40 < sz
 ·go_wp2
  go_ret
  exact ⟨rfl, a1⟩
 obtain ⟨x0, x1, x2, fx⟩ := octbox p0
 go_wp2
 have hbw : Below w.heap.size w ((w4.setCell ⟨w.heap.size + 1, 0, none⟩ (.int .i64 0)).setCell ⟨w.heap.size + 1, 1, none⟩ (.int .i64 1)) := (a1.setCell (p := ⟨w.heap.size + 1, 0, none⟩) (by show w.heap.size ≤ w.heap.size + 1; omega) _).setCell (p := ⟨w.heap.size + 1, 1, none⟩) (by show w.heap.size ≤ w.heap.size + 1; omega) _
 have q1 := (p1.set_ 0 (.int .i64 0)).set_ 1 (.int .i64 1)
 replace q1 : Blk ((w4.setCell ⟨w.heap.size + 1, 0, none⟩ (.int .i64 0)).setCell ⟨w.heap.size + 1, 1, none⟩ (.int .i64 1)) (w.heap.size + 1) 44 #[.int .i64 0, .int .i64 1, kd, dst, arr, op, av, an, bv, bn] := q1
 have hge : ((w4.setCell ⟨w.heap.size + 1, 0, none⟩ (.int .i64 0)).setCell ⟨w.heap.size + 1, 1, none⟩ (.int .i64 1)).heap.size = w4.heap.size := by simp
 have hg0 := q1.lt
 clear x0 x1 x2 fx y0 y1 y2 y3 y4 y5 y6 y7 y8 y9 fy p0 p1
 generalize hw5 : (w4.setCell ⟨w.heap.size + 1, 0, none⟩ (.int .i64 0)).setCell ⟨w.heap.size + 1, 1, none⟩ (.int .i64 1) = w5 at *
 clear hw5 a1
 rw [← hge] at *
 clear hge
 have n6 := new1 w5 (.cells #[.int .i64 0, .int .i64 1, kd, dst, arr, op, av, an, bv, bn] 44)
 have k6 := Blk.new w5 44 #[.int .i64 0, .int .i64 1, kd, dst, arr, op, av, an, bv, bn]
 have hs6 : (w5.alloc (.cells #[.int .i64 0, .int .i64 1, kd, dst, arr, op, av, an, bv, bn] 44)).heap.size = w5.heap.size + 1 := by simp
 have n7 := new1 (w5.alloc (.cells #[.int .i64 0, .int .i64 1, kd, dst, arr, op, av, an, bv, bn] 44)) (.cells #[.slice none 0 0, o.n, .slice none 0 0, .int .i64 2, .int .i64 1, .slice (some ⟨w5.heap.size, 0, none⟩) 1 1] 64)
 have k7 := Blk.new (w5.alloc (.cells #[.int .i64 0, .int .i64 1, kd, dst, arr, op, av, an, bv, bn] 44)) 64 #[.slice none 0 0, o.n, .slice none 0 0, .int .i64 2, .int .i64 1, .slice (some ⟨w5.heap.size, 0, none⟩) 1 1]
 rw [hs6] at k7
 replace k6 := k6.later n7
 replace q1 := (q1.later n6).later n7
 have hb7 := bup (bup hbw n6) n7
 have hs7 : ((w5.alloc (.cells #[.int .i64 0, .int .i64 1, kd, dst, arr, op, av, an, bv, bn] 44)).alloc (.cells #[.slice none 0 0, o.n, .slice none 0 0, .int .i64 2, .int .i64 1, .slice (some ⟨w5.heap.size, 0, none⟩) 1 1] 64)).heap.size = w5.heap.size + 2 := by simp
 clear n6 n7 hs6 hbw
 generalize w5.heap.size = ge at *
 generalize (w5.alloc (.cells #[.int .i64 0, .int .i64 1, kd, dst, arr, op, av, an, bv, bn] 44)).alloc (.cells #[.slice none 0 0, o.n, .slice none 0 0, .int .i64 2, .int .i64 1, .slice (some ⟨ge, 0, none⟩) 1 1] 64) = w7 at *
 obtain ⟨n, hn⟩ : ∃ n : Nat, sz = (n : Int) := ⟨sz.toNat, by omega⟩
 subst hn
 have hn40 : 1 ≤ n ∧ n ≤ 40 := by omega
 rw [Int.toNat_natCast] at a0
 go_loopw [14, 15] (fun s t wr => ∃ (k : Nat) (L : List Int) (D : Option Addr) (cd : Nat) (R : Option Addr) (rc : Nat) (zs : List At64.R1), k ≤ 4 ∧ s = .slice R zs.length rc ∧ t = .int .i64 k ∧ Blk wr (ge + 1) 64 #[.slice none 0 0, o.n, .slice D L.length cd, .int .i64 2, .int .i64 1, .slice (some ⟨ge, 0, none⟩) 1 1] ∧ OwnD wr (ge + 2) (.string ⟨#[97]⟩) D cd L ∧ At64.OwnR wr (ge + 2) R rc zs ∧ zs.map (·.1) = List.replicate k (List.replicate n 0) ∧ L = List.replicate k (n : Int) ∧ Blk wr ge 44 #[.int .i64 0, .int .i64 1, kd, dst, arr, op, av, an, bv, bn] ∧ Blk wr (w.heap.size + 1) 44 #[.int .i64 0, .int .i64 1, kd, dst, arr, op, av, an, bv, bn] ∧ Below w.heap.size w wr ∧ ge + 2 ≤ wr.heap.size) (fun _ t _ => 4 - (RowKit.intOf t).toNat)
 case atStart => exact ⟨0, [], none, 0, none, 0, [], by omega, rfl, rfl, k7, OwnD.nil _ _ _, At64.OwnR.nil _ _, rfl, rfl, k6, q1, hb7, by omega⟩
 case round =>
  obtain ⟨k, L, D, cd, R, rc, zs, hk, rfl, rfl, kc, od, rows, hz, hL, ke, kp, hb, hsz⟩ := hrel
  clear k7 k6 q1 hb7 hs7
  by_cases hlt : k < 4
  ·have hlt' : (k : Int) < 4 := by omega
   have c2 := kc.cell 2
   have HL := hid hL
   have HZ := hid hz
   have hll : L.length ≤ 4 := by rw [hL, List.length_replicate]; exact hk
   have hzl : zs.length ≤ 4 := by have := congrArg List.length hz; simp at this; omega
   clear hL hz
   have n8 := new1 wr (.cells #[.string ⟨#[97]⟩, (n : Int)] 90)
   have k8 := Blk.new wr 90 #[.string ⟨#[97]⟩, (n : Int)]
   have od8 := od.below n8
   have rows8 := rows.below n8
   have kc8 := kc.later n8
   have ke8 := ke.later n8
   have kp8 := kp.later n8
   have hb8 := bup hb n8
   have hs8 := n8.size
   clear od rows kc ke kp hb
   go_upto_region 14 with (at_builtin; go_loud (refine wpList_append_decl _ _ rfl rfl (ge + 2) D cd ⟨#[97]⟩ L (n : Int) rfl od8 wr.heap.size rfl k8 (by omega) (by omega) ?_); intro D' cd' w9 od9 hg9 a4; have c9 := (a4.cell (p := ⟨ge + 1, 2, none⟩) (by show ge + 1 < ge + 2; omega)).trans (kc8.cell 2); have f9 := (kc8.below a4 (by omega)).fr 2)
   have kc10 := (kc8.below a4 (by omega)).set_ 2 (.slice D' (L.length + 1) cd')
   have od10 := od9.setFar (p := ⟨ge + 1, 2, none⟩) (by show ge + 1 < ge + 2; omega) (.slice D' (L.length + 1) cd')
   have rows10 := (OwnR_other rows8 hg9 od8.row).setFar (p := ⟨ge + 1, 2, none⟩) (by show ge + 1 < ge + 2; omega) (.slice D' (L.length + 1) cd')
   have ke10 := (ke8.below a4 (by omega)).far (p := ⟨ge + 1, 2, none⟩) (by show ge + 1 ≠ ge; omega) (.slice D' (L.length + 1) cd')
   have kp10 := (kp8.below a4 (by omega)).far (p := ⟨ge + 1, 2, none⟩) (by show ge + 1 ≠ w.heap.size + 1; omega) (.slice D' (L.length + 1) cd')
   have b2 := (hb8.trans (a4.mono (by omega))).setCell (p := ⟨ge + 1, 2, none⟩) (by show w.heap.size ≤ ge + 1; omega) (.slice D' (L.length + 1) cd')
   have a7 : ge + 2 ≤ (w9.setCell ⟨ge + 1, 2, none⟩ (.slice D' (L.length + 1) cd')).heap.size := by have := a4.size; simp; omega
   clear c9 f9 hg9 a4 od9 od8 rows8 kc8 ke8 kp8 hb8 k8 n8 c2 hs8
   generalize w9.setCell ⟨ge + 1, 2, none⟩ (.slice D' (L.length + 1) cd') = w10 at *
   have hmk := run_make64 n (by omega)
   have own11 := own_made w10 (base := ge + 2) (n := n) a7 (by omega)
   have n11 := new1 w10 (.cells (zcells n) 2)
   have n12 := new1 (w10.alloc (.cells (zcells n) 2)) (.cells #[.slice (some ⟨w10.heap.size, 0, none⟩) n n] 22)
   have k12 : Blk ((w10.alloc (.cells (zcells n) 2)).alloc (.cells #[.slice (some ⟨w10.heap.size, 0, none⟩) n n] 22)) (w10.heap.size + 1) 22 #[.slice (some ⟨w10.heap.size, 0, none⟩) (List.replicate n (0 : Int)).length n] := by
    have := Blk.new (w10.alloc (.cells (zcells n) 2)) 22 #[.slice (some ⟨w10.heap.size, 0, none⟩) n n]
    rw [List.length_replicate]
    simpa using this
   replace own11 := own11.below n12
   have n13 := bup n11 n12
   have rows12 := rows10.below n13
   have od12 := od10.below n13
   have kc12 := kc10.later n13
   have ke12 := ke10.later n13
   have kp12 := kp10.later n13
   have a9 := bup b2 n13
   have b1 : ge + 2 ≤ ((w10.alloc (.cells (zcells n) 2)).alloc (.cells #[.slice (some ⟨w10.heap.size, 0, none⟩) n n] 22)).heap.size := Nat.le_trans a7 n13.size
   clear rows10 od10 kc10 ke10 kp10 b2 n11 n12 n13
   go_wp2_with (at_builtin; go_loud (refine wpList_append_rowG _ _ rfl rfl (ge + 2) R rc zs (List.replicate n 0, some ⟨w10.heap.size, 0, none⟩, n) rfl rows12 (w10.heap.size + 1) rfl k12 own11 (by omega) b1 ?_); intro R' rc' w13 rows13 a8 a3)
   clear hmk
   have hl1 : (L ++ [(n : Int)]).length = L.length + 1 := by simp
   have od13 := od12.other a8 (OwnR_row rows12)
   have kc13 := kc12.below a3 (by omega)
   have ke13 := ke12.below a3 (by omega)
   have kp13 := kp12.below a3 (by omega)
   have b5 := a9.trans (a3.mono (by omega))
   have b6 := Nat.le_trans b1 a3.size
   clear od12 kc12 ke12 kp12 a9 a8 a3 rows12 own11 k12
   go_roundw
   case rel =>
    refine ⟨k + 1, L ++ [(n : Int)], D', cd', R', rc', zs ++ [(List.replicate n 0, some ⟨w10.heap.size, 0, none⟩, n)], by omega, by simp, by go_num, ?_, od13, rows13, ?_, ?_, ke13, kp13, b5, b6⟩
    ·rw [hl1]; exact kc13
    ·rw [List.map_append, HZ.out]; exact rep_succ _ _
    ·rw [HL.out]; exact rep_succ _ _
   case measure => simp [RowKit.intOf]; omega
  ·obtain rfl : k = 4 := by omega
   have b8 : L.length = 4 := by rw [hL, List.length_replicate]
   have hz4 : zs.length = 4 := by have := congrArg List.length hz; simpa using this
   have hD := od.rd rfl
   rw [hL] at hD
   have hE := blk_rdE (y := e01 ⟨fr, te, kd, dst, arr, op, av, an, bv, bn⟩) ke
   have hA := own_rdR rows hz
   have hX := (HXS.out.below hb).more hb.size
   have HK := hid (fun (h12 : kd ≠ 12) => a0.out h12 (by show arr ≤ 3; omega) ⟨by omega, by omega⟩ (by first | rfl | trivial) D (some ⟨ge, 0, none⟩) R X cd 1 rc xc wr hD hE hX hA)
   obtain ⟨y0, y1, y2, y3, y4, y5, y6, y7, y8, y9, fy⟩ := edgbox kp
   obtain ⟨f0, f1, f2, f3, f4, f5, ff⟩ := blk6 kc
   clear hL hz hlt hk od rows hD hE hA hX a0 ke kp kc hxs
   by_cases h12 : kd = 12
   ·have t12 : (kd == 12) = true := by rw [beq_iff_eq]; exact h12
    go_wp2
    go_ret
    exact ⟨rfl, hb⟩
   ·have t12 : (kd == 12) = false := by rw [beq_eq_false_iff_ne]; exact h12
    go_wp2_with fail
    clear y0 y1 y2 y3 y4 y5 y6 y7 y8 y9 fy f0 f1 f2 f3 f4 f5 ff
    refine (HK.out h12).mono ?_
    clear HK
    rintro e5 w5 ⟨i, A5, l5, c5, rfl, hb5⟩
    replace hb := bup hb hb5
    go_wp2
    go_ret
    exact ⟨rfl, hb⟩
theorem safeSound_walkE (o : O) (e : Edg) (sz : Int) (xs : List Int) (input : Int) (_ : I64 input) (ia : I64 e.an) (ib : I64 e.bn) (A X : Option Addr) (cap xc : Nat) (w : World) (hx : Rd w w.heap.size A o.m) (hxs : Rd w w.heap.size X xs) (hm : o.m.length ≤ 17592186044416) (_ : xs.length ≤ 17592186044416) (hI : ∀ k : Nat, I64 (gI xs (k : Int))) :
  Calls Tryz.prog 18 #[.agg #[o.n, o.e, .slice A o.m.length cap], e.val, sz, .slice X xs.length xc, input] w fun e w' => e = .returned (.bool true) ∧ Below w.heap.size w w' :=
 safeSound_walk o e.fr e.te e.kd e.dst e.arr e.op e.av e.an e.bv e.bn sz input xs (fun k => hI k) ia ib A X cap xc w hx hm hxs
end
section
set_option maxRecDepth 100000
set_option maxHeartbeats 8000000
open Go.ChangeShapes Go.WideShapes Go.ChangeAt Go.RowKit Go.Joins
theorem Tryz.own : ownKnob Tryz.prog.godebug = none := by kernel_rfl
theorem Tryz.laidOut : laidOutB Tryz.prog = true := by kernel_rfl
theorem cells_i64 : Tryz.prog.cellsOf 2 = 1 := by kernel_rfl
theorem cells_oct : Tryz.prog.cellsOf 24 = 3 := by kernel_rfl
theorem bytes_i64 : Tryz.prog.bytesOf 2 = 8 := by kernel_rfl
section
variable {H : Type} {enc : TypeId × Value → H} {W : World} {base : Nat} {held : Bool}
theorem cell_lt {w : World} {p : Addr} {v : Value} (h : w.cell? p = some v) : p.block < w.heap.size ∧ p.spot = none := by
 unfold World.cell? at h
 split at h
 ·rename_i hb
  refine ⟨(Array.getElem?_eq_some_iff.1 hb).1, ?_⟩
  split at h
  ·cases h
  ·rename_i hs
   simpa using hs
 ·cases h
theorem row_ints {spare : Nat → Bool} {fuel : Nat} {cs : List Value} {x : DataW H × List MemPlace} (h : DataW.trod enc Tryz.prog W base spare held fuel 22 cs = some x) :
  ∃ (A : Option Addr) (c : Nat) (m : List Int), cs = [.slice A m.length c] ∧ Rd W W.heap.size A m ∧ ((∀ n ∈ x.1.weights Tryz.prog 22, n ≤ reachBytes) → m.length ≤ 17592186044416) ∧ ∀ i : Nat, gI m i ≤ 9223372036854775807 := by
 rcases open_ints Tryz.underlying22 Tryz.underlying2 cells_i64 h with ⟨rfl, rfl⟩ | ⟨a, len, cap, zs, rfl, _, hl, _, hzl, rfl, hc, hwf⟩
 ·exact ⟨none, 0, [], rfl, fun k hk => absurd hk (by simp), fun _ => by simp, fun i => by simp [gI]⟩
 ·have hle : len ≤ zs.length := by rw [hzl]; split <;> omega
  have hml : (zs.take len).length = len := by simp; omega
  refine ⟨some a, cap, zs.take len, by rw [hml], fun k hk => ?_, fun hw => ?_, fun i => (range_i64 (zs := zs.take len) (fun n hn => hwf n (List.mem_of_mem_take hn)) i).2⟩
  ·rw [hml] at hk
   have h0 := cell_lt (hc 0 (by omega))
   have hk' := hc k (by omega)
   obtain ⟨b, off, sp⟩ := a
   have hsp : sp = none := by simpa [Addr.add] using h0.2
   subst hsp
   have hb : b < W.heap.size := by simpa [Addr.add] using h0.1
   refine ⟨b, off, rfl, hb, ?_⟩
   have e : (⟨b, off, none⟩ : Addr).add k = ⟨b, off + k, none⟩ := by unfold Addr.add; split <;> simp_all
   rw [← e, hk']
   unfold gI
   rw [getD_take_lt zs len _ 0 (by simpa using hk)]
   rfl
  ·have := hw (((lits (H := H) IntKind.i64 (zs.take len)).length + (lits (H := H) IntKind.i64 (zs.drop len)).length) * Tryz.prog.bytesOf 2) (by simp [DataW.weights, Tryz.underlying22])
   rw [bytes_i64] at this
   have hr := reachBytes_lt
   simp [lits] at this
   omega
theorem open_oct {r : Reach} {b0 : Nat} {spare : Nat → Bool} {v : Value} {d : DataW H} {p : List MemPlace} (hv : Value.okWide Tryz.prog W r b0 24 v) (h : DataW.Trod enc Tryz.prog W base spare held 24 v d p) :
  ∃ (A : Option Addr) (c : Nat) (o : O), v = .agg #[o.n, o.e, .slice A o.m.length c] ∧ Rd W W.heap.size A o.m ∧ ((∀ n ∈ d.weights Tryz.prog 24, n ≤ reachBytes) → o.m.length ≤ 17592186044416) := by
 obtain ⟨v0, v1, v2, y0, y1, y2, n, rfl, rfl, rfl, h0, h1, h2⟩ := open_agg3 Tryz.underlying24 (by kernel_rfl) cells_oct hv h
 obtain ⟨k, hk, rfl, _⟩ := DataW.trod_int Tryz.underlying3 h0
 obtain ⟨b, hb, rfl⟩ := DataW.trod_bool Tryz.underlying4 h1
 obtain ⟨A, c, m, he, hr, hw, _⟩ := row_ints h2
 injection hk with hk; subst hk
 injection hb with hb; subst hb
 injection he with he; subst he
 refine ⟨A, c, ⟨k, b, m⟩, rfl, hr, fun hn => hw fun q hq => hn q ?_⟩
 have e := Tryz.underlying24
 simp only [DataW.weights, e, DataW.weightsEach, List.map_cons, List.map_nil, List.mem_append]
 exact .inr (.inr (.inl hq))
theorem post_true {f : Func} {s : ChangeSpec} {W' : World} {args : Array Value} {ds : List (DataW H)} {before : List MemPlace} (hW : DataW.Whole enc Tryz.prog f.params.toList s.vars false W args.toList ds [] before)
  (hrt : f.resultTypes = #[4]) (hv : s.vars = []) (hfn : s.fn H (ds ++ []) = { results := [.lit (.bool true)], args := ds })
  (hargs : DataW.TrodAll enc Tryz.prog W' 0 (fun b => decide (b < W.heap.size)) true f.params.toList args.toList ds before) (hb : Below W.heap.size W W') :
  s.post enc Tryz.prog f false true false false W args (.bool true) W' := by
 refine ⟨ds, [], before, [], before, [], hW, ?_, ?_, ?_, World.keptBut_mono (fun p hp => ⟨hp, .inr (.inl hp)⟩) (hb.frame (· ∈ before)), fun h => by cases h⟩
 ·rw [hfn, hrt]
  exact trodAll_mk1 (shut_bool Tryz.underlying4 _)
 ·rw [hfn]; exact hargs
 ·rw [hfn, hv]; rfl
end
end
section
set_option maxRecDepth 100000
set_option maxHeartbeats 8000000
open Go.ChangeShapes Go.WideShapes Go.ChangeAt Go.RowKit Go.Joins
theorem wf_i64 {n : Int} (h : (Lit.int .i64 n).wf = true) : I64 n := range_i64 (zs := [n]) (fun k hk => by simp at hk; subst hk; exact h) 0
end
section
set_option maxRecDepth 100000
set_option maxHeartbeats 8000000
open Go.ChangeShapes Go.WideShapes Go.ChangeAt Go.RowKit Go.Joins
section
variable {H : Type} {enc : TypeId × Value → H} {P : Program} {w : World} {base : Nat} {held : Bool} {spare : Nat → Bool}
theorem trodAll_five {t0 t1 t2 t3 t4 : TypeId} {args : Array Value} {ds : List (DataW H)} {ps : List MemPlace} (h : DataW.TrodAll enc P w base spare held [t0, t1, t2, t3, t4] args.toList ds ps) :
  ∃ v0 v1 v2 v3 v4 d0 d1 d2 d3 d4 p0 p1 p2 p3 p4, args = #[v0, v1, v2, v3, v4] ∧ ds = [d0, d1, d2, d3, d4] ∧ ps = p0 ++ p1 ++ p2 ++ p3 ++ p4 ∧ DataW.Trod enc P w base spare held t0 v0 d0 p0 ∧ DataW.Trod enc P w base spare held t1 v1 d1 p1 ∧ DataW.Trod enc P w base spare held t2 v2 d2 p2 ∧ DataW.Trod enc P w base spare held t3 v3 d3 p3 ∧ DataW.Trod enc P w base spare held t4 v4 d4 p4 := by
 obtain ⟨v, vs, d, ds', p, q, hargs, rfl, rfl, hd, a3⟩ := trodAll_cons h
 obtain ⟨v', vs', d', ds'', p', q', rfl, rfl, rfl, hd', a0⟩ := trodAll_cons a3
 obtain ⟨v'', vs'', d'', ds''', p'', q'', rfl, rfl, rfl, hd'', hrest''⟩ := trodAll_cons a0
 obtain ⟨v3, vs3, d3, ds3, p3, q3, rfl, rfl, rfl, hd3, a1⟩ := trodAll_cons hrest''
 obtain ⟨v4, vs4, d4, ds4, p4, q4, rfl, rfl, rfl, hd4, a2⟩ := trodAll_cons a1
 obtain ⟨rfl, rfl, rfl⟩ := trodAll_nil a2
 exact ⟨v, v', v'', v3, v4, d, d', d'', d3, d4, p, p', p'', p3, p4, by cases args; simp_all, rfl, by simp, hd, hd', hd'', hd3, hd4⟩
theorem trodAll_mk5 {t0 t1 t2 t3 t4 : TypeId} {v0 v1 v2 v3 v4 : Value} {d0 d1 d2 d3 d4 : DataW H} {p0 p1 p2 p3 p4 : List MemPlace} (h0 : DataW.Trod enc P w base spare held t0 v0 d0 p0) (h1 : DataW.Trod enc P w base spare held t1 v1 d1 p1)
  (h2 : DataW.Trod enc P w base spare held t2 v2 d2 p2) (h3 : DataW.Trod enc P w base spare held t3 v3 d3 p3) (h4 : DataW.Trod enc P w base spare held t4 v4 d4 p4) : DataW.TrodAll enc P w base spare held [t0, t1, t2, t3, t4] [v0, v1, v2, v3, v4] [d0, d1, d2, d3, d4] (p0 ++ (p1 ++ (p2 ++ (p3 ++ p4)))) :=
 ⟨p0, p1 ++ (p2 ++ (p3 ++ p4)), h0, trodAll_mk4 h1 h2 h3 h4, rfl⟩
end
section
variable {H : Type} {enc : TypeId × Value → H} {W : World} {base : Nat} {held : Bool} {spare : Nat → Bool} {r : Reach} {b0 : Nat} {v : Value} {d : DataW H} {p : List MemPlace}
theorem row_intsI {spare : Nat → Bool} {fuel : Nat} {cs : List Value} {x : DataW H × List MemPlace} (h : DataW.trod enc Tryz.prog W base spare held fuel 22 cs = some x) :
  ∃ (A : Option Addr) (c : Nat) (m : List Int), cs = [.slice A m.length c] ∧ Rd W W.heap.size A m ∧ ((∀ n ∈ x.1.weights Tryz.prog 22, n ≤ reachBytes) → m.length ≤ 17592186044416) ∧ ∀ i : Nat, I64 (gI m (i : Int)) := by
 rcases open_ints Tryz.underlying22 Tryz.underlying2 cells_i64 h with ⟨rfl, rfl⟩ | ⟨a, len, cap, zs, rfl, _, hl, _, hzl, rfl, hc, hwf⟩
 ·exact ⟨none, 0, [], rfl, fun k hk => absurd hk (by simp), fun _ => by simp, fun i => by simp [gI, I64]⟩
 ·have hle : len ≤ zs.length := by rw [hzl]; split <;> omega
  have hml : (zs.take len).length = len := by simp; omega
  refine ⟨some a, cap, zs.take len, by rw [hml], fun k hk => ?_, fun hw => ?_, fun i => (range_i64 (zs := zs.take len) (fun n hn => hwf n (List.mem_of_mem_take hn)) i)⟩
  ·rw [hml] at hk
   have h0 := cell_lt (hc 0 (by omega))
   have hk' := hc k (by omega)
   obtain ⟨b, off, sp⟩ := a
   have hsp : sp = none := by simpa [Addr.add] using h0.2
   subst hsp
   have hb : b < W.heap.size := by simpa [Addr.add] using h0.1
   refine ⟨b, off, rfl, hb, ?_⟩
   have e : (⟨b, off, none⟩ : Addr).add k = ⟨b, off + k, none⟩ := by unfold Addr.add; split <;> simp_all
   rw [← e, hk']
   unfold gI
   rw [getD_take_lt zs len _ 0 (by simpa using hk)]
   rfl
  ·have := hw (((lits (H := H) IntKind.i64 (zs.take len)).length + (lits (H := H) IntKind.i64 (zs.drop len)).length) * Tryz.prog.bytesOf 2) (by simp [DataW.weights, Tryz.underlying22])
   rw [bytes_i64] at this
   have hr := reachBytes_lt
   simp [lits] at this
   omega
theorem open_longsI (hv : Value.okWide Tryz.prog W r b0 22 v) (h : DataW.Trod enc Tryz.prog W base spare held 22 v d p) :
  ∃ (A : Option Addr) (c : Nat) (m : List Int), v = .slice A m.length c ∧ Rd W W.heap.size A m ∧ (∀ k : Nat, I64 (gI m (k : Int))) ∧ ((∀ n ∈ d.weights Tryz.prog 22, n ≤ reachBytes) → m.length ≤ 17592186044416) := by
 obtain ⟨a, len, cap, rfl⟩ := okWide_slice Tryz.underlying22 hv
 obtain ⟨fuel, hf⟩ := h
 obtain ⟨A, c, m, he, hr, hw, hI⟩ := row_intsI hf
 simp [Value.cells] at he
 obtain ⟨rfl, rfl, rfl⟩ := he
 exact ⟨_, _, m, rfl, hr, hI, hw⟩
end
end
section
set_option maxRecDepth 100000
set_option maxHeartbeats 8000000
open Go.ChangeShapes Go.WideShapes Go.ChangeAt Go.RowKit Go.Joins
section
variable {H : Type} {enc : TypeId × Value → H} {W : World} {base : Nat} {held : Bool} {spare : Nat → Bool}
theorem fieldG {fs : Array Field} {xs : List (DataW H × List MemPlace)} {n : Nat} {cs : List Value} (hf : ∀ (i : Nat) (f : Field), fs[i]? = some f → DataW.trod enc Tryz.prog W base spare held n f.type ((cs.drop f.offset).take (Tryz.prog.cellsOf f.type)) = xs[i]?)
  (i : Nat) (ty : TypeId) (off : Nat) (hi : (fs[i]?).map (fun f => (f.type, f.offset)) = some (ty, off)) : DataW.trod enc Tryz.prog W base spare held n ty ((cs.drop off).take (Tryz.prog.cellsOf ty)) = xs[i]? := by
 rw [Option.map_eq_some_iff] at hi
 obtain ⟨f, h1, h2⟩ := hi
 injection h2 with h2 h3
 subst h2 h3
 exact hf i f h1
def i64R (n : Int) : Prop := -9223372036854775808 ≤ n ∧ n ≤ 9223372036854775807
theorem wf_i64G {n : Int} (h : (Lit.int .i64 n).wf = true) : i64R n := by
 unfold i64R
 have h : (decide (IntKind.i64.min ≤ n) && decide (n ≤ IntKind.i64.max)) = true := h
 have e1 : IntKind.i64.min = -9223372036854775808 := by kernel_rfl
 have e2 : IntKind.i64.max = 9223372036854775807 := by kernel_rfl
 rw [e1, e2] at h
 simpa using h
theorem cells_int : Tryz.prog.cellsOf 3 = 1 := by kernel_rfl
theorem cells_edge : Tryz.prog.cellsOf 44 = 10 := by kernel_rfl
theorem cells_opd : Tryz.prog.cellsOf 26 = 2 := by kernel_rfl
theorem int_of {fuel : Nat} {t : TypeId} {k : IntKind} {cs : List Value} {c : Value} {y : Option (DataW H × List MemPlace)} (ht : Tryz.prog.underlying t = some (.int k)) (h : DataW.trod enc Tryz.prog W base spare held fuel t cs = y) (hy : y.isSome = true) (hc : cs = [c]) : ∃ n, c = .int k n ∧ (Lit.int k n).wf = true := by
 obtain ⟨z, rfl⟩ := Option.isSome_iff_exists.1 hy
 obtain ⟨n, h1, _, h2⟩ := DataW.trod_int ht h
 rw [hc] at h1
 injection h1 with h1
 exact ⟨n, h1, h2⟩
def EdgI (e : Edg) : Prop := i64R e.fr ∧ i64R e.te ∧ i64R e.kd ∧ i64R e.dst ∧ i64R e.arr ∧ i64R e.op ∧ i64R e.av ∧ i64R e.an ∧ i64R e.bv ∧ i64R e.bn
theorem list10 {α : Type} {l : List α} (h : l.length = 10) : ∃ c0 c1 c2 c3 c4 c5 c6 c7 c8 c9, l = [c0, c1, c2, c3, c4, c5, c6, c7, c8, c9] := by
 match l, h with
 | [c0, c1, c2, c3, c4, c5, c6, c7, c8, c9], _ => exact ⟨c0, c1, c2, c3, c4, c5, c6, c7, c8, c9, rfl⟩
theorem read_opd {fuel : Nat} {cs : List Value} {c0 c1 : Value} {y : Option (DataW H × List MemPlace)} (h : DataW.trod enc Tryz.prog W base spare held fuel 26 cs = y) (hy : y.isSome = true) (hc : cs = [c0, c1]) :
  ∃ v n, c0 = .int .i64 v ∧ c1 = .int .i64 n ∧ i64R v ∧ i64R n := by
 obtain ⟨z, rfl⟩ := Option.isSome_iff_exists.1 hy
 subst hc
 obtain ⟨xs, n, _, _, _, b0, hf⟩ := DataW.trod_struct Tryz.underlying26 h
 have sm : ∀ i, i < 2 → (xs[i]?).isSome = true := fun i hi => by rw [List.getElem?_eq_getElem (by rw [b0]; exact hi)]; rfl
 have ei : Tryz.prog.cellsOf 3 = 1 := by kernel_rfl
 have el : Tryz.prog.cellsOf 2 = 1 := by kernel_rfl
 have f0 := fieldG hf 0 3 0 rfl
 have f1 := fieldG hf 1 2 1 rfl
 rw [ei] at f0
 rw [el] at f1
 obtain ⟨a, ha, wa⟩ := int_of Tryz.underlying3 f0 (sm 0 (by omega)) rfl
 obtain ⟨b, hb, wb⟩ := int_of Tryz.underlying2 f1 (sm 1 (by omega)) rfl
 exact ⟨a, b, ha, hb, wf_i64G wa, wf_i64G wb⟩
theorem read_edge {fuel : Nat} {cs : List Value} {x : DataW H × List MemPlace} (h : DataW.trod enc Tryz.prog W base spare held fuel 44 cs = some x) :
  ∃ e : Edg, cs = e.cells ∧ EdgI e := by
 obtain ⟨xs, n, _, _, hl, b0, hf⟩ := DataW.trod_struct Tryz.underlying44 h
 rw [cells_edge] at hl
 obtain ⟨c0, c1, c2, c3, c4, c5, c6, c7, c8, c9, rfl⟩ := list10 hl
 have sm : ∀ i, i < 8 → (xs[i]?).isSome = true := fun i hi => by rw [List.getElem?_eq_getElem (by rw [b0]; exact hi)]; rfl
 have f0 := fieldG hf 0 3 0 rfl
 have f1 := fieldG hf 1 3 1 rfl
 have f2 := fieldG hf 2 3 2 rfl
 have f3 := fieldG hf 3 3 3 rfl
 have f4 := fieldG hf 4 3 4 rfl
 have f5 := fieldG hf 5 3 5 rfl
 have f6 := fieldG hf 6 26 6 rfl
 have f7 := fieldG hf 7 26 8 rfl
 rw [cells_int] at f0 f1 f2 f3 f4 f5
 rw [cells_opd] at f6 f7
 clear hf
 obtain ⟨a0, rfl, w0⟩ := int_of Tryz.underlying3 f0 (sm 0 (by omega)) rfl
 obtain ⟨a1, rfl, w1⟩ := int_of Tryz.underlying3 f1 (sm 1 (by omega)) rfl
 obtain ⟨a2, rfl, w2⟩ := int_of Tryz.underlying3 f2 (sm 2 (by omega)) rfl
 obtain ⟨a3, rfl, w3⟩ := int_of Tryz.underlying3 f3 (sm 3 (by omega)) rfl
 obtain ⟨a4, rfl, w4⟩ := int_of Tryz.underlying3 f4 (sm 4 (by omega)) rfl
 obtain ⟨a5, rfl, w5⟩ := int_of Tryz.underlying3 f5 (sm 5 (by omega)) rfl
 obtain ⟨a6, a7, rfl, rfl, w6, w7⟩ := read_opd f6 (sm 6 (by omega)) rfl
 obtain ⟨a8, a9, rfl, rfl, w8, w9⟩ := read_opd f7 (sm 7 (by omega)) rfl
 exact ⟨⟨a0, a1, a2, a3, a4, a5, a6, a7, a8, a9⟩, rfl, wf_i64G w0, wf_i64G w1, wf_i64G w2, wf_i64G w3, wf_i64G w4, wf_i64G w5, w6, w7, w8, w9⟩
end
end
section
set_option maxRecDepth 100000
set_option maxHeartbeats 8000000
open Go.ChangeShapes Go.WideShapes Go.ChangeAt Go.RowKit Go.Joins
section
variable {H : Type} {enc : TypeId × Value → H} {W : World} {base : Nat} {held : Bool} {spare : Nat → Bool} {r : Reach} {b0 : Nat} {v : Value} {d : DataW H} {p : List MemPlace}
theorem open_edg (hv : Value.okWide Tryz.prog W r b0 44 v) (h : DataW.Trod enc Tryz.prog W base spare held 44 v d p) :
  ∃ e : Edg, v = e.val ∧ I64 e.an ∧ I64 e.bn := by
 obtain ⟨cs, rfl, _⟩ := okWide_struct Tryz.underlying44 hv
 obtain ⟨fuel, hf⟩ := h
 obtain ⟨e, he, hi⟩ := read_edge hf
 refine ⟨e, ?_, hi.2.2.2.2.2.2.2.1, hi.2.2.2.2.2.2.2.2.2⟩
 have hc : cs.toList = e.cells := by simpa [Value.cells] using he
 have : cs = e.cells.toArray := by rw [← hc]
 rw [this]
 rfl
end
end
section

end
end Go.Proofs.YtnmpgijiimglcaaGreat
