import Derived.Test.YtnmpgijiimglcaaGreatBTt29
import Derived.Test.YtnmpgijiimglcaaGreatBTt27
namespace Go.Proofs.YtnmpgijiimglcaaGreat
open Go.RowKit
set_option maxRecDepth 100000
set_option maxHeartbeats 8000000
attribute [local go_sem ↓] Go.wp_at_zero Go.wp_at_succ
theorem zks : (Tryz.prog.info? 3).map (fun i => (i.zero, i.size, i.bytes)) = some (some (.int .i64 0), 1, 8) := by kernel_rfl
theorem zjF : (Tryz.prog.info? 111).map (fun i => (i.zero, i.size, i.bytes)) = some (some (.slice none 0 0), 1, 24) := by kernel_rfl
theorem zfh (w : World) (base : Nat) (ty : TypeId) (v : Value) (n : Nat) (xs : List Value) (y : Int) (h : w.ownsRow base 3 1 v n xs) (g : Nat)
  (hk : Blk w g 3 #[y]) (hl : n + 1 ≤ 1000000) (hbase : base ≤ w.heap.size) :
  ∃ v' w', (Builtin.append_ #[111, 111] ty #[v, .slice (some ⟨g, 0, none⟩) 1 1]).run Tryz.prog w = .ok v' w' ∧ w'.ownsRow base 3 1 v' (n + 1) (xs ++ enc1 y) ∧ w.grownBy w' v.ownBlock ∧ (v'.ownBlock = v.ownBlock ∨ v'.ownBlock = some w.heap.size) := by
 obtain ⟨i0, hi, hz0, hz1, hz2⟩ := info_parts zks
 obtain ⟨v', w', b4, h2, h3, _, h5⟩ := run_append_own_at (P := Tryz.prog) w base 111 ty _ i0 _ 1 8 Tryz.underlying111 hi hz0 hz1 hz2 rfl (by omega) v n xs h ⟨g, 0, none⟩ 1 1 (enc1 y) rfl
  (fun j u hu => by rw [zfl, Nat.zero_add, hk.cell j]; simpa [enc1] using hu) (fun u hu => by simp [enc1] at hu; subst hu; rfl) (by unfold maxLen; omega) (by omega) hbase
 exact ⟨v', w', b4, h2, h3, h5⟩
theorem LL.rdI {w : World} {base F n : Nat} {T : TypeId} {f : Nat → Value} {ls : Nat → List Int} (h : LL enc1 w base F n T 3 1 f ls) {p : Nat} (hp : p < n) : ∃ A c, f p = .slice A (ls p).length c ∧ Rd w w.heap.size A (ls p) := by
 rcases h.slice hp with ⟨h1, h2⟩ | ⟨g, cap, h1, _, hg, _⟩
 ·exact ⟨none, 0, by rw [h1, h2]; rfl, by rw [h2]; intro k hk; simp at hk⟩
 ·refine ⟨_, _, h1, fun k hk => ⟨g, 0, rfl, hg, ?_⟩⟩
  rw [Nat.zero_add, h.cell hp h1 (by omega), fm1]
  exact zc1 _ hk
def idxI (es : List Edg) (k : Nat) (p : Nat) : List Int := ints (idxE es k p)
theorem zg2 (es : List Edg) (k : Nat) (h : k < es.length) (p : Nat) : idxI es (k + 1) p = idxI es k p ++ (if es[k].fr = p then [(k : Int)] else []) := by
 unfold idxI ints
 rw [zh4 es k h, List.map_append]
 congr 1
 by_cases e : es[k].fr = p <;> simp [e]
theorem zev (es : List Edg) (k : Nat) (p : Nat) : (idxI es k p).length ≤ k := by
 unfold idxI; rw [zc3]; unfold idxE
 exact Nat.le_trans (List.length_filter_le _ _) (by simp)
theorem zku (g : Gr) (V D E : Option Addr) (cv cd ce : Nat) (p : Nat) (A : Option Addr) (c : Nat) (w : World) (hE : RdE w w.heap.size E g.es) (hr : Rd w w.heap.size A (idxI g.es g.es.length p)) (hl : g.es.length ≤ 17592186044416) :
  Calls Tryz.prog 156 #[grV g V D E cv cd ce, .slice A (idxI g.es g.es.length p).length c] w fun e w' => e = .returned (.bool (zfS (zeT g.es p))) ∧ Below w.heap.size w w' := by
 have ho := zmy g.es g.es.length (Nat.le_refl _) p
 rw [List.take_length] at ho
 have a4 : ∀ i ∈ idxE g.es g.es.length p, i < g.es.length := fun i hi => znw hi
 have b0 := zev g.es g.es.length p
 rw [← ho]
 unfold idxI at *
 rw [zc3] at b0
 rw [zc3]
 generalize idxE g.es g.es.length p = ix at *
 clear ho
 match ix, hr, a4 with
 | [], _, _ => exact zjL g V D E cv cd ce A c w
 | [i], hr, a4 =>
  have hi := a4 i (by simp)
  obtain ⟨b, off, rfl, hB, -⟩ := hE i hi
  obtain ⟨b2, o2, rfl, hB2, hc⟩ := hr.ix (k := 0) (by simp)
  exact zjR g V D cv cd ce i b off b2 o2 c w hi hE hB2 hc hl
 | i :: j :: r, hr, a4 =>
  have hi := a4 i (by simp)
  have hj := a4 j (by simp)
  obtain ⟨b, off, rfl, hB, -⟩ := hE i hi
  obtain ⟨b2, o2, rfl, hB2, hc⟩ := hr.ix (k := 0) (by simp)
  obtain ⟨b3, o3, e3, _, hc3⟩ := hr.ix (k := 1) (by simp)
  injection e3 with e3; injection e3 with e1 e2; subst e1; subst e2
  refine (zi6 g V D cv cd ce i j (i :: j :: r).length b off b2 o2 c w hi hj hE hB2 hc hc3 hl (by simp) (by omega)).mono fun e w' ⟨he, hb⟩ => ⟨he.trans (retb ?_), hb⟩
  cases r with
  | nil => show (true && zhu (eAt g.es i) (eAt g.es j)) = _; rw [Bool.true_and]; rfl
  | cons k r => rw [show (((i :: j :: k :: r).length : Int) == 2) = false from by rw [beq_eq_false_iff_ne]; simp; omega]; rfl
theorem zhp (g : Gr) (V D E : Option Addr) (cv cd ce : Nat) (w : World) (hD : RdD w w.heap.size D g.sz) (hE : RdE w w.heap.size E g.es) (lv : g.nv ≤ 17592186044416) (ls : g.sz.length ≤ 17592186044416) (le : g.es.length ≤ 17592186044416) :
  Calls Tryz.prog 80 #[grV g V D E cv cd ce] w fun e w' => e = .returned (.int .i64 (chk g)) ∧ Below w.heap.size w w' := by
 unfold grV
 have n0 := new1 w (.cells #[.slice V g.nv cv, g.tm, .slice D g.sz.length cd, g.pts, g.ex, .slice E g.es.length ce] 64)
 have k0 := Blk.new w 64 #[.slice V g.nv cv, g.tm, .slice D g.sz.length cd, g.pts, g.ex, .slice E g.es.length ce]
 replace hD := hD.up n0
 replace hE := hE.up n0
 go_enter Tryz.func80, Tryz.ntmps80
 by_cases a1 : g.tm < 0
 ·have HC : Hid (chk g = 90) := hid (zew (decide_eq_true (by unfold Gr.all; omega)))
  go_wp2; go_ret; exact ⟨zas HC.out.symm, n0⟩
 by_cases a2 : 64 < g.tm
 ·have HC : Hid (chk g = 90) := hid (zew (decide_eq_true (by unfold Gr.all; omega)))
  go_wp2; go_ret; exact ⟨zas HC.out.symm, n0⟩
 by_cases a0 : 64 < (g.nv : Int)
 ·have HC : Hid (chk g = 90) := hid (zew (decide_eq_true (by unfold Gr.all; omega)))
  go_wp2; go_ret; exact ⟨zas HC.out.symm, n0⟩
 have b8 : Hid (∀ W, Calls Tryz.prog 81 #[.agg #[.slice V g.nv cv, g.tm, .slice D g.sz.length cd, g.pts, g.ex, .slice E g.es.length ce]] W fun e w' => e = .returned (.int .i64 g.all) ∧ Below W.heap.size W w') := hid fun W => zjU g V D E cv cd ce W (by omega) (by omega) (by omega)
 obtain ⟨x0, x1, x2, x3, x4, x5, fx⟩ := blk6 k0
 go_wp2_with fail
 clear x0 x1 x2 x3 x4 x5 fx
 refine (b8.out _).mono ?_
 generalize w.alloc (.cells #[.slice V g.nv cv, g.tm, .slice D g.sz.length cd, g.pts, g.ex, .slice E g.es.length ce] 64) = w0 at *
 rintro e1 w1 ⟨rfl, c4⟩
 replace k0 := k0.later c4
 replace hD := hD.up c4
 replace hE := hE.up c4
 replace n0 := bup n0 c4
 clear c4
 by_cases a3 : 64 < g.all
 ·have HC : Hid (chk g = 90) := hid (zew (decide_eq_true (by omega)))
  go_wp2; go_ret; exact ⟨zas HC.out.symm, n0⟩
 have HV : Hid (zb8 g = false) := hid (decide_eq_false (by omega))
 obtain ⟨x0, x1, x2, x3, x4, x5, fx⟩ := blk6 k0
 by_cases b1 : g.pts < 1
 ·have HC : Hid (chk g = 91) := hid (zhE HV.out (decide_eq_true (by omega)))
  go_wp2; go_ret; exact ⟨zas HC.out.symm, n0⟩
 by_cases b2 : 4096 < g.pts
 ·have HC : Hid (chk g = 91) := hid (zhE HV.out (decide_eq_true (by omega)))
  go_wp2; go_ret; exact ⟨zas HC.out.symm, n0⟩
 by_cases b3 : 8192 < (g.es.length : Int)
 ·have HC : Hid (chk g = 91) := hid (zhE HV.out (decide_eq_true (by omega)))
  go_wp2; go_ret; exact ⟨zas HC.out.symm, n0⟩
 have HP : Hid (zdw g = false) := hid (decide_eq_false (by omega))
 by_cases c1 : 16 < (g.sz.length : Int)
 ·have HC : Hid (chk g = 92) := hid (zbm HV.out HP.out (zmN (by omega)))
  go_wp2; go_ret; exact ⟨zas HC.out.symm, n0⟩
 by_cases c2 : g.ex < 0
 ·have HC : Hid (chk g = 92) := hid (zbm HV.out HP.out (zg5 (decide_eq_false (by omega))))
  go_wp2; go_ret; exact ⟨zas HC.out.symm, n0⟩
 by_cases c3 : g.pts ≤ g.ex
 ·have HC : Hid (chk g = 92) := hid (zbm HV.out HP.out (zg5 (decide_eq_false (by omega))))
  go_wp2; go_ret; exact ⟨zas HC.out.symm, n0⟩
 have HX : Hid (decide (0 ≤ g.ex ∧ g.ex < g.pts) = true) := hid (decide_eq_true (by omega))
 go_wp2
 clear x0 x1 x2 x3 x4 x5 fx
 go_loopw [3] (fun i wr => ∃ k : Nat, k ≤ g.sz.length ∧ i = .int .i64 k ∧ (g.sz.take k).all zd1 = true ∧ Below w1.heap.size w1 wr) (fun i _ => g.sz.length - (RowKit.intOf i).toNat)
 case atStart => exact ⟨0, by omega, rfl, by simp, Below.refl _ _⟩
 case round =>
  obtain ⟨k, hk, rfl, a7, hb⟩ := hrel
  replace k0 := k0.later hb
  have x2 := k0.cell 2
  by_cases a4 : k < g.sz.length
  ·have c6 : (k : Int) < (g.sz.length : Int) := by omega
   have HK := hid a7
   clear a7
   obtain ⟨b, off, s, rfl, hB, d0, d1⟩ := (hD.up hb).size a4
   cases s1 : zd1 (gI g.sz k)
   ·have HC : Hid (chk g = 92) := hid (zbm HV.out HP.out (zlg a4 s1))
    have hs := s1
    unfold zd1 at hs
    have hs' := of_decide_eq_false hs
    clear hs s1
    generalize gI g.sz k = sk at *
    by_cases s2 : sk < 1
    ·go_wp2; go_ret; exact ⟨zas HC.out.symm, bup n0 hb⟩
    ·have s3 : 1024 < sk := by omega
     clear hs'
     go_wp2; go_ret; exact ⟨zas HC.out.symm, bup n0 hb⟩
   ·have HS := hid s1
    have hs := s1
    unfold zd1 at hs
    obtain ⟨s2, s3⟩ := of_decide_eq_true hs
    clear hs s1
    generalize hsk : gI g.sz k = sk at *
    have HSK := hid hsk
    clear hsk
    go_wp2
    go_roundw
    case rel => exact ⟨k + 1, by omega, by go_num, ziD a4 HK.out (by rw [HSK.out]; exact HS.out), hb⟩
    case measure => simp [RowKit.intOf]; omega
  ·obtain rfl : k = g.sz.length := by omega
   have HS : Hid (g.sz.all zd1 = true) := hid (by rw [List.take_length] at a7; exact a7)
   clear a7
   replace hE := hE.up hb
   replace n0 := bup n0 hb
   clear hb hD
   obtain ⟨N, hN⟩ : ∃ N : Nat, g.pts = (N : Int) := ⟨g.pts.toNat, by omega⟩
   have HN := hid hN
   have hmk := run_make_row' (P := Tryz.prog) 168 111 (.slice none 0 0) 24 Tryz.underlying168 zjF rfl .i64 .i64 N (by omega) (by omega)
   rw [← hN] at hmk
   clear hN
   have x3 := k0.cell 3
   generalize wr = w3 at *
   have kx : Hid (w.heap.size < w3.heap.size ∧ Below w.heap.size w w3) := hid ⟨k0.lt, n0⟩
   have n4 := new1 w3 (.cells (madeCells #[.slice none 0 0] N) 111)
   have L4 := LL.start (α := Int) (enc := enc1) (w := w3) (base := w3.heap.size) (n := N) (T := 111) (e := 3) (size := 1) (Nat.le_refl _)
   have E3 := hid hE
   have K0 := hid k0
   have N4 := hid n4
   have HRT : Hid (∀ (e : Edg) W, Calls Tryz.prog 79 #[e.val, g.all, g.sz.length] W fun r w' => r = .returned (.bool (rightE g.all g.sz.length e)) ∧ Below W.heap.size W w') := hid fun e W => zjg e g.all g.sz.length W
   go_wp2
   clear x2 x3 hmk
   generalize w3.alloc (.cells (madeCells #[.slice none 0 0] N) 111) = w4 at *
   go_loopw [5] (fun i wq => ∃ (k : Nat) (f : Nat → Value), k ≤ g.es.length ∧ i = .int .i64 k ∧ (g.es.take k).all (zbI g) = true ∧ LL enc1 wq w3.heap.size w3.heap.size N 111 3 1 f (fun p => idxI g.es k p) ∧ Below w3.heap.size w4 wq) (fun i _ => g.es.length - (RowKit.intOf i).toNat)
   case atStart => exact ⟨0, _, by omega, rfl, by simp, L4.congr (fun p _ => by simp [idxI, ints, idxE]), Below.refl _ _⟩
   case round =>
    clear hE k0 L4
    obtain ⟨k, f, hk, rfl, a7, hL, hb⟩ := hrel
    have b9 : Below w3.heap.size w3 wr := N4.out.trans hb
    have k0 := K0.out.below b9 kx.out.1
    have hE := E3.out.below b9
    have e0 := b9.size
    have x5 := k0.cell 5
    by_cases a4 : k < g.es.length
    ·have c6 : (k : Int) < (g.es.length : Int) := by omega
     have HK := hid a7
     clear a7
     obtain ⟨x, hx⟩ : ∃ x, g.es[k] = x := ⟨_, rfl⟩
     have b5 := hid hx
     obtain ⟨b, off, rfl, hB, p0, p1, p2, p3, p4, p5, p6, p7, p8, p9⟩ := hE.get a4 hx
     replace hB : b < wr.heap.size := by omega
     clear hE hx
     have n8 := new1 wr (.cells (ecs x) 44)
     have k8 := Blk.new wr 44 (ecs x)
     have L8 := hL.below n8
     replace k0 := k0.later n8
     have a9 : Below w3.heap.size w4 (wr.alloc (.cells (ecs x) 44)) := hb.trans (n8.mono e0)
     have H8 : Hid (∀ p, p < N → ∀ j, (f p).ownBlock = some j → j < wr.heap.size) := hid fun p hp j hj => ((hL.own p hp).lt j hj).2
     have H9 : Hid (w3.heap.size < wr.heap.size) := hid hL.row.lt
     clear n8 hL b9 hb
     go_upto_region 17 with fail
     clear p0 p1 p2 p3 p4 p5 p6 p7 p8 p9 x5
     obtain ⟨d0, d1, d2, d3, d4, d5, d6, d7, d8, d9⟩ := zj6 k8
     obtain ⟨f0, f1, f2, f3, f4, f5⟩ := zny k0
     have HE : Hid (zbI g x = (!(decide (x.fr < 0)) && (!(decide (g.pts ≤ x.fr)) && (!(decide (x.te < 0)) && (!(decide (g.pts ≤ x.te)) && (!(x.fr == g.ex) && rightE g.all g.sz.length x)))))) := hid (by unfold zbI inE; generalize rightE g.all g.sz.length x = rr; rw [Bool.eq_iff_iff]; (cases rr <;> simp) <;> omega)
     unfold ecs at *
     generalize wr.alloc (.cells #[.int .i64 x.fr, .int .i64 x.te, .int .i64 x.kd, .int .i64 x.dst, .int .i64 x.arr, .int .i64 x.op, .int .i64 x.av, .int .i64 x.an, .int .i64 x.bv, .int .i64 x.bn] 44) = w5 at *
     have c5 : ∀ W, Below w5.heap.size w5 W → Below w.heap.size w W := fun W hW => kx.out.2.trans ((N4.out.mono (by have := kx.out.2.size; omega)).trans ((a9.mono (by have := kx.out.2.size; omega)).trans (hW.mono (by have := a9.size; have := N4.out.size; have := kx.out.2.size; omega))))
     have a5 := hid c5
     clear c5
     refine zbu 36 (fun W => Below w5.heap.size w5 W) (by kernel_rfl) (by kernel_rfl) (Below.refl _ _).drew ?_
     refine fl_a ?_
     cases t1 : decide (x.fr < 0)
     rotate_left
     ·skip
      have HC : Hid (chk g = 92) := hid (zbm HV.out HP.out (zce a4 (by rw [b5.out, HE.out, t1]; rfl)))
      refine fl_a ?_
      intro w6 a6
      go_wp2
      go_ret
      exact ⟨zas HC.out.symm, a5.out _ a6⟩
     refine fl_a ?_
     cases t2 : decide (g.pts ≤ x.fr)
     rotate_left
     ·skip
      have HC : Hid (chk g = 92) := hid (zbm HV.out HP.out (zce a4 (by rw [b5.out, HE.out, t1, t2]; rfl)))
      refine fl_a ?_
      intro w6 a6
      go_wp2
      go_ret
      exact ⟨zas HC.out.symm, a5.out _ a6⟩
     refine fl_a ?_
     cases t3 : decide (x.te < 0)
     rotate_left
     ·skip
      have HC : Hid (chk g = 92) := hid (zbm HV.out HP.out (zce a4 (by rw [b5.out, HE.out, t1, t2, t3]; rfl)))
      refine fl_a ?_
      intro w6 a6
      go_wp2
      go_ret
      exact ⟨zas HC.out.symm, a5.out _ a6⟩
     refine fl_a ?_
     cases t4 : decide (g.pts ≤ x.te)
     rotate_left
     ·skip
      have HC : Hid (chk g = 92) := hid (zbm HV.out HP.out (zce a4 (by rw [b5.out, HE.out, t1, t2, t3, t4]; rfl)))
      refine fl_a ?_
      intro w6 a6
      go_wp2
      go_ret
      exact ⟨zas HC.out.symm, a5.out _ a6⟩
     refine fl_a ?_
     cases t5 : (x.fr == g.ex)
     rotate_left
     ·skip
      have HC : Hid (chk g = 92) := hid (zbm HV.out HP.out (zce a4 (by rw [b5.out, HE.out, t1, t2, t3, t4, t5]; rfl)))
      refine fl_a ?_
      intro w6 a6
      go_wp2
      go_ret
      exact ⟨zas HC.out.symm, a5.out _ a6⟩
     refine fl_a ?_
     (refine fl_c 81 #[.agg #[.slice V g.nv cv, g.tm, .slice D g.sz.length cd, g.pts, g.ex, .slice (some ⟨b, off, none⟩) g.es.length ce]] (.int .i64 g.all) (fun X hX => (b8.out _).mono fun e w' ⟨he, hb⟩ => ⟨he, za0 hX hX.size hb⟩) ?_)
     refine fl_a ?_
     intro w6 a6
     go_wp2_with fail
     refine (HRT.out x _).mono ?_
     rintro e7 w7 ⟨rfl, e4⟩
     cases r1 : rightE g.all g.sz.length x
     ·have HC : Hid (chk g = 92) := hid (zbm HV.out HP.out (zce a4 (by rw [b5.out, HE.out, r1]; simp)))
      go_wp2; go_ret; exact ⟨zas HC.out.symm, a5.out _ (bup a6 e4)⟩
     have a8 := bup a6 e4
     replace k8 := k8.later a8
     replace L8 := L8.below a8
     replace k0 := k0.later a8
     replace a9 := a9.trans (a8.mono (by have := a9.size; have := N4.out.size; omega))
     have HR1 : Hid (zbI g x = true) := hid (by rw [HE.out, r1, t1, t2, t3, t4, t5]; rfl)
     obtain ⟨i0, i1, -, -⟩ := znZ HR1.out
     rw [HN.out] at i1
     clear a8 a6 e4 d0 d1 d2 d3 d4 d5 d6 d7 d8 d9 f0 f1 f2 f3 f4 f5 t1 t2 t3 t4 t5 r1 HE a5
     obtain ⟨q, hq⟩ : ∃ q : Nat, x.fr = (q : Int) := ⟨x.fr.toNat, by omega⟩
     have b6 : q < N := by omega
     have hqN' : (q : Int) < (N : Int) := by omega
     have HQ := hid hq
     clear i0 i1
     generalize w7 = w6 at *
     obtain ⟨v2, w2, b4, ho, hg, hv⟩ := zfh (w6.drew.alloc (.cells #[(k : Int)] 3)) w3.heap.size 111 (f q) _ _ (k : Int) ((L8.own q b6).alloc _) w6.heap.size (Blk.new w6.drew _ _) (by
      have := zev g.es k q
      omega) (by have := a9.size; have := N4.out.size; simp; omega)
     obtain ⟨g2, cap2, rfl, -, -⟩ := ho.form (by omega)
     have b7 : ∀ b, b ∈ [wr.heap.size, w3.heap.size] → (f q).ownBlock ≠ some b := by
      intro b hb e
      simp only [List.mem_cons, List.not_mem_nil, or_false] at hb
      rcases hb with rfl | rfl
      ·have := H8.out q b6 _ e; omega
      ·exact L8.ne q b6 e
     have hs6 := k8.lt
     have c0 := SN.cell hg hs6 (b7 _ (by simp)) (k8.cell 0)
     have cF := SN.cell hg L8.row.lt (b7 _ (by simp)) (L8.row.cell b6)
     have HH := hid hg
     have HO := hid ho
     have HVV := hid hv
     have HL8 := hid L8
     have c7 := hid b4
     clear hg ho hv b4 L8 k8 k0
     replace c0 := fun W hW => (c0 W hW).trans (show some (Value.int .i64 x.fr) = some (Value.int .i64 (q : Int)) by rw [hq])
     clear hq
     have S0 : Hid (SN w6.drew (w6.drew.alloc (.cells #[(k : Int)] 3)) w2 false false = fun W => W = w6.drew) := hid rfl
     have S1 : Hid (SN w6.drew (w6.drew.alloc (.cells #[(k : Int)] 3)) w2 true false = fun W => W = w6.drew.alloc (.cells #[(k : Int)] 3)) := hid rfl
     have S2 : Hid (SN w6.drew (w6.drew.alloc (.cells #[(k : Int)] 3)) w2 true true = fun W => W = w2) := hid rfl
     generalize SN w6.drew (w6.drew.alloc (.cells #[(k : Int)] 3)) w2 = S at *
     go_upto_region 19 with fail
     refine ze2 11 9 10 S (by kernel_rfl) (by kernel_rfl) (by kernel_rfl) (by decide) (by decide) (by rw [S0.out]) ?_
     (repeat (first | (refine zb0.skip (by rfl) (by rfl) (by rfl) ?_; simp only [Act.put, List.setIfInBounds_toArray, List.set_cons_zero, List.set_cons_succ]) | (refine' zb0.take _ (by rfl) (by rfl) (by rfl) (fun W hW R hR => ?_) ?_; rotate_left; (go_simp; (try go_bits); with_reducible exact hR); simp only [Act.put, List.setIfInBounds_toArray, List.set_cons_zero, List.set_cons_succ])))
     refine zb0.mark1 (.slice (some ⟨w6.heap.size, 0, none⟩) 1 1) (by rfl) (by rfl) (by rfl) (fun W hW => ⟨w6.drew.alloc (.cells #[(k : Int)] 3), ?_, by rw [S1.out]⟩) ?_
     ·rw [S0.out] at hW
      subst hW
      go_simp
     simp only [Act.put, List.setIfInBounds_toArray, List.set_cons_zero, List.set_cons_succ]
     refine zb0.mark2 (.slice (some ⟨g2, 0, none⟩) ((idxI g.es k q).length + 1) cap2) (by rfl) (by rfl) (by rfl) (fun W hW => ⟨w2, ?_, by rw [S2.out]⟩) ?_
     ·rw [S1.out] at hW
      subst hW
      exact zdf (Operand.tmp 141) (Operand.tmp 143) 111 rfl rfl rfl c7.out
     simp only [Act.put, List.setIfInBounds_toArray, List.set_cons_zero, List.set_cons_succ]
     intro W hW
     rw [S2.out] at hW
     subst hW
     have L7 := HL8.out.below ((Below.refl w6.heap.size w6).drew.alloc (by simp) (.cells #[(k : Int)] 3))
     have hR2 : W.rowIs w3.heap.size 111 N f := L7.row.of_block (HH.out.block _ L7.row.lt (fun e => L7.ne q b6 e.symm))
     have hF2 := hR2.cell b6
     have hFr := hR2.frozen
     have L9 := hid (LL.put (y := (k : Int)) L7 b6 HH.out HO.out HVV.out)
     have hb9 := hid (LL.put_below (v := .slice (some ⟨g2, 0, none⟩) ((idxI g.es k q).length + 1) cap2) L7 (Nat.le_refl _) (by simp; have := a9.size; have := N4.out.size; omega) b6 HH.out)
     clear c0 cF b7 hR2 L7
     go_wp2
     go_roundw
     case rel =>
      refine ⟨k + 1, _, by omega, by go_num, ziM a4 HK.out (by rw [b5.out]; exact HR1.out), L9.out.congr ?_, ?_⟩
      ·intro p hp
       rw [zg2 g.es k a4, b5.out]
       by_cases e : p = q
       ·subst e; simp [HQ.out]
       ·simp only [if_neg e]; rw [if_neg (by rw [HQ.out]; omega)]; simp
      ·exact (a9.trans (((Below.refl w6.heap.size w6).drew.alloc (by simp) (.cells #[(k : Int)] 3)).mono (by have := a9.size; have := N4.out.size; omega))).trans hb9.out
     case measure => simp [RowKit.intOf]; omega
    ·obtain rfl : k = g.es.length := by omega
     have HO : Hid (g.es.all (zbI g) = true) := hid (by rw [List.take_length] at a7; exact a7)
     have HFK : Hid (∀ (p : Nat) A c W, RdE W W.heap.size E g.es → Rd W W.heap.size A (idxI g.es g.es.length p) → Calls Tryz.prog 156 #[.agg #[.slice V g.nv cv, g.tm, .slice D g.sz.length cd, g.pts, g.ex, .slice E g.es.length ce], .slice A (idxI g.es g.es.length p).length c] W fun e w' => e = .returned (.bool (zfS (zeT g.es p))) ∧ Below W.heap.size W w') := hid fun p A c W h1 h2 => zku g V D E cv cd ce p A c W h1 h2 le
     have hE' := hE.more e0
     clear a7 a4
     have x3 := k0.cell 3
     go_wp2
     clear x3 x5
     have HN0 := hid (b9)
     have hg0 : w3.heap.size ≤ wr.heap.size := e0
     clear hb e0 hE
     go_loopw [7] (fun i wq => ∃ k : Nat, k ≤ N ∧ i = .int .i64 k ∧ zcs g k = true ∧ Below wr.heap.size wr wq) (fun i _ => N - (RowKit.intOf i).toNat)
     case atStart => exact ⟨0, by omega, rfl, rfl, Below.refl _ _⟩
     case round =>
      obtain ⟨j, hj, rfl, c8, hb⟩ := hrel
      have k1 := k0.later hb
      have L1 := hL.below hb
      have E1 := hE'.up hb
      have x3 := k1.cell 3
      by_cases a4 : j < N
      ·have c6 : (j : Int) < g.pts := by rw [HN.out]; omega
       have hltN : (j : Int) < (N : Int) := by omega
       obtain ⟨A, ca, hfq, hrd⟩ := L1.rdI a4
       have cF := L1.row.cell a4
       rw [hfq] at cF
       have HF := hid c8
       clear c8 hfq L1
       go_upto_region 23 with fail
       clear x3
       obtain ⟨f0, f1, f2, f3, f4, f5⟩ := zny k1
       replace cF := later cF
       clear k1
       generalize b0 : (idxI g.es g.es.length j).length = len at *
       have HLN := hid b0
       clear b0
       refine zab 5 (fun W => Below wr.heap.size wr W) (by kernel_rfl) (by kernel_rfl) (Below.refl _ _).drew ?_
       refine fl_a ?_
       intro w4' c9
       have HG := HFK.out j A ca w4' (E1.up c9) (hrd.up c9)
       rw [HLN.out] at HG
       replace HG := hid HG
       clear f0 f1 f2 f3 f4 f5 cF hrd E1
       go_wp2_with fail
       refine HG.out.mono ?_
       clear HG
       rintro e5 w5 ⟨rfl, hb5⟩
       cases f1 : zfS (zeT g.es j)
       ·have HC : Hid (chk g = 92) := hid (zbm HV.out HP.out (zkc (k := j) (by omega) f1))
        go_wp2; go_ret
        exact ⟨zas HC.out.symm, kx.out.2.trans (HN0.out.mono (by have := kx.out.2.size; omega) |>.trans ((bup (bup hb c9) hb5).mono (by have := kx.out.2.size; omega)))⟩
       ·have HF1 := hid f1
        clear f1
        go_wp2
        go_roundw
        case rel => exact ⟨j + 1, by omega, by go_num, zjb HF.out HF1.out, bup (bup hb c9) hb5⟩
        case measure => simp [RowKit.intOf]; omega
      ·obtain rfl : j = N := by omega
       have hge : ¬ ((j : Int) < g.pts) := by rw [HN.out]; omega
       have HC : Hid (chk g = 0) := hid (znk HV.out HP.out (by
        unfold zbG
        rw [show decide (g.sz.length ≤ 16) = true from decide_eq_true (by omega), HS.out, HX.out, HO.out, show g.pts.toNat = j by rw [HN.out]; omega, c8]; rfl))
       clear c8
       go_wp2; go_ret
       exact ⟨zas HC.out.symm, kx.out.2.trans (HN0.out.mono (by have := kx.out.2.size; omega) |>.trans (hb.mono (by have := kx.out.2.size; omega)))⟩
end Go.Proofs.YtnmpgijiimglcaaGreat
