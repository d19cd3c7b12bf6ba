/-
  When a graph is one: gnomonref9.Check: what it answers: chk.
-/
import Derived.Test.YtkncebcekhfnfaaGreatBWT20
import Derived.Test.YtkncebcekhfnfaaGreatBWT21
import Derived.Test.YtkncebcekhfnfaaGreatBWT17
namespace Go.Proofs.YtkncebcekhfnfaaGreat
open Go.RowKit
attribute [local go_sem ↓] Go.wp_at_zero Go.wp_at_succ

theorem int_info9 : (Tryz.prog.info? 3).map (fun i => (i.zero, i.size, i.bytes)) = some (some (.int .i64 0), 1, 8) := by kernel_rfl
theorem ints_info : (Tryz.prog.info? 34).map (fun i => (i.zero, i.size, i.bytes)) = some (some (.slice none 0 0), 1, 24) := by kernel_rfl
/-- One int appended. -/
theorem run_append_int (w : World) (base : Nat) (ty : TypeId) (v : Value) (n : Nat) (xs : List Value) (y : Int) (h : w.ownsRow base 3 1 v n xs) (g : Nat)
    (hk : Blk w g 3 #[.int .i64 y]) (hl : n + 1 ≤ 1000000) (hbase : base ≤ w.heap.size) :
    ∃ v' w', (Builtin.append_ #[34, 34] ty #[v, .slice (some ⟨g, 0, none⟩) 1 1]).run Tryz.prog w = .ok v' w' ∧ w'.ownsRow base 3 1 v' (n + 1) (xs ++ enc1 y) ∧ w.grownBy w' v.ownBlock ∧ (v'.ownBlock = v.ownBlock ∨ v'.ownBlock = some w.heap.size) := by
  obtain ⟨i0, hi, hz0, hz1, hz2⟩ := info_parts int_info9
  obtain ⟨v', w', hrun, h2, h3, _, h5⟩ := run_append_own_at (P := Tryz.prog) w base 34 ty _ i0 _ 1 8 Tryz.underlying34 hi hz0 hz1 hz2 rfl (by omega) v n xs h ⟨g, 0, none⟩ 1 1 (enc1 y) rfl
    (fun j u hu => by rw [add_mk, Nat.zero_add, hk.cell j]; simpa [enc1] using hu) (fun u hu => by simp [enc1] at hu; subst hu; rfl) (by unfold maxLen; omega) (by omega) hbase
  exact ⟨v', w', hrun, h2, h3, h5⟩
/-- A slice of numbers of one's own reads. -/
theorem LL.rdI {w : World} {base F n : Nat} {T : TypeId} {f : Nat → Value} {ls : Nat → List Int} (h : LL enc1 w base F n T 3 1 f ls) {p : Nat} (hp : p < n) : ∃ A c, f p = .slice A (ls p).length c ∧ Rd w w.heap.size A (ls p) := by
  rcases h.slice hp with ⟨h1, h2⟩ | ⟨g, cap, h1, _, hg, _⟩
  · exact ⟨none, 0, by rw [h1, h2]; rfl, by rw [h2]; intro k hk; simp at hk⟩
  · refine ⟨_, _, h1, fun k hk => ⟨g, 0, rfl, hg, ?_⟩⟩
    rw [Nat.zero_add, h.cell hp h1 (by omega), fm1]
    exact i64s_get _ hk
def idxI (es : List Edg) (k : Nat) (p : Nat) : List Int := ints (idxE es k p)
theorem idxI_succ (es : List Edg) (k : Nat) (h : k < es.length) (p : Nat) : idxI es (k + 1) p = idxI es k p ++ (if es[k].fr = p then [(k : Int)] else []) := by
  unfold idxI ints
  rw [idx_succ es k h, List.map_append]
  congr 1
  by_cases e : es[k].fr = p <;> simp [e]
theorem idxI_len (es : List Edg) (k : Nat) (p : Nat) : (idxI es k p).length ≤ k := by
  unfold idxI; rw [ints_len]; unfold idxE
  exact Nat.le_trans (List.length_filter_le _ _) (by simp)

set_option maxRecDepth 8000 in
set_option maxHeartbeats 8000000 in
theorem rfork_any (g : Gr) (V D E : Option Addr) (cv cd ce : Nat) (p : Nat) (A : Option Addr) (c : Nat) (w : World) (hE : RdE w w.heap.size E g.es) (hr : Rd w w.heap.size A (idxI g.es g.es.length p)) (hl : g.es.length ≤ 17592186044416) :
    Calls Tryz.prog 23 #[grV g V D E cv cd ce, .slice A (idxI g.es g.es.length p).length c] w fun e w' => e = .returned (.bool (forkE (outsE g.es p))) ∧ Below w.heap.size w w' := by
  have ho := idx_outs g.es g.es.length (Nat.le_refl _) p
  rw [List.take_length] at ho
  have hlt : ∀ i ∈ idxE g.es g.es.length p, i < g.es.length := fun i hi => idx_lt hi
  have hlen := idxI_len g.es g.es.length p
  rw [← ho]
  unfold idxI at *
  rw [ints_len] at hlen
  rw [ints_len]
  generalize idxE g.es g.es.length p = ix at *
  clear ho
  match ix, hr, hlt with
  | [], _, _ => exact rfork_nil g V D E cv cd ce A c w
  | [i], hr, hlt =>
    have hi := hlt i (by simp)
    obtain ⟨b, off, rfl, hB, -⟩ := hE i hi
    obtain ⟨b2, o2, rfl, hB2, hc⟩ := hr.ix (k := 0) (by simp)
    exact rfork_one g V D cv cd ce i b off b2 o2 c w hi hE hB2 hc hl
  | i :: j :: r, hr, hlt =>
    have hi := hlt i (by simp)
    have hj := hlt j (by simp)
    obtain ⟨b, off, rfl, hB, -⟩ := hE i hi
    obtain ⟨b2, o2, rfl, hB2, hc⟩ := hr.ix (k := 0) (by simp)
    obtain ⟨b3, o3, e3, _, hc3⟩ := hr.ix (k := 1) (by simp)
    injection e3 with e3; injection e3 with e1 e2; subst e1; subst e2
    refine (rfork_more g V D cv cd ce i j (i :: j :: r).length b off b2 o2 c w hi hj hE hB2 hc hc3 hl (by simp) (by omega)).mono fun e w' ⟨he, hb⟩ => ⟨he.trans (retb ?_), hb⟩
    cases r with
    | nil => show (true && fork2 (eAt g.es i) (eAt g.es j)) = _; rw [Bool.true_and]; rfl
    | cons k r => rw [show (((i :: j :: k :: r).length : Int) == 2) = false from by rw [beq_eq_false_iff_ne]; simp; omega]; rfl

set_option maxRecDepth 8000 in
set_option maxHeartbeats 8000000 in
theorem rgcheck_any (g : Gr) (V D E : Option Addr) (cv cd ce : Nat) (w : World) (hD : RdD w w.heap.size D g.sz) (hE : RdE w w.heap.size E g.es) (lv : g.nv ≤ 17592186044416) (ls : g.sz.length ≤ 17592186044416) (le : g.es.length ≤ 17592186044416) :
    Calls Tryz.prog 7 #[grV g V D E cv cd ce] w fun e w' => e = .returned (.int .i64 (chk g)) ∧ Below w.heap.size w w' := by
  unfold grV
  have n0 := new1 w (.cells #[.slice V g.nv cv, .int .i64 g.tm, .slice D g.sz.length cd, .int .i64 g.pts, .int .i64 g.ex, .slice E g.es.length ce] 26)
  have k0 := Blk.new w 26 #[.slice V g.nv cv, .int .i64 g.tm, .slice D g.sz.length cd, .int .i64 g.pts, .int .i64 g.ex, .slice E g.es.length ce]
  replace hD := hD.up n0
  replace hE := hE.up n0
  go_enter Tryz.func7, Tryz.ntmps7
  by_cases a1 : g.tm < 0
  · have HC : Hid (chk g = 90) := hid (chk_vars (decide_eq_true (by unfold Gr.all; omega)))
    go_wp2; go_ret; exact ⟨ret64 HC.out.symm, n0⟩
  by_cases a2 : 64 < g.tm
  · have HC : Hid (chk g = 90) := hid (chk_vars (decide_eq_true (by unfold Gr.all; omega)))
    go_wp2; go_ret; exact ⟨ret64 HC.out.symm, n0⟩
  by_cases a0 : 64 < (g.nv : Int)
  · have HC : Hid (chk g = 90) := hid (chk_vars (decide_eq_true (by unfold Gr.all; omega)))
    go_wp2; go_ret; exact ⟨ret64 HC.out.symm, n0⟩
  have HAll : Hid (∀ W, Calls Tryz.prog 21 #[.agg #[.slice V g.nv cv, .int .i64 g.tm, .slice D g.sz.length cd, .int .i64 g.pts, .int .i64 g.ex, .slice E g.es.length ce]] W fun e w' => e = .returned (.int .i64 g.all) ∧ Below W.heap.size W w') := hid fun W => all_any g V D E cv cd ce W (by omega) (by omega) (by omega)
  obtain ⟨x0, x1, x2, x3, x4, x5, fx⟩ := blk6 k0
  go_wp2_with fail
  clear x0 x1 x2 x3 x4 x5 fx
  refine (HAll.out _).mono ?_
  generalize w.alloc (.cells #[.slice V g.nv cv, .int .i64 g.tm, .slice D g.sz.length cd, .int .i64 g.pts, .int .i64 g.ex, .slice E g.es.length ce] 26) = w0 at *
  rintro e1 w1 ⟨rfl, hb1⟩
  replace k0 := k0.later hb1
  replace hD := hD.up hb1
  replace hE := hE.up hb1
  replace n0 := bup n0 hb1
  clear hb1
  by_cases a3 : 64 < g.all
  · have HC : Hid (chk g = 90) := hid (chk_vars (decide_eq_true (by omega)))
    go_wp2; go_ret; exact ⟨ret64 HC.out.symm, n0⟩
  have HV : Hid (varsBad g = false) := hid (decide_eq_false (by omega))
  obtain ⟨x0, x1, x2, x3, x4, x5, fx⟩ := blk6 k0
  by_cases b1 : g.pts < 1
  · have HC : Hid (chk g = 91) := hid (chk_pts HV.out (decide_eq_true (by omega)))
    go_wp2; go_ret; exact ⟨ret64 HC.out.symm, n0⟩
  by_cases b2 : 4096 < g.pts
  · have HC : Hid (chk g = 91) := hid (chk_pts HV.out (decide_eq_true (by omega)))
    go_wp2; go_ret; exact ⟨ret64 HC.out.symm, n0⟩
  by_cases b3 : 8192 < (g.es.length : Int)
  · have HC : Hid (chk g = 91) := hid (chk_pts HV.out (decide_eq_true (by omega)))
    go_wp2; go_ret; exact ⟨ret64 HC.out.symm, n0⟩
  have HP : Hid (ptsBad g = false) := hid (decide_eq_false (by omega))
  by_cases c1 : 16 < (g.sz.length : Int)
  · have HC : Hid (chk g = 92) := hid (chk_form HV.out HP.out (form_len (by omega)))
    go_wp2; go_ret; exact ⟨ret64 HC.out.symm, n0⟩
  by_cases c2 : g.ex < 0
  · have HC : Hid (chk g = 92) := hid (chk_form HV.out HP.out (form_exit (decide_eq_false (by omega))))
    go_wp2; go_ret; exact ⟨ret64 HC.out.symm, n0⟩
  by_cases c3 : g.pts ≤ g.ex
  · have HC : Hid (chk g = 92) := hid (chk_form HV.out HP.out (form_exit (decide_eq_false (by omega))))
    go_wp2; go_ret; exact ⟨ret64 HC.out.symm, n0⟩
  have HX : Hid (decide (0 ≤ g.ex ∧ g.ex < g.pts) = true) := hid (decide_eq_true (by omega))
  go_wp2
  clear x0 x1 x2 x3 x4 x5 fx
  go_loopw [3] (fun i wr => ∃ k : Nat, k ≤ g.sz.length ∧ i = .int .i64 k ∧ (g.sz.take k).all arrOk = true ∧ Below w1.heap.size w1 wr) (fun i _ => g.sz.length - (Go.RowKit.intOf i).toNat)
  case atStart => exact ⟨0, by omega, rfl, by simp, Below.refl _ _⟩
  case round =>
    obtain ⟨k, hk, rfl, hok, hb⟩ := hrel
    replace k0 := k0.later hb
    have x2 := k0.cell 2
    by_cases hlt : k < g.sz.length
    · have hlt' : (k : Int) < (g.sz.length : Int) := by omega
      have HK := hid hok
      clear hok
      obtain ⟨b, off, s, rfl, hB, d0, d1⟩ := (hD.up hb).size hlt
      cases s1 : arrOk (gI g.sz k)
      · have HC : Hid (chk g = 92) := hid (chk_form HV.out HP.out (form_size hlt s1))
        have hs := s1
        unfold arrOk at hs
        have hs' := of_decide_eq_false hs
        clear hs s1
        generalize gI g.sz k = sk at *
        by_cases s2 : sk < 1
        · go_wp2; go_ret; exact ⟨ret64 HC.out.symm, bup n0 hb⟩
        · have s3 : 1024 < sk := by omega
          clear hs'
          go_wp2; go_ret; exact ⟨ret64 HC.out.symm, bup n0 hb⟩
      · have HS := hid s1
        have hs := s1
        unfold arrOk at hs
        obtain ⟨s2, s3⟩ := of_decide_eq_true hs
        clear hs s1
        generalize hsk : gI g.sz k = sk at *
        have HSK := hid hsk
        clear hsk
        go_wp2
        go_roundw
        case rel => exact ⟨k + 1, by omega, by go_num, sizes_succ hlt HK.out (by rw [HSK.out]; exact HS.out), hb⟩
        case measure => simp [Go.RowKit.intOf]; omega
    · obtain rfl : k = g.sz.length := by omega
      have HS : Hid (g.sz.all arrOk = true) := hid (by rw [List.take_length] at hok; exact hok)
      clear hok
      replace hE := hE.up hb
      replace n0 := bup n0 hb
      clear hb hD
      obtain ⟨N, hN⟩ : ∃ N : Nat, g.pts = (N : Int) := ⟨g.pts.toNat, by omega⟩
      have HN := hid hN
      have hmk := run_make_row' (P := Tryz.prog) 61 34 (.slice none 0 0) 24 Tryz.underlying61 ints_info rfl .i64 .i64 N (by omega) (by omega)
      rw [← hN] at hmk
      clear hN
      have x3 := k0.cell 3
      generalize wr = w3 at *
      have kx : Hid (w.heap.size < w3.heap.size ∧ Below w.heap.size w w3) := hid ⟨k0.lt, n0⟩
      have n4 := new1 w3 (.cells (madeCells #[.slice none 0 0] N) 34)
      have L4 := LL.start (α := Int) (enc := enc1) (w := w3) (base := w3.heap.size) (n := N) (T := 34) (e := 3) (size := 1) (Nat.le_refl _)
      have E3 := hid hE
      have K0 := hid k0
      have N4 := hid n4
      have HRT : Hid (∀ (e : Edg) W, Calls Tryz.prog 22 #[e.val, .int .i64 g.all, .int .i64 g.sz.length] W fun r w' => r = .returned (.bool (rightE g.all g.sz.length e)) ∧ Below W.heap.size W w') := hid fun e W => rright_any e g.all g.sz.length W
      go_wp2
      clear x2 x3 hmk
      generalize w3.alloc (.cells (madeCells #[.slice none 0 0] N) 34) = w4 at *
      go_loopw [5] (fun i wq => ∃ (k : Nat) (f : Nat → Value), k ≤ g.es.length ∧ i = .int .i64 k ∧ (g.es.take k).all (edgeOk g) = true ∧ LL enc1 wq w3.heap.size w3.heap.size N 34 3 1 f (fun p => idxI g.es k p) ∧ Below w3.heap.size w4 wq) (fun i _ => g.es.length - (Go.RowKit.intOf i).toNat)
      case atStart => exact ⟨0, _, by omega, rfl, by simp, L4.congr (fun p _ => by simp [idxI, ints, idxE]), Below.refl _ _⟩
      case round =>
        clear hE k0 L4
        obtain ⟨k, f, hk, rfl, hok, hL, hb⟩ := hrel
        have hbw : Below w3.heap.size w3 wr := N4.out.trans hb
        have k0 := K0.out.below hbw kx.out.1
        have hE := E3.out.below hbw
        have hsz := hbw.size
        have x5 := k0.cell 5
        by_cases hlt : k < g.es.length
        · have hlt' : (k : Int) < (g.es.length : Int) := by omega
          have HK := hid hok
          clear hok
          obtain ⟨x, hx⟩ : ∃ x, g.es[k] = x := ⟨_, rfl⟩
          have HX2 := hid hx
          obtain ⟨b, off, rfl, hB, p0, p1, p2, p3, p4, p5, p6, p7, p8, p9⟩ := hE.get hlt hx
          replace hB : b < wr.heap.size := by omega
          clear hE hx
          have n8 := new1 wr (.cells (ecs x) 65)
          have k8 := Blk.new wr 65 (ecs x)
          have L8 := hL.below n8
          replace k0 := k0.later n8
          have hb8 : Below w3.heap.size w4 (wr.alloc (.cells (ecs x) 65)) := hb.trans (n8.mono hsz)
          have H8 : Hid (∀ p, p < N → ∀ j, (f p).ownBlock = some j → j < wr.heap.size) := hid fun p hp j hj => ((hL.own p hp).lt j hj).2
          have H9 : Hid (w3.heap.size < wr.heap.size) := hid hL.row.lt
          clear n8 hL hbw hb
          go_upto_region 17 with fail
          clear p0 p1 p2 p3 p4 p5 p6 p7 p8 p9 x5
          obtain ⟨d0, d1, d2, d3, d4, d5, d6, d7, d8, d9⟩ := ecells k8
          obtain ⟨f0, f1, f2, f3, f4, f5⟩ := cells6 k0
          have HE : Hid (edgeOk g x = (!(decide (x.fr < 0)) && (!(decide (g.pts ≤ x.fr)) && (!(decide (x.te < 0)) && (!(decide (g.pts ≤ x.te)) && (!(x.fr == g.ex) && rightE g.all g.sz.length x)))))) := hid (by unfold edgeOk inE; generalize rightE g.all g.sz.length x = rr; rw [Bool.eq_iff_iff]; (cases rr <;> simp) <;> omega)
          unfold ecs at *
          generalize wr.alloc (.cells #[.int .i64 x.fr, .int .i64 x.te, .int .i64 x.kd, .int .i64 x.dst, .int .i64 x.arr, .int .i64 x.op, .int .i64 x.av, .int .i64 x.an, .int .i64 x.bv, .int .i64 x.bn] 65) = w5 at *
          have hb95 : ∀ W, Below w5.heap.size w5 W → Below w.heap.size w W := fun W hW => kx.out.2.trans ((N4.out.mono (by have := kx.out.2.size; omega)).trans ((hb8.mono (by have := kx.out.2.size; omega)).trans (hW.mono (by have := hb8.size; have := N4.out.size; have := kx.out.2.size; omega))))
          have HB95 := hid hb95
          clear hb95
          refine wp_region_flowX 36 (fun W => Below w5.heap.size w5 W) (by kernel_rfl) (by kernel_rfl) (Below.refl _ _).drew ?_
          (repeat (first | (refine Flow.skip (by rfl) ?_; simp only [Act.put, List.setIfInBounds_toArray, List.set_cons_zero, List.set_cons_succ]) | (refine' Flow.take _ (by rfl) (fun W hW R hR => ?_) ?_; rotate_left; (go_simp; (try go_bits); with_reducible exact hR); simp only [Act.put, List.setIfInBounds_toArray, List.set_cons_zero, List.set_cons_succ])))
          cases t1 : decide (x.fr < 0)
          rotate_left
          · skip
            have HC : Hid (chk g = 92) := hid (chk_form HV.out HP.out (form_edge hlt (by rw [HX2.out, HE.out, t1]; rfl)))
            (repeat (first | (refine Flow.skip (by rfl) ?_; simp only [Act.put, List.setIfInBounds_toArray, List.set_cons_zero, List.set_cons_succ]) | (refine' Flow.take _ (by rfl) (fun W hW R hR => ?_) ?_; rotate_left; (go_simp; (try go_bits); with_reducible exact hR); simp only [Act.put, List.setIfInBounds_toArray, List.set_cons_zero, List.set_cons_succ])))
            intro w6 hb6
            go_wp2
            go_ret
            exact ⟨ret64 HC.out.symm, HB95.out _ hb6⟩
          (repeat (first | (refine Flow.skip (by rfl) ?_; simp only [Act.put, List.setIfInBounds_toArray, List.set_cons_zero, List.set_cons_succ]) | (refine' Flow.take _ (by rfl) (fun W hW R hR => ?_) ?_; rotate_left; (go_simp; (try go_bits); with_reducible exact hR); simp only [Act.put, List.setIfInBounds_toArray, List.set_cons_zero, List.set_cons_succ])))
          cases t2 : decide (g.pts ≤ x.fr)
          rotate_left
          · skip
            have HC : Hid (chk g = 92) := hid (chk_form HV.out HP.out (form_edge hlt (by rw [HX2.out, HE.out, t1, t2]; rfl)))
            (repeat (first | (refine Flow.skip (by rfl) ?_; simp only [Act.put, List.setIfInBounds_toArray, List.set_cons_zero, List.set_cons_succ]) | (refine' Flow.take _ (by rfl) (fun W hW R hR => ?_) ?_; rotate_left; (go_simp; (try go_bits); with_reducible exact hR); simp only [Act.put, List.setIfInBounds_toArray, List.set_cons_zero, List.set_cons_succ])))
            intro w6 hb6
            go_wp2
            go_ret
            exact ⟨ret64 HC.out.symm, HB95.out _ hb6⟩
          (repeat (first | (refine Flow.skip (by rfl) ?_; simp only [Act.put, List.setIfInBounds_toArray, List.set_cons_zero, List.set_cons_succ]) | (refine' Flow.take _ (by rfl) (fun W hW R hR => ?_) ?_; rotate_left; (go_simp; (try go_bits); with_reducible exact hR); simp only [Act.put, List.setIfInBounds_toArray, List.set_cons_zero, List.set_cons_succ])))
          cases t3 : decide (x.te < 0)
          rotate_left
          · skip
            have HC : Hid (chk g = 92) := hid (chk_form HV.out HP.out (form_edge hlt (by rw [HX2.out, HE.out, t1, t2, t3]; rfl)))
            (repeat (first | (refine Flow.skip (by rfl) ?_; simp only [Act.put, List.setIfInBounds_toArray, List.set_cons_zero, List.set_cons_succ]) | (refine' Flow.take _ (by rfl) (fun W hW R hR => ?_) ?_; rotate_left; (go_simp; (try go_bits); with_reducible exact hR); simp only [Act.put, List.setIfInBounds_toArray, List.set_cons_zero, List.set_cons_succ])))
            intro w6 hb6
            go_wp2
            go_ret
            exact ⟨ret64 HC.out.symm, HB95.out _ hb6⟩
          (repeat (first | (refine Flow.skip (by rfl) ?_; simp only [Act.put, List.setIfInBounds_toArray, List.set_cons_zero, List.set_cons_succ]) | (refine' Flow.take _ (by rfl) (fun W hW R hR => ?_) ?_; rotate_left; (go_simp; (try go_bits); with_reducible exact hR); simp only [Act.put, List.setIfInBounds_toArray, List.set_cons_zero, List.set_cons_succ])))
          cases t4 : decide (g.pts ≤ x.te)
          rotate_left
          · skip
            have HC : Hid (chk g = 92) := hid (chk_form HV.out HP.out (form_edge hlt (by rw [HX2.out, HE.out, t1, t2, t3, t4]; rfl)))
            (repeat (first | (refine Flow.skip (by rfl) ?_; simp only [Act.put, List.setIfInBounds_toArray, List.set_cons_zero, List.set_cons_succ]) | (refine' Flow.take _ (by rfl) (fun W hW R hR => ?_) ?_; rotate_left; (go_simp; (try go_bits); with_reducible exact hR); simp only [Act.put, List.setIfInBounds_toArray, List.set_cons_zero, List.set_cons_succ])))
            intro w6 hb6
            go_wp2
            go_ret
            exact ⟨ret64 HC.out.symm, HB95.out _ hb6⟩
          (repeat (first | (refine Flow.skip (by rfl) ?_; simp only [Act.put, List.setIfInBounds_toArray, List.set_cons_zero, List.set_cons_succ]) | (refine' Flow.take _ (by rfl) (fun W hW R hR => ?_) ?_; rotate_left; (go_simp; (try go_bits); with_reducible exact hR); simp only [Act.put, List.setIfInBounds_toArray, List.set_cons_zero, List.set_cons_succ])))
          cases t5 : (x.fr == g.ex)
          rotate_left
          · skip
            have HC : Hid (chk g = 92) := hid (chk_form HV.out HP.out (form_edge hlt (by rw [HX2.out, HE.out, t1, t2, t3, t4, t5]; rfl)))
            (repeat (first | (refine Flow.skip (by rfl) ?_; simp only [Act.put, List.setIfInBounds_toArray, List.set_cons_zero, List.set_cons_succ]) | (refine' Flow.take _ (by rfl) (fun W hW R hR => ?_) ?_; rotate_left; (go_simp; (try go_bits); with_reducible exact hR); simp only [Act.put, List.setIfInBounds_toArray, List.set_cons_zero, List.set_cons_succ])))
            intro w6 hb6
            go_wp2
            go_ret
            exact ⟨ret64 HC.out.symm, HB95.out _ hb6⟩
          (repeat (first | (refine Flow.skip (by rfl) ?_; simp only [Act.put, List.setIfInBounds_toArray, List.set_cons_zero, List.set_cons_succ]) | (refine' Flow.take _ (by rfl) (fun W hW R hR => ?_) ?_; rotate_left; (go_simp; (try go_bits); with_reducible exact hR); simp only [Act.put, List.setIfInBounds_toArray, List.set_cons_zero, List.set_cons_succ])))
          (refine Flow.call 21 #[.agg #[.slice V g.nv cv, .int .i64 g.tm, .slice D g.sz.length cd, .int .i64 g.pts, .int .i64 g.ex, .slice (some ⟨b, off, none⟩) g.es.length ce]] (.int .i64 g.all) (by rfl) (fun X hX => by go_simp) (fun X hX => (HAll.out _).mono fun e w' ⟨he, hb⟩ => ⟨he, bstep hX hX.size hb⟩) ?_; simp only [Act.put, List.setIfInBounds_toArray, List.set_cons_zero, List.set_cons_succ])
          (repeat (first | (refine Flow.skip (by rfl) ?_; simp only [Act.put, List.setIfInBounds_toArray, List.set_cons_zero, List.set_cons_succ]) | (refine' Flow.take _ (by rfl) (fun W hW R hR => ?_) ?_; rotate_left; (go_simp; (try go_bits); with_reducible exact hR); simp only [Act.put, List.setIfInBounds_toArray, List.set_cons_zero, List.set_cons_succ])))
          intro w6 hb6
          go_wp2_with fail
          refine (HRT.out x _).mono ?_
          rintro e7 w7 ⟨rfl, hb7⟩
          cases r1 : rightE g.all g.sz.length x
          · have HC : Hid (chk g = 92) := hid (chk_form HV.out HP.out (form_edge hlt (by rw [HX2.out, HE.out, r1]; simp)))
            go_wp2; go_ret; exact ⟨ret64 HC.out.symm, HB95.out _ (bup hb6 hb7)⟩
          have hb67 := bup hb6 hb7
          replace k8 := k8.later hb67
          replace L8 := L8.below hb67
          replace k0 := k0.later hb67
          replace hb8 := hb8.trans (hb67.mono (by have := hb8.size; have := N4.out.size; omega))
          have HR1 : Hid (edgeOk g x = true) := hid (by rw [HE.out, r1, t1, t2, t3, t4, t5]; rfl)
          obtain ⟨i0, i1, -, -⟩ := edge_in HR1.out
          rw [HN.out] at i1
          clear hb67 hb6 hb7 d0 d1 d2 d3 d4 d5 d6 d7 d8 d9 f0 f1 f2 f3 f4 f5 t1 t2 t3 t4 t5 r1 HE HB95
          obtain ⟨q, hq⟩ : ∃ q : Nat, x.fr = (q : Int) := ⟨x.fr.toNat, by omega⟩
          have hqN : q < N := by omega
          have hqN' : (q : Int) < (N : Int) := by omega
          have HQ := hid hq
          clear i0 i1
          generalize w7 = w6 at *
          obtain ⟨v2, w2, hrun, ho, hg, hv⟩ := run_append_int (w6.drew.alloc (.cells #[.int .i64 (k : Int)] 3)) w3.heap.size 34 (f q) _ _ (k : Int) ((L8.own q hqN).alloc _) w6.heap.size (Blk.new w6.drew _ _) (by
            have := idxI_len g.es k q
            omega) (by have := hb8.size; have := N4.out.size; simp; omega)
          obtain ⟨g2, cap2, rfl, -, -⟩ := ho.form (by omega)
          have hrow : ∀ b, b ∈ [wr.heap.size, w3.heap.size] → (f q).ownBlock ≠ some b := by
            intro b hb e
            simp only [List.mem_cons, List.not_mem_nil, or_false] at hb
            rcases hb with rfl | rfl
            · have := H8.out q hqN _ e; omega
            · exact L8.ne q hqN e
          have hs6 := k8.lt
          have c0 := SN.cell hg hs6 (hrow _ (by simp)) (k8.cell 0)
          have cF := SN.cell hg L8.row.lt (hrow _ (by simp)) (L8.row.cell hqN)
          have HH := hid hg
          have HO := hid ho
          have HVV := hid hv
          have HL8 := hid L8
          have hrun' := hid hrun
          clear hg ho hv hrun L8 k8 k0
          replace c0 := fun W hW => (c0 W hW).trans (show some (Value.int .i64 x.fr) = some (Value.int .i64 (q : Int)) by rw [hq])
          clear hq
          have S0 : Hid (SN w6.drew (w6.drew.alloc (.cells #[.int .i64 (k : Int)] 3)) w2 false false = fun W => W = w6.drew) := hid rfl
          have S1 : Hid (SN w6.drew (w6.drew.alloc (.cells #[.int .i64 (k : Int)] 3)) w2 true false = fun W => W = w6.drew.alloc (.cells #[.int .i64 (k : Int)] 3)) := hid rfl
          have S2 : Hid (SN w6.drew (w6.drew.alloc (.cells #[.int .i64 (k : Int)] 3)) w2 true true = fun W => W = w2) := hid rfl
          generalize SN w6.drew (w6.drew.alloc (.cells #[.int .i64 (k : Int)] 3)) w2 = S at *
          go_upto_region 19 with fail
          refine wp_region_flowN 11 9 10 S (by kernel_rfl) (by kernel_rfl) (by kernel_rfl) (by decide) (by decide) (by rw [S0.out]) ?_
          (repeat (first | (refine FlowN.skip (by rfl) (by rfl) (by rfl) ?_; simp only [Act.put, List.setIfInBounds_toArray, List.set_cons_zero, List.set_cons_succ]) | (refine' FlowN.take _ (by rfl) (by rfl) (by rfl) (fun W hW R hR => ?_) ?_; rotate_left; (go_simp; (try go_bits); with_reducible exact hR); simp only [Act.put, List.setIfInBounds_toArray, List.set_cons_zero, List.set_cons_succ])))
          refine FlowN.mark1 (.slice (some ⟨w6.heap.size, 0, none⟩) 1 1) (by rfl) (by rfl) (by rfl) (fun W hW => ⟨w6.drew.alloc (.cells #[.int .i64 (k : Int)] 3), ?_, by rw [S1.out]⟩) ?_
          · rw [S0.out] at hW
            subst hW
            go_simp
          simp only [Act.put, List.setIfInBounds_toArray, List.set_cons_zero, List.set_cons_succ]
          refine FlowN.mark2 (.slice (some ⟨g2, 0, none⟩) ((idxI g.es k q).length + 1) cap2) (by rfl) (by rfl) (by rfl) (fun W hW => ⟨w2, ?_, by rw [S2.out]⟩) ?_
          · rw [S1.out] at hW
            subst hW
            exact exec_append (Operand.tmp 141) (Operand.tmp 143) 34 rfl rfl rfl hrun'.out
          simp only [Act.put, List.setIfInBounds_toArray, List.set_cons_zero, List.set_cons_succ]
          intro W hW
          rw [S2.out] at hW
          subst hW
          have L7 := HL8.out.below ((Below.refl w6.heap.size w6).drew.alloc (by simp) (.cells #[.int .i64 (k : Int)] 3))
          have hR2 : W.rowIs w3.heap.size 34 N f := L7.row.of_block (HH.out.block _ L7.row.lt (fun e => L7.ne q hqN e.symm))
          have hF2 := hR2.cell hqN
          have hFr := hR2.frozen
          have L9 := hid (LL.put (y := (k : Int)) L7 hqN HH.out HO.out HVV.out)
          have hb9 := hid (LL.put_below (v := .slice (some ⟨g2, 0, none⟩) ((idxI g.es k q).length + 1) cap2) L7 (Nat.le_refl _) (by simp; have := hb8.size; have := N4.out.size; omega) hqN HH.out)
          clear c0 cF hrow hR2 L7
          go_wp2
          go_roundw
          case rel =>
            refine ⟨k + 1, _, by omega, by go_num, edges_succ hlt HK.out (by rw [HX2.out]; exact HR1.out), L9.out.congr ?_, ?_⟩
            · intro p hp
              rw [idxI_succ g.es k hlt, HX2.out]
              by_cases e : p = q
              · subst e; simp [HQ.out]
              · simp only [if_neg e]; rw [if_neg (by rw [HQ.out]; omega)]; simp
            · exact (hb8.trans (((Below.refl w6.heap.size w6).drew.alloc (by simp) (.cells #[.int .i64 (k : Int)] 3)).mono (by have := hb8.size; have := N4.out.size; omega))).trans hb9.out
          case measure => simp [Go.RowKit.intOf]; omega
        · obtain rfl : k = g.es.length := by omega
          have HO : Hid (g.es.all (edgeOk g) = true) := hid (by rw [List.take_length] at hok; exact hok)
          have HFK : Hid (∀ (p : Nat) A c W, RdE W W.heap.size E g.es → Rd W W.heap.size A (idxI g.es g.es.length p) → Calls Tryz.prog 23 #[.agg #[.slice V g.nv cv, .int .i64 g.tm, .slice D g.sz.length cd, .int .i64 g.pts, .int .i64 g.ex, .slice E g.es.length ce], .slice A (idxI g.es g.es.length p).length c] W fun e w' => e = .returned (.bool (forkE (outsE g.es p))) ∧ Below W.heap.size W w') := hid fun p A c W h1 h2 => rfork_any g V D E cv cd ce p A c W h1 h2 le
          have hE' := hE.more hsz
          clear hok hlt
          have x3 := k0.cell 3
          go_wp2
          clear x3 x5
          have HN0 := hid (hbw)
          have hg0 : w3.heap.size ≤ wr.heap.size := hsz
          clear hb hsz hE
          go_loopw [7] (fun i wq => ∃ k : Nat, k ≤ N ∧ i = .int .i64 k ∧ forksOk g k = true ∧ Below wr.heap.size wr wq) (fun i _ => N - (Go.RowKit.intOf i).toNat)
          case atStart => exact ⟨0, by omega, rfl, rfl, Below.refl _ _⟩
          case round =>
            obtain ⟨j, hj, rfl, hfj, hb⟩ := hrel
            have k1 := k0.later hb
            have L1 := hL.below hb
            have E1 := hE'.up hb
            have x3 := k1.cell 3
            by_cases hlt : j < N
            · have hlt' : (j : Int) < g.pts := by rw [HN.out]; omega
              have hltN : (j : Int) < (N : Int) := by omega
              obtain ⟨A, ca, hfq, hrd⟩ := L1.rdI hlt
              have cF := L1.row.cell hlt
              rw [hfq] at cF
              have HF := hid hfj
              clear hfj hfq L1
              go_upto_region 23 with fail
              clear x3
              obtain ⟨f0, f1, f2, f3, f4, f5⟩ := cells6 k1
              replace cF := later cF
              clear k1
              generalize hlen : (idxI g.es g.es.length j).length = len at *
              have HLN := hid hlen
              clear hlen
              refine wp_region_flow 5 (fun W => Below wr.heap.size wr W) (by kernel_rfl) (by kernel_rfl) (Below.refl _ _).drew ?_
              (repeat (first | (refine Flow.skip (by rfl) ?_; simp only [Act.put, List.setIfInBounds_toArray, List.set_cons_zero, List.set_cons_succ]) | (refine' Flow.take _ (by rfl) (fun W hW R hR => ?_) ?_; rotate_left; (go_simp; (try go_bits); with_reducible exact hR); simp only [Act.put, List.setIfInBounds_toArray, List.set_cons_zero, List.set_cons_succ])))
              intro w4' hb4
              have HG := HFK.out j A ca w4' (E1.up hb4) (hrd.up hb4)
              rw [HLN.out] at HG
              replace HG := hid HG
              clear f0 f1 f2 f3 f4 f5 cF hrd E1
              go_wp2_with fail
              refine HG.out.mono ?_
              clear HG
              rintro e5 w5 ⟨rfl, hb5⟩
              cases f1 : forkE (outsE g.es j)
              · have HC : Hid (chk g = 92) := hid (chk_form HV.out HP.out (form_fork (k := j) (by omega) f1))
                go_wp2; go_ret
                exact ⟨ret64 HC.out.symm, kx.out.2.trans (HN0.out.mono (by have := kx.out.2.size; omega) |>.trans ((bup (bup hb hb4) hb5).mono (by have := kx.out.2.size; omega)))⟩
              · have HF1 := hid f1
                clear f1
                go_wp2
                go_roundw
                case rel => exact ⟨j + 1, by omega, by go_num, forks_succ HF.out HF1.out, bup (bup hb hb4) hb5⟩
                case measure => simp [Go.RowKit.intOf]; omega
            · obtain rfl : j = N := by omega
              have hge : ¬ ((j : Int) < g.pts) := by rw [HN.out]; omega
              have HC : Hid (chk g = 0) := hid (chk_ok HV.out HP.out (by
                unfold formOk
                rw [show decide (g.sz.length ≤ 16) = true from decide_eq_true (by omega), HS.out, HX.out, HO.out, show g.pts.toNat = j by rw [HN.out]; omega, hfj]; rfl))
              clear hfj
              go_wp2; go_ret
              exact ⟨ret64 HC.out.symm, kx.out.2.trans (HN0.out.mono (by have := kx.out.2.size; omega) |>.trans (hb.mono (by have := kx.out.2.size; omega)))⟩
end Go.Proofs.YtkncebcekhfnfaaGreat
