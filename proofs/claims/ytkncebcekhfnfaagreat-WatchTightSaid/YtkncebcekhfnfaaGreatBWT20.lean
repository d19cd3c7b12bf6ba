/-
  When a graph is one: cfg.Check: what it answers: chk.
-/
import Derived.Test.YtkncebcekhfnfaaGreatBWT18
import Derived.Test.YtkncebcekhfnfaaGreatBWT19
namespace Go.Proofs.YtkncebcekhfnfaaGreat
open Go.RowKit
attribute [local go_sem ↓] Go.wp_at_zero Go.wp_at_succ

theorem edge_info : (Tryz.prog.info? 65).map (fun i => (i.zero, i.size, i.bytes)) = some (some (.agg #[.int .i64 0, .int .i64 0, .int .i64 0, .int .i64 0, .int .i64 0, .int .i64 0, .int .i64 0, .int .i64 0, .int .i64 0, .int .i64 0]), 10, 80) := by kernel_rfl
theorem edges_info : (Tryz.prog.info? 24).map (fun i => (i.zero, i.size, i.bytes)) = some (some (.slice none 0 0), 1, 24) := by kernel_rfl
/-- One edge appended. -/
theorem run_append_edge (w : World) (base : Nat) (ty : TypeId) (v : Value) (n : Nat) (xs : List Value) (y : Edg) (h : w.ownsRow base 65 10 v n xs) (g : Nat)
    (hk : Blk w g 65 (ecs y)) (hl : n + 1 ≤ 1000000) (hbase : base ≤ w.heap.size) :
    ∃ v' w', (Builtin.append_ #[24, 24] ty #[v, .slice (some ⟨g, 0, none⟩) 1 1]).run Tryz.prog w = .ok v' w' ∧ w'.ownsRow base 65 10 v' (n + 1) (xs ++ y.cells) ∧ w.grownBy w' v.ownBlock ∧ (v'.ownBlock = v.ownBlock ∨ v'.ownBlock = some w.heap.size) := by
  obtain ⟨i0, hi, hz0, hz1, hz2⟩ := info_parts edge_info
  obtain ⟨v', w', hrun, h2, h3, _, h5⟩ := run_append_own_at (P := Tryz.prog) w base 24 ty _ i0 _ 10 80 Tryz.underlying24 hi hz0 hz1 hz2 rfl (by omega) v n xs h ⟨g, 0, none⟩ 1 1 y.cells rfl
    (fun j u hu => by rw [add_mk, Nat.zero_add, hk.cell j]; simpa [ecs, Edg.cells] using hu) (fun u hu => by simp [Edg.cells] at hu; rcases hu with rfl | rfl | rfl | rfl | rfl | rfl | rfl | rfl | rfl | rfl <;> rfl) (by unfold maxLen; omega) (by omega) hbase
  exact ⟨v', w', hrun, h2, h3, h5⟩
theorem chk_vars {g : Gr} (h : varsBad g = true) : chk g = 90 := by unfold chk; rw [if_pos h]
theorem chk_pts {g : Gr} (h : varsBad g = false) (h2 : ptsBad g = true) : chk g = 91 := by unfold chk; rw [if_neg (by rw [h]; decide), if_pos h2]
theorem chk_form {g : Gr} (h : varsBad g = false) (h2 : ptsBad g = false) (h3 : formOk g = false) : chk g = 92 := by unfold chk; rw [if_neg (by rw [h]; decide), if_neg (by rw [h2]; decide), if_neg (by rw [h3]; decide)]
theorem chk_ok {g : Gr} (h : varsBad g = false) (h2 : ptsBad g = false) (h3 : formOk g = true) : chk g = 0 := by unfold chk; rw [if_neg (by rw [h]; decide), if_neg (by rw [h2]; decide), if_pos h3]
theorem form_len {g : Gr} (h : 16 < g.sz.length) : formOk g = false := by unfold formOk; rw [show decide (g.sz.length ≤ 16) = false from decide_eq_false (by omega)]; simp
theorem form_size {g : Gr} {k : Nat} (hk : k < g.sz.length) (h : arrOk (gI g.sz k) = false) : formOk g = false := by
  have : g.sz.all arrOk = false := by
    rw [List.all_eq_false]
    refine ⟨gI g.sz k, ?_, by simp [h]⟩
    unfold gI; simp [hk]
  unfold formOk; rw [this]; simp
theorem form_exit {g : Gr} (h : decide (0 ≤ g.ex ∧ g.ex < g.pts) = false) : formOk g = false := by unfold formOk; rw [h]; simp
theorem form_edge {g : Gr} {k : Nat} (hk : k < g.es.length) (h : edgeOk g g.es[k] = false) : formOk g = false := by
  have : g.es.all (edgeOk g) = false := by
    rw [List.all_eq_false]
    exact ⟨g.es[k], List.getElem_mem hk, by simp [h]⟩
  unfold formOk; rw [this]; simp
theorem form_fork {g : Gr} {k : Nat} (hk : k < g.pts.toNat) (h : forkE (outsE g.es k) = false) : formOk g = false := by
  have : forksOk g g.pts.toNat = false := by
    unfold forksOk; rw [List.all_eq_false]
    exact ⟨k, List.mem_range.2 hk, by simp [h]⟩
  unfold formOk; rw [this]; simp
theorem forks_succ {g : Gr} {k : Nat} (h : forksOk g k = true) (h2 : forkE (outsE g.es k) = true) : forksOk g (k + 1) = true := by
  unfold forksOk at *; rw [List.range_succ, List.all_append, h]; simp [h2]
theorem sizes_succ {sz : List Int} {k : Nat} (hk : k < sz.length) (h : (sz.take k).all arrOk = true) (h2 : arrOk (gI sz k) = true) : (sz.take (k + 1)).all arrOk = true := by
  rw [List.take_succ_eq_append_getElem hk, List.all_append, h]
  unfold gI at h2; simp [hk] at h2; simp [h2]
theorem edges_succ {g : Gr} {k : Nat} (hk : k < g.es.length) (h : (g.es.take k).all (edgeOk g) = true) (h2 : edgeOk g g.es[k] = true) : (g.es.take (k + 1)).all (edgeOk g) = true := by
  rw [List.take_succ_eq_append_getElem hk, List.all_append, h]; simp [h2]
theorem edge_in {g : Gr} {e : Edg} (h : edgeOk g e = true) : 0 ≤ e.fr ∧ e.fr < g.pts ∧ 0 ≤ e.te ∧ e.te < g.pts := by
  unfold edgeOk inE at h
  simp only [Bool.and_eq_true, decide_eq_true_eq] at h
  omega
theorem RdD.size {w : World} {B : Nat} {A : Option Addr} {sz : List Int} (h : RdD w B A sz) {k : Nat} (hk : k < sz.length) : ∃ b off s, A = some ⟨b, off, none⟩ ∧ b < B ∧ w.cell? ⟨b, off + k * 2, none⟩ = some (.string s) ∧ w.cell? ⟨b, off + k * 2 + 1, none⟩ = some (.int .i64 (gI sz k)) := by
  obtain ⟨b, off, h1, h2, ⟨s, h3⟩, h4⟩ := h k hk
  exact ⟨b, off, s, h1, h2, h3, h4⟩
/-- A slice of edges of one's own reads. -/
theorem LL.rdE {w : World} {base F n : Nat} {T : TypeId} {f : Nat → Value} {ls : Nat → List Edg} (h : LL Edg.cells w base F n T 65 10 f ls) {p : Nat} (hp : p < n) : ∃ A c, f p = .slice A (ls p).length c ∧ RdE w w.heap.size A (ls p) := by
  rcases h.slice hp with ⟨h1, h2⟩ | ⟨g, cap, h1, _, hg, _⟩
  · exact ⟨none, 0, by rw [h1, h2]; rfl, by rw [h2]; intro k hk; simp at hk⟩
  · refine ⟨_, _, h1, fun k hk => ⟨g, 0, rfl, hg, fun r hr => ?_⟩⟩
    rw [Nat.zero_add, h.cell hp h1 (by omega)]
    exact fmS_get Edg.cells 10 (fun _ => rfl) _ k r hk hr

theorem exec_append {P : Program} {a : Act} {o : Oper} {v u v' : Value} {w w' : World} (s x : Operand) (t : TypeId) (ho : o.op = .call { callee := .builtin .append, args := #[s, x], argTypes := #[t, t] }) (hs : a.eval s = v) (hx : a.eval x = u)
    (hrun : (Builtin.append_ #[t, t] o.type #[v, u]).run P w = .ok v' w') : (execOp a.eval o).run P w = .ok (.value v') w' := by
  unfold execOp
  simp only [ho, resolve, invoke, builtin, Sem.run_bind, Sem.run_pure, Result.andThen_ok, List.map_toArray, List.map_cons, List.map_nil, hs, hx, hrun]
/-- What stays as it is in three worlds. -/
theorem SN.cell {w6 w2 : World} {o : Obj} {row : Option Nat} (hg : (w6.drew.alloc o).grownBy w2 row) {b i : Nat} {v : Value} (hb : b < w6.heap.size) (hr : row ≠ some b) (hc : w6.cell? ⟨b, i, none⟩ = some v) : ∀ W, AnyBB (SN w6.drew (w6.drew.alloc o) w2) W → W.cell? ⟨b, i, none⟩ = some v := by
  intro W hW
  have h1 : (w6.drew.alloc o).cell? ⟨b, i, none⟩ = some v := by
    rw [← hc]
    exact World.cell?_of_block (w := w6) (a := ⟨b, i, none⟩) (heap_alloc_old w6.drew o hb)
  rcases SN.any hW with rfl | rfl | rfl
  · exact hc
  · exact h1
  · rw [← h1]
    exact World.cell?_of_block (a := ⟨b, i, none⟩) (hg.block b (by simp; omega) (fun e => hr e.symm))

set_option maxRecDepth 8000 in
set_option maxHeartbeats 8000000 in
theorem gcheck_any (g : Gr) (V D E : Option Addr) (cv cd ce : Nat) (w : World) (hD : RdD w w.heap.size D g.sz) (hE : RdE w w.heap.size E g.es) (lv : g.nv ≤ 17592186044416) (ls : g.sz.length ≤ 17592186044416) (le : g.es.length ≤ 17592186044416) :
    Calls Tryz.prog 25 #[grV g V D E cv cd ce] w fun e w' => e = .returned (.int .i64 (chk g)) ∧ Below w.heap.size w w' := by
  unfold grV
  have n0 := new1 w (.cells #[.slice V g.nv cv, .int .i64 g.tm, .slice D g.sz.length cd, .int .i64 g.pts, .int .i64 g.ex, .slice E g.es.length ce] 26)
  have k0 := Blk.new w 26 #[.slice V g.nv cv, .int .i64 g.tm, .slice D g.sz.length cd, .int .i64 g.pts, .int .i64 g.ex, .slice E g.es.length ce]
  replace hD := hD.up n0
  replace hE := hE.up n0
  go_enter Tryz.func25, Tryz.ntmps25
  by_cases a1 : g.tm < 0
  · have HC : Hid (chk g = 90) := hid (chk_vars (decide_eq_true (by unfold Gr.all; omega)))
    go_wp2; go_ret; exact ⟨ret64 HC.out.symm, n0⟩
  by_cases a2 : 64 < g.tm
  · have HC : Hid (chk g = 90) := hid (chk_vars (decide_eq_true (by unfold Gr.all; omega)))
    go_wp2; go_ret; exact ⟨ret64 HC.out.symm, n0⟩
  by_cases a3 : 64 < (g.nv : Int) + g.tm
  · have HC : Hid (chk g = 90) := hid (chk_vars (decide_eq_true (by unfold Gr.all; omega)))
    go_wp2; go_ret; exact ⟨ret64 HC.out.symm, n0⟩
  have HV : Hid (varsBad g = false) := hid (decide_eq_false (by unfold Gr.all; omega))
  by_cases b1 : g.pts < 1
  · have HC : Hid (chk g = 91) := hid (chk_pts HV.out (decide_eq_true (by omega)))
    go_wp2; go_ret; exact ⟨ret64 HC.out.symm, n0⟩
  by_cases b2 : 4096 < g.pts
  · have HC : Hid (chk g = 91) := hid (chk_pts HV.out (decide_eq_true (by omega)))
    go_wp2; go_ret; exact ⟨ret64 HC.out.symm, n0⟩
  by_cases b3 : 8192 < (g.es.length : Int)
  · have HC : Hid (chk g = 91) := hid (chk_pts HV.out (decide_eq_true (by omega)))
    go_wp2; go_ret; exact ⟨ret64 HC.out.symm, n0⟩
  have HP : Hid (ptsBad g = false) := hid (decide_eq_false (by omega))
  by_cases c1 : 16 < (g.sz.length : Int)
  · have HC : Hid (chk g = 92) := hid (chk_form HV.out HP.out (form_len (by omega)))
    go_wp2; go_ret; exact ⟨ret64 HC.out.symm, n0⟩
  go_wp2
  generalize w.alloc (.cells #[.slice V g.nv cv, .int .i64 g.tm, .slice D g.sz.length cd, .int .i64 g.pts, .int .i64 g.ex, .slice E g.es.length ce] 26) = w1 at *
  go_loopw [51] (fun i wr => ∃ k : Nat, k ≤ g.sz.length ∧ i = .int .i64 k ∧ (g.sz.take k).all arrOk = true ∧ Below w1.heap.size w1 wr) (fun i _ => g.sz.length - (Go.RowKit.intOf i).toNat)
  case atStart => exact ⟨0, by omega, rfl, by simp, Below.refl _ _⟩
  case round =>
    obtain ⟨k, hk, rfl, hok, hb⟩ := hrel
    by_cases hlt : k < g.sz.length
    · have hlt' : (k : Int) < (g.sz.length : Int) := by omega
      have HK := hid hok
      clear hok
      obtain ⟨b, off, s, rfl, hB, d0, d1⟩ := (hD.up hb).size hlt
      cases s1 : arrOk (gI g.sz k)
      · have HC : Hid (chk g = 92) := hid (chk_form HV.out HP.out (form_size hlt s1))
        have hs := s1
        unfold arrOk at hs
        have hs' := of_decide_eq_false hs
        clear hs s1
        generalize gI g.sz k = sk at *
        by_cases s2 : sk < 1
        · go_wp2; go_ret; exact ⟨ret64 HC.out.symm, bup n0 (bup hb (new1 _ _))⟩
        · have s3 : 1024 < sk := by omega
          clear hs'
          go_wp2; go_ret; exact ⟨ret64 HC.out.symm, bup n0 (bup hb (new1 _ _))⟩
      · have HS := hid s1
        have hs := s1
        unfold arrOk at hs
        obtain ⟨s2, s3⟩ := of_decide_eq_true hs
        clear hs s1
        generalize hsk : gI g.sz k = sk at *
        have HSK := hid hsk
        clear hsk
        go_wp2
        go_roundw
        case rel => exact ⟨k + 1, by omega, by go_num, sizes_succ hlt HK.out (by rw [HSK.out]; exact HS.out), bup hb (new1 _ _)⟩
        case measure => simp [Go.RowKit.intOf]; omega
    · obtain rfl : k = g.sz.length := by omega
      have HS : Hid (g.sz.all arrOk = true) := hid (by rw [List.take_length] at hok; exact hok)
      clear hok
      replace k0 := k0.later hb
      replace hE := hE.up hb
      replace n0 := bup n0 hb
      clear hb hD
      obtain ⟨x0, x1, x2, x3, x4, x5, fx⟩ := blk6 k0
      have HP1 : Hid (∀ W, Calls Tryz.prog 45 #[.agg #[.slice V g.nv cv, .int .i64 g.tm, .slice D g.sz.length cd, .int .i64 g.pts, .int .i64 g.ex, .slice E g.es.length ce], .int .i64 g.ex] W fun e w' => e = .returned (.bool (decide (0 ≤ g.ex ∧ g.ex < g.pts))) ∧ Below W.heap.size W w') := hid fun W => gpoint_any g V D E cv cd ce g.ex W
      have HRT : Hid (∀ (e : Edg) W, Calls Tryz.prog 46 #[.agg #[.slice V g.nv cv, .int .i64 g.tm, .slice D g.sz.length cd, .int .i64 g.pts, .int .i64 g.ex, .slice E g.es.length ce], e.val] W fun r w' => r = .returned (.bool (edgeOk g e)) ∧ Below W.heap.size W w') := hid fun e W => gright_any g V D E cv cd ce e W (by omega) (by omega) (by omega)
      have n5 := new1 wr (.cells #[.slice V g.nv cv, .int .i64 g.tm, .slice D g.sz.length cd, .int .i64 g.pts, .int .i64 g.ex, .slice E g.es.length ce] 91)
      have k5 := Blk.new wr 91 #[.slice V g.nv cv, .int .i64 g.tm, .slice D g.sz.length cd, .int .i64 g.pts, .int .i64 g.ex, .slice E g.es.length ce]
      replace k0 := k0.later n5
      replace hE := hE.up n5
      replace n0 := bup n0 n5
      clear n5
      have z4 := k0.cell 4
      go_wp2_with fail
      generalize wr.alloc (.cells #[.slice V g.nv cv, .int .i64 g.tm, .slice D g.sz.length cd, .int .i64 g.pts, .int .i64 g.ex, .slice E g.es.length ce] 91) = w2 at *
      refine (HP1.out _).mono ?_
      clear HP1 x0 x1 x2 x3 x4 x5 fx z4
      rintro e3 w3 ⟨rfl, hb3⟩
      replace k0 := k0.later hb3
      replace k5 := k5.later hb3
      replace hE := hE.up hb3
      replace n0 := bup n0 hb3
      clear hb3
      have hg5 := k5.lt
      generalize wr.heap.size = g5 at *
      cases e1 : decide (0 ≤ g.ex ∧ g.ex < g.pts)
      · have HC : Hid (chk g = 92) := hid (chk_form HV.out HP.out (form_exit e1))
        go_wp2; go_ret; exact ⟨ret64 HC.out.symm, n0⟩
      have HX := hid e1
      clear e1
      obtain ⟨N, hN⟩ : ∃ N : Nat, g.pts = (N : Int) := ⟨g.pts.toNat, by omega⟩
      have HN := hid hN
      have hmk := run_make_row' (P := Tryz.prog) 93 24 (.slice none 0 0) 24 Tryz.underlying93 edges_info rfl .i64 .i64 N (by omega) (by omega)
      rw [← hN] at hmk
      clear hN
      have z3 := k0.cell 3
      have n4 := new1 w3 (.cells (madeCells #[.slice none 0 0] N) 24)
      have L4 := LL.start (α := Edg) (enc := Edg.cells) (w := w3) (base := w3.heap.size) (n := N) (T := 24) (e := 65) (size := 10) (Nat.le_refl _)
      have kx : Hid (w.heap.size < w3.heap.size ∧ g5 < w3.heap.size ∧ Below w.heap.size w w3) := hid ⟨k0.lt, k5.lt, n0⟩
      have E3 := hid hE
      have K0 := hid k0
      have K5 := hid k5
      have N4 := hid n4
      replace k0 := k0.later n4
      replace k5 := k5.later n4
      replace hE := hE.up n4
      clear n0
      have x5 := k0.cell 5
      go_wp2
      clear z3 x5 hmk
      generalize w3.alloc (.cells (madeCells #[.slice none 0 0] N) 24) = w4 at *
      go_loopw [77] (fun i wr => ∃ (k : Nat) (f : Nat → Value), k ≤ g.es.length ∧ i = .int .i64 k ∧ (g.es.take k).all (edgeOk g) = true ∧ LL Edg.cells wr w3.heap.size w3.heap.size N 24 65 10 f (fun p => outsE (g.es.take k) p) ∧ Below w3.heap.size w4 wr) (fun i _ => g.es.length - (Go.RowKit.intOf i).toNat)
      case atStart => exact ⟨0, _, by omega, rfl, by simp, L4.congr (fun p _ => by simp [outsE]), Below.refl _ _⟩
      case round =>
        clear hE k0 k5 L4
        obtain ⟨k, f, hk, rfl, hok, hL, hb⟩ := hrel
        have hbw : Below w3.heap.size w3 wr := N4.out.trans hb
        have k0 := K0.out.below hbw kx.out.1
        have k5 := K5.out.below hbw kx.out.2.1
        have hE := E3.out.below hbw
        have hsz := hbw.size
        by_cases hlt : k < g.es.length
        · have hlt' : (k : Int) < (g.es.length : Int) := by omega
          have HK := hid hok
          clear hok
          obtain ⟨x, hx⟩ : ∃ x, g.es[k] = x := ⟨_, rfl⟩
          have HX2 := hid hx
          obtain ⟨b, off, rfl, hB, p0, p1, p2, p3, p4, p5, p6, p7, p8, p9⟩ := hE.get hlt hx
          replace hB : b < wr.heap.size := by omega
          clear hE hx
          have n8 := new1 wr (.cells (ecs x) 65)
          have k8 := Blk.new wr 65 (ecs x)
          have L8 := hL.below n8
          replace k5 := k5.later n8
          replace k0 := k0.later n8
          have hb8 : Below w3.heap.size w4 (wr.alloc (.cells (ecs x) 65)) := hb.trans (n8.mono hsz)
          have H8 : Hid (∀ p, p < N → ∀ j, (f p).ownBlock = some j → j < wr.heap.size) := hid fun p hp j hj => ((hL.own p hp).lt j hj).2
          have H9 : Hid (w3.heap.size < wr.heap.size) := hid hL.row.lt
          clear n8 hL hbw hb
          unfold ecs at *
          obtain ⟨y0, y1, y2, y3, y4, y5, fy⟩ := blk6 k5
          go_wp2_with fail
          clear p0 p1 p2 p3 p4 p5 p6 p7 p8 p9 y0 y1 y2 y3 y4 y5 fy
          generalize wr.alloc (.cells _ 65) = w5 at *
          refine (HRT.out x _).mono ?_
          rintro e6 w6 ⟨rfl, hb6⟩
          replace k8 := k8.later hb6
          replace L8 := L8.below hb6
          replace k0 := k0.later hb6
          replace hb8 := hb8.trans (hb6.mono (by have := hb8.size; have := N4.out.size; omega))
          clear hb6
          cases r1 : edgeOk g x
          · have HC : Hid (chk g = 92) := hid (chk_form HV.out HP.out (form_edge hlt (by rw [HX2.out]; exact r1)))
            go_wp2; go_ret
            exact ⟨ret64 HC.out.symm, kx.out.2.2.trans (N4.out.trans hb8 |>.mono (by have := kx.out.2.2.size; omega))⟩
          · have HR1 := hid r1
            obtain ⟨i0, i1, -, -⟩ := edge_in r1
            clear r1
            rw [HN.out] at i1
            obtain ⟨q, hq⟩ : ∃ q : Nat, x.fr = (q : Int) := ⟨x.fr.toNat, by omega⟩
            have hqN : q < N := by omega
            have hqN' : (q : Int) < (N : Int) := by omega
            have HQ := hid hq
            clear i0 i1
            obtain ⟨v2, w2, hrun, ho, hg, hv⟩ := run_append_edge (w6.drew.alloc (.cells (ecs x) 65)) w3.heap.size 24 (f q) _ _ x ((L8.own q hqN).alloc _) w6.heap.size (Blk.new w6.drew _ _) (by
              have : (outsE (List.take k g.es) q).length ≤ g.es.length := by unfold outsE; exact Nat.le_trans (List.length_filter_le _ _) (by rw [List.length_take]; omega)
              omega) (by have := hb8.size; have := N4.out.size; simp; omega)
            obtain ⟨g2, cap2, rfl, -, -⟩ := ho.form (by omega)
            have hrow : ∀ b, b ∈ [wr.heap.size, w3.heap.size] → (f q).ownBlock ≠ some b := by
              intro b hb e
              simp only [List.mem_cons, List.not_mem_nil, or_false] at hb
              rcases hb with rfl | rfl
              · have := H8.out q hqN _ e; omega
              · exact L8.ne q hqN e
            have hs6 := k8.lt
            have c0 := SN.cell hg hs6 (hrow _ (by simp)) (k8.cell 0)
            have c1 := SN.cell hg hs6 (hrow _ (by simp)) (k8.cell 1)
            have c2 := SN.cell hg hs6 (hrow _ (by simp)) (k8.cell 2)
            have c3 := SN.cell hg hs6 (hrow _ (by simp)) (k8.cell 3)
            have c4 := SN.cell hg hs6 (hrow _ (by simp)) (k8.cell 4)
            have c5 := SN.cell hg hs6 (hrow _ (by simp)) (k8.cell 5)
            have c6 := SN.cell hg hs6 (hrow _ (by simp)) (k8.cell 6)
            have c7 := SN.cell hg hs6 (hrow _ (by simp)) (k8.cell 7)
            have c8 := SN.cell hg hs6 (hrow _ (by simp)) (k8.cell 8)
            have c9 := SN.cell hg hs6 (hrow _ (by simp)) (k8.cell 9)
            have cF := SN.cell hg L8.row.lt (hrow _ (by simp)) (L8.row.cell hqN)
            have HH := hid hg
            have HO := hid ho
            have HVV := hid hv
            have HL8 := hid L8
            have hrun' := hid hrun
            clear hg ho hv hrun L8 k8 k0 k5
            simp only [ecs] at *
            replace c0 := fun W hW => (c0 W hW).trans (show some (Value.int .i64 x.fr) = some (Value.int .i64 (q : Int)) by rw [hq])
            clear hq
            have S0 : Hid (SN w6.drew (w6.drew.alloc (.cells #[.int .i64 x.fr, .int .i64 x.te, .int .i64 x.kd, .int .i64 x.dst, .int .i64 x.arr, .int .i64 x.op, .int .i64 x.av, .int .i64 x.an, .int .i64 x.bv, .int .i64 x.bn] 65)) w2 false false = fun W => W = w6.drew) := hid rfl
            have S1 : Hid (SN w6.drew (w6.drew.alloc (.cells #[.int .i64 x.fr, .int .i64 x.te, .int .i64 x.kd, .int .i64 x.dst, .int .i64 x.arr, .int .i64 x.op, .int .i64 x.av, .int .i64 x.an, .int .i64 x.bv, .int .i64 x.bn] 65)) w2 true false = fun W => W = w6.drew.alloc (.cells #[.int .i64 x.fr, .int .i64 x.te, .int .i64 x.kd, .int .i64 x.dst, .int .i64 x.arr, .int .i64 x.op, .int .i64 x.av, .int .i64 x.an, .int .i64 x.bv, .int .i64 x.bn] 65)) := hid rfl
            have S2 : Hid (SN w6.drew (w6.drew.alloc (.cells #[.int .i64 x.fr, .int .i64 x.te, .int .i64 x.kd, .int .i64 x.dst, .int .i64 x.arr, .int .i64 x.op, .int .i64 x.av, .int .i64 x.an, .int .i64 x.bv, .int .i64 x.bn] 65)) w2 true true = fun W => W = w2) := hid rfl
            generalize SN w6.drew (w6.drew.alloc (.cells #[.int .i64 x.fr, .int .i64 x.te, .int .i64 x.kd, .int .i64 x.dst, .int .i64 x.arr, .int .i64 x.op, .int .i64 x.av, .int .i64 x.an, .int .i64 x.bv, .int .i64 x.bn] 65)) w2 = S at *
            go_upto_region 22 with fail
            refine wp_region_flowN 11 9 10 S (by kernel_rfl) (by kernel_rfl) (by kernel_rfl) (by decide) (by decide) (by rw [S0.out]) ?_
            (repeat (first | (refine FlowN.skip (by rfl) (by rfl) (by rfl) ?_; simp only [Act.put, List.setIfInBounds_toArray, List.set_cons_zero, List.set_cons_succ]) | (refine' FlowN.take _ (by rfl) (by rfl) (by rfl) (fun W hW R hR => ?_) ?_; rotate_left; (go_simp; (try go_bits); with_reducible exact hR); simp only [Act.put, List.setIfInBounds_toArray, List.set_cons_zero, List.set_cons_succ])))
            refine FlowN.mark1 (.slice (some ⟨w6.heap.size, 0, none⟩) 1 1) (by rfl) (by rfl) (by rfl) (fun W hW => ⟨w6.drew.alloc (.cells #[.int .i64 x.fr, .int .i64 x.te, .int .i64 x.kd, .int .i64 x.dst, .int .i64 x.arr, .int .i64 x.op, .int .i64 x.av, .int .i64 x.an, .int .i64 x.bv, .int .i64 x.bn] 65), ?_, by rw [S1.out]⟩) ?_
            · rw [S0.out] at hW
              subst hW
              go_simp
              rw [HQ.out]
            simp only [Act.put, List.setIfInBounds_toArray, List.set_cons_zero, List.set_cons_succ]
            refine FlowN.mark2 (.slice (some ⟨g2, 0, none⟩) ((outsE (List.take k g.es) q).length + 1) cap2) (by rfl) (by rfl) (by rfl) (fun W hW => ⟨w2, ?_, by rw [S2.out]⟩) ?_
            · rw [S1.out] at hW
              subst hW
              exact exec_append (Operand.tmp 92) (Operand.tmp 94) 24 rfl rfl rfl hrun'.out
            simp only [Act.put, List.setIfInBounds_toArray, List.set_cons_zero, List.set_cons_succ]
            intro W hW
            rw [S2.out] at hW
            subst hW
            have L7 := HL8.out.below ((Below.refl w6.heap.size w6).drew.alloc (by simp) (.cells #[.int .i64 x.fr, .int .i64 x.te, .int .i64 x.kd, .int .i64 x.dst, .int .i64 x.arr, .int .i64 x.op, .int .i64 x.av, .int .i64 x.an, .int .i64 x.bv, .int .i64 x.bn] 65))
            have hR2 : W.rowIs w3.heap.size 24 N f := L7.row.of_block (HH.out.block _ L7.row.lt (fun e => L7.ne q hqN e.symm))
            have hF2 := hR2.cell hqN
            have hFr := hR2.frozen
            have L9 := hid (LL.put (y := x) L7 hqN HH.out HO.out HVV.out)
            have hb9 := hid (LL.put_below (v := .slice (some ⟨g2, 0, none⟩) ((outsE (List.take k g.es) q).length + 1) cap2) L7 (Nat.le_refl _) (by simp; have := hb8.size; have := N4.out.size; omega) hqN HH.out)
            clear c0 c1 c2 c3 c4 c5 c6 c7 c8 c9 cF hrow hR2 L7
            go_wp2
            go_roundw
            case rel =>
              refine ⟨k + 1, _, by omega, by go_num, edges_succ hlt HK.out (by rw [HX2.out]; exact HR1.out), L9.out.congr ?_, ?_⟩
              · intro p hp
                rw [outs_succ g.es k hlt, HX2.out]
                by_cases e : p = q
                · subst e; simp [HQ.out]
                · simp only [if_neg e]; rw [if_neg (by rw [HQ.out]; omega)]; simp
              · exact (hb8.trans (((Below.refl w6.heap.size w6).drew.alloc (by simp) (.cells #[.int .i64 x.fr, .int .i64 x.te, .int .i64 x.kd, .int .i64 x.dst, .int .i64 x.arr, .int .i64 x.op, .int .i64 x.av, .int .i64 x.an, .int .i64 x.bv, .int .i64 x.bn] 65)).mono (by have := hb8.size; have := N4.out.size; omega))).trans hb9.out
            case measure => simp [Go.RowKit.intOf]; omega
        · obtain rfl : k = g.es.length := by omega
          have HO : Hid (g.es.all (edgeOk g) = true) := hid (by rw [List.take_length] at hok; exact hok)
          clear hok hE hlt
          rw [List.take_length] at hL
          have x3 := k0.cell 3
          go_wp2
          clear x3
          have HN0 := hid (hbw)
          have hg0 : w3.heap.size ≤ wr.heap.size := hsz
          have le8 : g.es.length ≤ 8192 := by omega
          clear hb hsz k5
          go_loopw [100] (fun i wq => ∃ k : Nat, k ≤ N ∧ i = .int .i64 k ∧ forksOk g k = true ∧ Below wr.heap.size wr wq) (fun i _ => N - (Go.RowKit.intOf i).toNat)
          case atStart => exact ⟨0, by omega, rfl, rfl, Below.refl _ _⟩
          case round =>
            obtain ⟨j, hj, rfl, hfj, hb⟩ := hrel
            have k1 := k0.later hb
            have L1 := hL.below hb
            have x3 := k1.cell 3
            by_cases hlt : j < N
            · have hlt' : (j : Int) < g.pts := by rw [HN.out]; omega
              have hltN : (j : Int) < (N : Int) := by omega
              obtain ⟨A, ca, hfq, hrd⟩ := L1.rdE hlt
              have hlen : (outsE g.es j).length ≤ 8192 := Nat.le_trans (List.length_filter_le _ _) le8
              have cF := L1.row.cell hlt
              rw [hfq] at cF
              have HG := hid (goes_any (outsE g.es j) A ca _ hrd hlen)
              have HF := hid hfj
              clear hfj hfq hrd L1 k1
              go_wp2_with fail
              refine HG.out.mono ?_
              clear HG cF x3
              rintro e5 w5 ⟨rfl, hb5⟩
              cases f1 : forkE (outsE g.es j)
              · have HC : Hid (chk g = 92) := hid (chk_form HV.out HP.out (form_fork (k := j) (by omega) f1))
                go_wp2; go_ret
                exact ⟨ret64 HC.out.symm, kx.out.2.2.trans (HN0.out.mono (by have := kx.out.2.2.size; omega) |>.trans ((bup hb hb5).mono (by have := kx.out.2.2.size; omega)))⟩
              · have HF1 := hid f1
                clear f1
                go_wp2
                go_roundw
                case rel => exact ⟨j + 1, by omega, by go_num, forks_succ HF.out HF1.out, bup hb hb5⟩
                case measure => simp [Go.RowKit.intOf]; omega
            · obtain rfl : j = N := by omega
              have hge : ¬ ((j : Int) < g.pts) := by rw [HN.out]; omega
              have HC : Hid (chk g = 0) := hid (chk_ok HV.out HP.out (by
                unfold formOk
                rw [show decide (g.sz.length ≤ 16) = true from decide_eq_true (by omega), HS.out, HX.out, HO.out, show g.pts.toNat = j by rw [HN.out]; omega, hfj]; rfl))
              clear hfj
              go_wp2; go_ret
              exact ⟨ret64 HC.out.symm, kx.out.2.2.trans (HN0.out.mono (by have := kx.out.2.2.size; omega) |>.trans (hb.mono (by have := kx.out.2.2.size; omega)))⟩
end Go.Proofs.YtkncebcekhfnfaaGreat
