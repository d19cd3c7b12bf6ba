/-
  thin.without, gnomonref28.open: an octagon without a cell, and the one across.
-/
import Derived.Test.YtanbplidigokgaaEqual
import Derived.Test.YtanbplidigokgaaRef13a
import Derived.Test.YtanbplidigokgaaFlowF
namespace Go.Proofs.Ytanbplidigokgaa
open Go.RowKit
attribute [local go_sem ↓] Go.wp_at_zero Go.wp_at_succ

/-- Without cell (i, j), and the one across. -/
def openM (N i j : Nat) (m : List Int) : List Int := (m.set (i * N + j) 9223372036854775807).set (nx j * N + nx i) 9223372036854775807
theorem openM_len (N i j : Nat) (m : List Int) : (openM N i j m).length = m.length := by simp [openM]

set_option maxRecDepth 8000 in
set_option maxHeartbeats 4000000 in
theorem without_any (n : Int) (e : Bool) (m : List Int) (N i j : Nat) (A : Option Addr) (c : Nat) (w : World) (hx : Rd w w.heap.size A m) (hm : m.length ≤ 17592186044416) (hN : (N : Int) = 2 * n) (hn : N ≤ 128) (hl : m.length = N * N) (hi : i < N) (hj : j < N) :
    Calls Try.prog 59 #[.agg #[.int .i64 n, .bool e, .slice A m.length c], .int .i64 (i : Int), .int .i64 (j : Int)] w (OctOwn w ⟨n, false, openM N i j m⟩) := by
  have hb0 : Below w.heap.size w ((w.alloc (Obj.cells #[.int .i64 n, .bool e, .slice A m.length c] 24)).alloc (Obj.cells #[.int .i64 0, .bool false, .slice none 0 0] 24)) := ((Below.refl _ _).alloc (Nat.le_refl _) _).alloc (by simp) _
  obtain ⟨p0, p1⟩ := blk_two (w := w) (Below.refl _ ((w.alloc (Obj.cells #[.int .i64 n, .bool e, .slice A m.length c] 24)).alloc (Obj.cells #[.int .i64 0, .bool false, .slice none 0 0] 24)))
  have hx0 := hx.up hb0
  have hni := nx_lt hN hi
  have hnj := nx_lt hN hj
  have HBI := hid (bits_nx (i := i) (by omega))
  have HBJ := hid (bits_nx (i := j) (by omega))
  have HIA := hid (idx_ok hN hi hj hn)
  have HID := hid (idx_ok hN hnj hni hn)
  rw [← hl] at HIA HID
  have hn0 : 0 ≤ 2 * n := by omega
  have hn1 : 2 * n ≤ 128 := by omega
  have HN := hid hN
  have HL := hid hl
  clear hN hl hx
  go_enter Try.func59, Try.ntmps59
  go_wp2
  generalize (w.alloc (Obj.cells #[.int .i64 n, .bool e, .slice A m.length c] 24)).alloc (Obj.cells #[.int .i64 0, .bool false, .slice none 0 0] 24) = w0 at *
  obtain ⟨x0, x1, x2, fx⟩ := octbox p0
  have q1lt := p1.lt
  have f0 := laterE x0
  have f2 := laterE x2
  clear x0 x1 x2 fx
  refine wp_region_flowE 7 [Sp.val (.pointer (some ⟨w.heap.size, 0, none⟩)), Sp.val (.int .i64 n), Sp.val (.pointer (some ⟨w.heap.size, 2, none⟩)), Sp.val (.slice A m.length c), Sp.any (IsIntsB w0.heap.size m), Sp.any (IsOctB w0.heap.size ⟨n, false, m⟩), Sp.any (IsBox 24 #[.int .i64 0, .bool false, .slice none 0 0])] (by kernel_rfl) (by kernel_rfl) ?_
  (refine FlowE.take (by rfl) (fun W hW R hR => ?_) (fun _ _ => ?_); (go_simp; (try go_bits); with_reducible exact hR); simp only [Act.put, List.setIfInBounds_toArray, List.set_cons_zero, List.set_cons_succ])
  (refine FlowE.take (by rfl) (fun W hW R hR => ?_) (fun _ _ => ?_); (go_simp; (try go_bits); with_reducible exact hR); simp only [Act.put, List.setIfInBounds_toArray, List.set_cons_zero, List.set_cons_succ])
  (refine FlowE.take (by rfl) (fun W hW R hR => ?_) (fun _ _ => ?_); (go_simp; (try go_bits); with_reducible exact hR); simp only [Act.put, List.setIfInBounds_toArray, List.set_cons_zero, List.set_cons_succ])
  (refine FlowE.take (by rfl) (fun W hW R hR => ?_) (fun _ _ => ?_); (go_simp; (try go_bits); with_reducible exact hR); simp only [Act.put, List.setIfInBounds_toArray, List.set_cons_zero, List.set_cons_succ])
  refine FlowE.call 55 #[.slice A m.length c] (by rfl) (fun W hW => by go_simp) (fun W hW => (clone_any m A c W (hx0.up (Ext.trans (Below.refl _ _).drew hW)) hm).mono fun _ _ ⟨A1, c1, he, ho, hb⟩ => ⟨_, he, hb, A1, c1, rfl, ho.less (show w0.drew.heap.size ≤ W.heap.size from hW.size)⟩) (fun v4 l4 h4 => ?_)
  simp only [Act.put, List.setIfInBounds_toArray, List.set_cons_zero, List.set_cons_succ]
  refine FlowE.stepF (by rfl) (fun W hW hf K hK => ?_) (fun v5 l5 h5 => ?_)
  · obtain ⟨A1, c1, rfl, o1⟩ := fact_intsB (show Sp.fact w0.drew (Sp.any (IsIntsB w0.heap.size m)) v4 l4 h4 W from hf 4 (by kernel_rfl))
    go_simp
    exact hK _ _ (Ext.refl _) ⟨A1, c1, rfl, o1⟩
  simp only [Act.put, List.setIfInBounds_toArray, List.set_cons_zero, List.set_cons_succ]
  refine FlowE.step (by rfl) (fun W hW K hK => ?_) (fun v6 l6 h6 => ?_)
  · go_simp
    exact hK _ _ (new1 _ _) ⟨rfl, Blk.new _ _ _, by simp⟩
  simp only [Act.put, List.setIfInBounds_toArray, List.set_cons_zero, List.set_cons_succ]
  refine FlowE.tail (fun W hW hf hd => ?_)
  replace hW : Below w0.heap.size w0 W := Ext.trans (Below.refl _ _).drew hW
  obtain ⟨A1, c1, rfl, own1⟩ := fact_octB (show Sp.fact w0.drew (Sp.any (IsOctB w0.heap.size ⟨n, false, m⟩)) v5 l5 h5 W from hf 5)
  obtain ⟨g7, rfl, k7, lo7, rfl, rfl⟩ := fact_box (show Sp.fact w0.drew (Sp.any (IsBox 24 #[.int .i64 0, .bool false, .slice none 0 0])) v6 l6 h6 W from hf 6)
  clear hf hd f0 f2
  dsimp only at own1 ⊢
  have hne := own_blk' own1 k7 (by decide)
  have hb1 := bup hb0 (show Below w0.heap.size w0 W from hW)
  replace p0 := p0.later hW
  replace p1 := p1.later hW
  have hg7 : w0.heap.size ≤ g7 := lo7
  have hlt1 : w.heap.size + 1 < g7 := by have := q1lt; omega
  obtain ⟨y0, y1, y2, fy⟩ := octbox k7
  obtain ⟨x0, x1, x2, fx⟩ := octbox p0
  go_upto_region 2 with fail
  obtain ⟨a1, a2, a3, a4, a5, a6⟩ := HIA.out
  obtain ⟨d1, d2, d3, d4, d5, d6⟩ := HID.out
  have bi := HBI.out
  have bj := HBJ.out
  clear x0 x1 x2 fx y0 y1 y2 fy
  have hbs : Below w.heap.size W (((W.setCell ⟨g7, 0, none⟩ (.int .i64 n)).setCell ⟨g7, 1, none⟩ (.bool false)).setCell ⟨g7, 2, none⟩ (.slice A1 m.length c1)) := below3 (by omega) hb1.size
  replace hb1 := hb1.trans hbs
  replace p0 := p0.far3 (g := g7) (v0 := .int .i64 n) (v1 := .bool false) (v2 := .slice A1 m.length c1) (by omega)
  replace p1 := p1.far3 (g := g7) (v0 := .int .i64 n) (v1 := .bool false) (v2 := .slice A1 m.length c1) (by omega)
  replace own1 := own1.far3 (g := g7) (v0 := .int .i64 n) (v1 := .bool false) (v2 := .slice A1 m.length c1) hne
  replace k7 := k7.set3 (v0 := .int .i64 n) (v1 := .bool false) (v2 := .slice A1 m.length c1)
  clear hbs
  generalize ((W.setCell ⟨g7, 0, none⟩ (.int .i64 n)).setCell ⟨g7, 1, none⟩ (.bool false)).setCell ⟨g7, 2, none⟩ (.slice A1 m.length c1) = W1 at *
  obtain ⟨g1, o1, rfl, _, c4⟩ := own1.rd (i * N + j) a4
  have hg0 : o1 = 0 := by
    rcases own1.form with ⟨h, _⟩ | ⟨g, h, _⟩
    · cases h
    · injection h with h; injection h
  subst hg0
  have hg1 : w0.heap.size ≤ g1 := by
    rcases own1.form with ⟨h, _⟩ | ⟨g, h, h', _⟩
    · cases h
    · injection h with h; injection h with h; omega
  have hn7 : g1 ≠ g7 := hne g1 rfl
  have f4 := own1.frozen (i * N + j)
  rw [Nat.zero_add] at c4
  obtain ⟨x0, x1, x2, fx⟩ := octbox p0
  obtain ⟨y0, y1, y2, fy⟩ := octbox k7
  have HV : Hid (openM N i j m = (m.set (i * N + j) 9223372036854775807).set (nx j * N + nx i) 9223372036854775807) := hid rfl
  go_upto_region 3 with fail
  clear x0 x1 x2 fx y0 y1 y2 fy c4 f4
  replace hb1 := hb1.trans (below1 (W := W1) (g := g1) (i := i * N + j) (v := .int .i64 9223372036854775807) (by omega) hb1.size)
  replace p0 := p0.far (p := ⟨g1, i * N + j, none⟩) (by simp; omega) (.int .i64 9223372036854775807)
  replace p1 := p1.far (p := ⟨g1, i * N + j, none⟩) (by simp; omega) (.int .i64 9223372036854775807)
  replace k7 := k7.far (p := ⟨g1, i * N + j, none⟩) hn7 (.int .i64 9223372036854775807)
  replace own1 := own1.store (i * N + j) 9223372036854775807
  generalize W1.setCell ⟨g1, i * N + j, none⟩ (.int .i64 9223372036854775807) = W2 at *
  obtain ⟨g2, o2, e2, _, c4⟩ := own1.rd (nx j * N + nx i) (by rw [List.length_set]; exact d4)
  obtain ⟨rfl, rfl⟩ : g1 = g2 ∧ 0 = o2 := by simpa using e2
  clear e2
  have f4 := own1.frozen (nx j * N + nx i)
  rw [Nat.zero_add] at c4
  obtain ⟨x0, x1, x2, fx⟩ := octbox p0
  obtain ⟨y0, y1, y2, fy⟩ := octbox k7
  go_upto_region 4 with fail
  clear x0 x1 x2 fx y0 y1 y2 fy c4 f4
  replace hb1 := hb1.trans (below1 (W := W2) (g := g1) (i := nx j * N + nx i) (v := .int .i64 9223372036854775807) (by omega) hb1.size)
  replace p1 := p1.far (p := ⟨g1, nx j * N + nx i, none⟩) (by simp; omega) (.int .i64 9223372036854775807)
  replace k7 := k7.far (p := ⟨g1, nx j * N + nx i, none⟩) hn7 (.int .i64 9223372036854775807)
  replace own1 := own1.store (nx j * N + nx i) 9223372036854775807
  rw [← HV.out] at own1
  generalize W2.setCell ⟨g1, nx j * N + nx i, none⟩ (.int .i64 9223372036854775807) = W3 at *
  obtain ⟨x0, x1, x2, fx⟩ := octbox p1
  obtain ⟨y0, y1, y2, fy⟩ := octbox k7
  have hln := openM_len N i j m
  have HLN := hid hln
  clear hln
  go_wp2
  have q3 := p1.set3 (v0 := .int .i64 n) (v1 := .bool false) (v2 := .slice (some ⟨g1, 0, none⟩) m.length c1)
  obtain ⟨z0, z1, z2, fz⟩ := octbox q3
  refine bodyPost_ret (v := .agg #[.int .i64 n, .bool false, .slice (some ⟨g1, 0, none⟩) m.length c1]) (by simp [results, Try.results59, go_sem, z0, z1, z2]) rfl ⟨some ⟨g1, 0, none⟩, c1, by rw [HLN.out], ?_, ?_⟩
  · exact (((own1.setFar (by simp; omega) _).setFar (by simp; omega) _).setFar (by simp; omega) _).less (by omega)
  · exact hb1.trans (below3 (by omega) hb1.size)
end Go.Proofs.Ytanbplidigokgaa
