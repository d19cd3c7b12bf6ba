/-
  gnomonlaw28: few, ThinExact.
-/
import Derived.Test.YtanbplidigokgaaKnown28
namespace Go.Proofs.Ytanbplidigokgaa
open Go.RowKit
attribute [local go_sem ↓] Go.wp_at_zero Go.wp_at_succ

set_option maxHeartbeats 2000000 in
theorem few28_any (o : O) (A : Option Addr) (c : Nat) (w : World) (hx : Rd w w.heap.size A o.m) (hm : o.m.length ≤ 17592186044416) :
    Calls Try.prog 23 #[.agg #[.int .i64 o.n, .bool o.e, .slice A o.m.length c]] w fun e w' => ∃ b, e = .returned (.bool b) ∧ Below w.heap.size w w' := by
  have hb0 := new1 w (Obj.cells #[.int .i64 o.n, .bool o.e, .slice A o.m.length c] 24)
  have p0 := Blk.new w 24 #[.int .i64 o.n, .bool o.e, .slice A o.m.length c]
  have HC := hid (rcheck_any o A c _ (hx.up hb0) (by omega))
  obtain ⟨x0, x1, x2, fx⟩ := octbox p0
  cases t1 : decide (o.n ≤ 4)
  · go_enter Try.func23, Try.ntmps23
    go_wp2_with fail
    refine HC.out.mono ?_
    clear HC
    rintro e1 w1 ⟨rfl, hb1⟩
    replace p0 := p0.later hb1
    obtain ⟨x0, x1, x2, fx⟩ := octbox p0
    generalize check o = er at *
    cases t2 : (er != 0)
    · go_wp2
      go_ret
      exact ⟨_, rfl, bup hb0 hb1⟩
    · have hl0 : (0 : Int) ≤ (o.m.length : Int) := by omega
      cases t3 : decide ((o.m.length : Int) ≤ 400)
      · go_wp2
        go_ret
        exact ⟨_, rfl, bup hb0 hb1⟩
      · go_wp2
        go_ret
        exact ⟨_, rfl, bup hb0 hb1⟩
  · go_enter Try.func23, Try.ntmps23
    go_wp2
    go_ret
    exact ⟨_, rfl, hb0⟩
theorem thinM_len (n : Int) (N : Nat) (cm : List Int) (xs : List (Cel N)) : (thinM n N cm xs).length = cm.length := by
  have : ∀ (xs : List (Cel N)) (out : List Int), (xs.foldl (stepT n N cm) out).length = out.length := by
    intro xs
    induction xs with
    | nil => intro out; rfl
    | cons x xs ih =>
      intro out
      rw [List.foldl_cons, ih]
      unfold stepT
      split
      · exact openM_len _ _ _ _
      · rfl
  exact this xs cm
theorem thinO_m_le (o : O) : (thinO o).m.length ≤ o.m.length := by
  unfold thinO
  split
  · exact closeO_m_le
  · show (thinM _ _ _ _).length ≤ _
    rw [thinM_len]; exact closeO_m_le
theorem closeM_le_any (o : O) (hm : o.m.length ≤ 17592186044416) : (thinAns o).m.length ≤ 17592186044416 := by
  unfold thinAns
  split
  · exact Nat.le_trans (thinO_m_le o) hm
  · simp

set_option maxRecDepth 8000 in
set_option maxHeartbeats 4000000 in
theorem thinExact_walk (o : O) (i j : Int) (A : Option Addr) (c : Nat) (w : World) (hx : Rd w w.heap.size A o.m) (hm : o.m.length ≤ 17592186044416) :
    Calls Try.prog 7 #[.agg #[.int .i64 o.n, .bool o.e, .slice A o.m.length c], .int .i64 i, .int .i64 j] w fun e w' => e = .returned (.bool true) ∧ Below w.heap.size w w' := by
  have hb0 := new1 w (Obj.cells #[.int .i64 o.n, .bool o.e, .slice A o.m.length c] 24)
  have p0 := Blk.new w 24 #[.int .i64 o.n, .bool o.e, .slice A o.m.length c]
  replace hx := hx.up hb0
  have HTM := hid (closeM_le_any o hm)
  have HT : Hid (∀ A c w, Rd w w.heap.size A o.m → Calls Try.prog 24 #[.agg #[.int .i64 o.n, .bool o.e, .slice A o.m.length c]] w (ThinRes w (thinAns o) (check o))) := hid fun A c w hx => thinoct_any o A c w hx hm
  have HR : Hid (∀ A c w, Rd w w.heap.size A o.m → Calls Try.prog 25 #[.agg #[.int .i64 o.n, .bool o.e, .slice A o.m.length c]] w (ThinRes w (thinAns o) (check o))) := hid fun A c w hx => roct_any o A c w hx hm
  have HTN : Hid (∀ A c w, Rd w w.heap.size A o.m → Calls Try.prog 26 #[.agg #[.int .i64 o.n, .bool o.e, .slice A o.m.length c], .int .i64 i, .int .i64 j] w (NeedRes w (needAns o i j))) := hid fun A c w hx => tneed_any o i j A c w hx hm
  have HRN : Hid (∀ A c w, Rd w w.heap.size A o.m → Calls Try.prog 27 #[.agg #[.int .i64 o.n, .bool o.e, .slice A o.m.length c], .int .i64 i, .int .i64 j] w (NeedRes w (needAns o i j))) := hid fun A c w hx => rneed_any o i j A c w hx hm
  have HF : Hid (∀ A c w, Rd w w.heap.size A o.m → Calls Try.prog 23 #[.agg #[.int .i64 o.n, .bool o.e, .slice A o.m.length c]] w fun e w' => ∃ b, e = .returned (.bool b) ∧ Below w.heap.size w w') := hid fun A c w hx => few28_any o A c w hx hm
  generalize thinAns o = q at *
  generalize check o = er at *
  generalize needAns o i j = nd at *
  obtain ⟨nb, ne⟩ := nd
  obtain ⟨qn, qe, qm⟩ := q
  dsimp only at *
  go_enter Try.func7, Try.ntmps7
  go_wp2_with fail
  refine (known28_any _).mono ?_
  generalize w.alloc (Obj.cells #[.int .i64 o.n, .bool o.e, .slice A o.m.length c] 24) = w0 at *
  rintro e1 w1 ⟨rfl, hb1⟩
  replace p0 := p0.later hb1
  replace hx := hx.up hb1
  replace hb0 := bup hb0 hb1
  clear hb1
  obtain ⟨x0, x1, x2, fx⟩ := octbox p0
  go_wp2_with fail
  clear x0 x1 x2 fx
  refine (HF.out A c w1 hx).mono ?_
  clear HF
  rintro e2 w2 ⟨b, rfl, hb2⟩
  replace p0 := p0.later hb2
  replace hx := hx.up hb2
  replace hb0 := bup hb0 hb2
  clear hb2
  obtain ⟨x0, x1, x2, fx⟩ := octbox p0
  cases b
  · go_wp2
    go_ret
    exact ⟨rfl, hb0⟩
  have HC := hid (copyoct_any o.n o.e o.m A c w2 hx hm)
  go_wp2_with fail
  clear x0 x1 x2 fx
  refine HC.out.mono ?_
  clear HC
  rintro e3 w3 ⟨A7, c7, rfl, own7, hb3⟩
  have hb34 := bup hb3 (new1 w3 (Obj.cells #[.int .i64 o.n, .bool o.e, .slice A7 o.m.length c7] 24))
  replace own7 := own7.below (new1 w3 (Obj.cells #[.int .i64 o.n, .bool o.e, .slice A7 o.m.length c7] 24))
  have k7 := Blk.new w3 24 #[.int .i64 o.n, .bool o.e, .slice A7 o.m.length c7]
  replace p0 := p0.later hb34
  replace hx := hx.up hb34
  replace hb0 := bup hb0 hb34
  clear hb3 hb34
  obtain ⟨y0, y1, y2, fy⟩ := octbox k7
  go_wp2_with fail
  clear y0 y1 y2 fy
  refine (HT.out A7 c7 _ own7.rd).mono ?_
  clear HT
  generalize w3.alloc (Obj.cells #[.int .i64 o.n, .bool o.e, .slice A7 o.m.length c7] 24) = w4 at *
  generalize w3.heap.size = g7 at *
  rintro e5 w5 ⟨A8, c8, rfl, own8, hb5⟩
  dsimp only at own8 ⊢
  have hb56 := bup hb5 (new1 w5 (Obj.cells #[.int .i64 qn, .bool qe, .slice A8 qm.length c8] 24))
  replace own8 := own8.below (new1 w5 (Obj.cells #[.int .i64 qn, .bool qe, .slice A8 qm.length c8] 24))
  have k8 := Blk.new w5 24 #[.int .i64 qn, .bool qe, .slice A8 qm.length c8]
  replace own7 := own7.below hb56
  replace k7 := k7.later hb56
  replace p0 := p0.later hb56
  replace hx := hx.up hb56
  replace hb0 := bup hb0 hb56
  clear hb5 hb56
  obtain ⟨x0, x1, x2, fx⟩ := octbox p0
  go_wp2_with fail
  clear x0 x1 x2 fx
  refine (HR.out A c _ hx).mono ?_
  clear HR
  generalize w5.alloc (Obj.cells #[.int .i64 qn, .bool qe, .slice A8 qm.length c8] 24) = w6 at *
  generalize w5.heap.size = g8 at *
  rintro e7 w7 ⟨A10, c10, rfl, own10, hb7⟩
  dsimp only at own10 ⊢
  have hb78 := bup hb7 (new1 w7 (Obj.cells #[.int .i64 qn, .bool qe, .slice A10 qm.length c10] 24))
  replace own10 := own10.below (new1 w7 (Obj.cells #[.int .i64 qn, .bool qe, .slice A10 qm.length c10] 24))
  have k10 := Blk.new w7 24 #[.int .i64 qn, .bool qe, .slice A10 qm.length c10]
  replace own8 := own8.below hb78
  replace k8 := k8.later hb78
  replace own7 := own7.below hb78
  replace k7 := k7.later hb78
  replace p0 := p0.later hb78
  replace hx := hx.up hb78
  replace hb0 := bup hb0 hb78
  clear hb7 hb78
  obtain ⟨y0, y1, y2, fy⟩ := octbox k7
  go_wp2_with fail
  clear y0 y1 y2 fy
  refine (HTN.out A7 c7 _ own7.rd).mono ?_
  clear HTN
  generalize w7.alloc (Obj.cells #[.int .i64 qn, .bool qe, .slice A10 qm.length c10] 24) = w8 at *
  generalize w7.heap.size = g10 at *
  rintro e9 w9 ⟨rfl, hb9⟩
  dsimp only
  replace own10 := own10.below hb9
  replace k10 := k10.later hb9
  replace own8 := own8.below hb9
  replace k8 := k8.later hb9
  replace own7 := own7.below hb9
  replace k7 := k7.later hb9
  replace p0 := p0.later hb9
  replace hx := hx.up hb9
  replace hb0 := bup hb0 hb9
  clear hb9
  obtain ⟨x0, x1, x2, fx⟩ := octbox p0
  go_wp2_with fail
  clear x0 x1 x2 fx
  refine (HRN.out A c _ hx).mono ?_
  clear HRN
  rintro e11 w11 ⟨rfl, hb9⟩
  dsimp only
  replace own10 := own10.below hb9
  replace k10 := k10.later hb9
  replace own8 := own8.below hb9
  replace k8 := k8.later hb9
  replace own7 := own7.below hb9
  replace k7 := k7.later hb9
  replace p0 := p0.later hb9
  replace hx := hx.up hb9
  replace hb0 := bup hb0 hb9
  clear hb9
  obtain ⟨x0, x1, x2, fx⟩ := octbox k8
  obtain ⟨y0, y1, y2, fy⟩ := octbox k10
  have HO := hid (oct_any ⟨qn, qe, qm⟩ ⟨qn, qe, qm⟩ A8 A10 c8 c10 w11 own8.rd own10.rd HTM.out)
  rw [eqO_same] at HO
  dsimp only at HO
  go_wp2_with fail
  clear x0 x1 x2 fx y0 y1 y2 fy
  refine HO.out.mono ?_
  clear HO
  rintro e12 w12 ⟨rfl, hb9⟩
  replace own7 := own7.below hb9
  replace k7 := k7.later hb9
  replace p0 := p0.later hb9
  replace hx := hx.up hb9
  replace hb0 := bup hb0 hb9
  clear hb9
  obtain ⟨x0, x1, x2, fx⟩ := octbox k7
  obtain ⟨y0, y1, y2, fy⟩ := octbox p0
  have HO := hid (oct_any o o A7 A c7 c w12 own7.rd hx hm)
  rw [eqO_same] at HO
  go_wp2_with fail
  clear x0 x1 x2 fx y0 y1 y2 fy
  refine HO.out.mono ?_
  clear HO
  rintro e13 w13 ⟨rfl, hb9⟩
  go_wp2
  go_ret
  exact ⟨rfl, bup hb0 hb9⟩
end Go.Proofs.Ytanbplidigokgaa
