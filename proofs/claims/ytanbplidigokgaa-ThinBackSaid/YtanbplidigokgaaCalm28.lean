/-
  gnomonref13.Close, gnomonlaw28.calm, of octagons that may be; the iterator of dbm.Cells at an empty octagon.
-/
import Derived.Test.YtanbplidigokgaaLawTE
import Derived.Test.YtanbplidigokgaaMono
namespace Go.Proofs.Ytanbplidigokgaa
open Go.RowKit
attribute [local go_sem] Oper.semAt_some
attribute [local go_sem ↓] Go.wp_at_zero Go.wp_at_succ

def R13Res (w : World) (o : O) (e : Ending) (w' : World) : Prop := ∃ A1 c1 s, e = .returned (.tuple #[.agg #[.int .i64 o.n, .bool o.e, .slice A1 o.m.length c1], .bool s, .int .i64 0]) ∧ Own w' w.heap.size A1 c1 o.m ∧ Below w.heap.size w w'
set_option maxHeartbeats 2000000 in
theorem r13close_ok (o : O) (A : Option Addr) (c : Nat) (w : World) (hx : Rd w w.heap.size A o.m) (hm : o.m.length ≤ 17592186044416) (hk : check o = 0) :
    Calls Try.prog 63 #[.agg #[.int .i64 o.n, .bool o.e, .slice A o.m.length c]] w (R13Res w (closeO o)) := by
  have hb0 : Below w.heap.size w ((w.alloc (Obj.cells #[.int .i64 o.n, .bool o.e, .slice A o.m.length c] 24)).alloc (Obj.cells #[.int .i64 0, .bool false, .slice none 0 0] 24)) := ((Below.refl _ _).alloc (Nat.le_refl _) _).alloc (by simp) _
  obtain ⟨p0, p1⟩ := blk_two (w := w) (Below.refl _ ((w.alloc (Obj.cells #[.int .i64 o.n, .bool o.e, .slice A o.m.length c] 24)).alloc (Obj.cells #[.int .i64 0, .bool false, .slice none 0 0] 24)))
  have HC := hid (rcheck_any o A c _ (hx.up hb0) (by omega))
  have HK := hid hk
  have hx0 := hx.up hb0
  have hle := hb0.size
  clear hk
  go_enter Try.func63, Try.ntmps63
  go_wp2_with fail
  refine HC.out.mono ?_
  clear HC
  rw [HK.out]
  generalize (w.alloc (Obj.cells #[.int .i64 o.n, .bool o.e, .slice A o.m.length c] 24)).alloc (Obj.cells #[.int .i64 0, .bool false, .slice none 0 0] 24) = w0 at *
  rintro e1 w1 ⟨rfl, hb1⟩
  replace p0 := p0.later hb1
  replace p1 := p1.later hb1
  replace hb0 := bup hb0 hb1
  have HR := hid (r13_any o A c w1 (hx0.up hb1) hm HK.out)
  generalize closeO o = q at *
  obtain ⟨qn, qe, qm⟩ := q
  dsimp only at *
  have hw1 := hb1.size
  clear hb1
  obtain ⟨x0, x1, x2, fx⟩ := octbox p0
  go_wp2_with fail
  clear x0 x1 x2 fx
  refine HR.out.mono ?_
  clear HR
  rintro e2 w2 ⟨A2, c2, s2, rfl, own2, hb2⟩
  dsimp only at own2 ⊢
  have n3 := new1 w2 (Obj.cells #[.int .i64 qn, .bool qe, .slice A2 qm.length c2] 24)
  have k3 := Blk.new w2 24 #[.int .i64 qn, .bool qe, .slice A2 qm.length c2]
  replace own2 := own2.below n3
  replace p1 := p1.later (bup hb2 n3)
  replace hb0 := bup hb0 (bup hb2 n3)
  obtain ⟨x0, x1, x2, fx⟩ := octbox k3
  obtain ⟨y0, y1, y2, fy⟩ := octbox p1
  go_wp2
  clear x0 x1 x2 fx y0 y1 y2 fy
  have q3 := p1.set3 (v0 := .int .i64 qn) (v1 := .bool qe) (v2 := .slice A2 qm.length c2)
  have hne := own_blk' own2 p1 (by decide)
  have o3 := own2.far3 (g := w.heap.size + 1) (v0 := .int .i64 qn) (v1 := .bool qe) (v2 := .slice A2 qm.length c2) hne
  obtain ⟨z0, z1, z2, fz⟩ := octbox q3
  refine bodyPost_ret (v := .tuple #[.agg #[.int .i64 qn, .bool qe, .slice A2 qm.length c2], .bool s2, .int .i64 0]) (by simp [results, Try.results63, go_sem, z0, z1, z2]) rfl ⟨A2, c2, s2, rfl, o3.less (by omega), hb0.trans (below3 (by omega) hb0.size)⟩

set_option maxHeartbeats 2000000 in
theorem calm28_ok (o : O) (A : Option Addr) (c : Nat) (w : World) (hx : Rd w w.heap.size A o.m) (hm : o.m.length ≤ 17592186044416) (hk : check o = 0) :
    Calls Try.prog 28 #[.agg #[.int .i64 o.n, .bool o.e, .slice A o.m.length c]] w (SomeB (eqO (closeO o) (closeO (closeO o))) w) := by
  have hb0 := new1 w (Obj.cells #[.int .i64 o.n, .bool o.e, .slice A o.m.length c] 24)
  have p0 := Blk.new w 24 #[.int .i64 o.n, .bool o.e, .slice A o.m.length c]
  have HC := hid (r13close_ok o A c _ (hx.up hb0) hm hk)
  have HKC := hid (closeO_check hk)
  have HQ := hid (Nat.le_trans (closeO_m_le (o := o)) hm)
  clear hk
  go_enter Try.func28, Try.ntmps28
  go_wp2_with fail
  refine HC.out.mono ?_
  clear HC
  generalize w.alloc (Obj.cells #[.int .i64 o.n, .bool o.e, .slice A o.m.length c] 24) = w0 at *
  generalize closeO o = q at *
  rintro e1 w1 ⟨A1, c1, s1, rfl, own1, hb1⟩
  have n2 := new1 w1 (Obj.cells #[.int .i64 q.n, .bool q.e, .slice A1 q.m.length c1] 24)
  have k2 := Blk.new w1 24 #[.int .i64 q.n, .bool q.e, .slice A1 q.m.length c1]
  replace own1 := own1.below n2
  replace hb0 := bup (bup hb0 hb1) n2
  clear hb1 n2
  have HR := hid (r13close_ok q A1 c1 _ own1.rd HQ.out HKC.out)
  have HZ := hid (Nat.le_trans (closeO_m_le (o := q)) HQ.out)
  obtain ⟨x0, x1, x2, fx⟩ := octbox k2
  go_wp2_with fail
  clear x0 x1 x2 fx
  refine HR.out.mono ?_
  clear HR
  generalize w1.alloc (Obj.cells #[.int .i64 q.n, .bool q.e, .slice A1 q.m.length c1] 24) = w2 at *
  generalize w1.heap.size = g2 at *
  generalize closeO q = z at *
  rintro e3 w3 ⟨A3, c3', s3, rfl, own3, hb3⟩
  have n4 := new1 w3 (Obj.cells #[.int .i64 z.n, .bool z.e, .slice A3 z.m.length c3'] 24)
  have k4 := Blk.new w3 24 #[.int .i64 z.n, .bool z.e, .slice A3 z.m.length c3']
  replace own3 := own3.below n4
  replace own1 := (own1.below hb3).below n4
  replace k2 := (k2.later hb3).later n4
  replace hb0 := bup (bup hb0 hb3) n4
  clear hb3 n4
  obtain ⟨x0, x1, x2, fx⟩ := octbox k2
  obtain ⟨y0, y1, y2, fy⟩ := octbox k4
  have HS := hid (rsame_any q z A1 A3 c1 c3' _ own1.rd own3.rd HQ.out HZ.out)
  go_wp2_with fail
  clear x0 x1 x2 fx y0 y1 y2 fy
  refine HS.out.mono ?_
  generalize eqO q z = b at *
  clear HS
  rintro e6 w6 ⟨rfl, hb6⟩
  go_wp2
  go_ret
  exact ⟨rfl, bup hb0 hb6⟩

set_option maxHeartbeats 2000000 in
theorem dcells_none (nn l gb : Nat) (n : Int) (m : List Int) (A : Option Addr) (c : Nat) (W : World) (hm : m.length ≤ 17592186044416)
    (hb : Blk W gb 24 #[.int .i64 n, .bool true, .slice A m.length c]) (hr : Rd W W.heap.size A m) :
    CallsIn (wideAt none) nn Try.prog 71 #[.func (.yield l) #[] #[], .pointer (some ⟨gb, 0, none⟩)] W fun e W' => (∃ v, e = .returned v) ∧ Below W.heap.size W W' := by
  obtain ⟨x0, x1, x2, fx⟩ := octbox hb
  have HC := hid (check_any ⟨n, true, m⟩ A c W hr (by dsimp only; omega))
  dsimp only at HC
  refine callsIn_at ?_
  go_enter Try.func71, Try.ntmps71
  go_wp2_with fail
  refine HC.out.mono ?_
  clear HC
  rintro e1 w1 ⟨rfl, hb1⟩
  generalize check ⟨n, true, m⟩ = er at *
  replace hb := hb.later hb1
  clear x0 x1 x2 fx
  obtain ⟨x0, x1, x2, fx⟩ := octbox hb
  cases t2 : (er != 0)
  · go_wp2
    exact bodyPost_ret (results_none rfl _ _ _) rfl ⟨⟨_, rfl⟩, hb1⟩
  · go_wp2
    exact bodyPost_ret (results_none rfl _ _ _) rfl ⟨⟨_, rfl⟩, hb1⟩

/-- The cells that dbm.Cells tells. -/
def cellsT (N : Nat) (e : Bool) (m : List Int) : List (Cel N) := if e then [] else matC N m N
theorem cellsT_len (N : Nat) (e : Bool) (m : List Int) : (cellsT N e m).length ≤ N * N := by
  unfold cellsT
  split
  · simp
  · exact matC_len N m N
theorem cells_stops (nn gb : Nat) (n : Int) (e : Bool) (m : List Int) (N : Nat) (A : Option Addr) (c : Nat) (p : Nat → Prop) (hpb : p gb) (hpA : ∀ a, A = some a → p a.block)
    (hN : (N : Int) = 2 * n) (hn : N ≤ 128) (hm : m.length ≤ 17592186044416) (hk : check ⟨n, e, m⟩ = 0) (w : World)
    (hb : Blk w gb 24 #[.int .i64 n, .bool e, .slice A m.length c]) (hr : Rd w w.heap.size A m) :
    SeqStopsK (wideAt none) nn Try.prog 71 #[.pointer (some ⟨gb, 0, none⟩)] (encC N m) (Same p) (fun xs => xs = cellsT N e m) (fun pre => pre <+: cellsT N e m) (N * N + 1) w := by
  cases e
  · exact dcells_stops nn gb n m N A c p hpb hpA hN hn (cells_of hN hk).len hm hk w hb hr
  · intro l J Jx W hW hJ hJx hY h0
    refine (dcells_none nn l gb n m A c W hm (hb.later hW) (hr.up hW)).mono ?_
    rintro ee W' ⟨hv, hbw⟩
    exact ⟨hv, .inl ⟨[], rfl, hJ [] W W' none h0 (grown_of_below hbw none) (fun r e => by cases e)⟩⟩
end Go.Proofs.Ytanbplidigokgaa
