/-
  A row of octagons of one's own; an append to it.
  gnomonlaw27: few, small; gnomonhelp.CopyOcts.
  slices.Equal at []int64, dbm.Equal, gnomonref12.Same: what each answers.
  cmp.Compare at int, slices.Compare at []int, dbm.cell.ahead: what each answers.
  '==' and '!=' at dbm.cell.
  dbm.Cells: the contract of the iterator that it hands back.
  thin.without, gnomonref28.open: an octagon without a cell, and the one across.
  Thin octagons as data; an octagon without a cell may be; thin.Oct's closure.
  gnomonref28.open, gnomonref12.First: what they answer.
  gnomonref12.Cells: what it answers.
  thin.Needed, gnomonref28.Needed: what they answer.
  thin.Oct: what it answers.
  gnomonref28.Of, gnomonref28.Oct: what they answer.
  gnomonlaw28.known: it says yes.
  gnomonlaw28: few, ThinExact.
-/
import Derived.Test.YtkncebcekhfnfaaGreatBWE37
import Derived.Test.YtkncebcekhfnfaaGreatBWE09
import Derived.Test.YtkncebcekhfnfaaGreatBWE04
import Derived.Test.YtkncebcekhfnfaaGreatBWE13
import Derived.Test.YtkncebcekhfnfaaGreatRGCheck
import Derived.Test.YtkncebcekhfnfaaGreatBWE23
import Derived.ChangeKeysEq
import Derived.RangeFuncNested
import Derived.RangeFuncBound
import Derived.RangeFuncCalls
import Derived.RangeFuncLeaves
import Derived.Shelf.Abstract
import Derived.Shelf.RegionOpen
import Derived.WalkKit
import Derived.OwnWalkIn
import Derived.TacticsInMore
import Derived.LoopNIn
import Derived.LoopIn
import Derived.Test.YtkncebcekhfnfaaGreatBWE12
import Derived.WalkMore
import Derived.Laws.EntriesVeiled
namespace Go.Proofs.YtkncebcekhfnfaaGreat
section
open Go.RowKit

theorem oct_info : (Tryz.prog.info? 53).map (fun i => (i.zero, i.size, i.bytes)) = some (some (.agg #[.int .i64 0, .bool false, .slice none 0 0]), 3, 40) := by kernel_rfl
/-- A row of octagons of the call's own, each with cells of its own. -/
structure OwnZ (w : World) (base : Nat) (A : Option Addr) (cap : Nat) (zs : List Z) : Prop where
  row : w.ownsRow base 53 3 (.slice A zs.length cap) zs.length (zs.flatMap o3)
  own : ∀ z ∈ zs, Own w base z.2.1 z.2.2 z.1.m
  le : ∀ z ∈ zs, z.1.m.length ≤ 17592186044416
section
variable {w w' : World} {base cap : Nat} {A : Option Addr} {zs : List Z}
theorem OwnZ.nil (w : World) (base : Nat) : OwnZ w base none 0 [] := ⟨World.ownsRow_nil _ _ _ _, fun _ h => absurd h (by simp), fun _ h => absurd h (by simp)⟩
theorem OwnZ.below (h : OwnZ w base A cap zs) (hb : Below w.heap.size w w') : OwnZ w' base A cap zs :=
  ⟨World.ownsRow.kept h.row (grown_of_below hb none) (by cases h' : (Value.slice A zs.length cap).ownBlock <;> simp), fun z hz => (h.own z hz).below hb, h.le⟩
theorem OwnZ.form (h : OwnZ w base A cap zs) : (A = none ∧ zs = [] ∧ cap = 0) ∨ ∃ g cs, A = some ⟨g, 0, none⟩ ∧ base ≤ g ∧ g < w.heap.size ∧ w.heap[g]? = some (.cells cs 53 (0, 0)) := by
  rcases h.row.2 with ⟨h1, h0⟩ | ⟨g, cap', cur, h1, hb, hg, _⟩
  · injection h1 with h1 _ h3
    exact .inl ⟨h1, List.eq_nil_of_length_eq_zero h0, h3⟩
  · injection h1 with h1
    exact .inr ⟨g, cur, h1, hb, (Array.getElem?_eq_some_iff.1 hg).1, hg⟩
theorem OwnZ.rows (h : OwnZ w base A cap zs) : RowZ w A zs := by
  refine ⟨fun k hk => ?_, fun k hk => (h.own _ (List.getElem_mem hk)).rd, fun k hk => h.le _ (List.getElem_mem hk)⟩
  rcases h.form with ⟨_, rfl, _⟩ | ⟨g, cs, rfl, h1, h2, _⟩
  · simp at hk
  · have e := fun r (hr : r < 3) => (World.ownsRow.cellAt (w := w) (xs := zs.flatMap o3) h.row (k * 3 + r) (by omega)).trans (fmS_get o3 3 (fun _ => rfl) zs k r hk hr)
    refine ⟨g, 0, rfl, h2, ?_, ?_, ?_⟩
    · rw [Nat.zero_add]; exact e 0 (by omega)
    · rw [Nat.zero_add]; exact e 1 (by omega)
    · rw [Nat.zero_add]; exact e 2 (by omega)
end
theorem run_append_oct (w : World) (base : Nat) (ty : TypeId) (A : Option Addr) (c : Nat) (zs : List Z) (z : Z) (h : OwnZ w base A c zs) (g : Nat)
    (hk : Blk w g 53 (o3 z).toArray) (hz : Own w base z.2.1 z.2.2 z.1.m) (hzl : z.1.m.length ≤ 17592186044416) (hl : zs.length + 1 ≤ 1000000) (hbase : base ≤ w.heap.size) :
    ∃ A' c' w', (Builtin.append_ #[27, 27] ty #[.slice A zs.length c, .slice (some ⟨g, 0, none⟩) 1 1]).run Tryz.prog w = .ok (.slice A' (zs ++ [z]).length c') w' ∧ OwnZ w' base A' c' (zs ++ [z]) ∧ w.grownBy w' (Value.slice A zs.length c).ownBlock := by
  obtain ⟨i0, hi, hz0, hz1, hz2⟩ := info_parts oct_info
  obtain ⟨v', w', hrun, h2, h3, _, h5⟩ := run_append_own_at (P := Tryz.prog) w base 27 ty _ i0 _ 3 40 Tryz.underlying27 hi hz0 hz1 hz2 rfl (by omega) _ zs.length (zs.flatMap o3) h.row ⟨g, 0, none⟩ 1 1 (o3 z) rfl
    (fun j u hu => by rw [add_mk, Nat.zero_add, hk.cell j]; simpa using hu) (fun u hu => by simp [o3] at hu; rcases hu with rfl | rfl | rfl <;> rfl) (by unfold maxLen; omega) (by omega) hbase
  have hl2 : (zs ++ [z]).length = zs.length + 1 := by simp
  have hf2 : (zs ++ [z]).flatMap o3 = zs.flatMap o3 ++ o3 z := by simp
  have keep : ∀ y : Z, Own w base y.2.1 y.2.2 y.1.m → Own w' base y.2.1 y.2.2 y.1.m := fun y hy => by
    refine hy.grown h3 ?_
    rcases h.form with ⟨rfl, _⟩ | ⟨gr, cs, rfl, _, _, hgr⟩
    · cases h' : (Value.slice y.2.1 y.1.m.length y.2.2).ownBlock <;> simp [Value.ownBlock]
    · rcases hy.form with ⟨e, _⟩ | ⟨gy, e, _⟩
      · rw [e]; exact .inl rfl
      · rw [e]
        rw [e] at hy
        exact .inr (fun e' => own_blk hy (show Blk w gr 53 cs from hgr) (by decide) (by simpa [Value.ownBlock] using e'))
  rcases h2.2 with ⟨_, h0⟩ | ⟨g', cap', cur, rfl, h4⟩
  · omega
  · refine ⟨_, cap', w', by rw [hl2]; exact hrun, ⟨by rw [hf2, hl2]; exact h2, fun y hy => ?_, fun y hy => ?_⟩, h3⟩
    · rcases List.mem_append.1 hy with hy | hy
      · exact keep y (h.own y hy)
      · rw [List.mem_singleton] at hy; subst hy; exact keep y hz
    · rcases List.mem_append.1 hy with hy | hy
      · exact h.le y hy
      · rw [List.mem_singleton] at hy; subst hy; exact hzl
theorem wpList_append_oct {ops : Array Oper} {rest : List Oper} {o : Oper} {a : Act} {Q : Exit → Act → World → Prop} {w : World} (s x : Operand)
    (ho : o.op = .call { callee := .builtin .append, args := #[s, x], argTypes := #[27, 27] }) (hgd : o.guard = none)
    (base : Nat) (A0 : Option Addr) (c0 : Nat) (zs : List Z) (z : Z) (hs : a.eval s = .slice A0 zs.length c0) (hown : OwnZ w base A0 c0 zs) (g : Nat)
    (hx : a.eval x = .slice (some ⟨g, 0, none⟩) 1 1) (hr : Blk w g 53 (o3 z).toArray) (hz : Own w base z.2.1 z.2.2 z.1.m) (hzl : z.1.m.length ≤ 17592186044416) (hl : zs.length + 1 ≤ 1000000) (hbase : base ≤ w.heap.size)
    (h : ∀ A' cap' w', OwnZ w' base A' cap' (zs ++ [z]) → w.grownBy w' (Value.slice A0 zs.length c0).ownBlock → wpList Tryz.prog ops Q rest (a.put o.dst (.slice A' (zs ++ [z]).length cap')) w') :
    wpList Tryz.prog ops Q (o :: rest) a w :=
  wpList_plain hgd fun K hK => by
    obtain ⟨A', c', w', hrun, h2, h3⟩ := run_append_oct w base o.type A0 c0 zs z hown g hr hz hzl hl hbase
    unfold Oper.wp execOp
    simp only [ho, resolve, invoke, builtin, Sem.run_bind, Sem.run_pure, Result.andThen_ok, List.map_toArray, List.map_cons, List.map_nil, hs, hx, hrun]
    exact hK _ _ (h A' c' w' h2 h3)
end
section
open Go.RowKit
attribute [local go_sem ↓] Go.wp_at_zero Go.wp_at_succ

/-- It answers something, and leaves all as it was. -/
def AnyB1 (w : World) (e : Ending) (w' : World) : Prop := ∃ b : Bool, e = .returned (.bool b) ∧ Below w.heap.size w w'
set_option maxRecDepth 8000 in
set_option maxHeartbeats 4000000 in
theorem few27_ok (g : Gr) (V D E : Option Addr) (cv cd ce : Nat) (w : World) (hc : chk g = 0) :
    Calls Tryz.prog 8 #[grV g V D E cv cd ce] w (AnyB1 w) := by
  obtain ⟨ct0, ct1, ca, ces, csz, cz, cr⟩ := chk_parts hc
  have hnv : g.nv ≤ 17592186044416 := by have : g.all = g.nv + g.tm := rfl; omega
  have HAL : Hid (∀ W, Calls Tryz.prog 21 #[.agg #[.slice V g.nv cv, .int .i64 g.tm, .slice D g.sz.length cd, .int .i64 g.pts, .int .i64 g.ex, .slice E g.es.length ce]] W fun e w' => e = .returned (.int .i64 g.all) ∧ Below W.heap.size W w') := hid (fun W => all_any g V D E cv cd ce W ct0 ct1 hnv)
  have n0 := new1 w (.cells #[.slice V g.nv cv, .int .i64 g.tm, .slice D g.sz.length cd, .int .i64 g.pts, .int .i64 g.ex, .slice E g.es.length ce] 26)
  have k0 := Blk.new w 26 #[.slice V g.nv cv, .int .i64 g.tm, .slice D g.sz.length cd, .int .i64 g.pts, .int .i64 g.ex, .slice E g.es.length ce]
  unfold grV
  generalize g.all = ga at *
  clear hc cr ct0 ct1 ca cz hnv
  go_enter Tryz.func8, Tryz.ntmps8
  go_upto_region 1 with fail
  obtain ⟨f0, f1, f2, f3, f4, f5, ff⟩ := blk6 k0
  cases t1 : decide (g.pts ≤ 60)
  · go_wp2
    go_ret
    exact ⟨false, rfl, n0⟩
  · cases t2 : decide ((g.es.length : Int) ≤ 120)
    · go_wp2
      go_ret
      exact ⟨false, rfl, n0⟩
    · go_wp2_with fail
      (with_reducible refine (HAL.out _).mono ?_)
      rintro e1 w1 ⟨rfl, hb1⟩
      replace n0 := bup n0 hb1
      clear f0 f1 f2 f3 f4 f5 ff k0 hb1
      go_wp2
      go_ret
      exact ⟨_, rfl, n0⟩
set_option maxHeartbeats 4000000 in
theorem small27_ok (S : Option Addr) (l sc : Nat) (k : Int) (w : World) :
    Calls Tryz.prog 9 #[.slice S l sc, .int .i64 k] w (AnyB1 w) := by
  go_enter Tryz.func9, Tryz.ntmps9
  cases t1 : decide ((l : Int) ≤ 2000)
  · go_wp2
    go_ret
    exact ⟨_, rfl, Below.refl _ _⟩
  · cases t2 : decide (k ≤ 2000)
    · go_wp2
      go_ret
      exact ⟨_, rfl, Below.refl _ _⟩
    · go_wp2
      go_ret
      exact ⟨_, rfl, Below.refl _ _⟩
/-- Copies of all octagons. -/
def CopiesRes (zs : List Z) (w : World) (e : Ending) (w' : World) : Prop := ∃ A c ys, e = .returned (.slice A ys.length c) ∧ ys.map (·.1) = zs.map (·.1) ∧ OwnZ w' w.heap.size A c ys ∧ Below w.heap.size w w'
set_option maxHeartbeats 8000000 in
theorem copyocts_ok (zs : List Z) (A : Option Addr) (c : Nat) (w : World) (hz : RowZ w A zs) (hl : zs.length ≤ 100000) :
    Calls Tryz.prog 10 #[.slice A zs.length c] w (CopiesRes zs w) := by
  go_enter Tryz.func10, Tryz.ntmps10
  go_wp2
  go_loopw [3, 4] (fun s t wr => ∃ (k : Nat) (A' : Option Addr) (c' : Nat) (ys : List Z), k ≤ zs.length ∧ s = .slice A' ys.length c' ∧ t = .int .i64 k ∧ ys.length = k ∧ ys.map (·.1) = (zs.take k).map (·.1) ∧ OwnZ wr w.heap.size A' c' ys ∧ Below w.heap.size w wr) (fun _ t _ => zs.length - (Go.RowKit.intOf t).toNat)
  case atStart => exact ⟨0, none, 0, [], by omega, rfl, rfl, rfl, rfl, OwnZ.nil _ _, Below.refl _ _⟩
  case round =>
    obtain ⟨k, A', c', ys, hk, rfl, rfl, hyl, hy, own, hb⟩ := hrel
    by_cases hlt : k < zs.length
    · have hlt' : (k : Int) < (zs.length : Int) := by omega
      have hzr := hz.up hb
      obtain ⟨b, off, rfl, hB, c0, c1, c2⟩ := hzr.at_ k hlt
      have hrd := hzr.rd k hlt
      have hle := hzr.le k hlt
      have HY : Hid (∀ q : Z, q.1 = zs[k].1 → (ys ++ [q]).map (·.1) = (zs.take (k + 1)).map (·.1)) := hid fun q e => by
        rw [List.map_append, hy, List.take_succ_eq_append_getElem hlt, List.map_append, List.map_cons, List.map_nil, e]; rfl
      obtain ⟨z, hzk⟩ : ∃ z, zs[k] = z := ⟨_, rfl⟩
      rw [hzk] at c0 c1 c2 hrd hle HY
      have HC := hid (copyoct_any z.1.n z.1.e z.1.m z.2.1 z.2.2 wr hrd hle)
      have HYL := hid hyl
      have HOW := hid own
      have HB := hid hb
      clear hzr hzk hrd hy hyl own hb
      go_wp2_with fail
      (with_reducible refine HC.out.mono ?_)
      clear HC c0 c1 c2
      rintro e1 w1 ⟨A1, cap1, rfl, own1, hb1⟩
      have hs1 := hb1.size
      have own2 := HOW.out.below hb1
      have hbw := HB.out.trans (hb1.mono HB.out.size)
      have n8 := new1 w1 (.cells #[.int .i64 z.1.n, .bool z.1.e, .slice A1 z.1.m.length cap1] 53)
      have k8 := Blk.new w1 53 #[.int .i64 z.1.n, .bool z.1.e, .slice A1 z.1.m.length cap1]
      have own3 := own2.below n8
      have own4 := (own1.less (b2 := w.heap.size) HB.out.size).below n8
      have hbx := hbw.trans (n8.mono hbw.size)
      have hsx := hbx.size
      have hyk : ys.length + 1 ≤ 1000000 := by have := HYL.out; omega
      clear hb1 own2 n8 hbw own1
      go_wp2_with (at_builtin; go_loud (refine wpList_append_oct _ _ rfl rfl w.heap.size A' c' ys (z.1, A1, cap1) rfl own3 w1.heap.size rfl k8 own4 hle hyk hsx ?_); intro A2 cap2 w2 own5 hg5)
      have hb5 : Below w.heap.size _ w2 := below_grown hg5 (fun kk hkk => by
        rcases own3.form with ⟨rfl, _⟩ | ⟨g', cs, rfl, h1, h2, h3⟩
        · simp [Value.ownBlock] at hkk
        · simp [Value.ownBlock] at hkk; subst hkk; exact h1) hsx
      go_roundw
      case rel => exact ⟨k + 1, A2, cap2, ys ++ [(z.1, A1, cap1)], by omega, by rw [List.length_append, List.length_singleton], by go_num, by rw [List.length_append, List.length_singleton, HYL.out], HY.out _ rfl, own5, hbx.trans hb5⟩
      case measure => simp [Go.RowKit.intOf]; omega
    · obtain rfl : k = zs.length := by omega
      rw [List.take_length] at hy
      have HY := hid hy
      clear hy hyl
      go_wp2
      go_ret
      exact ⟨A', c', ys, rfl, HY.out, own, hb⟩
end
section
open Go.RowKit
attribute [local go_sem ↓] Go.wp_at_zero Go.wp_at_succ

def SomeB (b : Bool) (w : World) (e : Ending) (w' : World) : Prop := e = .returned (.bool b) ∧ Below w.heap.size w w'
end
section

end
section
open Go.RowKit

theorem int_info : (Tryz.prog.info? 3).map (fun i => (i.zero, i.size, i.bytes)) = some (some (.int .i64 0), 1, 8) := by kernel_rfl
theorem cells_int : Tryz.prog.cellsOf 3 = 1 := by kernel_rfl
theorem isagg_int (w : World) : (isAgg 3).run Tryz.prog w = .ok false w := by kernel_rfl
theorem run_equalIn_int (d : Nat) (a c : Int) (w : World) : (Op.equalIn (d + 1) 3 (.int .i64 a) (.int .i64 c)).run Tryz.prog w = .ok (a == c) w := by
  simp [Op.equalIn, run_underlying Tryz.underlying3]
theorem run_eq99 (a c : Int) (w : World) : (Op.equalIn 9999 3 (.int .i64 a) (.int .i64 c)).run Tryz.prog w = .ok (a == c) w := run_equalIn_int 9998 a c w
theorem part0 (x y : Value) (w : World) : (Go.part 3 #[x, y] 0).run Tryz.prog w = .ok x w := by simp [Go.part]
theorem part1 (x y : Value) (w : World) : (Go.part 3 #[x, y] 1).run Tryz.prog w = .ok y w := by simp [Go.part]
theorem run_equal_cell (a b c d : Int) (w : World) : (Op.equal 107 (.agg #[.int .i64 a, .int .i64 b]) (.agg #[.int .i64 c, .int .i64 d])).run Tryz.prog w = .ok (a == c && b == d) w := by
  obtain ⟨i0, hi, _⟩ := info_parts int_info
  refine (run_equalIn_array w 9999 _ _ Tryz.underlying107 hi).trans ?_
  rw [cells_int]
  rw [show List.range 2 = [0, 1] from rfl]
  simp only [Op.eqItems, Sem.run_bind, Nat.mul_one, part0, Result.andThen_ok, run_eq99]
  cases h : (a == c) <;> cases h2 : (b == d) <;> simp [part1, run_eq99, h2]
theorem run_neq_cell (a b c d : Int) (w : World) : (binOp .neq 107 (.agg #[.int .i64 a, .int .i64 b]) (.agg #[.int .i64 c, .int .i64 d])).run Tryz.prog w = .ok (.bool (!(a == c && b == d))) w := by
  simp only [binOp]
  simp [run_equal_cell]
theorem run_equalIn_cell2 (a b c d : Int) (w : World) : (Op.equalIn 10000 107 (.agg #[.int .i64 a, .int .i64 b]) (.agg #[.int .i64 c, .int .i64 d])).run Tryz.prog w = .ok (a == c && b == d) w := run_equal_cell a b c d w
end
section
open Go.RowKit
attribute [local go_sem] Oper.semAt_some
attribute [local go_sem ↓] Go.wp_at_zero Go.wp_at_succ

/-- A cell off the diagonal. -/
abbrev Cel (N : Nat) := { q : Nat × Nat // q.1 < N ∧ q.2 < N ∧ q.1 ≠ q.2 }
attribute [local go_sem] run_neq_cell run_equalIn_cell2
end
section

end
section

end
section

end
section
open Go.RowKit
attribute [local go_sem ↓] Go.wp_at_zero Go.wp_at_succ

/-- A cell as gnomonref12.Cells tells it. -/
def c3 (N : Nat) (m : List Int) (x : Cel N) : List Value := [.int .i64 (x.1.1 : Int), .int .i64 (x.1.2 : Int), .int .i64 (gI m ((x.1.1 * N + x.1.2 : Nat) : Int))]
end
section

end
section

end
section

end
section
open Go.RowKit
attribute [local go_sem ↓] Go.wp_at_zero Go.wp_at_succ

theorem eqO_same (o : O) : eqO o o = true := by unfold eqO; simp
end
section

end
end Go.Proofs.YtkncebcekhfnfaaGreat
