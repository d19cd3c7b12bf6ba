/-
  A row of octagons of one's own; an append to it.
  gnomonlaw27: few, small; gnomonhelp.CopyOcts.
  slices.Equal at []int64, dbm.Equal, gnomonref12.Same: what each answers.
  cmp.Compare at int, slices.Compare at []int, dbm.cell.ahead: what each answers.
  '==' and '!=' at dbm.cell.
  dbm.Cells: the contract of the iterator that it hands back.
  thin.without, gnomonref28.open: an octagon without a cell, and the one across.
  Thin octagons as data; an octagon without a cell may be; thin.Oct's closure.
  gnomonref28.open, gnomonref12.First: what they answer.
  gnomonref12.Cells: what it answers.
  thin.Needed, gnomonref28.Needed: what they answer.
  thin.Oct: what it answers.
  gnomonref28.Of, gnomonref28.Oct: what they answer.
  gnomonlaw28.known: it says yes.
  gnomonlaw28: few, ThinExact.
  Rows of octagons as lists; gnomonhelp.Octs at two rows of the same octagons.
  From the row to the walk: an octagon, a slice of int64 as they come in; the row's end 'true, and the input reads as it did'.
-/
import Derived.Test.YtkncebcekhfnfaaGreatBWT35
import Derived.Test.YtkncebcekhfnfaaGreatBWT12
import Derived.Test.YtkncebcekhfnfaaGreatBWT08
import Derived.Test.YtkncebcekhfnfaaGreatBWT03
import Derived.Test.YtkncebcekhfnfaaGreatBWT16
import Derived.Test.YtkncebcekhfnfaaGreatBWT22
import Derived.Test.YtkncebcekhfnfaaGreatBWT24
import Derived.Test.YtkncebcekhfnfaaGreatBWT10
import Derived.ChangeKeysEq
import Derived.RangeFuncNested
import Derived.RangeFuncBound
import Derived.RangeFuncCalls
import Derived.RangeFuncLeaves
import Derived.Shelf.Abstract
import Derived.Shelf.RegionOpen
import Derived.WalkKit
import Derived.OwnWalkIn
import Derived.TacticsInMore
import Derived.LoopNIn
import Derived.LoopIn
import Derived.Test.YtkncebcekhfnfaaGreatBWT15
import Derived.Test.YtkncebcekhfnfaaGreatBWT11
import Derived.WalkMore
import Derived.Laws.EntriesVeiled
import Derived.Test.YtkncebcekhfnfaaGreatBWT38
import Derived.Test.YtkncebcekhfnfaaGreatBWT02
import Derived.ProofKit
import Derived.SizedLaws
import Derived.Lib.SmallJoins
namespace Go.Proofs.YtkncebcekhfnfaaGreat
section
open Go.RowKit

theorem oct_info : (Tryz.prog.info? 53).map (fun i => (i.zero, i.size, i.bytes)) = some (some (.agg #[.int .i64 0, .bool false, .slice none 0 0]), 3, 40) := by kernel_rfl
/-- A row of octagons of the call's own, each with cells of its own. -/
structure OwnZ (w : World) (base : Nat) (A : Option Addr) (cap : Nat) (zs : List Z) : Prop where
  row : w.ownsRow base 53 3 (.slice A zs.length cap) zs.length (zs.flatMap o3)
  own : ∀ z ∈ zs, Own w base z.2.1 z.2.2 z.1.m
  le : ∀ z ∈ zs, z.1.m.length ≤ 17592186044416
section
variable {w w' : World} {base cap : Nat} {A : Option Addr} {zs : List Z}
theorem OwnZ.nil (w : World) (base : Nat) : OwnZ w base none 0 [] := ⟨World.ownsRow_nil _ _ _ _, fun _ h => absurd h (by simp), fun _ h => absurd h (by simp)⟩
theorem OwnZ.below (h : OwnZ w base A cap zs) (hb : Below w.heap.size w w') : OwnZ w' base A cap zs :=
  ⟨World.ownsRow.kept h.row (grown_of_below hb none) (by cases h' : (Value.slice A zs.length cap).ownBlock <;> simp), fun z hz => (h.own z hz).below hb, h.le⟩
theorem OwnZ.form (h : OwnZ w base A cap zs) : (A = none ∧ zs = [] ∧ cap = 0) ∨ ∃ g cs, A = some ⟨g, 0, none⟩ ∧ base ≤ g ∧ g < w.heap.size ∧ w.heap[g]? = some (.cells cs 53 (0, 0)) := by
  rcases h.row.2 with ⟨h1, h0⟩ | ⟨g, cap', cur, h1, hb, hg, _⟩
  · injection h1 with h1 _ h3
    exact .inl ⟨h1, List.eq_nil_of_length_eq_zero h0, h3⟩
  · injection h1 with h1
    exact .inr ⟨g, cur, h1, hb, (Array.getElem?_eq_some_iff.1 hg).1, hg⟩
theorem OwnZ.setFar (h : OwnZ w base A cap zs) {p : Addr} (hp : p.block < base) (u : Value) : OwnZ (w.setCell p u) base A cap zs :=
  ⟨World.ownsRow.kept h.row (grown_setCell w p u) (by
    rcases h.form with ⟨rfl, _⟩ | ⟨g, cs, rfl, h1, _⟩
    · exact .inl rfl
    · exact .inr (fun e => by simp [Value.ownBlock] at e; omega)), fun z hz => (h.own z hz).setFar hp u, h.le⟩
theorem OwnZ.rows (h : OwnZ w base A cap zs) : RowZ w A zs := by
  refine ⟨fun k hk => ?_, fun k hk => (h.own _ (List.getElem_mem hk)).rd, fun k hk => h.le _ (List.getElem_mem hk)⟩
  rcases h.form with ⟨_, rfl, _⟩ | ⟨g, cs, rfl, h1, h2, _⟩
  · simp at hk
  · have e := fun r (hr : r < 3) => (World.ownsRow.cellAt (w := w) (xs := zs.flatMap o3) h.row (k * 3 + r) (by omega)).trans (fmS_get o3 3 (fun _ => rfl) zs k r hk hr)
    refine ⟨g, 0, rfl, h2, ?_, ?_, ?_⟩
    · rw [Nat.zero_add]; exact e 0 (by omega)
    · rw [Nat.zero_add]; exact e 1 (by omega)
    · rw [Nat.zero_add]; exact e 2 (by omega)
end
theorem run_append_oct (w : World) (base : Nat) (ty : TypeId) (A : Option Addr) (c : Nat) (zs : List Z) (z : Z) (h : OwnZ w base A c zs) (g : Nat)
    (hk : Blk w g 53 (o3 z).toArray) (hz : Own w base z.2.1 z.2.2 z.1.m) (hzl : z.1.m.length ≤ 17592186044416) (hl : zs.length + 1 ≤ 1000000) (hbase : base ≤ w.heap.size) :
    ∃ A' c' w', (Builtin.append_ #[27, 27] ty #[.slice A zs.length c, .slice (some ⟨g, 0, none⟩) 1 1]).run Tryz.prog w = .ok (.slice A' (zs ++ [z]).length c') w' ∧ OwnZ w' base A' c' (zs ++ [z]) ∧ w.grownBy w' (Value.slice A zs.length c).ownBlock := by
  obtain ⟨i0, hi, hz0, hz1, hz2⟩ := info_parts oct_info
  obtain ⟨v', w', hrun, h2, h3, _, h5⟩ := run_append_own_at (P := Tryz.prog) w base 27 ty _ i0 _ 3 40 Tryz.underlying27 hi hz0 hz1 hz2 rfl (by omega) _ zs.length (zs.flatMap o3) h.row ⟨g, 0, none⟩ 1 1 (o3 z) rfl
    (fun j u hu => by rw [add_mk, Nat.zero_add, hk.cell j]; simpa using hu) (fun u hu => by simp [o3] at hu; rcases hu with rfl | rfl | rfl <;> rfl) (by unfold maxLen; omega) (by omega) hbase
  have hl2 : (zs ++ [z]).length = zs.length + 1 := by simp
  have hf2 : (zs ++ [z]).flatMap o3 = zs.flatMap o3 ++ o3 z := by simp
  have keep : ∀ y : Z, Own w base y.2.1 y.2.2 y.1.m → Own w' base y.2.1 y.2.2 y.1.m := fun y hy => by
    refine hy.grown h3 ?_
    rcases h.form with ⟨rfl, _⟩ | ⟨gr, cs, rfl, _, _, hgr⟩
    · cases h' : (Value.slice y.2.1 y.1.m.length y.2.2).ownBlock <;> simp [Value.ownBlock]
    · rcases hy.form with ⟨e, _⟩ | ⟨gy, e, _⟩
      · rw [e]; exact .inl rfl
      · rw [e]
        rw [e] at hy
        exact .inr (fun e' => own_blk hy (show Blk w gr 53 cs from hgr) (by decide) (by simpa [Value.ownBlock] using e'))
  rcases h2.2 with ⟨_, h0⟩ | ⟨g', cap', cur, rfl, h4⟩
  · omega
  · refine ⟨_, cap', w', by rw [hl2]; exact hrun, ⟨by rw [hf2, hl2]; exact h2, fun y hy => ?_, fun y hy => ?_⟩, h3⟩
    · rcases List.mem_append.1 hy with hy | hy
      · exact keep y (h.own y hy)
      · rw [List.mem_singleton] at hy; subst hy; exact keep y hz
    · rcases List.mem_append.1 hy with hy | hy
      · exact h.le y hy
      · rw [List.mem_singleton] at hy; subst hy; exact hzl
theorem wpList_append_oct {ops : Array Oper} {rest : List Oper} {o : Oper} {a : Act} {Q : Exit → Act → World → Prop} {w : World} (s x : Operand)
    (ho : o.op = .call { callee := .builtin .append, args := #[s, x], argTypes := #[27, 27] }) (hgd : o.guard = none)
    (base : Nat) (A0 : Option Addr) (c0 : Nat) (zs : List Z) (z : Z) (hs : a.eval s = .slice A0 zs.length c0) (hown : OwnZ w base A0 c0 zs) (g : Nat)
    (hx : a.eval x = .slice (some ⟨g, 0, none⟩) 1 1) (hr : Blk w g 53 (o3 z).toArray) (hz : Own w base z.2.1 z.2.2 z.1.m) (hzl : z.1.m.length ≤ 17592186044416) (hl : zs.length + 1 ≤ 1000000) (hbase : base ≤ w.heap.size)
    (h : ∀ A' cap' w', OwnZ w' base A' cap' (zs ++ [z]) → w.grownBy w' (Value.slice A0 zs.length c0).ownBlock → wpList Tryz.prog ops Q rest (a.put o.dst (.slice A' (zs ++ [z]).length cap')) w') :
    wpList Tryz.prog ops Q (o :: rest) a w :=
  wpList_plain hgd fun K hK => by
    obtain ⟨A', c', w', hrun, h2, h3⟩ := run_append_oct w base o.type A0 c0 zs z hown g hr hz hzl hl hbase
    unfold Oper.wp execOp
    simp only [ho, resolve, invoke, builtin, Sem.run_bind, Sem.run_pure, Result.andThen_ok, List.map_toArray, List.map_cons, List.map_nil, hs, hx, hrun]
    exact hK _ _ (h A' c' w' h2 h3)
end
section
open Go.RowKit
attribute [local go_sem ↓] Go.wp_at_zero Go.wp_at_succ

/-- It answers something, and leaves all as it was. -/
def AnyB1 (w : World) (e : Ending) (w' : World) : Prop := ∃ b : Bool, e = .returned (.bool b) ∧ Below w.heap.size w w'
set_option maxRecDepth 8000 in
set_option maxHeartbeats 4000000 in
theorem few27_ok (g : Gr) (V D E : Option Addr) (cv cd ce : Nat) (w : World) (hc : chk g = 0) :
    Calls Tryz.prog 8 #[grV g V D E cv cd ce] w (AnyB1 w) := by
  obtain ⟨ct0, ct1, ca, ces, csz, cz, cr⟩ := chk_parts hc
  have hnv : g.nv ≤ 17592186044416 := by have : g.all = g.nv + g.tm := rfl; omega
  have HAL : Hid (∀ W, Calls Tryz.prog 21 #[.agg #[.slice V g.nv cv, .int .i64 g.tm, .slice D g.sz.length cd, .int .i64 g.pts, .int .i64 g.ex, .slice E g.es.length ce]] W fun e w' => e = .returned (.int .i64 g.all) ∧ Below W.heap.size W w') := hid (fun W => all_any g V D E cv cd ce W ct0 ct1 hnv)
  have n0 := new1 w (.cells #[.slice V g.nv cv, .int .i64 g.tm, .slice D g.sz.length cd, .int .i64 g.pts, .int .i64 g.ex, .slice E g.es.length ce] 26)
  have k0 := Blk.new w 26 #[.slice V g.nv cv, .int .i64 g.tm, .slice D g.sz.length cd, .int .i64 g.pts, .int .i64 g.ex, .slice E g.es.length ce]
  unfold grV
  generalize g.all = ga at *
  clear hc cr ct0 ct1 ca cz hnv
  go_enter Tryz.func8, Tryz.ntmps8
  go_upto_region 1 with fail
  obtain ⟨f0, f1, f2, f3, f4, f5, ff⟩ := blk6 k0
  cases t1 : decide (g.pts ≤ 60)
  · go_wp2
    go_ret
    exact ⟨false, rfl, n0⟩
  · cases t2 : decide ((g.es.length : Int) ≤ 120)
    · go_wp2
      go_ret
      exact ⟨false, rfl, n0⟩
    · go_wp2_with fail
      (with_reducible refine (HAL.out _).mono ?_)
      rintro e1 w1 ⟨rfl, hb1⟩
      replace n0 := bup n0 hb1
      clear f0 f1 f2 f3 f4 f5 ff k0 hb1
      go_wp2
      go_ret
      exact ⟨_, rfl, n0⟩
set_option maxHeartbeats 4000000 in
theorem small27_ok (S : Option Addr) (l sc : Nat) (k : Int) (w : World) :
    Calls Tryz.prog 9 #[.slice S l sc, .int .i64 k] w (AnyB1 w) := by
  go_enter Tryz.func9, Tryz.ntmps9
  cases t1 : decide ((l : Int) ≤ 2000)
  · go_wp2
    go_ret
    exact ⟨_, rfl, Below.refl _ _⟩
  · cases t2 : decide (k ≤ 2000)
    · go_wp2
      go_ret
      exact ⟨_, rfl, Below.refl _ _⟩
    · go_wp2
      go_ret
      exact ⟨_, rfl, Below.refl _ _⟩
end
section

end
section

end
section
open Go.RowKit

theorem int_infoC : (Tryz.prog.info? 3).map (fun i => (i.zero, i.size, i.bytes)) = some (some (.int .i64 0), 1, 8) := by kernel_rfl
theorem cells_intC : Tryz.prog.cellsOf 3 = 1 := by kernel_rfl
theorem isagg_int (w : World) : (isAgg 3).run Tryz.prog w = .ok false w := by kernel_rfl
theorem run_equalIn_int (d : Nat) (a c : Int) (w : World) : (Op.equalIn (d + 1) 3 (.int .i64 a) (.int .i64 c)).run Tryz.prog w = .ok (a == c) w := by
  simp [Op.equalIn, run_underlying Tryz.underlying3]
theorem run_eq99 (a c : Int) (w : World) : (Op.equalIn 9999 3 (.int .i64 a) (.int .i64 c)).run Tryz.prog w = .ok (a == c) w := run_equalIn_int 9998 a c w
theorem part0 (x y : Value) (w : World) : (Go.part 3 #[x, y] 0).run Tryz.prog w = .ok x w := by simp [Go.part]
theorem part1 (x y : Value) (w : World) : (Go.part 3 #[x, y] 1).run Tryz.prog w = .ok y w := by simp [Go.part]
theorem run_equal_cell (a b c d : Int) (w : World) : (Op.equal 107 (.agg #[.int .i64 a, .int .i64 b]) (.agg #[.int .i64 c, .int .i64 d])).run Tryz.prog w = .ok (a == c && b == d) w := by
  obtain ⟨i0, hi, _⟩ := info_parts int_infoC
  refine (run_equalIn_array w 9999 _ _ Tryz.underlying107 hi).trans ?_
  rw [cells_intC]
  rw [show List.range 2 = [0, 1] from rfl]
  simp only [Op.eqItems, Sem.run_bind, Nat.mul_one, part0, Result.andThen_ok, run_eq99]
  cases h : (a == c) <;> cases h2 : (b == d) <;> simp [part1, run_eq99, h2]
theorem run_neq_cell (a b c d : Int) (w : World) : (binOp .neq 107 (.agg #[.int .i64 a, .int .i64 b]) (.agg #[.int .i64 c, .int .i64 d])).run Tryz.prog w = .ok (.bool (!(a == c && b == d))) w := by
  simp only [binOp]
  simp [run_equal_cell]
theorem run_equalIn_cell2 (a b c d : Int) (w : World) : (Op.equalIn 10000 107 (.agg #[.int .i64 a, .int .i64 b]) (.agg #[.int .i64 c, .int .i64 d])).run Tryz.prog w = .ok (a == c && b == d) w := run_equal_cell a b c d w
end
section
open Go.RowKit
attribute [local go_sem] Oper.semAt_some
attribute [local go_sem ↓] Go.wp_at_zero Go.wp_at_succ

/-- A cell off the diagonal. -/
abbrev Cel (N : Nat) := { q : Nat × Nat // q.1 < N ∧ q.2 < N ∧ q.1 ≠ q.2 }
attribute [local go_sem] run_neq_cell run_equalIn_cell2
end
section

end
section

end
section

end
section
open Go.RowKit
attribute [local go_sem ↓] Go.wp_at_zero Go.wp_at_succ

/-- A cell as gnomonref12.Cells tells it. -/
def c3 (N : Nat) (m : List Int) (x : Cel N) : List Value := [.int .i64 (x.1.1 : Int), .int .i64 (x.1.2 : Int), .int .i64 (gI m ((x.1.1 * N + x.1.2 : Nat) : Int))]
end
section

end
section

end
section

end
section

end
section

end
section
open Go.RowKit
attribute [local go_sem ↓] Go.wp_at_zero Go.wp_at_succ

theorem RowZ.of_rd {w : World} {A : Option Addr} {len : Nat} (h : RowRd w A len) : ∃ zs : List Z, zs.length = len ∧ RowZ w A zs := by
  have h' : ∀ k : Fin len, ∃ z : Z, (∃ b off, A = some ⟨b, off, none⟩ ∧ b < w.heap.size ∧ w.cell? ⟨b, off + k.1 * 3, none⟩ = some (.int .i64 z.1.n) ∧ w.cell? ⟨b, off + k.1 * 3 + 1, none⟩ = some (.bool z.1.e) ∧ w.cell? ⟨b, off + k.1 * 3 + 2, none⟩ = some (.slice z.2.1 z.1.m.length z.2.2)) ∧ Rd w w.heap.size z.2.1 z.1.m ∧ z.1.m.length ≤ 17592186044416 := fun k => by
    obtain ⟨b, off, n, e, A', c', m, h1, h2, h3, h4, h5, h6, h7, _⟩ := h k.1 k.2
    exact ⟨(⟨n, e, m⟩, A', c'), ⟨b, off, h1, h2, h3, h4, h5⟩, h6, h7⟩
  obtain ⟨f, hf⟩ := Classical.axiomOfChoice h'
  refine ⟨List.ofFn f, by simp, ⟨fun k hk => ?_, fun k hk => ?_, fun k hk => ?_⟩⟩
  all_goals
    have hk' : k < len := by simpa using hk
    simp only [List.getElem_ofFn]
  · exact (hf ⟨k, hk'⟩).1
  · exact (hf ⟨k, hk'⟩).2.1
  · exact (hf ⟨k, hk'⟩).2.2
end
section
open Go.ChangeShapes Go.WideShapes Go.ChangeAt Go.RowKit Go.Joins

theorem Tryz.own : ownKnob Tryz.prog.godebug = none := by kernel_rfl
theorem Tryz.laidOut : laidOutB Tryz.prog = true := by kernel_rfl
theorem cells_i64 : Tryz.prog.cellsOf 2 = 1 := by kernel_rfl
theorem cells_oct : Tryz.prog.cellsOf 53 = 3 := by kernel_rfl
theorem bytes_i64 : Tryz.prog.bytesOf 2 = 8 := by kernel_rfl

section
variable {H : Type} {enc : TypeId × Value → H} {W : World} {base : Nat} {held : Bool}

theorem cell_lt {w : World} {p : Addr} {v : Value} (h : w.cell? p = some v) : p.block < w.heap.size ∧ p.spot = none := by
  unfold World.cell? at h
  split at h
  · rename_i hb
    refine ⟨(Array.getElem?_eq_some_iff.1 hb).1, ?_⟩
    split at h
    · cases h
    · rename_i hs
      simpa using hs
  · cases h

/-- The heart: a slice of int64 that is met in reading. -/
theorem row_ints {spare : Nat → Bool} {fuel : Nat} {cs : List Value} {x : DataW H × List MemPlace} (h : DataW.trod enc Tryz.prog W base spare held fuel 28 cs = some x) :
    ∃ (A : Option Addr) (c : Nat) (m : List Int), cs = [.slice A m.length c] ∧ Rd W W.heap.size A m ∧ ((∀ n ∈ x.1.weights Tryz.prog 28, n ≤ reachBytes) → m.length ≤ 17592186044416) ∧ ∀ i : Nat, gI m i ≤ 9223372036854775807 := by
  rcases open_ints Tryz.underlying28 Tryz.underlying2 cells_i64 h with ⟨rfl, rfl⟩ | ⟨a, len, cap, zs, rfl, _, hl, _, hzl, rfl, hc, hwf⟩
  · exact ⟨none, 0, [], rfl, fun k hk => absurd hk (by simp), fun _ => by simp, fun i => by simp [gI]⟩
  · have hle : len ≤ zs.length := by rw [hzl]; split <;> omega
    have hml : (zs.take len).length = len := by simp; omega
    refine ⟨some a, cap, zs.take len, by rw [hml], fun k hk => ?_, fun hw => ?_, fun i => (range_i64 (zs := zs.take len) (fun n hn => hwf n (List.mem_of_mem_take hn)) i).2⟩
    · rw [hml] at hk
      have h0 := cell_lt (hc 0 (by omega))
      have hk' := hc k (by omega)
      obtain ⟨b, off, sp⟩ := a
      have hsp : sp = none := by simpa [Addr.add] using h0.2
      subst hsp
      have hb : b < W.heap.size := by simpa [Addr.add] using h0.1
      refine ⟨b, off, rfl, hb, ?_⟩
      have e : (⟨b, off, none⟩ : Addr).add k = ⟨b, off + k, none⟩ := by unfold Addr.add; split <;> simp_all
      rw [← e, hk']
      unfold gI
      rw [getD_take_lt zs len _ 0 (by simpa using hk)]
      rfl
    · have := hw (((lits (H := H) IntKind.i64 (zs.take len)).length + (lits (H := H) IntKind.i64 (zs.drop len)).length) * Tryz.prog.bytesOf 2) (by simp [DataW.weights, Tryz.underlying28])
      rw [bytes_i64] at this
      have hr := reachBytes_lt
      simp [lits] at this
      omega

/-- The row's end: it answers true, and what came in reads as it did. -/
theorem post_true {f : Func} {s : ChangeSpec} {W' : World} {args : Array Value} {ds : List (DataW H)} {before : List MemPlace} (hW : DataW.Whole enc Tryz.prog f.params.toList s.vars false W args.toList ds [] before)
    (hrt : f.resultTypes = #[4]) (hv : s.vars = []) (hfn : s.fn H (ds ++ []) = { results := [.lit (.bool true)], args := ds })
    (hargs : DataW.TrodAll enc Tryz.prog W' 0 (fun b => decide (b < W.heap.size)) true f.params.toList args.toList ds before) (hb : Below W.heap.size W W') :
    s.post enc Tryz.prog f false true false false W args (.bool true) W' := by
  refine ⟨ds, [], before, [], before, [], hW, ?_, ?_, ?_, World.keptBut_mono (fun p hp => ⟨hp, .inr (.inl hp)⟩) (hb.frame (· ∈ before)), fun h => by cases h⟩
  · rw [hfn, hrt]
    exact trodAll_mk1 (shut_bool Tryz.underlying4 _)
  · rw [hfn]; exact hargs
  · rw [hfn, hv]; rfl
end
end
end Go.Proofs.YtkncebcekhfnfaaGreat
