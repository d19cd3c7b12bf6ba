/-
  Words for memory: an octagon as data; a slice of int64 that reads as a list.
  Slices of int64 that the call itself made: they own their cells; append onto them.
-/
import Derived.Test.YtkncebcekhfnfaaGreatBWT00
import Derived.Test.YtkncebcekhfnfaaGreatBWT01
import Derived.Deep.LoopGhost
import Derived.Deep.DeepMust
import Derived.Deep.DeepFit
import Derived.Maps.AppendAt
import Derived.Laws.OwnMore
import Derived.Deep.AppendLies
import Derived.Deep.RegionHeld3
namespace Go.Proofs.YtkncebcekhfnfaaGreat
open Go.RowKit
section

structure O where
  n : Int
  e : Bool
  m : List Int

/-- The number at an index (0 outside). -/
def gI (xs : List Int) (k : Int) : Int := xs.getD k.toNat 0

/-- The slice at A reads as xs: below block B. -/
def Rd (w : World) (B : Nat) (A : Option Addr) (xs : List Int) : Prop :=
  ∀ k : Nat, k < xs.length → ∃ b off, A = some ⟨b, off, none⟩ ∧ b < B ∧ w.cell? ⟨b, off + k, none⟩ = some (.int .i64 (gI xs k))

section
variable {w w' : World} {B B' : Nat} {A : Option Addr} {xs : List Int}
theorem Rd.below (h : Rd w B A xs) (hb : Below B w w') : Rd w' B A xs := fun k hk => by
  obtain ⟨b, off, hA, hB, hc⟩ := h k hk
  exact ⟨b, off, hA, hB, (hb.cell (p := ⟨b, off + k, none⟩) hB).trans hc⟩
theorem Rd.nil (h : Rd w B none xs) : xs = [] := by
  cases xs with
  | nil => rfl
  | cons x xs => obtain ⟨b, off, hA, _⟩ := h 0 (by simp); cases hA
theorem Rd.more (h : Rd w B A xs) (hB : B ≤ B') : Rd w B' A xs := fun k hk => by
  obtain ⟨b, off, hA, hB', hc⟩ := h k hk
  exact ⟨b, off, hA, by omega, hc⟩
/-- At an index of Go's. -/
theorem Rd.at_ (h : Rd w B A xs) {i : Int} (h0 : 0 ≤ i) (h1 : i < xs.length) : ∃ b off, A = some ⟨b, off, none⟩ ∧ b < B ∧ w.cell? ⟨b, off + i.toNat, none⟩ = some (.int .i64 (gI xs i)) := by
  obtain ⟨b, off, hA, hB, hc⟩ := h i.toNat (by omega)
  exact ⟨b, off, hA, hB, by rw [hc]; unfold gI; rfl⟩
end

theorem later {w : World} {p : Addr} {v : Value} (h : w.cell? p = some v) : ∀ W, Below w.heap.size w W → W.cell? p = some v := fun _ hb => cell_later hb h
theorem bstep {w W w2 : World} {B : Nat} (h : Below B w W) (hB : B ≤ W.heap.size) (h2 : Below W.heap.size W w2) : Below B w w2 := h.trans (h2.mono hB)
/-- Block g is just these cells, none frozen. -/
def Blk (w : World) (g : Nat) (t : TypeId) (cs : Array Value) : Prop := w.heap[g]? = some (.cells cs t (0, 0))
section
variable {w w' : World} {g : Nat} {t : TypeId} {cs : Array Value}
theorem Blk.lt (h : Blk w g t cs) : g < w.heap.size := (Array.getElem?_eq_some_iff.1 h).1
theorem Blk.cell (h : Blk w g t cs) (i : Nat) : w.cell? ⟨g, i, none⟩ = cs[i]? := cell_of_row w g i cs t (0, 0) h
theorem Blk.fr (h : Blk w g t cs) (i : Nat) : w.frozen? ⟨g, i, none⟩ = false := frozen_of_row w g i cs t h
theorem Blk.new (w : World) (t : TypeId) (cs : Array Value) : Blk (w.alloc (.cells cs t)) w.heap.size t cs := heap_alloc_new w _
theorem Blk.below {B : Nat} (h : Blk w g t cs) (hb : Below B w w') (hg : g < B) : Blk w' g t cs := (hb.block g hg).trans h
theorem Blk.later (h : Blk w g t cs) (hb : Below w.heap.size w w') : Blk w' g t cs := h.below hb h.lt
theorem Blk.alloc (h : Blk w g t cs) (o : Obj) : Blk (w.alloc o) g t cs := h.later ((Below.refl _ _).alloc (Nat.le_refl _) _)
theorem Blk.set_ (h : Blk w g t cs) (i : Nat) (u : Value) : Blk (w.setCell ⟨g, i, none⟩ u) g t (cs.setIfInBounds i u) := heap_setCell_same w g i cs t u h
theorem Blk.far (h : Blk w g t cs) {p : Addr} (hp : p.block ≠ g) (u : Value) : Blk (w.setCell p u) g t cs := (heap_setCell_other w p g u (fun e => hp e.symm)).trans h
theorem octbox {n : Int} {e : Bool} {A : Option Addr} {L cap : Nat} (h : Blk w g t #[.int .i64 n, .bool e, .slice A L cap]) :
    w.cell? ⟨g, 0, none⟩ = some (.int .i64 n) ∧ w.cell? ⟨g, 1, none⟩ = some (.bool e) ∧ w.cell? ⟨g, 2, none⟩ = some (.slice A L cap) ∧ ∀ j, w.frozen? ⟨g, j, none⟩ = false :=
  ⟨h.cell 0, h.cell 1, h.cell 2, h.fr⟩
/-- Two new blocks, and whatever leaves them. -/
theorem blk_two {cs cs' : Array Value} {t' : TypeId} (hb : Below (w.heap.size + 2) ((w.alloc (.cells cs t)).alloc (.cells cs' t')) w') : Blk w' w.heap.size t cs ∧ Blk w' (w.heap.size + 1) t' cs' := by
  refine ⟨((Blk.new w t cs).alloc _).below hb (by omega), ?_⟩
  have := (Blk.new (w.alloc (.cells cs t)) t' cs').below hb (by simp)
  simpa using this
end
theorem new1 (w : World) (o : Obj) : Below w.heap.size w (w.alloc o) := (Below.refl _ _).alloc (Nat.le_refl _) _
theorem bup {w0 w w' : World} (h : Below w0.heap.size w0 w) (hb : Below w.heap.size w w') : Below w0.heap.size w0 w' := h.trans (hb.mono h.size)
theorem Rd.up {w w' : World} {A : Option Addr} {xs : List Int} (h : Rd w w.heap.size A xs) (hb : Below w.heap.size w w') : Rd w' w'.heap.size A xs := (h.below hb).more hb.size
end
section

theorem i64_info : (Tryz.prog.info? 2).map (fun i => (i.zero, i.size, i.bytes)) = some (some (.int .i64 0), 1, 8) := by kernel_rfl
def i64s (m : List Int) : List Value := m.map (Value.int .i64)
theorem i64s_len (m : List Int) : (i64s m).length = m.length := by simp [i64s]
theorem i64s_get (m : List Int) {k : Nat} (h : k < m.length) : (i64s m)[k]? = some (.int .i64 (gI m k)) := by
  unfold i64s gI; simp [List.getElem?_map, List.getElem?_eq_getElem h]
theorem i64s_one (m : List Int) : ∀ u ∈ i64s m, u.oneCell' = true := by
  intro u hu; simp only [i64s, List.mem_map] at hu; obtain ⟨x, _, rfl⟩ := hu; rfl

/-- The slice at A (a row of the call's own, from block base on; or nil) holds m. -/
def Own (w : World) (base : Nat) (A : Option Addr) (cap : Nat) (m : List Int) : Prop := w.ownsRow base 2 1 (.slice A m.length cap) m.length (i64s m)

theorem own_slice {w : World} {base n : Nat} {v : Value} {m : List Int} (h : w.ownsRow base 2 1 v n (i64s m)) : n = m.length ∧ ∃ A cap, v = .slice A m.length cap ∧ Own w base A cap m := by
  have hn : n = m.length := by have := h.1; rw [i64s_len] at this; omega
  subst hn
  refine ⟨rfl, ?_⟩
  rcases h.2 with ⟨rfl, h0⟩ | ⟨g, cap, cur, rfl, _⟩
  · exact ⟨none, 0, by rw [h0], by unfold Own; rw [h0] at *; exact h⟩
  · exact ⟨_, cap, rfl, h⟩

section
variable {w w' : World} {base cap : Nat} {A : Option Addr} {m : List Int}
theorem Own.form (h : Own w base A cap m) : (A = none ∧ m = [] ∧ cap = 0) ∨ ∃ g, A = some ⟨g, 0, none⟩ ∧ base ≤ g ∧ g < w.heap.size := by
  rcases h.2 with ⟨h1, h0⟩ | ⟨g, cap', cur, h1, hb, hg, _⟩
  · injection h1 with h1 _ h3
    exact .inl ⟨h1, List.eq_nil_of_length_eq_zero h0, h3⟩
  · injection h1 with h1
    exact .inr ⟨g, h1, hb, (Array.getElem?_eq_some_iff.1 hg).1⟩
theorem Own.rd (h : Own w base A cap m) : Rd w w.heap.size A m := by
  intro k hk
  rcases h.form with ⟨_, rfl, _⟩ | ⟨g, rfl, _, hg⟩
  · simp at hk
  · refine ⟨g, 0, rfl, hg, ?_⟩
    have := World.ownsRow.cellAt (w := w) (xs := i64s m) h k (by omega)
    rw [i64s_get m hk] at this
    simpa using this
theorem Own.frozen {g : Nat} (h : Own w base (some ⟨g, 0, none⟩) cap m) (j : Nat) : w.frozen? ⟨g, j, none⟩ = false := World.ownsRow.frozenAt (w := w) (xs := i64s m) h j
theorem Own.grown {row : Option Nat} (h : Own w base A cap m) (hg : w.grownBy w' row) (hne : (Value.slice A m.length cap).ownBlock = none ∨ (Value.slice A m.length cap).ownBlock ≠ row) : Own w' base A cap m := World.ownsRow.kept h hg hne
theorem grown_of_below (hb : Below w.heap.size w w') (row : Option Nat) : w.grownBy w' row := ⟨hb.os, hb.tape, hb.output, hb.size, fun k hk _ => hb.block k hk⟩
theorem Own.below (h : Own w base A cap m) (hb : Below w.heap.size w w') : Own w' base A cap m :=
  h.grown (grown_of_below hb none) (by cases h' : (Value.slice A m.length cap).ownBlock <;> simp)
theorem grown_setCell (w : World) (p : Addr) (u : Value) : w.grownBy (w.setCell p u) (some p.block) :=
  ⟨rfl, rfl, rfl, by simp, fun k _ hk => heap_setCell_other w p k u (fun e => hk (by rw [e]))⟩
theorem Own.setFar (h : Own w base A cap m) {p : Addr} (hp : p.block < base) (u : Value) : Own (w.setCell p u) base A cap m := by
  refine h.grown (grown_setCell w p u) ?_
  rcases h.form with ⟨rfl, _⟩ | ⟨g, rfl, hg, _⟩
  · exact .inl rfl
  · exact .inr (fun e => by simp [Value.ownBlock] at e; omega)
theorem Own.less {b2 : Nat} (h : Own w base A cap m) (hb : b2 ≤ base) : Own w b2 A cap m := by
  refine ⟨h.1, ?_⟩
  rcases h.2 with h1 | ⟨g, cap', cur, h1, h2, h3⟩
  · exact .inl h1
  · exact .inr ⟨g, cap', cur, h1, by omega, h3⟩
/-- Behind a step that leaves all but an own row as it was. -/
theorem below_grown {B : Nat} {row : Option Nat} (hg : w.grownBy w' row) (hr : ∀ k, row = some k → B ≤ k) (hB : B ≤ w.heap.size) : Below B w w' :=
  ⟨hg.os, hg.tape, hg.output, hg.size, fun k hk => hg.block k (by omega) (fun e => by have := hr k e.symm; omega)⟩
end

theorem add_mk (b off j : Nat) : (⟨b, off, none⟩ : Addr).add j = ⟨b, off + j, none⟩ := by unfold Addr.add; split <;> simp_all
theorem run_append_ints (w : World) (base : Nat) (t ty : TypeId) (ht : Tryz.prog.underlying t = some (.slice 2)) (v : Value) (n : Nat) (xs : List Int) (hown : w.ownsRow base 2 1 v n (i64s xs))
    (B : Nat) (A : Option Addr) (c : Nat) (ys : List Int) (hr : Rd w B A ys) (hl : n + ys.length ≤ 17592186044416) (hbase : base ≤ w.heap.size) :
    ∃ v' w', (Builtin.append_ #[t, t] ty #[v, .slice A ys.length c]).run Tryz.prog w = .ok v' w' ∧ w'.ownsRow base 2 1 v' (n + ys.length) (i64s (xs ++ ys)) ∧ w.grownBy w' v.ownBlock ∧
      (v'.ownBlock = v.ownBlock ∨ v'.ownBlock = some w.heap.size) := by
  obtain ⟨i0, hi, hz0, hz1, hz2⟩ := info_parts i64_info
  rcases A with _ | ad
  · have hy : ys = [] := by
      cases ys with
      | nil => rfl
      | cons y ys => obtain ⟨b, off, h, _⟩ := hr 0 (by simp); cases h
    subst hy
    refine ⟨v, w, ?_, by simpa using hown, ⟨rfl, rfl, rfl, Nat.le_refl _, fun _ _ _ => rfl⟩, .inl rfl⟩
    rcases hown.2 with ⟨rfl, rfl⟩ | ⟨g, cap, cur, rfl, _, _, hnc, _⟩
    · simp [Builtin.append_, run_underlying ht, sizeOf, typeInfo, hi, Builtin.lenOf, Builtin.firstCells]
    · simp [Builtin.append_, run_underlying ht, sizeOf, typeInfo, hi, Builtin.lenOf, Builtin.firstCells, hnc, storeCells]
  · have hcells : ∀ j u, (i64s ys)[j]? = some u → w.cell? (ad.add j) = some u := by
      intro j u hu
      have hj : j < ys.length := by
        have := (List.getElem?_eq_some_iff.1 hu).1
        rwa [i64s_len] at this
      obtain ⟨b, off, h, _, hc⟩ := hr j hj
      obtain rfl : ad = ⟨b, off, none⟩ := Option.some.inj h
      rw [i64s_get ys hj] at hu
      obtain rfl := Option.some.inj hu
      rw [add_mk]; exact hc
    obtain ⟨v', w', hrun, h2, h3, _, h5⟩ := run_append_own_at (P := Tryz.prog) w base t ty _ i0 _ 1 8 ht hi hz0 hz1 hz2 rfl (by omega) v n (i64s xs) hown ad ys.length c (i64s ys) (by rw [i64s_len]; omega) hcells (i64s_one ys) (by unfold maxLen; omega) (by omega) hbase
    refine ⟨v', w', hrun, ?_, h3, h5⟩
    have : i64s (xs ++ ys) = i64s xs ++ i64s ys := by simp [i64s]
    rw [this]; exact h2

theorem wp_append_ints {ops : Array Oper} {o : Oper} {a : Act} {K : Act → World → Prop} {Q : Exit → Act → World → Prop} {w : World} (s x : Operand) (t : TypeId)
    (ho : o.op = .call { callee := .builtin .append, args := #[s, x], argTypes := #[t, t] }) (hgd : o.guard = none) (ht : Tryz.prog.underlying t = some (.slice 2))
    (base : Nat) (A0 : Option Addr) (c0 : Nat) (xs : List Int) (hs : a.eval s = .slice A0 xs.length c0) (hown : Own w base A0 c0 xs)
    (B : Nat) (A : Option Addr) (c : Nat) (ys zs : List Int) (hx : a.eval x = .slice A ys.length c) (hr : Rd w B A ys) (hz : xs ++ ys = zs) (hl : zs.length ≤ 17592186044416) (hbase : base ≤ w.heap.size) {E : Prop}
    (h : ∀ A' cap' w', Own w' base A' cap' zs → w.grownBy w' (Value.slice A0 xs.length c0).ownBlock → ((Value.slice A' zs.length cap').ownBlock = (Value.slice A0 xs.length c0).ownBlock ∨ (Value.slice A' zs.length cap').ownBlock = some w.heap.size) → K (a.put o.dst (.slice A' zs.length cap')) w') :
    if Region.wanted o (yielded ops a.tmps) = true then Oper.wp Tryz.prog o a w K Q else E := by
  have hw : Region.wanted o (yielded ops a.tmps) = true := by simp [Region.wanted, hgd]
  rw [if_pos hw]
  subst hz
  obtain ⟨v', w', hrun, h2, h3, h4⟩ := run_append_ints w base t o.type ht _ _ xs hown B A c ys hr (by simpa using hl) hbase
  obtain ⟨_, A', cap', rfl, h2'⟩ := own_slice h2
  unfold Oper.wp execOp
  simp only [ho, resolve, invoke, builtin, Sem.run_bind, Sem.run_pure, Result.andThen_ok, List.map_toArray, List.map_cons, List.map_nil, hs, hx, hrun]
  exact h A' cap' w' h2' h3 h4

theorem wpList_append_ints {ops : Array Oper} {rest : List Oper} {o : Oper} {a : Act} {Q : Exit → Act → World → Prop} {w : World} (s x : Operand) (t : TypeId)
    (ho : o.op = .call { callee := .builtin .append, args := #[s, x], argTypes := #[t, t] }) (hgd : o.guard = none) (ht : Tryz.prog.underlying t = some (.slice 2))
    (base : Nat) (A0 : Option Addr) (c0 : Nat) (xs : List Int) (hs : a.eval s = .slice A0 xs.length c0) (hown : Own w base A0 c0 xs)
    (B : Nat) (A : Option Addr) (c : Nat) (ys zs : List Int) (hx : a.eval x = .slice A ys.length c) (hr : Rd w B A ys) (hz : xs ++ ys = zs) (hl : zs.length ≤ 17592186044416) (hbase : base ≤ w.heap.size)
    (h : ∀ A' cap' w', Own w' base A' cap' zs → w.grownBy w' (Value.slice A0 xs.length c0).ownBlock → ((Value.slice A' zs.length cap').ownBlock = (Value.slice A0 xs.length c0).ownBlock ∨ (Value.slice A' zs.length cap').ownBlock = some w.heap.size) → wpList Tryz.prog ops Q rest (a.put o.dst (.slice A' zs.length cap')) w') :
    wpList Tryz.prog ops Q (o :: rest) a w :=
  wpList_plain hgd fun K hK => by
    have := wp_append_ints (ops := ops) (E := True) (K := K) (Q := Q) s x t ho hgd ht base A0 c0 xs hs hown B A c ys zs hx hr hz hl hbase fun A' c' w' h2 h3 h4 => hK _ _ (h A' c' w' h2 h3 h4)
    rw [if_pos (by simp [Region.wanted, hgd])] at this
    exact this

/-- The cells of a slice that is made: zeros. -/
def zcells (n : Nat) : Array Value := madeCells #[.int .i64 0] n
theorem zcells_size (n : Nat) : (zcells n).size = n := by simp [zcells, size_madeCells]
theorem zcells_list (n : Nat) : (zcells n).toList = i64s (List.replicate n 0) := by unfold zcells i64s; rw [toList_madeCells_one]; simp
theorem run_make64 (n : Nat) (hn : n ≤ 17592186044416) : ∀ W : World, (Instr.makeSlice 28 (.int .i64 (n : Int)) (.int .i64 (n : Int))).run Tryz.prog W = .ok (.slice (some ⟨W.heap.size, 0, none⟩) n n) (W.alloc (.cells (zcells n) 2)) := fun W => by
  obtain ⟨i0, hi, hz0, hz1, hz2⟩ := info_parts i64_info
  have := run_make (P := Tryz.prog) W 28 2 i0 _ Tryz.underlying28 hi hz0 .i64 .i64 (n : Int) (n : Int) (by omega) (Int.le_refl _) (by rw [hz2]; omega) (by omega)
  rw [this, hz1]
  simp only [Int.toNat_natCast, Nat.mul_one]
  rfl
theorem own_made (w : World) {base n : Nat} (h : base ≤ w.heap.size) (hn : n ≤ 17592186044416) : Own (w.alloc (.cells (zcells n) 2)) base (some ⟨w.heap.size, 0, none⟩) n (List.replicate n 0) := by
  have := World.ownsRow_lit (base := base) (e := 2) (size := 1) w (zcells n) n h (by unfold maxLen; omega) (by rw [zcells_size]; omega)
  rw [zcells_list] at this
  unfold Own
  rw [List.length_replicate]; exact this
theorem Own.store {w : World} {base cap g : Nat} {m : List Int} (h : Own w base (some ⟨g, 0, none⟩) cap m) (k : Nat) (x : Int) : Own (w.setCell ⟨g, k, none⟩ (.int .i64 x)) base (some ⟨g, 0, none⟩) cap (m.set k x) := by
  have := (World.ownsRow.stored (w := w) (xs := i64s m) h k (.int .i64 x)).1
  unfold Own
  have e : i64s (m.set k x) = (i64s m).set k (.int .i64 x) := by unfold i64s; rw [List.map_set]
  rw [e, List.length_set]; exact this
theorem own_nil (w : World) (base : Nat) : Own w base none 0 [] := World.ownsRow_nil _ _ _ _
theorem own_empty (w : World) {base : Nat} (h : base ≤ w.heap.size) : Own (w.alloc (.cells #[] 2)) base (some ⟨w.heap.size, 0, none⟩) 0 [] := World.ownsRow_lit w #[] 0 h (by unfold maxLen; omega) rfl
end
end Go.Proofs.YtkncebcekhfnfaaGreat
