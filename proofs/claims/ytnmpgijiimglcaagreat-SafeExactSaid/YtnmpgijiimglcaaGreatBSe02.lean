import Derived.Test.YtnmpgijiimglcaaGreatBSe00
import Derived.Test.YtnmpgijiimglcaaGreatBSe01
import Derived.Deep.LoopGhost
import Derived.Deep.DeepMust
import Derived.Deep.DeepFit
import Derived.Maps.AppendAt
import Derived.Laws.OwnMore
import Derived.Deep.AppendLies
import Derived.Deep.RegionHeld3
import Derived.Deep.DeepCutAuto
namespace Go.Proofs.YtnmpgijiimglcaaGreat
set_option maxRecDepth 100000
set_option maxHeartbeats 8000000
section
open Go.RowKit
structure O where
 n : Int
 e : Bool
 m : List Int
def gI (xs : List Int) (k : Int) : Int := xs.getD k.toNat 0
def Rd (w : World) (B : Nat) (A : Option Addr) (xs : List Int) : Prop :=
 ∀ k : Nat, k < xs.length → ∃ b off, A = some ⟨b, off, none⟩ ∧ b < B ∧ w.cell? ⟨b, off + k, none⟩ = some (.int .i64 (gI xs k))
section
variable {w w' : World} {B B' : Nat} {A : Option Addr} {xs : List Int}
theorem Rd.below (h : Rd w B A xs) (hb : Below B w w') : Rd w' B A xs := fun k hk => by
 obtain ⟨b, off, hA, hB, hc⟩ := h k hk
 exact ⟨b, off, hA, hB, (hb.cell (p := ⟨b, off + k, none⟩) hB).trans hc⟩
theorem Rd.nil (h : Rd w B none xs) : xs = [] := by
 cases xs with
 | nil => rfl
 | cons x xs => obtain ⟨b, off, hA, _⟩ := h 0 (by simp); cases hA
theorem Rd.more (h : Rd w B A xs) (hB : B ≤ B') : Rd w B' A xs := fun k hk => by
 obtain ⟨b, off, hA, hB', hc⟩ := h k hk
 exact ⟨b, off, hA, by omega, hc⟩
theorem Rd.at_ (h : Rd w B A xs) {i : Int} (h0 : 0 ≤ i) (h1 : i < xs.length) : ∃ b off, A = some ⟨b, off, none⟩ ∧ b < B ∧ w.cell? ⟨b, off + i.toNat, none⟩ = some (.int .i64 (gI xs i)) := by
 obtain ⟨b, off, hA, hB, hc⟩ := h i.toNat (by omega)
 exact ⟨b, off, hA, hB, by rw [hc]; unfold gI; rfl⟩
end
theorem later {w : World} {p : Addr} {v : Value} (h : w.cell? p = some v) : ∀ W, Below w.heap.size w W → W.cell? p = some v := fun _ hb => cell_later hb h
theorem zaI {w W w2 : World} {B : Nat} (h : Below B w W) (hB : B ≤ W.heap.size) (h2 : Below W.heap.size W w2) : Below B w w2 := h.trans (h2.mono hB)
def Blk (w : World) (g : Nat) (t : TypeId) (cs : Array Value) : Prop := w.heap[g]? = some (.cells cs t (0, 0))
section
variable {w w' : World} {g : Nat} {t : TypeId} {cs : Array Value}
theorem Blk.lt (h : Blk w g t cs) : g < w.heap.size := (Array.getElem?_eq_some_iff.1 h).1
theorem Blk.cell (h : Blk w g t cs) (i : Nat) : w.cell? ⟨g, i, none⟩ = cs[i]? := cell_of_row w g i cs t (0, 0) h
theorem Blk.fr (h : Blk w g t cs) (i : Nat) : w.frozen? ⟨g, i, none⟩ = false := frozen_of_row w g i cs t h
theorem Blk.new (w : World) (t : TypeId) (cs : Array Value) : Blk (w.alloc (.cells cs t)) w.heap.size t cs := heap_alloc_new w _
theorem Blk.below {B : Nat} (h : Blk w g t cs) (hb : Below B w w') (hg : g < B) : Blk w' g t cs := (hb.block g hg).trans h
theorem Blk.later (h : Blk w g t cs) (hb : Below w.heap.size w w') : Blk w' g t cs := h.below hb h.lt
theorem Blk.alloc (h : Blk w g t cs) (o : Obj) : Blk (w.alloc o) g t cs := h.later ((Below.refl _ _).alloc (Nat.le_refl _) _)
theorem Blk.set_ (h : Blk w g t cs) (i : Nat) (u : Value) : Blk (w.setCell ⟨g, i, none⟩ u) g t (cs.setIfInBounds i u) := heap_setCell_same w g i cs t u h
theorem Blk.far (h : Blk w g t cs) {p : Addr} (hp : p.block ≠ g) (u : Value) : Blk (w.setCell p u) g t cs := (heap_setCell_other w p g u (fun e => hp e.symm)).trans h
theorem zaa {n : Int} {e : Bool} {A : Option Addr} {L cap : Nat} (h : Blk w g t #[n, e, .slice A L cap]) :
  w.cell? ⟨g, 0, none⟩ = some (.int .i64 n) ∧ w.cell? ⟨g, 1, none⟩ = some (.bool e) ∧ w.cell? ⟨g, 2, none⟩ = some (.slice A L cap) ∧ ∀ j, w.frozen? ⟨g, j, none⟩ = false :=
 ⟨h.cell 0, h.cell 1, h.cell 2, h.fr⟩
theorem zdb {cs cs' : Array Value} {t' : TypeId} (hb : Below (w.heap.size + 2) ((w.alloc (.cells cs t)).alloc (.cells cs' t')) w') : Blk w' w.heap.size t cs ∧ Blk w' (w.heap.size + 1) t' cs' := by
 refine ⟨((Blk.new w t cs).alloc _).below hb (by omega), ?_⟩
 have := (Blk.new (w.alloc (.cells cs t)) t' cs').below hb (by simp)
 simpa using this
end
theorem new1 (w : World) (o : Obj) : Below w.heap.size w (w.alloc o) := (Below.refl _ _).alloc (Nat.le_refl _) _
theorem bup {w0 w w' : World} (h : Below w0.heap.size w0 w) (hb : Below w.heap.size w w') : Below w0.heap.size w0 w' := h.trans (hb.mono h.size)
theorem Rd.up {w w' : World} {A : Option Addr} {xs : List Int} (h : Rd w w.heap.size A xs) (hb : Below w.heap.size w w') : Rd w' w'.heap.size A xs := (h.below hb).more hb.size
theorem zbc {B : Nat} {w w' : World} (h : Below B w w' := by repeat (first | exact Below.refl _ _ | refine Below.setCell ?_ (by simp; try omega) _ | refine Below.alloc ?_ (by simp; try omega) _)) : Below B w w' := h
theorem zcw {B : Nat} {w w' : World} (h : Below B w w' := by repeat (first | exact Below.refl _ _ | refine Below.setCell ?_ (by simp) _ | refine Below.alloc ?_ (by simp) _)) : Below B w w' := h
end
section
open Go.RowKit
theorem zgi : (Tryz.prog.info? 2).map (fun i => (i.zero, i.size, i.bytes)) = some (some (.int .i64 0), 1, 8) := by kernel_rfl
def i64s (m : List Int) : List Value := m.map (Value.int .i64)
theorem zes (m : List Int) : (i64s m).length = m.length := by simp [i64s]
theorem zgk (m : List Int) {k : Nat} (h : k < m.length) : (i64s m)[k]? = some (.int .i64 (gI m k)) := by
 unfold i64s gI; simp [List.getElem?_map, List.getElem?_eq_getElem h]
theorem zjq (m : List Int) : ∀ u ∈ i64s m, u.oneCell' = true := by
 intro u hu; simp only [i64s, List.mem_map] at hu; obtain ⟨x, _, rfl⟩ := hu; rfl
def Own (w : World) (base : Nat) (A : Option Addr) (cap : Nat) (m : List Int) : Prop := w.ownsRow base 2 1 (.slice A m.length cap) m.length (i64s m)
theorem zhE {w : World} {base n : Nat} {v : Value} {m : List Int} (h : w.ownsRow base 2 1 v n (i64s m)) : n = m.length ∧ ∃ A cap, v = .slice A m.length cap ∧ Own w base A cap m := by
 have hn : n = m.length := by have := h.1; rw [zes] at this; omega
 subst hn
 refine ⟨rfl, ?_⟩
 rcases h.2 with ⟨rfl, h0⟩ | ⟨g, cap, cur, rfl, _⟩
 ·exact ⟨none, 0, by rw [h0], by unfold Own; rw [h0] at *; exact h⟩
 ·exact ⟨_, cap, rfl, h⟩
section
variable {w w' : World} {base cap : Nat} {A : Option Addr} {m : List Int}
theorem Own.form (h : Own w base A cap m) : (A = none ∧ m = [] ∧ cap = 0) ∨ ∃ g, A = some ⟨g, 0, none⟩ ∧ base ≤ g ∧ g < w.heap.size := by
 rcases h.2 with ⟨h1, h0⟩ | ⟨g, cap', cur, h1, hb, hg, _⟩
 ·injection h1 with h1 _ h3
  exact .inl ⟨h1, List.eq_nil_of_length_eq_zero h0, h3⟩
 ·injection h1 with h1
  exact .inr ⟨g, h1, hb, (Array.getElem?_eq_some_iff.1 hg).1⟩
theorem Own.rd (h : Own w base A cap m) : Rd w w.heap.size A m := by
 intro k hk
 rcases h.form with ⟨_, rfl, _⟩ | ⟨g, rfl, _, hg⟩
 ·simp at hk
 ·refine ⟨g, 0, rfl, hg, ?_⟩
  have := World.ownsRow.cellAt (w := w) (xs := i64s m) h k (by omega)
  rw [zgk m hk] at this
  simpa using this
theorem Own.frozen {g : Nat} (h : Own w base (some ⟨g, 0, none⟩) cap m) (j : Nat) : w.frozen? ⟨g, j, none⟩ = false := World.ownsRow.frozenAt (w := w) (xs := i64s m) h j
theorem Own.grown {row : Option Nat} (h : Own w base A cap m) (hg : w.grownBy w' row) (hne : (Value.slice A m.length cap).ownBlock = none ∨ (Value.slice A m.length cap).ownBlock ≠ row) : Own w' base A cap m := World.ownsRow.kept h hg hne
theorem za1 (hb : Below w.heap.size w w') (row : Option Nat) : w.grownBy w' row := ⟨hb.os, hb.tape, hb.output, hb.size, fun k hk _ => hb.block k hk⟩
theorem Own.below (h : Own w base A cap m) (hb : Below w.heap.size w w') : Own w' base A cap m :=
 h.grown (za1 hb none) (by cases h' : (Value.slice A m.length cap).ownBlock <;> simp)
theorem zay (w : World) (p : Addr) (u : Value) : w.grownBy (w.setCell p u) (some p.block) :=
 ⟨rfl, rfl, rfl, by simp, fun k _ hk => heap_setCell_other w p k u (fun e => hk (by rw [e]))⟩
theorem Own.setFar (h : Own w base A cap m) {p : Addr} (hp : p.block < base) (u : Value) : Own (w.setCell p u) base A cap m := by
 refine h.grown (zay w p u) ?_
 rcases h.form with ⟨rfl, _⟩ | ⟨g, rfl, hg, _⟩
 ·exact .inl rfl
 ·exact .inr (fun e => by simp [Value.ownBlock] at e; omega)
theorem Own.less {b2 : Nat} (h : Own w base A cap m) (hb : b2 ≤ base) : Own w b2 A cap m := by
 refine ⟨h.1, ?_⟩
 rcases h.2 with h1 | ⟨g, cap', cur, h1, h2, h3⟩
 ·exact .inl h1
 ·exact .inr ⟨g, cap', cur, h1, by omega, h3⟩
theorem zaW {B : Nat} {row : Option Nat} (hg : w.grownBy w' row) (hr : ∀ k, row = some k → B ≤ k) (hB : B ≤ w.heap.size) : Below B w w' :=
 ⟨hg.os, hg.tape, hg.output, hg.size, fun k hk => hg.block k (by omega) (fun e => by have := hr k e.symm; omega)⟩
end
theorem zk5 (b off j : Nat) : (⟨b, off, none⟩ : Addr).add j = ⟨b, off + j, none⟩ := by unfold Addr.add; split <;> simp_all
theorem zdD (w : World) (base : Nat) (t ty : TypeId) (ht : Tryz.prog.underlying t = some (.slice 2)) (v : Value) (n : Nat) (xs : List Int) (hown : w.ownsRow base 2 1 v n (i64s xs))
  (B : Nat) (A : Option Addr) (c : Nat) (ys : List Int) (hr : Rd w B A ys) (hl : n + ys.length ≤ 17592186044416) (hbase : base ≤ w.heap.size) :
  ∃ v' w', (Builtin.append_ #[t, t] ty #[v, .slice A ys.length c]).run Tryz.prog w = .ok v' w' ∧ w'.ownsRow base 2 1 v' (n + ys.length) (i64s (xs ++ ys)) ∧ w.grownBy w' v.ownBlock ∧
   (v'.ownBlock = v.ownBlock ∨ v'.ownBlock = some w.heap.size) := by
 obtain ⟨i0, hi, a2, a3, a4⟩ := info_parts zgi
 rcases A with _ | ad
 ·have hy : ys = [] := by
   cases ys with
   | nil => rfl
   | cons y ys => obtain ⟨b, off, h, _⟩ := hr 0 (by simp); cases h
  subst hy
  refine ⟨v, w, ?_, by simpa using hown, ⟨rfl, rfl, rfl, Nat.le_refl _, fun _ _ _ => rfl⟩, .inl rfl⟩
  rcases hown.2 with ⟨rfl, rfl⟩ | ⟨g, cap, cur, rfl, _, _, hnc, _⟩
  ·simp [Builtin.append_, run_underlying ht, sizeOf, typeInfo, hi, Builtin.lenOf, Builtin.firstCells]
  ·simp [Builtin.append_, run_underlying ht, sizeOf, typeInfo, hi, Builtin.lenOf, Builtin.firstCells, hnc, storeCells]
 ·have a1 : ∀ j u, (i64s ys)[j]? = some u → w.cell? (ad.add j) = some u := by
   intro j u hu
   have hj : j < ys.length := by
    have := (List.getElem?_eq_some_iff.1 hu).1
    rwa [zes] at this
   obtain ⟨b, off, h, _, hc⟩ := hr j hj
   obtain rfl : ad = ⟨b, off, none⟩ := Option.some.inj h
   rw [zgk ys hj] at hu
   obtain rfl := Option.some.inj hu
   rw [zk5]; exact hc
  obtain ⟨v', w', a0, h2, h3, _, h5⟩ := run_append_own_at (P := Tryz.prog) w base t ty _ i0 _ 1 8 ht hi a2 a3 a4 rfl (by omega) v n (i64s xs) hown ad ys.length c (i64s ys) (by rw [zes]; omega) a1 (zjq ys) (by unfold maxLen; omega) (by omega) hbase
  refine ⟨v', w', a0, ?_, h3, h5⟩
  have : i64s (xs ++ ys) = i64s xs ++ i64s ys := by simp [i64s]
  rw [this]; exact h2
theorem zd6 {ops : Array Oper} {o : Oper} {a : Act} {K : Act → World → Prop} {Q : Exit → Act → World → Prop} {w : World} (s x : Operand) (t : TypeId)
  (ho : o.op = .call { callee := .builtin .append, args := #[s, x], argTypes := #[t, t] }) (hgd : o.guard = none) (ht : Tryz.prog.underlying t = some (.slice 2))
  (base : Nat) (A0 : Option Addr) (c0 : Nat) (xs : List Int) (hs : a.eval s = .slice A0 xs.length c0) (hown : Own w base A0 c0 xs)
  (B : Nat) (A : Option Addr) (c : Nat) (ys zs : List Int) (hx : a.eval x = .slice A ys.length c) (hr : Rd w B A ys) (hz : xs ++ ys = zs) (hl : zs.length ≤ 17592186044416) (hbase : base ≤ w.heap.size) {E : Prop}
  (h : ∀ A' cap' w', Own w' base A' cap' zs → w.grownBy w' (Value.slice A0 xs.length c0).ownBlock → ((Value.slice A' zs.length cap').ownBlock = (Value.slice A0 xs.length c0).ownBlock ∨ (Value.slice A' zs.length cap').ownBlock = some w.heap.size) → K (a.put o.dst (.slice A' zs.length cap')) w') :
  if Region.wanted o (yielded ops a.tmps) = true then Oper.wp Tryz.prog o a w K Q else E := by
 have hw : Region.wanted o (yielded ops a.tmps) = true := by simp [Region.wanted, hgd]
 rw [if_pos hw]
 subst hz
 obtain ⟨v', w', a0, h2, h3, h4⟩ := zdD w base t o.type ht _ _ xs hown B A c ys hr (by simpa using hl) hbase
 obtain ⟨_, A', cap', rfl, h2'⟩ := zhE h2
 unfold Oper.wp execOp
 simp only [ho, resolve, invoke, builtin, Sem.run_bind, Sem.run_pure, Result.andThen_ok, List.map_toArray, List.map_cons, List.map_nil, hs, hx, a0]
 exact h A' cap' w' h2' h3 h4
theorem zbP {ops : Array Oper} {rest : List Oper} {o : Oper} {a : Act} {Q : Exit → Act → World → Prop} {w : World} (s x : Operand) (t : TypeId)
  (ho : o.op = .call { callee := .builtin .append, args := #[s, x], argTypes := #[t, t] }) (hgd : o.guard = none) (ht : Tryz.prog.underlying t = some (.slice 2))
  (base : Nat) (A0 : Option Addr) (c0 : Nat) (xs : List Int) (hs : a.eval s = .slice A0 xs.length c0) (hown : Own w base A0 c0 xs)
  (B : Nat) (A : Option Addr) (c : Nat) (ys zs : List Int) (hx : a.eval x = .slice A ys.length c) (hr : Rd w B A ys) (hz : xs ++ ys = zs) (hl : zs.length ≤ 17592186044416) (hbase : base ≤ w.heap.size)
  (h : ∀ A' cap' w', Own w' base A' cap' zs → w.grownBy w' (Value.slice A0 xs.length c0).ownBlock → ((Value.slice A' zs.length cap').ownBlock = (Value.slice A0 xs.length c0).ownBlock ∨ (Value.slice A' zs.length cap').ownBlock = some w.heap.size) → wpList Tryz.prog ops Q rest (a.put o.dst (.slice A' zs.length cap')) w') :
  wpList Tryz.prog ops Q (o :: rest) a w :=
 wpList_plain hgd fun K hK => by
  have := zd6 (ops := ops) (E := True) (K := K) (Q := Q) s x t ho hgd ht base A0 c0 xs hs hown B A c ys zs hx hr hz hl hbase fun A' c' w' h2 h3 h4 => hK _ _ (h A' c' w' h2 h3 h4)
  rw [if_pos (by simp [Region.wanted, hgd])] at this
  exact this
def zbq (n : Nat) : Array Value := madeCells #[.int .i64 0] n
theorem zfp (n : Nat) : (zbq n).size = n := by simp [zbq, size_madeCells]
theorem zfm (n : Nat) : (zbq n).toList = i64s (List.replicate n 0) := by unfold zbq i64s; rw [toList_madeCells_one]; simp
theorem zc6 (n : Nat) (hn : n ≤ 17592186044416) : ∀ W : World, (Instr.makeSlice 22 (.int .i64 (n : Int)) (.int .i64 (n : Int))).run Tryz.prog W = .ok (.slice (some ⟨W.heap.size, 0, none⟩) n n) (W.alloc (.cells (zbq n) 2)) := fun W => by
 obtain ⟨i0, hi, a2, a3, a4⟩ := info_parts zgi
 have := run_make (P := Tryz.prog) W 22 2 i0 _ Tryz.underlying22 hi a2 .i64 .i64 (n : Int) (n : Int) (by omega) (Int.le_refl _) (by rw [a4]; omega) (by omega)
 rw [this, a3]
 simp only [Int.toNat_natCast, Nat.mul_one]
 rfl
theorem zeD (w : World) {base n : Nat} (h : base ≤ w.heap.size) (hn : n ≤ 17592186044416) : Own (w.alloc (.cells (zbq n) 2)) base (some ⟨w.heap.size, 0, none⟩) n (List.replicate n 0) := by
 have := World.ownsRow_lit (base := base) (e := 2) (size := 1) w (zbq n) n h (by unfold maxLen; omega) (by rw [zfp]; omega)
 rw [zfm] at this
 unfold Own
 rw [List.length_replicate]; exact this
theorem Own.store {w : World} {base cap g : Nat} {m : List Int} (h : Own w base (some ⟨g, 0, none⟩) cap m) (k : Nat) (x : Int) : Own (w.setCell ⟨g, k, none⟩ (.int .i64 x)) base (some ⟨g, 0, none⟩) cap (m.set k x) := by
 have := (World.ownsRow.stored (w := w) (xs := i64s m) h k (.int .i64 x)).1
 unfold Own
 have e : i64s (m.set k x) = (i64s m).set k (.int .i64 x) := by unfold i64s; rw [List.map_set]
 rw [e, List.length_set]; exact this
theorem zkc (w0 : World) {s L : Nat} (hs : w0.heap.size = s) (hL : L ≤ 17592186044416) (cs : Array Value) (T : TypeId) :
  Blk ((w0.alloc (.cells (zbq L) 2)).alloc (.cells cs T)).drew (s + 1) T cs ∧ Own ((w0.alloc (.cells (zbq L) 2)).alloc (.cells cs T)).drew s (some ⟨s, 0, none⟩) L (List.replicate L 0) ∧ Below s w0 ((w0.alloc (.cells (zbq L) 2)).alloc (.cells cs T)).drew := by
 subst hs
 refine ⟨?_, ?_, ?_⟩
 ·have := Blk.new (w0.alloc (.cells (zbq L) 2)) T cs
  simp only [World.size_alloc] at this
  exact this
 ·exact ((zeD w0 (Nat.le_refl _) hL).below ((Below.refl _ _).alloc (Nat.le_refl _) _)).below (Below.refl _ _).drew
 ·exact (((Below.refl _ _).alloc (Nat.le_refl _) _).alloc (by simp) _).drew
theorem zkd (w0 : World) {s L : Nat} (hs : w0.heap.size = s) (hL : L ≤ 17592186044416) (cs : Array Value) (T : TypeId) :
  Blk ((w0.alloc (.cells cs T)).alloc (.cells (zbq L) 2)).drew s T cs ∧ Own ((w0.alloc (.cells cs T)).alloc (.cells (zbq L) 2)).drew s (some ⟨s + 1, 0, none⟩) L (List.replicate L 0) ∧ Below s w0 ((w0.alloc (.cells cs T)).alloc (.cells (zbq L) 2)).drew := by
 subst hs
 refine ⟨(Blk.new w0 T cs).alloc _, ?_, ?_⟩
 ·have := zeD (w0.alloc (.cells cs T)) (base := w0.heap.size) (by simp) hL
  simp only [World.size_alloc] at this
  exact this.below (Below.refl _ _).drew
 ·exact (((Below.refl _ _).alloc (Nat.le_refl _) _).alloc (by simp) _).drew
theorem zbA (w : World) (base : Nat) : Own w base none 0 [] := World.ownsRow_nil _ _ _ _
theorem zhT (w : World) {base : Nat} (h : base ≤ w.heap.size) : Own (w.alloc (.cells #[] 2)) base (some ⟨w.heap.size, 0, none⟩) 0 [] := World.ownsRow_lit w #[] 0 h (by unfold maxLen; omega) rfl
end
section
open Go.RowKit
attribute [local go_sem ↓] Go.wp_at_zero Go.wp_at_succ
theorem zeP (m : List Int) (A : Option Addr) (cap : Nat) (w : World) (hr : Rd w w.heap.size A m) (hm : m.length ≤ 17592186044416) :
  Calls Tryz.prog 164 #[.slice A m.length cap] w fun e w' => ∃ A' cap', e = .returned (.slice A' m.length cap') ∧ Own w' w.heap.size A' cap' m ∧ Below w.heap.size w w' := by
 have q := fun w => Lib.run_eql_slice_nil (P := Tryz.prog) w 22 2 A m.length cap 0 0 Tryz.underlying22
 go_enter Tryz.func164, Tryz.ntmps164
 go_wp2_with (at_builtin; go_loud (refine zbP _ _ _ rfl rfl Tryz.underlying22 w.heap.size (some ⟨w.heap.size, 0, none⟩) 0 [] rfl (zhT w (Nat.le_refl _)) w.heap.size A cap m m rfl (hr.below ((Below.refl _ _).alloc (Nat.le_refl _) _)) rfl hm (by simp) ?_); intro A1 c1 w1 a0 hg1 _; have hb1 := zaW (B := w.heap.size) hg1 (by simp [Value.ownBlock]) (by simp); clear hg1)
 ·go_ret
  have hA : A = none := by simpa using (‹A.isNone = true› : _)
  subst hA
  obtain rfl : m = [] := hr.nil
  exact ⟨none, 0, rfl, zbA _ _, Below.refl _ _⟩
 ·go_ret
  exact ⟨A1, c1, rfl, a0, ((Below.refl _ _).alloc (Nat.le_refl _) _).trans hb1⟩
end
section

end
section
open Go.RowKit
attribute [local go_sem ↓] Go.wp_at_zero Go.wp_at_succ
def zbr (o : O) (i j : Int) : Bool := zaq (gI o.m (2 * o.n * i + j)) && !(decide (i = j) && (gI o.m (2 * o.n * i + j) != 0)) && (gI o.m (2 * o.n * i + j) == gI o.m (2 * o.n * xor1 j + xor1 i))
def zb7 (o : O) : Bool := !(decide (0 ≤ o.n ∧ o.n ≤ 64)) || (o.e && decide (0 < o.m.length)) || (!o.e && !(decide ((o.m.length : Int) = 4 * o.n * o.n)))
def zcT (o : O) (i : Int) (k : Nat) : Bool := (List.range k).all fun j => zbr o i j
def zbB (o : O) (k : Nat) : Bool := (List.range k).all fun i => zcT o i (2 * o.n).toNat
def check (o : O) : Int := if zb7 o then 120 else if o.e then 0 else if zbB o (2 * o.n).toNat then 0 else 121
theorem zcq {o : O} {i : Int} {k : Nat} (h : zcT o i k = true) (h1 : zbr o i k = true) : zcT o i (k + 1) = true := by
 unfold zcT at *; rw [List.range_succ, List.all_append, h]; simpa using h1
theorem zdJ {o : O} {k : Nat} (h : zbB o k = true) (h1 : zcT o k (2 * o.n).toNat = true) : zbB o (k + 1) = true := by
 unfold zbB at *; rw [List.range_succ, List.all_append, h]; simpa using h1
theorem zki {n : Int} {m : List Int} (hn : 0 ≤ n) (hn' : n ≤ 64) (hl : (m.length : Int) = 4 * n * n) : zb7 ⟨n, false, m⟩ = false := by
 unfold zb7; simp [hn, hn', hl]
theorem zc9 {n : Int} {m : List Int} (hn : 0 ≤ n) (hn' : n ≤ 64) (hl : (m.length : Int) = 4 * n * n) (h : zbB ⟨n, false, m⟩ (2 * n).toNat = true) : check ⟨n, false, m⟩ = 0 := by
 unfold check; rw [zki hn hn' hl]; simp [h]
theorem zbw {n : Int} {m : List Int} {k l : Nat} (hn : 0 ≤ n) (hn' : n ≤ 64) (hl : (m.length : Int) = 4 * n * n) (hk : (k : Int) < 2 * n) (hl' : (l : Int) < 2 * n) (h : zbr ⟨n, false, m⟩ k l = false) : check ⟨n, false, m⟩ = 121 := by
 have h1 : zcT ⟨n, false, m⟩ k (2 * n).toNat = false := by
  unfold zcT; rw [List.all_eq_false]; exact ⟨l, by simp; omega, by simp [h]⟩
 have h2 : zbB ⟨n, false, m⟩ (2 * n).toNat = false := by
  unfold zbB; rw [List.all_eq_false]; exact ⟨k, by simp; omega, by simp [h1]⟩
 unfold check; rw [zki hn hn' hl]; simp [h2]
theorem zfY {n k l L : Int} (hn : 0 ≤ n) (_ : n ≤ 64) (h0 : 0 ≤ k) (h1 : k < 2 * n) (h2 : 0 ≤ l) (h3 : l < 2 * n) (hl : L = 4 * n * n) : 0 ≤ 2 * n * k + l ∧ 2 * n * k + l < L := by
 have e1 : 0 ≤ 2 * n * k := Int.mul_nonneg (by omega) h0
 have e2 : 2 * n * (k + 1) ≤ 2 * n * (2 * n) := Int.mul_le_mul_of_nonneg_left (by omega) (by omega)
 have e3 : 2 * n * (2 * n) = 4 * n * n := by rw [Int.mul_assoc, Int.mul_assoc, Int.mul_comm n (2 * n), Int.mul_assoc, ← Int.mul_assoc 2 2]; rfl
 have e4 : 2 * n * (k + 1) = 2 * n * k + 2 * n := by rw [Int.mul_add, Int.mul_one]
 omega
theorem zfC (n : Int) (m : List Int) (A : Option Addr) (cap : Nat) (w : World) (hr : Rd w w.heap.size A m) (_hm : m.length ≤ 281474976710656) (hn : 0 ≤ n) (hn' : n ≤ 64) (hl : (m.length : Int) = 4 * n * n) :
  Calls Tryz.prog 56 #[.agg #[n, false, .slice A m.length cap]] w fun e w' => e = .returned (.int .i64 (check ⟨n, false, m⟩)) ∧ Below w.heap.size w w' := by
 have tn := decide_eq_true (And.intro hn hn')
 have tl : ((m.length : Int) != 4 * n * n) = false := by simpa using hl
 have tq : 0 ≤ 4 * n * n := Int.mul_nonneg (by omega) hn
 have tq' : 4 * n * n ≤ 4 * 64 * 64 := Int.mul_le_mul (by omega) (by omega) hn (by omega)
 have HL := hid hl; clear hl
 go_enter Tryz.func56, Tryz.ntmps56
 go_wp2_with (go_at_call 119; refine (zbC _ _).mono ?_; rintro e w' ⟨rfl, rfl⟩)
 have HB : Below (w.heap.size + 1) (w.alloc (Obj.cells #[Value.int IntKind.i64 n, Value.bool false, Value.slice A m.length cap] 24)) (w.alloc (Obj.cells #[Value.int IntKind.i64 n, Value.bool false, Value.slice A m.length cap] 24)) := Below.refl _ _
 have c0 : (w.alloc (Obj.cells #[Value.int IntKind.i64 n, Value.bool false, Value.slice A m.length cap] 24)).cell? ⟨w.heap.size, 0, none⟩ = some (.int .i64 n) := by simp [go_sem]
 have c2 : (w.alloc (Obj.cells #[Value.int IntKind.i64 n, Value.bool false, Value.slice A m.length cap] 24)).cell? ⟨w.heap.size, 2, none⟩ = some (.slice A m.length cap) := by simp [go_sem]
 have hr1 : Rd (w.alloc (Obj.cells #[Value.int IntKind.i64 n, Value.bool false, Value.slice A m.length cap] 24)) (w.heap.size + 1) A m := (hr.below ((Below.refl _ _).alloc (Nat.le_refl _) _)).more (Nat.le_succ _)
 have hs1 : w.heap.size + 1 = (w.alloc (Obj.cells #[Value.int IntKind.i64 n, Value.bool false, Value.slice A m.length cap] 24)).heap.size := by simp
 have b1 : Below w.heap.size w (w.alloc (Obj.cells #[Value.int IntKind.i64 n, Value.bool false, Value.slice A m.length cap] 24)) := (Below.refl _ _).alloc (Nat.le_refl _) _
 generalize hw1 : w.alloc (Obj.cells #[Value.int IntKind.i64 n, Value.bool false, Value.slice A m.length cap] 24) = w1 at *
 go_loopw [43] (fun i wr => ∃ k : Nat, (k : Int) ≤ 2 * n ∧ i = .int .i64 k ∧ zbB ⟨n, false, m⟩ k = true ∧ Below (w.heap.size + 1) w1 wr) (fun i _ => (2 * n).toNat - (RowKit.intOf i).toNat)
 case atStart => exact ⟨0, by omega, rfl, rfl, HB⟩
 case round =>
  obtain ⟨k, hk, rfl, hok, b2⟩ := hrel
  have d0 := (b2.cell (p := ⟨w.heap.size, 0, none⟩) (by simp)).trans c0
  by_cases hlt : (k : Int) < 2 * n
  ·go_wp2
   go_loopw [49] (fun j wq => ∃ l : Nat, (l : Int) ≤ 2 * n ∧ j = .int .i64 l ∧ zcT ⟨n, false, m⟩ k l = true ∧ Below (w.heap.size + 1) w1 wq) (fun j _ => (2 * n).toNat - (RowKit.intOf j).toNat)
   case atStart => exact ⟨0, by omega, rfl, rfl, b2⟩
   case round =>
    obtain ⟨l, hl, rfl, a7, a2⟩ := hrel
    have q0 := (a2.cell (p := ⟨w.heap.size, 0, none⟩) (by simp)).trans c0
    by_cases hlt' : (l : Int) < 2 * n
    ·go_wp2
     have e0 : (wr.alloc (Obj.cells #[Value.int IntKind.i64 ↑k, Value.int IntKind.i64 ↑l] 116)).cell? ⟨w.heap.size, 0, none⟩ = some (.int .i64 n) := cell_later ((Below.refl _ _).alloc (Nat.le_refl _) _) q0
     have q2 := (a2.cell (p := ⟨w.heap.size, 2, none⟩) (by simp)).trans c2
     have e2 : (wr.alloc (Obj.cells #[Value.int IntKind.i64 ↑k, Value.int IntKind.i64 ↑l] 116)).cell? ⟨w.heap.size, 2, none⟩ = some (.slice A m.length cap) := cell_later ((Below.refl _ _).alloc (Nat.le_refl _) _) q2
     have a0 : (wr.alloc (Obj.cells #[Value.int IntKind.i64 ↑k, Value.int IntKind.i64 ↑l] 116)).cell? ⟨wr.heap.size, 0, none⟩ = some (.int .i64 k) := by simp [go_sem]
     have a1 : (wr.alloc (Obj.cells #[Value.int IntKind.i64 ↑k, Value.int IntKind.i64 ↑l] 116)).cell? ⟨wr.heap.size, 1, none⟩ = some (.int .i64 l) := by simp [go_sem]
     have a4 : Below (w.heap.size + 1) wr (wr.alloc (Obj.cells #[Value.int IntKind.i64 ↑k, Value.int IntKind.i64 ↑l] 116)) := (Below.refl _ _).alloc (by have := a2.size; omega) _
     generalize hw2 : wr.alloc (Obj.cells #[Value.int IntKind.i64 ↑k, Value.int IntKind.i64 ↑l] 116) = w2 at *
     have a9 : w.heap.size + 1 ≤ w2.heap.size := by have := a2.size; have := a4.size; omega
     have f0 := later e0
     have f2 := later e2
     have g0 := later a0
     have g1 := later a1
     clear e0 e2 a0 a1 q0 q2
     have ib := zfY (n := n) (k := k) (l := l) hn hn' (by omega) hlt (by omega) hlt' HL.out
     obtain ⟨b, off, hA, hbB, b0⟩ := hr1.at_ ib.1 ib.2
     subst hA
     have m0 := later (((a2.trans a4).cell (p := ⟨b, off + (2 * n * k + l).toNat, none⟩) hbB).trans b0)
     obtain ⟨ib1, ib2⟩ := ib
     refine zad 9 (fun W => Below w2.heap.size w2 W) (by kernel_rfl) (by kernel_rfl) ?_ ?_
     ·exact (Below.refl _ _).drew
     refine fl_a ?_
     refine Flow.call 85 #[.agg #[(k : Int), (l : Int)], n] (.int .i64 (2 * n * k + l)) (by rfl) (fun W hW => by go_simp) (fun W hW => (zdi _ _ _ _ hn hn' (by omega) (by omega) (by omega) (by omega)).mono fun e w' ⟨he, hb⟩ => ⟨he, zaI hW hW.size hb⟩) ?_
     simp only [Act.put, List.setIfInBounds_toArray, List.set_cons_zero, List.set_cons_succ]
     refine fl_a ?_
     intro w3 a8
     go_wp2
     cases tb : zaq (gI m (2 * n * k + l))
     ·refine zad 25 (fun W => Below w2.heap.size w2 W) (by kernel_rfl) (by kernel_rfl) a8.drew ?_
      refine fl_a ?_
      refine Flow.call 120 #[.int .i64 (gI m (2 * n * k + l))] (.bool false) (by rfl) (fun W hW => by go_simp) (fun W hW => (zcU _ _).mono fun e w' ⟨he, hb⟩ => ⟨he.trans (retb tb), hb ▸ hW⟩) ?_
      simp only [Act.put, List.setIfInBounds_toArray, List.set_cons_zero, List.set_cons_succ]
      refine fl_a ?_
      intro w4 a3
      go_wp2
      go_ret
      exact ⟨zaQ (zbw hn hn' HL.out hlt hlt' (by unfold zbr; simp only [tb, Bool.false_and])).symm, b1.trans ((zaI (a2.trans a4) a9 a3).mono (Nat.le_succ _))⟩
     ·have mb := zeu (n := n) (i := l) (by omega) hlt'
      have mk := zeu (n := n) (i := k) (by omega) hlt
      have ib := zfY (n := n) (k := xor1 l) (l := xor1 k) hn hn' mb.1 mb.2 mk.1 mk.2 HL.out
      obtain ⟨b', off', hA', hbB', a5⟩ := hr1.at_ ib.1 ib.2
      obtain ⟨rfl, rfl⟩ : b = b' ∧ off = off' := by simpa using hA'
      have m1 := later (((a2.trans a4).cell (p := ⟨b, off + (2 * n * xor1 l + xor1 k).toNat, none⟩) hbB').trans a5)
      obtain ⟨jb1, jb2⟩ := ib
      obtain ⟨mb1, mb2⟩ := mb
      obtain ⟨mk1, mk2⟩ := mk
      by_cases ekl : k = l
      ·subst ekl
       have tkl : ((k : Int) == (k : Int)) = true := by simp
       cases tv : (gI m (2 * n * k + k) != 0)
       ·cases tm : ((gI m (2 * n * k + k)) == (gI m (2 * n * xor1 k + xor1 k)))
        ·have tm' : ((gI m (2 * n * k + k)) != (gI m (2 * n * xor1 k + xor1 k))) = true := by simpa using tm
         refine zad 25 (fun W => Below w2.heap.size w2 W) (by kernel_rfl) (by kernel_rfl) a8.drew ?_
         refine fl_a ?_
         refine Flow.call 120 #[.int .i64 (gI m (2 * n * k + k))] (.bool true) (by rfl) (fun W hW => by go_simp) (fun W hW => (zcU _ _).mono fun e w' ⟨he, hb⟩ => ⟨he.trans (retb tb), hb ▸ hW⟩) ?_
         simp only [Act.put, List.setIfInBounds_toArray, List.set_cons_zero, List.set_cons_succ]
         refine fl_a ?_
         refine Flow.call 116 #[.agg #[(k : Int), (k : Int)]] (.agg #[.int .i64 (xor1 k), .int .i64 (xor1 k)]) (by rfl) (fun W hW => by go_simp) (fun W hW => (zbY _ _ _ (by omega) (by omega) (by omega) (by omega)).mono fun e w' ⟨he, hb⟩ => ⟨he, zaI hW hW.size hb⟩) ?_
         simp only [Act.put, List.setIfInBounds_toArray, List.set_cons_zero, List.set_cons_succ]
         refine fl_a ?_
         refine Flow.call 85 #[.agg #[.int .i64 (xor1 k), .int .i64 (xor1 k)], n] (.int .i64 (2 * n * xor1 k + xor1 k)) (by rfl) (fun W hW => by go_simp) (fun W hW => (zdi _ _ _ _ hn hn' (by omega) (by omega) (by omega) (by omega)).mono fun e w' ⟨he, hb⟩ => ⟨he, zaI hW hW.size hb⟩) ?_
         simp only [Act.put, List.setIfInBounds_toArray, List.set_cons_zero, List.set_cons_succ]
         refine fl_a ?_
         intro w4 a3
         go_wp2
         go_ret
         exact ⟨zaQ (zbw hn hn' HL.out hlt hlt (by unfold zbr; simp only [tm, Bool.and_false])).symm, b1.trans ((zaI (a2.trans a4) a9 a3).mono (Nat.le_succ _))⟩
        ·have tm' : ((gI m (2 * n * k + k)) != (gI m (2 * n * xor1 k + xor1 k))) = false := by simpa using tm
         refine zad 25 (fun W => Below w2.heap.size w2 W) (by kernel_rfl) (by kernel_rfl) a8.drew ?_
         refine fl_a ?_
         refine Flow.call 120 #[.int .i64 (gI m (2 * n * k + k))] (.bool true) (by rfl) (fun W hW => by go_simp) (fun W hW => (zcU _ _).mono fun e w' ⟨he, hb⟩ => ⟨he.trans (retb tb), hb ▸ hW⟩) ?_
         simp only [Act.put, List.setIfInBounds_toArray, List.set_cons_zero, List.set_cons_succ]
         refine fl_a ?_
         refine Flow.call 116 #[.agg #[(k : Int), (k : Int)]] (.agg #[.int .i64 (xor1 k), .int .i64 (xor1 k)]) (by rfl) (fun W hW => by go_simp) (fun W hW => (zbY _ _ _ (by omega) (by omega) (by omega) (by omega)).mono fun e w' ⟨he, hb⟩ => ⟨he, zaI hW hW.size hb⟩) ?_
         simp only [Act.put, List.setIfInBounds_toArray, List.set_cons_zero, List.set_cons_succ]
         refine fl_a ?_
         refine Flow.call 85 #[.agg #[.int .i64 (xor1 k), .int .i64 (xor1 k)], n] (.int .i64 (2 * n * xor1 k + xor1 k)) (by rfl) (fun W hW => by go_simp) (fun W hW => (zdi _ _ _ _ hn hn' (by omega) (by omega) (by omega) (by omega)).mono fun e w' ⟨he, hb⟩ => ⟨he, zaI hW hW.size hb⟩) ?_
         simp only [Act.put, List.setIfInBounds_toArray, List.set_cons_zero, List.set_cons_succ]
         refine fl_a ?_
         intro w4 a3
         go_wp2
         go_roundw
         case rel => exact ⟨k + 1, by omega, by go_num, zcq a7 (by unfold zbr; simp only [tm, tb, tv, Bool.and_false, Bool.not_false, Bool.and_true]), zaI (a2.trans a4) a9 a3⟩
         case measure => simp [RowKit.intOf]; omega
       ·refine zad 25 (fun W => Below w2.heap.size w2 W) (by kernel_rfl) (by kernel_rfl) a8.drew ?_
        refine fl_a ?_
        refine Flow.call 120 #[.int .i64 (gI m (2 * n * k + k))] (.bool true) (by rfl) (fun W hW => by go_simp) (fun W hW => (zcU _ _).mono fun e w' ⟨he, hb⟩ => ⟨he.trans (retb tb), hb ▸ hW⟩) ?_
        simp only [Act.put, List.setIfInBounds_toArray, List.set_cons_zero, List.set_cons_succ]
        refine fl_a ?_
        intro w4 a3
        go_wp2
        go_ret
        exact ⟨zaQ (zbw hn hn' HL.out hlt hlt (by unfold zbr; simp only [tv, decide_true, Bool.and_self, Bool.not_true, Bool.and_false, Bool.false_and])).symm, b1.trans ((zaI (a2.trans a4) a9 a3).mono (Nat.le_succ _))⟩
      ·have tkl : ((k : Int) == (l : Int)) = false := by rw [beq_eq_false_iff_ne]; omega
       have tkd : decide ((k : Int) = (l : Int)) = false := decide_eq_false (by omega)
       cases tm : ((gI m (2 * n * k + l)) == (gI m (2 * n * xor1 l + xor1 k)))
       ·have tm' : ((gI m (2 * n * k + l)) != (gI m (2 * n * xor1 l + xor1 k))) = true := by simpa using tm
        refine zad 25 (fun W => Below w2.heap.size w2 W) (by kernel_rfl) (by kernel_rfl) a8.drew ?_
        refine fl_a ?_
        refine Flow.call 120 #[.int .i64 (gI m (2 * n * k + l))] (.bool true) (by rfl) (fun W hW => by go_simp) (fun W hW => (zcU _ _).mono fun e w' ⟨he, hb⟩ => ⟨he.trans (retb tb), hb ▸ hW⟩) ?_
        simp only [Act.put, List.setIfInBounds_toArray, List.set_cons_zero, List.set_cons_succ]
        refine fl_a ?_
        refine Flow.call 116 #[.agg #[(k : Int), (l : Int)]] (.agg #[.int .i64 (xor1 l), .int .i64 (xor1 k)]) (by rfl) (fun W hW => by go_simp) (fun W hW => (zbY _ _ _ (by omega) (by omega) (by omega) (by omega)).mono fun e w' ⟨he, hb⟩ => ⟨he, zaI hW hW.size hb⟩) ?_
        simp only [Act.put, List.setIfInBounds_toArray, List.set_cons_zero, List.set_cons_succ]
        refine fl_a ?_
        refine Flow.call 85 #[.agg #[.int .i64 (xor1 l), .int .i64 (xor1 k)], n] (.int .i64 (2 * n * xor1 l + xor1 k)) (by rfl) (fun W hW => by go_simp) (fun W hW => (zdi _ _ _ _ hn hn' (by omega) (by omega) (by omega) (by omega)).mono fun e w' ⟨he, hb⟩ => ⟨he, zaI hW hW.size hb⟩) ?_
        simp only [Act.put, List.setIfInBounds_toArray, List.set_cons_zero, List.set_cons_succ]
        refine fl_a ?_
        intro w4 a3
        go_wp2
        go_ret
        exact ⟨zaQ (zbw hn hn' HL.out hlt hlt' (by unfold zbr; simp only [tm, Bool.and_false])).symm, b1.trans ((zaI (a2.trans a4) a9 a3).mono (Nat.le_succ _))⟩
       ·have tm' : ((gI m (2 * n * k + l)) != (gI m (2 * n * xor1 l + xor1 k))) = false := by simpa using tm
        refine zad 25 (fun W => Below w2.heap.size w2 W) (by kernel_rfl) (by kernel_rfl) a8.drew ?_
        refine fl_a ?_
        refine Flow.call 120 #[.int .i64 (gI m (2 * n * k + l))] (.bool true) (by rfl) (fun W hW => by go_simp) (fun W hW => (zcU _ _).mono fun e w' ⟨he, hb⟩ => ⟨he.trans (retb tb), hb ▸ hW⟩) ?_
        simp only [Act.put, List.setIfInBounds_toArray, List.set_cons_zero, List.set_cons_succ]
        refine fl_a ?_
        refine Flow.call 116 #[.agg #[(k : Int), (l : Int)]] (.agg #[.int .i64 (xor1 l), .int .i64 (xor1 k)]) (by rfl) (fun W hW => by go_simp) (fun W hW => (zbY _ _ _ (by omega) (by omega) (by omega) (by omega)).mono fun e w' ⟨he, hb⟩ => ⟨he, zaI hW hW.size hb⟩) ?_
        simp only [Act.put, List.setIfInBounds_toArray, List.set_cons_zero, List.set_cons_succ]
        refine fl_a ?_
        refine Flow.call 85 #[.agg #[.int .i64 (xor1 l), .int .i64 (xor1 k)], n] (.int .i64 (2 * n * xor1 l + xor1 k)) (by rfl) (fun W hW => by go_simp) (fun W hW => (zdi _ _ _ _ hn hn' (by omega) (by omega) (by omega) (by omega)).mono fun e w' ⟨he, hb⟩ => ⟨he, zaI hW hW.size hb⟩) ?_
        simp only [Act.put, List.setIfInBounds_toArray, List.set_cons_zero, List.set_cons_succ]
        refine fl_a ?_
        intro w4 a3
        go_wp2
        go_roundw
        case rel => exact ⟨l + 1, by omega, by go_num, zcq a7 (by unfold zbr; simp only [tm, tb, tkd, Bool.false_and, Bool.not_false, Bool.and_true]), zaI (a2.trans a4) a9 a3⟩
        case measure => simp [RowKit.intOf]; omega
    ·have hll : l = (2 * n).toNat := by omega
     have a6 : zcT ⟨n, false, m⟩ k (2 * n).toNat = true := by rw [← hll]; exact a7
     have hnl : ¬ (l : Int) < 2 * n := hlt'
     clear hll
     go_wp2
     go_roundw
     case rel => exact ⟨k + 1, by omega, by go_num, zdJ hok a6, a2⟩
     case measure => simp [RowKit.intOf]; omega
  ·have hkk : k = (2 * n).toNat := by omega
   have a6 : zbB ⟨n, false, m⟩ (2 * n).toNat = true := by rw [← hkk]; exact hok
   clear hkk
   go_wp2
   go_ret
   exact ⟨zaQ (zc9 hn hn' HL.out a6).symm, b1.trans (b2.mono (Nat.le_succ _))⟩
end
end Go.Proofs.YtnmpgijiimglcaaGreat
