import Derived.Test.YtnmpgijiimglcaaGreatBTt01
import Derived.Test.YtnmpgijiimglcaaGreatBTt28
import Derived.Test.YtnmpgijiimglcaaGreatBTt30
import Derived.Test.YtnmpgijiimglcaaGreatBTt17
import Derived.Test.YtnmpgijiimglcaaGreatBTt21
import Derived.Test.YtnmpgijiimglcaaGreatBTt29
namespace Go.Proofs.YtnmpgijiimglcaaGreat
set_option maxRecDepth 100000
set_option maxHeartbeats 8000000
section
open Go.RowKit
namespace AtInt
theorem zer : (Tryz.prog.info? 3).map (fun i => (i.zero, i.size, i.bytes)) = some (some (.int .i64 0), 1, 8) := by kernel_rfl
def Own (w : World) (base : Nat) (A : Option Addr) (cap : Nat) (m : List Int) : Prop := w.ownsRow base 3 1 (.slice A m.length cap) m.length (i64s m)
theorem zdH {w : World} {base n : Nat} {v : Value} {m : List Int} (h : w.ownsRow base 3 1 v n (i64s m)) : n = m.length ∧ ∃ A cap, v = .slice A m.length cap ∧ Own w base A cap m := by
 have hn : n = m.length := by have := h.1; rw [zcP] at this; omega
 subst hn
 refine ⟨rfl, ?_⟩
 rcases h.2 with ⟨rfl, h0⟩ | ⟨g, cap, cur, rfl, _⟩
 ·exact ⟨none, 0, by rw [h0], by unfold Own; rw [h0] at *; exact h⟩
 ·exact ⟨_, cap, rfl, h⟩
section
variable {w w' : World} {base cap : Nat} {A : Option Addr} {m : List Int}
theorem Own.form (h : Own w base A cap m) : (A = none ∧ m = [] ∧ cap = 0) ∨ ∃ g, A = some ⟨g, 0, none⟩ ∧ base ≤ g ∧ g < w.heap.size := by
 rcases h.2 with ⟨h1, h0⟩ | ⟨g, cap', cur, h1, hb, hg, _⟩
 ·injection h1 with h1 _ h3
  exact .inl ⟨h1, List.eq_nil_of_length_eq_zero h0, h3⟩
 ·injection h1 with h1
  exact .inr ⟨g, h1, hb, (Array.getElem?_eq_some_iff.1 hg).1⟩
theorem Own.rd (h : Own w base A cap m) : Rd w w.heap.size A m := by
 intro k hk
 rcases h.form with ⟨_, rfl, _⟩ | ⟨g, rfl, _, hg⟩
 ·simp at hk
 ·refine ⟨g, 0, rfl, hg, ?_⟩
  have := World.ownsRow.cellAt (w := w) (xs := i64s m) h k (by omega)
  rw [zc1 m hk] at this
  simpa using this
theorem Own.frozen {g : Nat} (h : Own w base (some ⟨g, 0, none⟩) cap m) (j : Nat) : w.frozen? ⟨g, j, none⟩ = false := World.ownsRow.frozenAt (w := w) (xs := i64s m) h j
theorem Own.grown {row : Option Nat} (h : Own w base A cap m) (hg : w.grownBy w' row) (hne : (Value.slice A m.length cap).ownBlock = none ∨ (Value.slice A m.length cap).ownBlock ≠ row) : Own w' base A cap m := World.ownsRow.kept h hg hne
theorem Own.below (h : Own w base A cap m) (hb : Below w.heap.size w w') : Own w' base A cap m :=
 h.grown (zar hb none) (by cases h' : (Value.slice A m.length cap).ownBlock <;> simp)
theorem Own.setFar (h : Own w base A cap m) {p : Addr} (hp : p.block < base) (u : Value) : Own (w.setCell p u) base A cap m := by
 refine h.grown (zal w p u) ?_
 rcases h.form with ⟨rfl, _⟩ | ⟨g, rfl, hg, _⟩
 ·exact .inl rfl
 ·exact .inr (fun e => by simp [Value.ownBlock] at e; omega)
theorem Own.less {b2 : Nat} (h : Own w base A cap m) (hb : b2 ≤ base) : Own w b2 A cap m := by
 refine ⟨h.1, ?_⟩
 rcases h.2 with h1 | ⟨g, cap', cur, h1, h2, h3⟩
 ·exact .inl h1
 ·exact .inr ⟨g, cap', cur, h1, by omega, h3⟩
end
theorem zbp (w : World) (base : Nat) (t ty : TypeId) (ht : Tryz.prog.underlying t = some (.slice 3)) (v : Value) (n : Nat) (xs : List Int) (hown : w.ownsRow base 3 1 v n (i64s xs))
  (B : Nat) (A : Option Addr) (c : Nat) (ys : List Int) (hr : Rd w B A ys) (hl : n + ys.length ≤ 17592186044416) (hbase : base ≤ w.heap.size) :
  ∃ v' w', (Builtin.append_ #[t, t] ty #[v, .slice A ys.length c]).run Tryz.prog w = .ok v' w' ∧ w'.ownsRow base 3 1 v' (n + ys.length) (i64s (xs ++ ys)) ∧ w.grownBy w' v.ownBlock ∧
   (v'.ownBlock = v.ownBlock ∨ v'.ownBlock = some w.heap.size) := by
 obtain ⟨i0, hi, hz0, hz1, hz2⟩ := info_parts zer
 rcases A with _ | ad
 ·have hy : ys = [] := by
   cases ys with
   | nil => rfl
   | cons y ys => obtain ⟨b, off, h, _⟩ := hr 0 (by simp); cases h
  subst hy
  refine ⟨v, w, ?_, by simpa using hown, ⟨rfl, rfl, rfl, Nat.le_refl _, fun _ _ _ => rfl⟩, .inl rfl⟩
  rcases hown.2 with ⟨rfl, rfl⟩ | ⟨g, cap, cur, rfl, _, _, hnc, _⟩
  ·simp [Builtin.append_, run_underlying ht, sizeOf, typeInfo, hi, Builtin.lenOf, Builtin.firstCells]
  ·simp [Builtin.append_, run_underlying ht, sizeOf, typeInfo, hi, Builtin.lenOf, Builtin.firstCells, hnc, storeCells]
 ·have a0 : ∀ j u, (i64s ys)[j]? = some u → w.cell? (ad.add j) = some u := by
   intro j u hu
   have hj : j < ys.length := by
    have := (List.getElem?_eq_some_iff.1 hu).1
    rwa [zcP] at this
   obtain ⟨b, off, h, _, hc⟩ := hr j hj
   obtain rfl : ad = ⟨b, off, none⟩ := Option.some.inj h
   rw [zc1 ys hj] at hu
   obtain rfl := Option.some.inj hu
   rw [zfl]; exact hc
  obtain ⟨v', w', a1, h2, h3, _, h5⟩ := run_append_own_at (P := Tryz.prog) w base t ty _ i0 _ 1 8 ht hi hz0 hz1 hz2 rfl (by omega) v n (i64s xs) hown ad ys.length c (i64s ys) (by rw [zcP]; omega) a0 (zin ys) (by unfold maxLen; omega) (by omega) hbase
  refine ⟨v', w', a1, ?_, h3, h5⟩
  have : i64s (xs ++ ys) = i64s xs ++ i64s ys := by simp [i64s]
  rw [this]; exact h2
theorem zb9 {ops : Array Oper} {o : Oper} {a : Act} {K : Act → World → Prop} {Q : Exit → Act → World → Prop} {w : World} (s x : Operand) (t : TypeId)
  (ho : o.op = .call { callee := .builtin .append, args := #[s, x], argTypes := #[t, t] }) (hgd : o.guard = none) (ht : Tryz.prog.underlying t = some (.slice 3))
  (base : Nat) (A0 : Option Addr) (c0 : Nat) (xs : List Int) (hs : a.eval s = .slice A0 xs.length c0) (hown : Own w base A0 c0 xs)
  (B : Nat) (A : Option Addr) (c : Nat) (ys zs : List Int) (hx : a.eval x = .slice A ys.length c) (hr : Rd w B A ys) (hz : xs ++ ys = zs) (hl : zs.length ≤ 17592186044416) (hbase : base ≤ w.heap.size) {E : Prop}
  (h : ∀ A' cap' w', Own w' base A' cap' zs → w.grownBy w' (Value.slice A0 xs.length c0).ownBlock → ((Value.slice A' zs.length cap').ownBlock = (Value.slice A0 xs.length c0).ownBlock ∨ (Value.slice A' zs.length cap').ownBlock = some w.heap.size) → K (a.put o.dst (.slice A' zs.length cap')) w') :
  if Region.wanted o (yielded ops a.tmps) = true then Oper.wp Tryz.prog o a w K Q else E := by
 have hw : Region.wanted o (yielded ops a.tmps) = true := by simp [Region.wanted, hgd]
 rw [if_pos hw]
 subst hz
 obtain ⟨v', w', a1, h2, h3, h4⟩ := zbp w base t o.type ht _ _ xs hown B A c ys hr (by simpa using hl) hbase
 obtain ⟨_, A', cap', rfl, h2'⟩ := zdH h2
 unfold Oper.wp execOp
 simp only [ho, resolve, invoke, builtin, Sem.run_bind, Sem.run_pure, Result.andThen_ok, List.map_toArray, List.map_cons, List.map_nil, hs, hx, a1]
 exact h A' cap' w' h2' h3 h4
theorem wpList_append_ints {ops : Array Oper} {rest : List Oper} {o : Oper} {a : Act} {Q : Exit → Act → World → Prop} {w : World} (s x : Operand) (t : TypeId)
  (ho : o.op = .call { callee := .builtin .append, args := #[s, x], argTypes := #[t, t] }) (hgd : o.guard = none) (ht : Tryz.prog.underlying t = some (.slice 3))
  (base : Nat) (A0 : Option Addr) (c0 : Nat) (xs : List Int) (hs : a.eval s = .slice A0 xs.length c0) (hown : Own w base A0 c0 xs)
  (B : Nat) (A : Option Addr) (c : Nat) (ys zs : List Int) (hx : a.eval x = .slice A ys.length c) (hr : Rd w B A ys) (hz : xs ++ ys = zs) (hl : zs.length ≤ 17592186044416) (hbase : base ≤ w.heap.size)
  (h : ∀ A' cap' w', Own w' base A' cap' zs → w.grownBy w' (Value.slice A0 xs.length c0).ownBlock → ((Value.slice A' zs.length cap').ownBlock = (Value.slice A0 xs.length c0).ownBlock ∨ (Value.slice A' zs.length cap').ownBlock = some w.heap.size) → wpList Tryz.prog ops Q rest (a.put o.dst (.slice A' zs.length cap')) w') :
  wpList Tryz.prog ops Q (o :: rest) a w :=
 wpList_plain hgd fun K hK => by
  have := zb9 (ops := ops) (E := True) (K := K) (Q := Q) s x t ho hgd ht base A0 c0 xs hs hown B A c ys zs hx hr hz hl hbase fun A' c' w' h2 h3 h4 => hK _ _ (h A' c' w' h2 h3 h4)
  rw [if_pos (by simp [Region.wanted, hgd])] at this
  exact this
end AtInt
end
section
open Go.RowKit
attribute [local go_sem ↓] Go.wp_at_zero Go.wp_at_succ
theorem zmv {w : World} {g : Nat} {t : TypeId} {x : Int} (h : Blk w g t #[x]) (hg : g < w.heap.size) : Rd w w.heap.size (some ⟨g, 0, none⟩) [x] := by
 intro k hk
 obtain rfl : k = 0 := by simpa using hk
 exact ⟨g, 0, rfl, hg, h.cell 0⟩
theorem AtInt.wpList_append_1 {ops : Array Oper} {rest : List Oper} {o : Oper} {a : Act} {Q : Exit → Act → World → Prop} {w : World} (s x : Operand) (t : TypeId)
  (ho : o.op = .call { callee := .builtin .append, args := #[s, x], argTypes := #[t, t] }) (hgd : o.guard = none) (ht : Tryz.prog.underlying t = some (.slice 3))
  (base : Nat) (A0 : Option Addr) (c0 : Nat) (xs : List Int) (hs : a.eval s = .slice A0 xs.length c0) (hown : AtInt.Own w base A0 c0 xs)
  (g : Nat) (y : Int) (zs : List Int) (hx : a.eval x = .slice (some ⟨g, 0, none⟩) 1 1) (hr : Blk w g 3 #[y]) (hz : xs ++ [y] = zs) (hl : zs.length ≤ 17592186044416) (hbase : base ≤ w.heap.size)
  (h : ∀ A' cap' w', AtInt.Own w' base A' cap' zs → Below base w w' → wpList Tryz.prog ops Q rest (a.put o.dst (.slice A' zs.length cap')) w') :
  wpList Tryz.prog ops Q (o :: rest) a w :=
 AtInt.wpList_append_ints s x t ho hgd ht base A0 c0 xs hs hown w.heap.size (some ⟨g, 0, none⟩) 1 [y] zs hx (zmv hr hr.lt) hz hl hbase fun A' c' w' h2 h3 _ => h A' c' w' h2 (zat h3 (fun k hk => by
  rcases hown.form with ⟨rfl, _⟩ | ⟨g', rfl, hg, _⟩
  ·simp [Value.ownBlock] at hk
  ·simp [Value.ownBlock] at hk; omega) hbase)
theorem zmP (g : Gr) (V D E : Option Addr) (cv cd ce : Nat) (p : Nat) (w : World) (hE : RdE w w.heap.size E g.es) (le : g.es.length ≤ 8192) :
  Calls Tryz.prog 83 #[grV g V D E cv cd ce, (p : Int)] w fun e w' => ∃ A c, e = .returned (.slice A (idxI g.es g.es.length p).length c) ∧ AtInt.Own w' w.heap.size A c (idxI g.es g.es.length p) ∧ Below w.heap.size w w' := by
 unfold grV
 have n0 := new1 w (.cells #[.slice V g.nv cv, g.tm, .slice D g.sz.length cd, g.pts, g.ex, .slice E g.es.length ce] 64)
 have k0 := Blk.new w 64 #[.slice V g.nv cv, g.tm, .slice D g.sz.length cd, g.pts, g.ex, .slice E g.es.length ce]
 replace hE := hE.up n0
 go_enter Tryz.func83, Tryz.ntmps83
 go_wp2
 generalize w.alloc (.cells #[.slice V g.nv cv, g.tm, .slice D g.sz.length cd, g.pts, g.ex, .slice E g.es.length ce] 64) = w1 at *
 go_loopw [5, 6] (fun s t wr => ∃ (k : Nat) (A : Option Addr) (c : Nat), k ≤ g.es.length ∧ s = .slice A (idxI g.es k p).length c ∧ t = .int .i64 k ∧ AtInt.Own wr w1.heap.size A c (idxI g.es k p) ∧ Below w1.heap.size w1 wr) (fun _ t _ => g.es.length - (RowKit.intOf t).toNat)
 case atStart => exact ⟨0, none, 0, by omega, rfl, rfl, World.ownsRow_nil _ _ _ _, Below.refl _ _⟩
 case round =>
  obtain ⟨k, A, c, hk, rfl, rfl, own, hb⟩ := hrel
  have kr := k0.later hb
  have x5 := kr.cell 5
  have hEr := hE.up hb
  by_cases hlt : k < g.es.length
  ·have b8 : (k : Int) < (g.es.length : Int) := by omega
   obtain ⟨x, hx⟩ : ∃ x, g.es[k] = x := ⟨_, rfl⟩
   have HS : Hid (idxI g.es (k + 1) p = idxI g.es k p ++ (if x.fr = p then [(k : Int)] else [])) := hid (by rw [zg2 g.es k hlt p, hx])
   have hll := zev g.es k p
   obtain ⟨b, off, rfl, hB, p0, p1, p2, p3, p4, p5, p6, p7, p8, p9⟩ := hEr.get hlt hx
   clear hx
   generalize idxI g.es k p = l at *
   by_cases hf : x.fr = (p : Int)
   ·rw [if_pos hf] at HS
    have t1 : (x.fr == (p : Int)) = true := by simpa using hf
    clear hf
    have oo := hid (own.below (new1 wr (.cells #[(k : Int)] 3)))
    have kk := hid (Blk.new wr 3 #[(k : Int)])
    have nn := hid (new1 wr (.cells #[(k : Int)] 3))
    have HB := hid (n0.trans (hb.mono n0.size))
    have KR := hid kr
    have hbs := hb.size
    have b5 := hid hb
    clear own kr hb
    go_wp2_with (at_builtin; go_loud (refine AtInt.wpList_append_1 _ _ _ rfl rfl Tryz.underlying111 w1.heap.size A c l rfl oo.out wr.heap.size (k : Int) (l ++ [(k : Int)]) rfl kk.out rfl (by simp; omega) (by have := b5.out.size; have := nn.out.size; omega) ?_); intro A' c' w' own' rb)
    go_roundw
    case rel => exact ⟨k + 1, A', c', by omega, by rw [HS.out]; simp, by go_num, by rw [HS.out]; exact own', (b5.out.trans (nn.out.mono b5.out.size)).trans rb⟩
    case measure => simp [RowKit.intOf]; omega
   ·rw [if_neg hf, List.append_nil] at HS
    have t1 : (x.fr == (p : Int)) = false := by simpa using hf
    clear hf
    go_wp2
    go_roundw
    case rel => exact ⟨k + 1, A, c, by omega, by rw [HS.out], by go_num, by rw [HS.out]; exact own, hb⟩
    case measure => simp [RowKit.intOf]; omega
  ·obtain rfl : k = g.es.length := by omega
   go_wp2
   go_ret
   exact ⟨A, c, rfl, own.less n0.size, n0.trans (hb.mono n0.size)⟩
theorem Blk.set10 {W : World} {g : Nat} {t : TypeId} {a0 a1 a2 a3 a4 a5 a6 a7 a8 a9 v0 v1 v2 v3 v4 v5 v6 v7 v8 v9 : Value} (h : Blk W g t #[a0, a1, a2, a3, a4, a5, a6, a7, a8, a9]) :
  Blk ((((((((((W.setCell ⟨g, 0, none⟩ v0).setCell ⟨g, 1, none⟩ v1).setCell ⟨g, 2, none⟩ v2).setCell ⟨g, 3, none⟩ v3).setCell ⟨g, 4, none⟩ v4).setCell ⟨g, 5, none⟩ v5).setCell ⟨g, 6, none⟩ v6).setCell ⟨g, 7, none⟩ v7).setCell ⟨g, 8, none⟩ v8).setCell ⟨g, 9, none⟩ v9) g t #[v0, v1, v2, v3, v4, v5, v6, v7, v8, v9] := by
 have h0 : Blk _ g t #[v0, a1, a2, a3, a4, a5, a6, a7, a8, a9] := h.set_ 0 v0
 have h1 : Blk _ g t #[v0, v1, a2, a3, a4, a5, a6, a7, a8, a9] := h0.set_ 1 v1
 have h2 : Blk _ g t #[v0, v1, v2, a3, a4, a5, a6, a7, a8, a9] := h1.set_ 2 v2
 have h3 : Blk _ g t #[v0, v1, v2, v3, a4, a5, a6, a7, a8, a9] := h2.set_ 3 v3
 have h4 : Blk _ g t #[v0, v1, v2, v3, v4, a5, a6, a7, a8, a9] := h3.set_ 4 v4
 have h5 : Blk _ g t #[v0, v1, v2, v3, v4, v5, a6, a7, a8, a9] := h4.set_ 5 v5
 have h6 : Blk _ g t #[v0, v1, v2, v3, v4, v5, v6, a7, a8, a9] := h5.set_ 6 v6
 have h7 : Blk _ g t #[v0, v1, v2, v3, v4, v5, v6, v7, a8, a9] := h6.set_ 7 v7
 have h8 : Blk _ g t #[v0, v1, v2, v3, v4, v5, v6, v7, v8, a9] := h7.set_ 8 v8
 have h9 : Blk _ g t #[v0, v1, v2, v3, v4, v5, v6, v7, v8, v9] := h8.set_ 9 v9
 exact h9
theorem znG {W : World} {B g : Nat} {v0 v1 v2 v3 v4 v5 v6 v7 v8 v9 : Value} (hg : B ≤ g) (hB : B ≤ W.heap.size) :
  Below B W ((((((((((W.setCell ⟨g, 0, none⟩ v0).setCell ⟨g, 1, none⟩ v1).setCell ⟨g, 2, none⟩ v2).setCell ⟨g, 3, none⟩ v3).setCell ⟨g, 4, none⟩ v4).setCell ⟨g, 5, none⟩ v5).setCell ⟨g, 6, none⟩ v6).setCell ⟨g, 7, none⟩ v7).setCell ⟨g, 8, none⟩ v8).setCell ⟨g, 9, none⟩ v9) := by
 have h0 := zaG (W := W) (B := B) (g := g) (i := 0) (v := v0) hg hB
 have h1 := h0.setCell (p := ⟨g, 1, none⟩) hg v1
 have h2 := h1.setCell (p := ⟨g, 2, none⟩) hg v2
 have h3 := h2.setCell (p := ⟨g, 3, none⟩) hg v3
 have h4 := h3.setCell (p := ⟨g, 4, none⟩) hg v4
 have h5 := h4.setCell (p := ⟨g, 5, none⟩) hg v5
 have h6 := h5.setCell (p := ⟨g, 6, none⟩) hg v6
 have h7 := h6.setCell (p := ⟨g, 7, none⟩) hg v7
 have h8 := h7.setCell (p := ⟨g, 8, none⟩) hg v8
 have h9 := h8.setCell (p := ⟨g, 9, none⟩) hg v9
 exact h9
def zdU (xs : List Int) (e : Edg) : Bool := decide (e.kd ≠ 12) || cmpB e.op (opdX xs e.av e.an) (opdX xs e.bv e.bn)
def takenW (es : List Edg) (xs : List Int) : List Nat → Int
 | [] => -1
 | i :: r => if zdU xs (eAt es i) = true then (i : Int) else takenW es xs r
theorem zbA (es : List Edg) (xs : List Int) (i : Nat) (r : List Nat) : takenW es xs (i :: r) = if zdU xs (eAt es i) = true then (i : Int) else takenW es xs r := rfl
theorem zmj (g : Gr) (V D E : Option Addr) (cv cd ce : Nat) (gs : Nat) (V' : Option Addr) (vc : Nat) (r : Value) (xs : List Int) (ix : List Nat) (X : Option Addr) (xc : Nat) (w : World) (hE : RdE w w.heap.size E g.es) (_le : g.es.length ≤ 8192)
  (hk : Blk w gs 109 #[.slice V' xs.length vc, r]) (hx : Rd w w.heap.size V' xs) (hl : xs.length ≤ 64) (hX : Rd w w.heap.size X (ints ix)) (hln : ix.length ≤ 8192) (hix : ∀ i ∈ ix, i < g.es.length) (hr : ∀ i ∈ ix, (eAt g.es i).av < xs.length ∧ (eAt g.es i).bv < xs.length) :
  Calls Tryz.prog 82 #[grV g V D E cv cd ce, .pointer (some ⟨gs, 0, none⟩), .slice X ix.length xc] w fun e w' => e = .returned (.int .i64 (takenW g.es xs ix)) ∧ Below w.heap.size w w' := by
 unfold grV
 have n0 := new1 w (.cells #[.slice V g.nv cv, g.tm, .slice D g.sz.length cd, g.pts, g.ex, .slice E g.es.length ce] 64)
 have k0 := Blk.new w 64 #[.slice V g.nv cv, g.tm, .slice D g.sz.length cd, g.pts, g.ex, .slice E g.es.length ce]
 replace hE := hE.up n0
 replace hk := hk.later n0
 replace hx := hx.up n0
 replace hX := hX.up n0
 go_enter Tryz.func82, Tryz.ntmps82
 go_wp2
 generalize w.alloc (.cells #[.slice V g.nv cv, g.tm, .slice D g.sz.length cd, g.pts, g.ex, .slice E g.es.length ce] 64) = w1 at *
 go_loopw [7] (fun t wr => ∃ k : Nat, k ≤ ix.length ∧ t = .int .i64 k ∧ takenW g.es xs (ix.drop k) = takenW g.es xs ix ∧ Below w1.heap.size w1 wr) (fun t _ => ix.length - (RowKit.intOf t).toNat)
 case atStart => exact ⟨0, by omega, rfl, rfl, Below.refl _ _⟩
 case round =>
  obtain ⟨k, hk', rfl, ht, hb⟩ := hrel
  have kr := k0.later hb
  have ks := hk.later hb
  have c3 := hx.up hb
  have hXr := hX.up hb
  have hEr := hE.up hb
  by_cases hlt : k < ix.length
  ·have b8 : (k : Int) < (ix.length : Int) := by omega
   rw [List.drop_eq_getElem_cons hlt] at ht
   have b4 := List.getElem_mem hlt
   have hi := hix _ b4
   obtain ⟨ha, hb2⟩ := hr _ b4
   obtain ⟨b2, o2, rfl, hB2, hc⟩ := hXr.ix (k := k) hlt
   generalize ix[k] = i at *
   have hi' : (i : Int) < (g.es.length : Int) := by omega
   rw [zbA] at ht
   obtain ⟨x, c1⟩ : ∃ x, g.es[i] = x := ⟨_, rfl⟩
   obtain ⟨b, off, rfl, hB, p0, p1, p2, p3, p4, p5, p6, p7, p8, p9⟩ := hEr.get hi c1
   rw [← zfx hi, c1] at ht ha hb2
   have HG : Hid (zdU xs x = (decide (x.kd ≠ 12) || cmpB x.op (opdX xs x.av x.an) (opdX xs x.bv x.bn))) := hid rfl
   have HT := hid ht
   clear ht c1 b4
   have x5 := kr.cell 5
   have WR := hid (show Below w.heap.size w wr from n0.trans (hb.mono n0.size))
   have b5 := hid hb
   have b9 := hid (fun X (hX : Below wr.heap.size wr X) => zel gs V' vc r xs x.av x.an X (ks.later hX) (c3.up hX) ha (by omega))
   have c2 := hid (fun X (hX : Below wr.heap.size wr X) => zel gs V' vc r xs x.bv x.bn X (ks.later hX) (c3.up hX) hb2 (by omega))
   have HCM := hid (fun X => zlS x.op (opdX xs x.av x.an) (opdX xs x.bv x.bn) X)
   have hw1 := n0.size
   clear hb kr ks hk hx hX hE k0 c3 hXr hEr n0
   go_wp2
   have l5 := zac x5
   have lc := zac hc
   have LC := hid (later hc)
   have q0 := zac p0
   have q1 := zac p1
   have q2 := zac p2
   have q3 := zac p3
   have q4 := zac p4
   have q5 := zac p5
   have q6 := zac p6
   have q7 := zac p7
   have q8 := zac p8
   have q9 := zac p9
   clear x5 hc p0 p1 p2 p3 p4 p5 p6 p7 p8 p9
   refine zad 9 [Sp.val (.pointer (some ⟨w.heap.size, 5, none⟩)), Sp.val (.slice (some ⟨b, off, none⟩) g.es.length ce), Sp.val (.slice (some ⟨b2, o2, none⟩) ix.length xc), Sp.val (.int .i64 (k : Int)), Sp.val (.pointer (some ⟨b2, o2 + k, none⟩)), Sp.val (.int .i64 (i : Int)), Sp.val (.pointer (some ⟨b, off + i * 10, none⟩)), Sp.val x.val, Sp.any (zbz 44 #[.int .i64 0, .int .i64 0, .int .i64 0, .int .i64 0, .int .i64 0, .int .i64 0, .int .i64 0, .int .i64 0, .int .i64 0, .int .i64 0])] (by kernel_rfl) (by kernel_rfl) ?_
   (refine fe_t (fun _ _ => ?_))
   (refine fe_t (fun _ _ => ?_))
   (refine fe_t (fun _ _ => ?_))
   (refine fe_t (fun _ _ => ?_))
   (refine fe_t (fun _ _ => ?_))
   (refine fe_t (fun _ _ => ?_))
   (refine fe_t (fun _ _ => ?_))
   unfold Edg.val
   (refine fe_t (fun _ _ => ?_))
   refine zaf.step (by rfl) (fun W hW K hK => ?_) (fun v8 l8 h8 => ?_)
   ·go_simp
    exact hK _ _ (new1 _ _) ⟨rfl, Blk.new _ _ _, by simp⟩
   refine fe_p ?_
   refine zaf.tail (fun W hW hf hd => ?_)
   replace hW : Below wr.heap.size wr W := Ext.trans (Below.refl _ _).drew hW
   obtain ⟨g8, rfl, k8, lo8, e8, e8'⟩ := za8 (show Sp.fact wr.drew (Sp.any (zbz 44 #[.int .i64 0, .int .i64 0, .int .i64 0, .int .i64 0, .int .i64 0, .int .i64 0, .int .i64 0, .int .i64 0, .int .i64 0, .int .i64 0])) v8 l8 h8 W from hf 8)
   replace lo8 : wr.heap.size ≤ g8 := lo8
   clear hf hd e8 e8' l5 lc q0 q1 q2 q3 q4 q5 q6 q7 q8 q9
   have H8 := hid (k8.set10 (v0 := .int .i64 x.fr) (v1 := .int .i64 x.te) (v2 := .int .i64 x.kd) (v3 := .int .i64 x.dst) (v4 := .int .i64 x.arr) (v5 := .int .i64 x.op) (v6 := .int .i64 x.av) (v7 := .int .i64 x.an) (v8 := .int .i64 x.bv) (v9 := .int .i64 x.bn))
   have b7 := hid (hW.trans (znG (W := W) (B := wr.heap.size) (g := g8) (v0 := .int .i64 x.fr) (v1 := .int .i64 x.te) (v2 := .int .i64 x.kd) (v3 := .int .i64 x.dst) (v4 := .int .i64 x.arr) (v5 := .int .i64 x.op) (v6 := .int .i64 x.av) (v7 := .int .i64 x.an) (v8 := .int .i64 x.bv) (v9 := .int .i64 x.bn) lo8 hW.size))
   obtain ⟨z0, z1, z2, z3, z4, z5, z6, z7, z8, z9, zf⟩ := zam k8
   clear k8
   go_wp2
   clear z0 z1 z2 z3 z4 z5 z6 z7 z8 z9 zf
   have k8 := H8.out
   have b0 := b7.out
   clear H8 b7 hW
   generalize ((((((((((W.setCell ⟨g8, 0, none⟩ (.int .i64 x.fr)).setCell ⟨g8, 1, none⟩ (.int .i64 x.te)).setCell ⟨g8, 2, none⟩ (.int .i64 x.kd)).setCell ⟨g8, 3, none⟩ (.int .i64 x.dst)).setCell ⟨g8, 4, none⟩ (.int .i64 x.arr)).setCell ⟨g8, 5, none⟩ (.int .i64 x.op)).setCell ⟨g8, 6, none⟩ (.int .i64 x.av)).setCell ⟨g8, 7, none⟩ (.int .i64 x.an)).setCell ⟨g8, 8, none⟩ (.int .i64 x.bv)).setCell ⟨g8, 9, none⟩ (.int .i64 x.bn)) = w5 at *
   replace b9 := hid (fun X (hX : Below w5.heap.size w5 X) => b9.out X (b0.trans (hX.mono b0.size)))
   replace c2 := hid (fun X (hX : Below w5.heap.size w5 X) => c2.out X (b0.trans (hX.mono b0.size)))
   have LCC := hid (fun X (hX : Below w5.heap.size w5 X) => LC.out X (b0.trans (hX.mono b0.size)))
   have HB8 := hid (fun X (hX : Below w5.heap.size w5 X) => (show Below w1.heap.size w1 X from b5.out.trans ((b0.trans (hX.mono b0.size)).mono b5.out.size)))
   have b7 := hid (fun X (hX : Below w5.heap.size w5 X) => (show Below w.heap.size w X from WR.out.trans ((b0.trans (hX.mono b0.size)).mono WR.out.size)))
   obtain ⟨z0, z1, z2, z3, z4, z5, z6, z7, z8, z9, zf⟩ := zam k8
   have f2 := later z2
   have f5 := later z5
   have f6 := later z6
   have f7 := later z7
   have f8 := later z8
   have f9 := later z9
   clear z0 z1 z2 z3 z4 z5 z6 z7 z8 z9 zf b0 k8
   refine zab 15 (fun W => Below w5.heap.size w5 W) (by kernel_rfl) (by kernel_rfl) (Below.refl _ _).drew ?_
   cases t1 : (x.kd != 12)
   ·have b3 : x.kd = 12 := by simpa using t1
    rw [decide_eq_false (by simpa using b3), Bool.false_or] at HG
    refine fl_a ?_
    (refine fl_c 157 #[.pointer (some ⟨gs, 0, none⟩), .agg #[.int .i64 x.av, .int .i64 x.an]] (.int .i64 (opdX xs x.av x.an)) (fun X hX => (b9.out X hX).mono fun e' w' ⟨he, hb'⟩ => ⟨he, za0 hX hX.size hb'⟩) ?_)
    refine fl_a ?_
    (refine fl_c 157 #[.pointer (some ⟨gs, 0, none⟩), .agg #[.int .i64 x.bv, .int .i64 x.bn]] (.int .i64 (opdX xs x.bv x.bn)) (fun X hX => (c2.out X hX).mono fun e' w' ⟨he, hb'⟩ => ⟨he, za0 hX hX.size hb'⟩) ?_)
    refine fl_a ?_
    (refine fl_c 125 #[.int .i64 x.op, .int .i64 (opdX xs x.av x.an), .int .i64 (opdX xs x.bv x.bn)] (.bool (zdU xs x)) (fun X hX => (HCM.out X).mono fun e' w' ⟨he, hb'⟩ => ⟨by rw [HG.out]; exact he, hb' ▸ hX⟩) ?_)
    intro w9 b6
    cases t2 : zdU xs x
    ·have b1 := hid (HT.out)
     rw [t2, if_neg (by simp)] at b1
     go_wp2
     go_roundw
     case rel => exact ⟨k + 1, by omega, by go_num, b1.out, HB8.out _ b6⟩
     case measure => simp [RowKit.intOf]; omega
    ·have b1 := hid (HT.out)
     rw [t2, if_pos rfl] at b1
     have c9 := LCC.out _ b6
     go_wp2
     go_ret
     exact ⟨zas b1.out, b7.out _ b6⟩
   ·have b3 : x.kd ≠ 12 := by simpa using t1
    rw [decide_eq_true b3, Bool.true_or] at HG
    have b1 := hid (HT.out)
    rw [HG.out, if_pos rfl] at b1
    refine fl_a ?_
    intro w9 b6
    have c9 := LCC.out _ b6
    go_wp2
    go_ret
    exact ⟨zas b1.out, b7.out _ b6⟩
  ·obtain rfl : k = ix.length := by omega
   have HT : Hid (takenW g.es xs ix = -1) := hid (by rw [← ht, List.drop_of_length_le (Nat.le_refl _)]; rfl)
   clear ht
   go_wp2
   go_ret
   exact ⟨zas HT.out.symm, n0.trans (hb.mono n0.size)⟩
end
section
section
variable {P : Program} {ops : Array Oper} {Q : Exit → Act → World → Prop} {S : Bool → Bool → Bool → World → Prop} {md : Region.Mode} {j1 j2 j3 : Nat}
def znU (P : Program) (_md : Region.Mode) (ops : Array Oper) (S : Bool → Bool → Bool → World → Prop) (j1 j2 j3 i : Nat) (o : Oper) (v : Value) (a : Act) : Prop :=
 ∀ b1 b2 b3, (i = j1 → b1 = false ∧ b2 = false ∧ b3 = false) → (i = j2 → b1 = true ∧ b2 = false ∧ b3 = false) → (i = j3 → b1 = true ∧ b2 = true ∧ b3 = false) → zc4 P ops (S b1 b2 b3) (S (b1 || i == j1) (b2 || i == j2) (b3 || i == j3)) o v a
def AnyO (P : Program) (md : Region.Mode) (ops : Array Oper) (Q : Exit → Act → World → Prop) (S : Bool → Bool → Bool → World → Prop) (j1 j2 j3 m : Nat) : Nat → Array Bool → Act → Prop
 | 0, listed, a => zaz m listed ∧ ∀ w, S (listed.getD j1 false) (listed.getD j2 false) (listed.getD j3 false) w → wpAny P md ops Q 0 listed a w
 | fuel + 1, listed, a => (zaz m listed ∧ ∀ w, S (listed.getD j1 false) (listed.getD j2 false) (listed.getD j3 false) w → wpAny P md ops Q (fuel + 1) listed a w) ∨
  (Region.ready md ops listed ≠ [] ∧ ∀ i ∈ Region.ready md ops listed, i < m ∧ ∃ o v, ops[i]? = some o ∧ znU P md ops S j1 j2 j3 i o v a ∧ AnyO P md ops Q S j1 j2 j3 m fuel (listed.setIfInBounds i true) (a.put o.dst v))
theorem AnyO.wpAny (hwt : zmb md ops j1 j2) (hwt2 : zmb md ops j2 j3) (hQ : ∀ e a w, zbN e a w → Q e a w) {m : Nat} : ∀ (fuel : Nat) (listed : Array Bool) (a : Act), zay md ops listed → AnyO P md ops Q S j1 j2 j3 m fuel listed a → ∀ w, S (listed.getD j1 false) (listed.getD j2 false) (listed.getD j3 false) w → Go.wpAny P md ops Q fuel listed a w
 | 0, _, _, _, h, w, hS => h.2 w hS
 | fuel + 1, listed, a, hcl, h, w, hS => by
  rcases h with ⟨_, h⟩ | ⟨hne, h⟩
  ·exact h w hS
  ·refine ⟨fun h0 => absurd h0 hne, fun i hi => ?_⟩
   obtain ⟨_, o, v, ho, a6, a1⟩ := h i hi
   obtain ⟨g1, g2⟩ := zap hi
   obtain ⟨_, oi, hoi, a2⟩ := mem_ready.1 hi
   have A12 : listed.getD j2 false = true → listed.getD j1 false = true := fun hj => hwt listed hcl (fun oj a0 e he hb => hcl j2 oj a0 hj e he hb)
   have A23 : listed.getD j3 false = true → listed.getD j2 false = true := fun hj => hwt2 listed hcl (fun oj a0 e he hb => hcl j3 oj a0 hj e he hb)
   have B2 : i = j2 → listed.getD j1 false = true := fun e => by
    subst e
    exact hwt listed hcl (fun oj a0 e he hb => by rw [hoi] at a0; injection a0 with a0; subst a0; exact a2 e he hb)
   have B3 : i = j3 → listed.getD j2 false = true := fun e => by
    subst e
    exact hwt2 listed hcl (fun oj a0 e he hb => by rw [hoi] at a0; injection a0 with a0; subst a0; exact a2 e he hb)
   have N2 : listed.getD j1 false = false → listed.getD j2 false = false := fun h => by
    cases hj : listed.getD j2 false with
    | false => rfl
    | true => rw [A12 hj] at h; cases h
   have N3 : listed.getD j2 false = false → listed.getD j3 false = false := fun h => by
    cases hj : listed.getD j3 false with
    | false => rfl
    | true => rw [A23 hj] at h; cases h
   refine (a6 _ _ _ (fun e => ?_) (fun e => ?_) (fun e => ?_)).wpOp ho hS (fun w2 hS2 => AnyO.wpAny hwt hwt2 hQ fuel _ _ (hcl.set hi) a1 w2 ?_) hQ
   ·have h1 : listed.getD j1 false = false := by rw [← e]; exact g2
    exact ⟨h1, N2 h1, N3 (N2 h1)⟩
   ·have h2 : listed.getD j2 false = false := by rw [← e]; exact g2
    exact ⟨B2 e, h2, N3 h2⟩
   ·have h3 : listed.getD j3 false = false := by rw [← e]; exact g2
    exact ⟨A12 (B3 e), B3 e, h3⟩
   ·rw [zbU g1, zbU g1, zbU g1]; exact hS2
theorem AnyO.first (hsel : ∀ (j : Nat) (o : Oper) cs b, ops[j]? = some o → o.op ≠ .select cs b) {m : Nat} (htail : zco md ops m = true) {i : Nat} {oi : Oper} {v : Value} (hi : ops[i]? = some oi) (him : i < m) :
  ∀ (fuel : Nat) (listed : Array Bool) (a : Act), zay md ops listed →
   (∀ j oj, ops[j]? = some oj → j ≠ i → listed.getD j true = false → (∀ e ∈ oj.after, Region.binds md e = true → e.on ≠ i) → oi.apart ops oj = true) →
   i ∈ Region.ready md ops listed → znU P md ops S j1 j2 j3 i oi v a →
   AnyO P md ops Q S j1 j2 j3 m fuel (listed.setIfInBounds i true) (a.put oi.dst v) → AnyO P md ops Q S j1 j2 j3 m (fuel + 1) listed a := by
 intro fuel
 have early : ∀ (listed : Array Bool) (k : Nat), zay md ops listed → i ∈ Region.ready md ops listed → k ∈ Region.ready md ops listed → k < m := by
  intro listed k hc hr hk
  rcases Nat.lt_or_ge k m with h | h
  ·exact h
  ·exfalso
   obtain ⟨_, oj, a0, a2⟩ := mem_ready.1 hk
   have hjs : k < ops.size := (Array.getElem?_eq_some_iff.1 a0).1
   have h1 := List.all_eq_true.1 htail k (List.mem_range.2 hjs)
   simp only [Bool.or_eq_true, decide_eq_true_eq] at h1
   have h2 := List.all_eq_true.1 (h1.resolve_left (by omega)) i (List.mem_range.2 him)
   have h3 := zaJ hc _ _ h2 (fun o ho e he hb => by rw [a0] at ho; injection ho with ho; subst ho; exact a2 e he hb)
   rw [(zap hr).2] at h3; cases h3
 induction fuel with
 | zero =>
  intro listed a hc a3 hr hy H
  refine .inr ⟨fun h => (by rw [h] at hr; cases hr), fun k hk => ?_⟩
  by_cases hji : k = i
  ·subst hji; exact ⟨him, oi, v, hi, hy, H⟩
  ·exfalso
   have h1 := H.1 k (early listed k hc hr hk)
   rw [getD_set_ne false (Ne.symm hji), (zap hk).2] at h1; cases h1
 | succ fuel ih =>
  intro listed a hc a3 hr hy H
  refine .inr ⟨fun h => (by rw [h] at hr; cases hr), fun k hk => ?_⟩
  by_cases hji : k = i
  ·subst hji; exact ⟨him, oi, v, hi, hy, H⟩
  ·have hjm := early listed k hc hr hk
   rcases H with ⟨hd, _⟩ | ⟨_, H⟩
   ·exfalso
    have h1 := hd k hjm
    rw [getD_set_ne false (Ne.symm hji), (zap hk).2] at h1; cases h1
   ·obtain ⟨_, oj, u, a0, a6, a1⟩ := H k (ready_mono hk hji)
    obtain ⟨a5, oj', a4, a2⟩ := mem_ready.1 hk
    rw [a0] at a4; injection a4 with a4; subst a4
    have a8 : ∀ e ∈ oj.after, Region.binds md e = true → e.on ≠ i := fun e he hb heq => by
     have h1 := a2 e he hb
     rw [heq, (zap hr).2] at h1; cases h1
    obtain ⟨h1, h2, h3⟩ := Oper.apart_spec (a3 k oj a0 hji a5 a8)
    refine ⟨hjm, oj, u, a0, fun b1 b2 b3 hb hb' hb3 => (a6 b1 b2 b3 hb hb' hb3).unputApart (hsel k oj · · a0) _ _ h1, ih _ _ (hc.set hk) ?_ (ready_mono hr (Ne.symm hji)) (fun b1 b2 b3 hb hb' hb3 => (hy b1 b2 b3 hb hb' hb3).putApart (hsel i oi · · hi) _ _ h3) ?_⟩
    ·intro k' ok b4 hki hun hno
     refine a3 k' ok b4 hki ?_ hno
     by_cases hjk : k = k'
     ·subst hjk; exact a5
     ·rw [getD_set_ne true hjk] at hun; exact hun
    ·rw [Array.setIfInBounds_comm _ _ hji, ← Act.put_comm a v u h2]
     exact a1
def zb1 (P : Program) (ops : Array Oper) (Q : Exit → Act → World → Prop) (S : Bool → Bool → Bool → World → Prop) (j1 j2 j3 : Nat) : Nat → Nat → List Oper → Act → Prop
 | 0, _, l, a => ∀ w, S true true true w → wpList P ops Q l a w
 | _ + 1, _, [], a => ∀ w, S true true true w → Q .normal a w
 | m + 1, k, o :: rest, a => ∃ v, znU P .any ops S j1 j2 j3 k o v a ∧ zb1 P ops Q S j1 j2 j3 m (k + 1) rest (a.put o.dst v)
theorem zb1.anyO {m0 : Nat} (hsel : ∀ (j : Nat) (o : Oper) cs b, ops[j]? = some o → o.op ≠ .select cs b) (htail : zco .any ops m0 = true) (hm0 : m0 ≤ ops.size) (hj1 : j1 < m0) (hj2 : j2 < m0) (hj3 : j3 < m0)
  (hr : ∀ i, i < m0 → i ∈ Region.ready .any ops (pre ops.size i)) (hfr : ∀ i, i < m0 → Region.free .any ops (pre ops.size i) i = true)
  (hf : ∀ i, i < ops.size → m0 ≤ i → Region.ready .any ops (pre ops.size i) = [i]) (hend : Region.ready .any ops (pre ops.size ops.size) = []) :
  ∀ (m k : Nat) (l : List Oper), k + m = m0 → zay .any ops (pre ops.size k) → (∀ j, l[j]? = ops[k + j]?) → ∀ (a : Act), zb1 P ops Q S j1 j2 j3 m k l a → AnyO P .any ops Q S j1 j2 j3 m0 (ops.size - k) (pre ops.size k) a
 | 0, k, l, hk, _, hl, a, h => by
  have b4 : k = m0 := by omega
  subst b4
  have he : zaz k (pre ops.size k) := fun i hi => by rw [zau _ _ _ _ (by omega) (by omega)]; simpa using hi
  have b5 : (pre ops.size k).getD j1 false = true := he j1 hj1
  have b0 : (pre ops.size k).getD j2 false = true := he j2 hj2
  have a7 : (pre ops.size k).getD j3 false = true := he j3 hj3
  have h1 : ∀ w, S ((pre ops.size k).getD j1 false) ((pre ops.size k).getD j2 false) ((pre ops.size k).getD j3 false) w → Go.wpAny P .any ops Q (ops.size - k) (pre ops.size k) a w := fun w hS => zbw hf hend _ _ l (Nat.le_refl _) (by omega) hl a w (h w (by rw [b5, b0, a7] at hS; exact hS))
  generalize hn : ops.size - k = n at h1
  cases n with
  | zero => exact ⟨he, h1⟩
  | succ n => exact .inl ⟨he, h1⟩
 | m + 1, k, l, hk, hc, hl, a, h => by
  have a9 : k < ops.size := by omega
  cases l with
  | nil => have := hl 0; simp [Array.getElem?_eq_getElem a9] at this
  | cons o l =>
   have ho : ops[k]? = some o := by simpa using (hl 0).symm
   have hl' : ∀ j, l[j]? = ops[k + 1 + j]? := fun j => by have := hl (j + 1); simpa [Nat.add_assoc, Nat.add_comm 1 j] using this
   obtain ⟨v, a6, a1⟩ := h
   have hn : ops.size - k = (ops.size - (k + 1)) + 1 := by omega
   rw [hn]
   refine AnyO.first hsel htail ho (by omega) _ _ _ hc (Region.free_spec ho (hfr k (by omega))) (hr k (by omega)) a6 ?_
   rw [zbt _ _ a9]
   refine zb1.anyO hsel htail hm0 hj1 hj2 hj3 hr hfr hf hend m (k + 1) l (by omega) ?_ hl' _ a1
   rw [← zbt _ _ a9]
   exact hc.set (hr k (by omega))
theorem zez {id : Nat} {l : List Oper} {a : Act} {w : World} (m j1 j2 j3 : Nat) (S : Bool → Bool → Bool → World → Prop) (hm : P.follows .mixedOrders = true) (hc : zcB l.toArray m = true) (hwt : zbh .any l.toArray j1 l.toArray.size j2 = true) (hwt2 : zbh .any l.toArray j2 l.toArray.size j3 = true) (hj1 : j1 < m) (hj2 : j2 < m) (hj3 : j3 < m) (hS : S false false false w.drew)
  (h : zb1 P l.toArray Q S j1 j2 j3 m 0 l a) : (Code.region id l.toArray true).wp P Q a w := by
 simp only [zcB, Bool.and_eq_true, decide_eq_true_eq, beq_iff_eq, List.all_eq_true, List.mem_range] at hc
 obtain ⟨⟨⟨⟨⟨c1, c2⟩, c3⟩, c4⟩, c5⟩, c6⟩ := hc
 have hQ : ∀ e a w, zbN e a w → Q e a w := fun _ _ _ h => (h : False).elim
 refine wp_region_any hm ?_
 have hp : Array.replicate l.toArray.size false = pre l.toArray.size 0 := by simp [pre, ← List.toArray_replicate]
 rw [hp]
 have hr : ∀ i, i < m → i ∈ Region.ready .any l.toArray (pre l.toArray.size i) := fun i hi => by simpa using (c4 i hi).1
 refine AnyO.wpAny (zf8 hwt) (zf8 hwt2) hQ _ _ _ ?_ (zb1.anyO (m0 := m) (k := 0) (Region.noSelect_spec c1) c3 c2 hj1 hj2 hj3 hr (fun i hi => (c4 i hi).2) ?_ c6 m l (by omega) ?_ (by simp) a h) w.drew ?_
 rotate_left
 ·intro i hi hmi
  have := c5 (i - m) (by omega)
  rwa [show m + (i - m) = i by omega] at this
 ·intro k o _ hk
  exfalso
  rcases Nat.lt_or_ge k l.toArray.size with h' | h'
  ·rw [zau _ _ _ _ (by omega) h'] at hk; simp at hk
  ·rw [Array.getD, dif_neg (by rw [zaQ _ _ (by omega)]; omega)] at hk; cases hk
 ·rw [zau _ _ _ _ (by omega) (by omega), zau _ _ _ _ (by omega) (by omega), zau _ _ _ _ (by omega) (by omega)]; simpa using hS
 ·intro k o _ hk
  exfalso
  rcases Nat.lt_or_ge k l.toArray.size with h' | h'
  ·rw [zau _ _ _ _ (by omega) h'] at hk; simp at hk
  ·rw [Array.getD, dif_neg (by rw [zaQ _ _ (by omega)]; omega)] at hk; cases hk
def zkA (S : Bool → Bool → Bool → World → Prop) (w : World) : Prop := ∃ b1 b2 b3, S b1 b2 b3 w
theorem zb1.take {m k : Nat} {o : Oper} {rest : List Oper} {a : Act} (v : Value) (hk : (k == j1) = false) (hk2 : (k == j2) = false) (hk3 : (k == j3) = false) (hw : Region.wanted o (yielded ops a.tmps) = true) (h : ∀ w, zkA S w → ∀ R : Value → Prop, R v → Yl R w ((execOp a.eval o).run P w)) (hr : zb1 P ops Q S j1 j2 j3 m (k + 1) rest (a.put o.dst v)) :
  zb1 P ops Q S j1 j2 j3 (m + 1) k (o :: rest) a :=
 ⟨v, fun b1 b2 b3 _ _ _ => .inl ⟨hw, fun w hS K hK => by
  rw [hk, hk2, hk3, Bool.or_false, Bool.or_false, Bool.or_false] at hK
  have h1 := h w ⟨b1, b2, b3, hS⟩ (fun x => x = v) rfl
  unfold Oper.wp
  generalize (execOp a.eval o).run P w = r at *
  cases r with
  | ok n w' =>
   cases n with
   | value x => obtain ⟨e1, e2⟩ := h1; subst e1; subst e2; exact hK _ _ rfl hS
   | _ => exact h1.elim
  | halt x w' => exact h1.elim⟩, hr⟩
theorem zb1.mark1 {m k : Nat} {o : Oper} {rest : List Oper} {a : Act} (v : Value) (hk : (k == j1) = true) (hk2 : (k == j2) = false) (hk3 : (k == j3) = false) (hw : Region.wanted o (yielded ops a.tmps) = true)
  (h : ∀ w, S false false false w → ∃ w2, (execOp a.eval o).run P w = .ok (.value v) w2 ∧ S true false false w2) (hr : zb1 P ops Q S j1 j2 j3 m (k + 1) rest (a.put o.dst v)) :
  zb1 P ops Q S j1 j2 j3 (m + 1) k (o :: rest) a :=
 ⟨v, fun b1 b2 b3 hb _ _ => .inl ⟨hw, fun w hS K hK => by
  obtain ⟨rfl, rfl, rfl⟩ := hb (by simpa using hk)
  rw [hk, hk2, hk3] at hK
  obtain ⟨w2, h1, h2⟩ := h w hS
  unfold Oper.wp; rw [h1]; exact hK _ _ rfl h2⟩, hr⟩
theorem zb1.mark2 {m k : Nat} {o : Oper} {rest : List Oper} {a : Act} (v : Value) (hk : (k == j1) = false) (hk2 : (k == j2) = true) (hk3 : (k == j3) = false) (hw : Region.wanted o (yielded ops a.tmps) = true)
  (h : ∀ w, S true false false w → ∃ w2, (execOp a.eval o).run P w = .ok (.value v) w2 ∧ S true true false w2) (hr : zb1 P ops Q S j1 j2 j3 m (k + 1) rest (a.put o.dst v)) :
  zb1 P ops Q S j1 j2 j3 (m + 1) k (o :: rest) a :=
 ⟨v, fun b1 b2 b3 _ hb _ => .inl ⟨hw, fun w hS K hK => by
  obtain ⟨rfl, rfl, rfl⟩ := hb (by simpa using hk2)
  rw [hk, hk2, hk3] at hK
  obtain ⟨w2, h1, h2⟩ := h w hS
  unfold Oper.wp; rw [h1]; exact hK _ _ rfl h2⟩, hr⟩
theorem zb1.mark3 {m k : Nat} {o : Oper} {rest : List Oper} {a : Act} (v : Value) (hk : (k == j1) = false) (hk2 : (k == j2) = false) (hk3 : (k == j3) = true) (hw : Region.wanted o (yielded ops a.tmps) = true)
  (h : ∀ w, S true true false w → ∃ w2, (execOp a.eval o).run P w = .ok (.value v) w2 ∧ S true true true w2) (hr : zb1 P ops Q S j1 j2 j3 m (k + 1) rest (a.put o.dst v)) :
  zb1 P ops Q S j1 j2 j3 (m + 1) k (o :: rest) a :=
 ⟨v, fun b1 b2 b3 _ _ hb => .inl ⟨hw, fun w hS K hK => by
  obtain ⟨rfl, rfl, rfl⟩ := hb (by simpa using hk3)
  rw [hk, hk2, hk3] at hK
  obtain ⟨w2, h1, h2⟩ := h w hS
  unfold Oper.wp; rw [h1]; exact hK _ _ rfl h2⟩, hr⟩
def SO (w0 w1 w2 w3 : World) : Bool → Bool → Bool → World → Prop
 | false, false, false => fun W => W = w0
 | true, false, false => fun W => W = w1
 | true, true, false => fun W => W = w2
 | true, true, true => fun W => W = w3
 | _, _, _ => fun _ => False
theorem SO.any {w0 w1 w2 w3 W : World} (h : zkA (SO w0 w1 w2 w3) W) : W = w0 ∨ W = w1 ∨ W = w2 ∨ W = w3 := by
 obtain ⟨b1, b2, b3, h⟩ := h
 cases b1 <;> cases b2 <;> cases b3
 ·exact .inl h
 ·exact h.elim
 ·exact h.elim
 ·exact h.elim
 ·exact .inr (.inl h)
 ·exact h.elim
 ·exact .inr (.inr (.inl h))
 ·exact .inr (.inr (.inr h))
end
end
end Go.Proofs.YtnmpgijiimglcaaGreat
