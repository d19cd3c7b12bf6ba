/-
  Slices of int that the call itself made (as XOwn, at the type int; printed by gen_ownint.py).
  gnomonref9.Out, gnomonref10.taken: what they answer.
-/
import Derived.Test.YtkncebcekhfnfaaGreatBWL02
import Derived.Test.YtkncebcekhfnfaaGreatBWL14
import Derived.Test.YtkncebcekhfnfaaGreatRGCheck
import Derived.Test.YtkncebcekhfnfaaGreatBWL11
namespace Go.Proofs.YtkncebcekhfnfaaGreat
open Go.RowKit
section
namespace AtInt
theorem i64_info : (Tryz.prog.info? 3).map (fun i => (i.zero, i.size, i.bytes)) = some (some (.int .i64 0), 1, 8) := by kernel_rfl
/-- The slice at A (a row of the call's own, from block base on; or nil) holds m. -/
def Own (w : World) (base : Nat) (A : Option Addr) (cap : Nat) (m : List Int) : Prop := w.ownsRow base 3 1 (.slice A m.length cap) m.length (i64s m)

theorem own_slice {w : World} {base n : Nat} {v : Value} {m : List Int} (h : w.ownsRow base 3 1 v n (i64s m)) : n = m.length ∧ ∃ A cap, v = .slice A m.length cap ∧ Own w base A cap m := by
  have hn : n = m.length := by have := h.1; rw [i64s_len] at this; omega
  subst hn
  refine ⟨rfl, ?_⟩
  rcases h.2 with ⟨rfl, h0⟩ | ⟨g, cap, cur, rfl, _⟩
  · exact ⟨none, 0, by rw [h0], by unfold Own; rw [h0] at *; exact h⟩
  · exact ⟨_, cap, rfl, h⟩

section
variable {w w' : World} {base cap : Nat} {A : Option Addr} {m : List Int}
theorem Own.form (h : Own w base A cap m) : (A = none ∧ m = [] ∧ cap = 0) ∨ ∃ g, A = some ⟨g, 0, none⟩ ∧ base ≤ g ∧ g < w.heap.size := by
  rcases h.2 with ⟨h1, h0⟩ | ⟨g, cap', cur, h1, hb, hg, _⟩
  · injection h1 with h1 _ h3
    exact .inl ⟨h1, List.eq_nil_of_length_eq_zero h0, h3⟩
  · injection h1 with h1
    exact .inr ⟨g, h1, hb, (Array.getElem?_eq_some_iff.1 hg).1⟩
theorem Own.rd (h : Own w base A cap m) : Rd w w.heap.size A m := by
  intro k hk
  rcases h.form with ⟨_, rfl, _⟩ | ⟨g, rfl, _, hg⟩
  · simp at hk
  · refine ⟨g, 0, rfl, hg, ?_⟩
    have := World.ownsRow.cellAt (w := w) (xs := i64s m) h k (by omega)
    rw [i64s_get m hk] at this
    simpa using this
theorem Own.frozen {g : Nat} (h : Own w base (some ⟨g, 0, none⟩) cap m) (j : Nat) : w.frozen? ⟨g, j, none⟩ = false := World.ownsRow.frozenAt (w := w) (xs := i64s m) h j
theorem Own.grown {row : Option Nat} (h : Own w base A cap m) (hg : w.grownBy w' row) (hne : (Value.slice A m.length cap).ownBlock = none ∨ (Value.slice A m.length cap).ownBlock ≠ row) : Own w' base A cap m := World.ownsRow.kept h hg hne
theorem Own.below (h : Own w base A cap m) (hb : Below w.heap.size w w') : Own w' base A cap m :=
  h.grown (grown_of_below hb none) (by cases h' : (Value.slice A m.length cap).ownBlock <;> simp)
theorem Own.setFar (h : Own w base A cap m) {p : Addr} (hp : p.block < base) (u : Value) : Own (w.setCell p u) base A cap m := by
  refine h.grown (grown_setCell w p u) ?_
  rcases h.form with ⟨rfl, _⟩ | ⟨g, rfl, hg, _⟩
  · exact .inl rfl
  · exact .inr (fun e => by simp [Value.ownBlock] at e; omega)
theorem Own.less {b2 : Nat} (h : Own w base A cap m) (hb : b2 ≤ base) : Own w b2 A cap m := by
  refine ⟨h.1, ?_⟩
  rcases h.2 with h1 | ⟨g, cap', cur, h1, h2, h3⟩
  · exact .inl h1
  · exact .inr ⟨g, cap', cur, h1, by omega, h3⟩
end

theorem run_append_ints (w : World) (base : Nat) (t ty : TypeId) (ht : Tryz.prog.underlying t = some (.slice 3)) (v : Value) (n : Nat) (xs : List Int) (hown : w.ownsRow base 3 1 v n (i64s xs))
    (B : Nat) (A : Option Addr) (c : Nat) (ys : List Int) (hr : Rd w B A ys) (hl : n + ys.length ≤ 17592186044416) (hbase : base ≤ w.heap.size) :
    ∃ v' w', (Builtin.append_ #[t, t] ty #[v, .slice A ys.length c]).run Tryz.prog w = .ok v' w' ∧ w'.ownsRow base 3 1 v' (n + ys.length) (i64s (xs ++ ys)) ∧ w.grownBy w' v.ownBlock ∧
      (v'.ownBlock = v.ownBlock ∨ v'.ownBlock = some w.heap.size) := by
  obtain ⟨i0, hi, hz0, hz1, hz2⟩ := info_parts i64_info
  rcases A with _ | ad
  · have hy : ys = [] := by
      cases ys with
      | nil => rfl
      | cons y ys => obtain ⟨b, off, h, _⟩ := hr 0 (by simp); cases h
    subst hy
    refine ⟨v, w, ?_, by simpa using hown, ⟨rfl, rfl, rfl, Nat.le_refl _, fun _ _ _ => rfl⟩, .inl rfl⟩
    rcases hown.2 with ⟨rfl, rfl⟩ | ⟨g, cap, cur, rfl, _, _, hnc, _⟩
    · simp [Builtin.append_, run_underlying ht, sizeOf, typeInfo, hi, Builtin.lenOf, Builtin.firstCells]
    · simp [Builtin.append_, run_underlying ht, sizeOf, typeInfo, hi, Builtin.lenOf, Builtin.firstCells, hnc, storeCells]
  · have hcells : ∀ j u, (i64s ys)[j]? = some u → w.cell? (ad.add j) = some u := by
      intro j u hu
      have hj : j < ys.length := by
        have := (List.getElem?_eq_some_iff.1 hu).1
        rwa [i64s_len] at this
      obtain ⟨b, off, h, _, hc⟩ := hr j hj
      obtain rfl : ad = ⟨b, off, none⟩ := Option.some.inj h
      rw [i64s_get ys hj] at hu
      obtain rfl := Option.some.inj hu
      rw [add_mk]; exact hc
    obtain ⟨v', w', hrun, h2, h3, _, h5⟩ := run_append_own_at (P := Tryz.prog) w base t ty _ i0 _ 1 8 ht hi hz0 hz1 hz2 rfl (by omega) v n (i64s xs) hown ad ys.length c (i64s ys) (by rw [i64s_len]; omega) hcells (i64s_one ys) (by unfold maxLen; omega) (by omega) hbase
    refine ⟨v', w', hrun, ?_, h3, h5⟩
    have : i64s (xs ++ ys) = i64s xs ++ i64s ys := by simp [i64s]
    rw [this]; exact h2

theorem wp_append_ints {ops : Array Oper} {o : Oper} {a : Act} {K : Act → World → Prop} {Q : Exit → Act → World → Prop} {w : World} (s x : Operand) (t : TypeId)
    (ho : o.op = .call { callee := .builtin .append, args := #[s, x], argTypes := #[t, t] }) (hgd : o.guard = none) (ht : Tryz.prog.underlying t = some (.slice 3))
    (base : Nat) (A0 : Option Addr) (c0 : Nat) (xs : List Int) (hs : a.eval s = .slice A0 xs.length c0) (hown : Own w base A0 c0 xs)
    (B : Nat) (A : Option Addr) (c : Nat) (ys zs : List Int) (hx : a.eval x = .slice A ys.length c) (hr : Rd w B A ys) (hz : xs ++ ys = zs) (hl : zs.length ≤ 17592186044416) (hbase : base ≤ w.heap.size) {E : Prop}
    (h : ∀ A' cap' w', Own w' base A' cap' zs → w.grownBy w' (Value.slice A0 xs.length c0).ownBlock → ((Value.slice A' zs.length cap').ownBlock = (Value.slice A0 xs.length c0).ownBlock ∨ (Value.slice A' zs.length cap').ownBlock = some w.heap.size) → K (a.put o.dst (.slice A' zs.length cap')) w') :
    if Region.wanted o (yielded ops a.tmps) = true then Oper.wp Tryz.prog o a w K Q else E := by
  have hw : Region.wanted o (yielded ops a.tmps) = true := by simp [Region.wanted, hgd]
  rw [if_pos hw]
  subst hz
  obtain ⟨v', w', hrun, h2, h3, h4⟩ := run_append_ints w base t o.type ht _ _ xs hown B A c ys hr (by simpa using hl) hbase
  obtain ⟨_, A', cap', rfl, h2'⟩ := own_slice h2
  unfold Oper.wp execOp
  simp only [ho, resolve, invoke, builtin, Sem.run_bind, Sem.run_pure, Result.andThen_ok, List.map_toArray, List.map_cons, List.map_nil, hs, hx, hrun]
  exact h A' cap' w' h2' h3 h4

theorem wpList_append_ints {ops : Array Oper} {rest : List Oper} {o : Oper} {a : Act} {Q : Exit → Act → World → Prop} {w : World} (s x : Operand) (t : TypeId)
    (ho : o.op = .call { callee := .builtin .append, args := #[s, x], argTypes := #[t, t] }) (hgd : o.guard = none) (ht : Tryz.prog.underlying t = some (.slice 3))
    (base : Nat) (A0 : Option Addr) (c0 : Nat) (xs : List Int) (hs : a.eval s = .slice A0 xs.length c0) (hown : Own w base A0 c0 xs)
    (B : Nat) (A : Option Addr) (c : Nat) (ys zs : List Int) (hx : a.eval x = .slice A ys.length c) (hr : Rd w B A ys) (hz : xs ++ ys = zs) (hl : zs.length ≤ 17592186044416) (hbase : base ≤ w.heap.size)
    (h : ∀ A' cap' w', Own w' base A' cap' zs → w.grownBy w' (Value.slice A0 xs.length c0).ownBlock → ((Value.slice A' zs.length cap').ownBlock = (Value.slice A0 xs.length c0).ownBlock ∨ (Value.slice A' zs.length cap').ownBlock = some w.heap.size) → wpList Tryz.prog ops Q rest (a.put o.dst (.slice A' zs.length cap')) w') :
    wpList Tryz.prog ops Q (o :: rest) a w :=
  wpList_plain hgd fun K hK => by
    have := wp_append_ints (ops := ops) (E := True) (K := K) (Q := Q) s x t ho hgd ht base A0 c0 xs hs hown B A c ys zs hx hr hz hl hbase fun A' c' w' h2 h3 h4 => hK _ _ (h A' c' w' h2 h3 h4)
    rw [if_pos (by simp [Region.wanted, hgd])] at this
    exact this

end AtInt
end
section
attribute [local go_sem ↓] Go.wp_at_zero Go.wp_at_succ

theorem Blk.set10 {W : World} {g : Nat} {t : TypeId} {a0 a1 a2 a3 a4 a5 a6 a7 a8 a9 v0 v1 v2 v3 v4 v5 v6 v7 v8 v9 : Value} (h : Blk W g t #[a0, a1, a2, a3, a4, a5, a6, a7, a8, a9]) :
    Blk ((((((((((W.setCell ⟨g, 0, none⟩ v0).setCell ⟨g, 1, none⟩ v1).setCell ⟨g, 2, none⟩ v2).setCell ⟨g, 3, none⟩ v3).setCell ⟨g, 4, none⟩ v4).setCell ⟨g, 5, none⟩ v5).setCell ⟨g, 6, none⟩ v6).setCell ⟨g, 7, none⟩ v7).setCell ⟨g, 8, none⟩ v8).setCell ⟨g, 9, none⟩ v9) g t #[v0, v1, v2, v3, v4, v5, v6, v7, v8, v9] := by
  have h0 : Blk _ g t #[v0, a1, a2, a3, a4, a5, a6, a7, a8, a9] := h.set_ 0 v0
  have h1 : Blk _ g t #[v0, v1, a2, a3, a4, a5, a6, a7, a8, a9] := h0.set_ 1 v1
  have h2 : Blk _ g t #[v0, v1, v2, a3, a4, a5, a6, a7, a8, a9] := h1.set_ 2 v2
  have h3 : Blk _ g t #[v0, v1, v2, v3, a4, a5, a6, a7, a8, a9] := h2.set_ 3 v3
  have h4 : Blk _ g t #[v0, v1, v2, v3, v4, a5, a6, a7, a8, a9] := h3.set_ 4 v4
  have h5 : Blk _ g t #[v0, v1, v2, v3, v4, v5, a6, a7, a8, a9] := h4.set_ 5 v5
  have h6 : Blk _ g t #[v0, v1, v2, v3, v4, v5, v6, a7, a8, a9] := h5.set_ 6 v6
  have h7 : Blk _ g t #[v0, v1, v2, v3, v4, v5, v6, v7, a8, a9] := h6.set_ 7 v7
  have h8 : Blk _ g t #[v0, v1, v2, v3, v4, v5, v6, v7, v8, a9] := h7.set_ 8 v8
  have h9 : Blk _ g t #[v0, v1, v2, v3, v4, v5, v6, v7, v8, v9] := h8.set_ 9 v9
  exact h9
theorem below10 {W : World} {B g : Nat} {v0 v1 v2 v3 v4 v5 v6 v7 v8 v9 : Value} (hg : B ≤ g) (hB : B ≤ W.heap.size) :
    Below B W ((((((((((W.setCell ⟨g, 0, none⟩ v0).setCell ⟨g, 1, none⟩ v1).setCell ⟨g, 2, none⟩ v2).setCell ⟨g, 3, none⟩ v3).setCell ⟨g, 4, none⟩ v4).setCell ⟨g, 5, none⟩ v5).setCell ⟨g, 6, none⟩ v6).setCell ⟨g, 7, none⟩ v7).setCell ⟨g, 8, none⟩ v8).setCell ⟨g, 9, none⟩ v9) := by
  have h0 := below1 (W := W) (B := B) (g := g) (i := 0) (v := v0) hg hB
  have h1 := h0.setCell (p := ⟨g, 1, none⟩) hg v1
  have h2 := h1.setCell (p := ⟨g, 2, none⟩) hg v2
  have h3 := h2.setCell (p := ⟨g, 3, none⟩) hg v3
  have h4 := h3.setCell (p := ⟨g, 4, none⟩) hg v4
  have h5 := h4.setCell (p := ⟨g, 5, none⟩) hg v5
  have h6 := h5.setCell (p := ⟨g, 6, none⟩) hg v6
  have h7 := h6.setCell (p := ⟨g, 7, none⟩) hg v7
  have h8 := h7.setCell (p := ⟨g, 8, none⟩) hg v8
  have h9 := h8.setCell (p := ⟨g, 9, none⟩) hg v9
  exact h9

/-- Which of the edges is taken. -/
def goesB (xs : List Int) (e : Edg) : Bool := decide (e.kd ≠ 12) || cmpB e.op (opdX xs e.av e.an) (opdX xs e.bv e.bn)
def takenW (es : List Edg) (xs : List Int) : List Nat → Int
  | [] => -1
  | i :: r => if goesB xs (eAt es i) = true then (i : Int) else takenW es xs r
theorem takenW_cons (es : List Edg) (xs : List Int) (i : Nat) (r : List Nat) : takenW es xs (i :: r) = if goesB xs (eAt es i) = true then (i : Int) else takenW es xs r := rfl

set_option maxRecDepth 8000 in
set_option maxHeartbeats 4000000 in
theorem taken_ok (g : Gr) (V D E : Option Addr) (cv cd ce : Nat) (gs : Nat) (V' : Option Addr) (vc : Nat) (r : Value) (xs : List Int) (ix : List Nat) (X : Option Addr) (xc : Nat) (w : World) (hE : RdE w w.heap.size E g.es) (_le : g.es.length ≤ 8192)
    (hk : Blk w gs 117 #[.slice V' xs.length vc, r]) (hx : Rd w w.heap.size V' xs) (hl : xs.length ≤ 64) (hX : Rd w w.heap.size X (ints ix)) (hln : ix.length ≤ 8192) (hix : ∀ i ∈ ix, i < g.es.length) (hr : ∀ i ∈ ix, (eAt g.es i).av < xs.length ∧ (eAt g.es i).bv < xs.length) :
    Calls Tryz.prog 57 #[grV g V D E cv cd ce, .pointer (some ⟨gs, 0, none⟩), .slice X ix.length xc] w fun e w' => e = .returned (.int .i64 (takenW g.es xs ix)) ∧ Below w.heap.size w w' := by
  unfold grV
  have n0 := new1 w (.cells #[.slice V g.nv cv, .int .i64 g.tm, .slice D g.sz.length cd, .int .i64 g.pts, .int .i64 g.ex, .slice E g.es.length ce] 26)
  have k0 := Blk.new w 26 #[.slice V g.nv cv, .int .i64 g.tm, .slice D g.sz.length cd, .int .i64 g.pts, .int .i64 g.ex, .slice E g.es.length ce]
  replace hE := hE.up n0
  replace hk := hk.later n0
  replace hx := hx.up n0
  replace hX := hX.up n0
  go_enter Tryz.func57, Tryz.ntmps57
  go_wp2
  generalize w.alloc (.cells #[.slice V g.nv cv, .int .i64 g.tm, .slice D g.sz.length cd, .int .i64 g.pts, .int .i64 g.ex, .slice E g.es.length ce] 26) = w1 at *
  go_loopw [7] (fun t wr => ∃ k : Nat, k ≤ ix.length ∧ t = .int .i64 k ∧ takenW g.es xs (ix.drop k) = takenW g.es xs ix ∧ Below w1.heap.size w1 wr) (fun t _ => ix.length - (Go.RowKit.intOf t).toNat)
  case atStart => exact ⟨0, by omega, rfl, rfl, Below.refl _ _⟩
  case round =>
    obtain ⟨k, hk', rfl, ht, hb⟩ := hrel
    have kr := k0.later hb
    have ks := hk.later hb
    have hxr := hx.up hb
    have hXr := hX.up hb
    have hEr := hE.up hb
    by_cases hlt : k < ix.length
    · have hlt' : (k : Int) < (ix.length : Int) := by omega
      rw [List.drop_eq_getElem_cons hlt] at ht
      have hmem := List.getElem_mem hlt
      have hi := hix _ hmem
      obtain ⟨ha, hb2⟩ := hr _ hmem
      obtain ⟨b2, o2, rfl, hB2, hc⟩ := hXr.ix (k := k) hlt
      generalize ix[k] = i at *
      have hi' : (i : Int) < (g.es.length : Int) := by omega
      rw [takenW_cons] at ht
      obtain ⟨x, hx'⟩ : ∃ x, g.es[i] = x := ⟨_, rfl⟩
      obtain ⟨b, off, rfl, hB, p0, p1, p2, p3, p4, p5, p6, p7, p8, p9⟩ := hEr.get hi hx'
      rw [← eAt_eq hi, hx'] at ht ha hb2
      have HG : Hid (goesB xs x = (decide (x.kd ≠ 12) || cmpB x.op (opdX xs x.av x.an) (opdX xs x.bv x.bn))) := hid rfl
      have HT := hid ht
      clear ht hx' hmem
      have x5 := kr.cell 5
      have WR := hid (show Below w.heap.size w wr from n0.trans (hb.mono n0.size))
      have HBB := hid hb
      have HVA := hid (fun X (hX : Below wr.heap.size wr X) => value_ok gs V' vc r xs x.av x.an X (ks.later hX) (hxr.up hX) ha (by omega))
      have HVB := hid (fun X (hX : Below wr.heap.size wr X) => value_ok gs V' vc r xs x.bv x.bn X (ks.later hX) (hxr.up hX) hb2 (by omega))
      have HCM := hid (fun X => rcmp_any x.op (opdX xs x.av x.an) (opdX xs x.bv x.bn) X)
      have hw1 := n0.size
      clear hb kr ks hk hx hX hE k0 hxr hXr hEr n0
      go_wp2
      have l5 := laterE x5
      have lc := laterE hc
      have LC := hid (later hc)
      have q0 := laterE p0
      have q1 := laterE p1
      have q2 := laterE p2
      have q3 := laterE p3
      have q4 := laterE p4
      have q5 := laterE p5
      have q6 := laterE p6
      have q7 := laterE p7
      have q8 := laterE p8
      have q9 := laterE p9
      clear x5 hc p0 p1 p2 p3 p4 p5 p6 p7 p8 p9
      refine wp_region_flowE 9 [Sp.val (.pointer (some ⟨w.heap.size, 5, none⟩)), Sp.val (.slice (some ⟨b, off, none⟩) g.es.length ce), Sp.val (.slice (some ⟨b2, o2, none⟩) ix.length xc), Sp.val (.int .i64 (k : Int)), Sp.val (.pointer (some ⟨b2, o2 + k, none⟩)), Sp.val (.int .i64 (i : Int)), Sp.val (.pointer (some ⟨b, off + i * 10, none⟩)), Sp.val x.val, Sp.any (IsBox 65 #[.int .i64 0, .int .i64 0, .int .i64 0, .int .i64 0, .int .i64 0, .int .i64 0, .int .i64 0, .int .i64 0, .int .i64 0, .int .i64 0])] (by kernel_rfl) (by kernel_rfl) ?_
      (refine FlowE.take (by rfl) (fun W hW R hR => ?_) (fun _ _ => ?_); (go_simp; (try go_bits); with_reducible exact hR); simp only [Act.put, List.setIfInBounds_toArray, List.set_cons_zero, List.set_cons_succ])
      (refine FlowE.take (by rfl) (fun W hW R hR => ?_) (fun _ _ => ?_); (go_simp; (try go_bits); with_reducible exact hR); simp only [Act.put, List.setIfInBounds_toArray, List.set_cons_zero, List.set_cons_succ])
      (refine FlowE.take (by rfl) (fun W hW R hR => ?_) (fun _ _ => ?_); (go_simp; (try go_bits); with_reducible exact hR); simp only [Act.put, List.setIfInBounds_toArray, List.set_cons_zero, List.set_cons_succ])
      (refine FlowE.take (by rfl) (fun W hW R hR => ?_) (fun _ _ => ?_); (go_simp; (try go_bits); with_reducible exact hR); simp only [Act.put, List.setIfInBounds_toArray, List.set_cons_zero, List.set_cons_succ])
      (refine FlowE.take (by rfl) (fun W hW R hR => ?_) (fun _ _ => ?_); (go_simp; (try go_bits); with_reducible exact hR); simp only [Act.put, List.setIfInBounds_toArray, List.set_cons_zero, List.set_cons_succ])
      (refine FlowE.take (by rfl) (fun W hW R hR => ?_) (fun _ _ => ?_); (go_simp; (try go_bits); with_reducible exact hR); simp only [Act.put, List.setIfInBounds_toArray, List.set_cons_zero, List.set_cons_succ])
      (refine FlowE.take (by rfl) (fun W hW R hR => ?_) (fun _ _ => ?_); (go_simp; (try go_bits); with_reducible exact hR); simp only [Act.put, List.setIfInBounds_toArray, List.set_cons_zero, List.set_cons_succ])
      unfold Edg.val
      (refine FlowE.take (by rfl) (fun W hW R hR => ?_) (fun _ _ => ?_); (go_simp; (try go_bits); with_reducible exact hR); simp only [Act.put, List.setIfInBounds_toArray, List.set_cons_zero, List.set_cons_succ])
      refine FlowE.step (by rfl) (fun W hW K hK => ?_) (fun v8 l8 h8 => ?_)
      · go_simp
        exact hK _ _ (new1 _ _) ⟨rfl, Blk.new _ _ _, by simp⟩
      simp only [Act.put, List.setIfInBounds_toArray, List.set_cons_zero, List.set_cons_succ]
      refine FlowE.tail (fun W hW hf hd => ?_)
      replace hW : Below wr.heap.size wr W := Ext.trans (Below.refl _ _).drew hW
      obtain ⟨g8, rfl, k8, lo8, e8, e8'⟩ := fact_box (show Sp.fact wr.drew (Sp.any (IsBox 65 #[.int .i64 0, .int .i64 0, .int .i64 0, .int .i64 0, .int .i64 0, .int .i64 0, .int .i64 0, .int .i64 0, .int .i64 0, .int .i64 0])) v8 l8 h8 W from hf 8)
      replace lo8 : wr.heap.size ≤ g8 := lo8
      clear hf hd e8 e8' l5 lc q0 q1 q2 q3 q4 q5 q6 q7 q8 q9
      have H8 := hid (k8.set10 (v0 := .int .i64 x.fr) (v1 := .int .i64 x.te) (v2 := .int .i64 x.kd) (v3 := .int .i64 x.dst) (v4 := .int .i64 x.arr) (v5 := .int .i64 x.op) (v6 := .int .i64 x.av) (v7 := .int .i64 x.an) (v8 := .int .i64 x.bv) (v9 := .int .i64 x.bn))
      have HW8 := hid (hW.trans (below10 (W := W) (B := wr.heap.size) (g := g8) (v0 := .int .i64 x.fr) (v1 := .int .i64 x.te) (v2 := .int .i64 x.kd) (v3 := .int .i64 x.dst) (v4 := .int .i64 x.arr) (v5 := .int .i64 x.op) (v6 := .int .i64 x.av) (v7 := .int .i64 x.an) (v8 := .int .i64 x.bv) (v9 := .int .i64 x.bn) lo8 hW.size))
      obtain ⟨z0, z1, z2, z3, z4, z5, z6, z7, z8, z9, zf⟩ := edgbox k8
      clear k8
      go_wp2
      clear z0 z1 z2 z3 z4 z5 z6 z7 z8 z9 zf
      have k8 := H8.out
      have hw8 := HW8.out
      clear H8 HW8 hW
      generalize ((((((((((W.setCell ⟨g8, 0, none⟩ (.int .i64 x.fr)).setCell ⟨g8, 1, none⟩ (.int .i64 x.te)).setCell ⟨g8, 2, none⟩ (.int .i64 x.kd)).setCell ⟨g8, 3, none⟩ (.int .i64 x.dst)).setCell ⟨g8, 4, none⟩ (.int .i64 x.arr)).setCell ⟨g8, 5, none⟩ (.int .i64 x.op)).setCell ⟨g8, 6, none⟩ (.int .i64 x.av)).setCell ⟨g8, 7, none⟩ (.int .i64 x.an)).setCell ⟨g8, 8, none⟩ (.int .i64 x.bv)).setCell ⟨g8, 9, none⟩ (.int .i64 x.bn)) = w5 at *
      replace HVA := hid (fun X (hX : Below w5.heap.size w5 X) => HVA.out X (hw8.trans (hX.mono hw8.size)))
      replace HVB := hid (fun X (hX : Below w5.heap.size w5 X) => HVB.out X (hw8.trans (hX.mono hw8.size)))
      have LCC := hid (fun X (hX : Below w5.heap.size w5 X) => LC.out X (hw8.trans (hX.mono hw8.size)))
      have HB8 := hid (fun X (hX : Below w5.heap.size w5 X) => (show Below w1.heap.size w1 X from HBB.out.trans ((hw8.trans (hX.mono hw8.size)).mono HBB.out.size)))
      have HW8 := hid (fun X (hX : Below w5.heap.size w5 X) => (show Below w.heap.size w X from WR.out.trans ((hw8.trans (hX.mono hw8.size)).mono WR.out.size)))
      obtain ⟨z0, z1, z2, z3, z4, z5, z6, z7, z8, z9, zf⟩ := edgbox k8
      have f2 := later z2
      have f5 := later z5
      have f6 := later z6
      have f7 := later z7
      have f8 := later z8
      have f9 := later z9
      clear z0 z1 z2 z3 z4 z5 z6 z7 z8 z9 zf hw8 k8
      refine wp_region_flow 15 (fun W => Below w5.heap.size w5 W) (by kernel_rfl) (by kernel_rfl) (Below.refl _ _).drew ?_
      cases t1 : (x.kd != 12)
      · have hk12 : x.kd = 12 := by simpa using t1
        rw [decide_eq_false (by simpa using hk12), Bool.false_or] at HG
        (repeat (first | (refine Flow.skip (by rfl) ?_; simp only [Act.put, List.setIfInBounds_toArray, List.set_cons_zero, List.set_cons_succ]) | (refine' Flow.take _ (by rfl) (fun W hW R hR => ?_) ?_; rotate_left; (go_simp; (try go_bits); with_reducible exact hR); simp only [Act.put, List.setIfInBounds_toArray, List.set_cons_zero, List.set_cons_succ])))
        (refine Flow.call 95 #[.pointer (some ⟨gs, 0, none⟩), .agg #[.int .i64 x.av, .int .i64 x.an]] (.int .i64 (opdX xs x.av x.an)) (by rfl) (fun X hX => by go_simp) (fun X hX => (HVA.out X hX).mono fun e' w' ⟨he, hb'⟩ => ⟨he, bstep hX hX.size hb'⟩) ?_; simp only [Act.put, List.setIfInBounds_toArray, List.set_cons_zero, List.set_cons_succ])
        (repeat (first | (refine Flow.skip (by rfl) ?_; simp only [Act.put, List.setIfInBounds_toArray, List.set_cons_zero, List.set_cons_succ]) | (refine' Flow.take _ (by rfl) (fun W hW R hR => ?_) ?_; rotate_left; (go_simp; (try go_bits); with_reducible exact hR); simp only [Act.put, List.setIfInBounds_toArray, List.set_cons_zero, List.set_cons_succ])))
        (refine Flow.call 95 #[.pointer (some ⟨gs, 0, none⟩), .agg #[.int .i64 x.bv, .int .i64 x.bn]] (.int .i64 (opdX xs x.bv x.bn)) (by rfl) (fun X hX => by go_simp) (fun X hX => (HVB.out X hX).mono fun e' w' ⟨he, hb'⟩ => ⟨he, bstep hX hX.size hb'⟩) ?_; simp only [Act.put, List.setIfInBounds_toArray, List.set_cons_zero, List.set_cons_succ])
        (repeat (first | (refine Flow.skip (by rfl) ?_; simp only [Act.put, List.setIfInBounds_toArray, List.set_cons_zero, List.set_cons_succ]) | (refine' Flow.take _ (by rfl) (fun W hW R hR => ?_) ?_; rotate_left; (go_simp; (try go_bits); with_reducible exact hR); simp only [Act.put, List.setIfInBounds_toArray, List.set_cons_zero, List.set_cons_succ])))
        (refine Flow.call 94 #[.int .i64 x.op, .int .i64 (opdX xs x.av x.an), .int .i64 (opdX xs x.bv x.bn)] (.bool (goesB xs x)) (by rfl) (fun X hX => by go_simp) (fun X hX => (HCM.out X).mono fun e' w' ⟨he, hb'⟩ => ⟨by rw [HG.out]; exact he, hb' ▸ hX⟩) ?_; simp only [Act.put, List.setIfInBounds_toArray, List.set_cons_zero, List.set_cons_succ])
        intro w9 hb9
        cases t2 : goesB xs x
        · have HT2 := hid (HT.out)
          rw [t2, if_neg (by simp)] at HT2
          go_wp2
          go_roundw
          case rel => exact ⟨k + 1, by omega, by go_num, HT2.out, HB8.out _ hb9⟩
          case measure => simp [Go.RowKit.intOf]; omega
        · have HT2 := hid (HT.out)
          rw [t2, if_pos rfl] at HT2
          have c9 := LCC.out _ hb9
          go_wp2
          go_ret
          exact ⟨ret64 HT2.out, HW8.out _ hb9⟩
      · have hk12 : x.kd ≠ 12 := by simpa using t1
        rw [decide_eq_true hk12, Bool.true_or] at HG
        have HT2 := hid (HT.out)
        rw [HG.out, if_pos rfl] at HT2
        (repeat (first | (refine Flow.skip (by rfl) ?_; simp only [Act.put, List.setIfInBounds_toArray, List.set_cons_zero, List.set_cons_succ]) | (refine' Flow.take _ (by rfl) (fun W hW R hR => ?_) ?_; rotate_left; (go_simp; (try go_bits); with_reducible exact hR); simp only [Act.put, List.setIfInBounds_toArray, List.set_cons_zero, List.set_cons_succ])))
        intro w9 hb9
        have c9 := LCC.out _ hb9
        go_wp2
        go_ret
        exact ⟨ret64 HT2.out, HW8.out _ hb9⟩
    · obtain rfl : k = ix.length := by omega
      have HT : Hid (takenW g.es xs ix = -1) := hid (by rw [← ht, List.drop_of_length_le (Nat.le_refl _)]; rfl)
      clear ht
      go_wp2
      go_ret
      exact ⟨ret64 HT.out.symm, n0.trans (hb.mono n0.size)⟩
end
end Go.Proofs.YtkncebcekhfnfaaGreat
