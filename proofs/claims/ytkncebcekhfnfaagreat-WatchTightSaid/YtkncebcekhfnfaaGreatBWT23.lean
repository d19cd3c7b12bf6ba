/-
  Slices of int that the call itself made (as XOwn, at the type int; printed by gen_ownint.py).
  gnomonref9.Out, gnomonref10.taken: what they answer.
  A region that draws its order and has THREE operations that turn the world, each of which waits for the one ahead of it (a copy by append, a slice that is built, an append): each other operation yields one value at each time. Then the operations may be taken in the order of the text.
-/
import Derived.Test.YtkncebcekhfnfaaGreatBWT02
import Derived.Test.YtkncebcekhfnfaaGreatBWT18
import Derived.Test.YtkncebcekhfnfaaGreatBWT22
import Derived.Test.YtkncebcekhfnfaaGreatBWT15
namespace Go.Proofs.YtkncebcekhfnfaaGreat
section
open Go.RowKit
namespace AtInt
theorem i64_info : (Tryz.prog.info? 3).map (fun i => (i.zero, i.size, i.bytes)) = some (some (.int .i64 0), 1, 8) := by kernel_rfl
/-- The slice at A (a row of the call's own, from block base on; or nil) holds m. -/
def Own (w : World) (base : Nat) (A : Option Addr) (cap : Nat) (m : List Int) : Prop := w.ownsRow base 3 1 (.slice A m.length cap) m.length (i64s m)

theorem own_slice {w : World} {base n : Nat} {v : Value} {m : List Int} (h : w.ownsRow base 3 1 v n (i64s m)) : n = m.length ∧ ∃ A cap, v = .slice A m.length cap ∧ Own w base A cap m := by
  have hn : n = m.length := by have := h.1; rw [i64s_len] at this; omega
  subst hn
  refine ⟨rfl, ?_⟩
  rcases h.2 with ⟨rfl, h0⟩ | ⟨g, cap, cur, rfl, _⟩
  · exact ⟨none, 0, by rw [h0], by unfold Own; rw [h0] at *; exact h⟩
  · exact ⟨_, cap, rfl, h⟩

section
variable {w w' : World} {base cap : Nat} {A : Option Addr} {m : List Int}
theorem Own.form (h : Own w base A cap m) : (A = none ∧ m = [] ∧ cap = 0) ∨ ∃ g, A = some ⟨g, 0, none⟩ ∧ base ≤ g ∧ g < w.heap.size := by
  rcases h.2 with ⟨h1, h0⟩ | ⟨g, cap', cur, h1, hb, hg, _⟩
  · injection h1 with h1 _ h3
    exact .inl ⟨h1, List.eq_nil_of_length_eq_zero h0, h3⟩
  · injection h1 with h1
    exact .inr ⟨g, h1, hb, (Array.getElem?_eq_some_iff.1 hg).1⟩
theorem Own.rd (h : Own w base A cap m) : Rd w w.heap.size A m := by
  intro k hk
  rcases h.form with ⟨_, rfl, _⟩ | ⟨g, rfl, _, hg⟩
  · simp at hk
  · refine ⟨g, 0, rfl, hg, ?_⟩
    have := World.ownsRow.cellAt (w := w) (xs := i64s m) h k (by omega)
    rw [i64s_get m hk] at this
    simpa using this
theorem Own.frozen {g : Nat} (h : Own w base (some ⟨g, 0, none⟩) cap m) (j : Nat) : w.frozen? ⟨g, j, none⟩ = false := World.ownsRow.frozenAt (w := w) (xs := i64s m) h j
theorem Own.grown {row : Option Nat} (h : Own w base A cap m) (hg : w.grownBy w' row) (hne : (Value.slice A m.length cap).ownBlock = none ∨ (Value.slice A m.length cap).ownBlock ≠ row) : Own w' base A cap m := World.ownsRow.kept h hg hne
theorem Own.below (h : Own w base A cap m) (hb : Below w.heap.size w w') : Own w' base A cap m :=
  h.grown (grown_of_below hb none) (by cases h' : (Value.slice A m.length cap).ownBlock <;> simp)
theorem Own.setFar (h : Own w base A cap m) {p : Addr} (hp : p.block < base) (u : Value) : Own (w.setCell p u) base A cap m := by
  refine h.grown (grown_setCell w p u) ?_
  rcases h.form with ⟨rfl, _⟩ | ⟨g, rfl, hg, _⟩
  · exact .inl rfl
  · exact .inr (fun e => by simp [Value.ownBlock] at e; omega)
theorem Own.less {b2 : Nat} (h : Own w base A cap m) (hb : b2 ≤ base) : Own w b2 A cap m := by
  refine ⟨h.1, ?_⟩
  rcases h.2 with h1 | ⟨g, cap', cur, h1, h2, h3⟩
  · exact .inl h1
  · exact .inr ⟨g, cap', cur, h1, by omega, h3⟩
end

theorem run_append_ints (w : World) (base : Nat) (t ty : TypeId) (ht : Tryz.prog.underlying t = some (.slice 3)) (v : Value) (n : Nat) (xs : List Int) (hown : w.ownsRow base 3 1 v n (i64s xs))
    (B : Nat) (A : Option Addr) (c : Nat) (ys : List Int) (hr : Rd w B A ys) (hl : n + ys.length ≤ 17592186044416) (hbase : base ≤ w.heap.size) :
    ∃ v' w', (Builtin.append_ #[t, t] ty #[v, .slice A ys.length c]).run Tryz.prog w = .ok v' w' ∧ w'.ownsRow base 3 1 v' (n + ys.length) (i64s (xs ++ ys)) ∧ w.grownBy w' v.ownBlock ∧
      (v'.ownBlock = v.ownBlock ∨ v'.ownBlock = some w.heap.size) := by
  obtain ⟨i0, hi, hz0, hz1, hz2⟩ := info_parts i64_info
  rcases A with _ | ad
  · have hy : ys = [] := by
      cases ys with
      | nil => rfl
      | cons y ys => obtain ⟨b, off, h, _⟩ := hr 0 (by simp); cases h
    subst hy
    refine ⟨v, w, ?_, by simpa using hown, ⟨rfl, rfl, rfl, Nat.le_refl _, fun _ _ _ => rfl⟩, .inl rfl⟩
    rcases hown.2 with ⟨rfl, rfl⟩ | ⟨g, cap, cur, rfl, _, _, hnc, _⟩
    · simp [Builtin.append_, run_underlying ht, sizeOf, typeInfo, hi, Builtin.lenOf, Builtin.firstCells]
    · simp [Builtin.append_, run_underlying ht, sizeOf, typeInfo, hi, Builtin.lenOf, Builtin.firstCells, hnc, storeCells]
  · have hcells : ∀ j u, (i64s ys)[j]? = some u → w.cell? (ad.add j) = some u := by
      intro j u hu
      have hj : j < ys.length := by
        have := (List.getElem?_eq_some_iff.1 hu).1
        rwa [i64s_len] at this
      obtain ⟨b, off, h, _, hc⟩ := hr j hj
      obtain rfl : ad = ⟨b, off, none⟩ := Option.some.inj h
      rw [i64s_get ys hj] at hu
      obtain rfl := Option.some.inj hu
      rw [add_mk]; exact hc
    obtain ⟨v', w', hrun, h2, h3, _, h5⟩ := run_append_own_at (P := Tryz.prog) w base t ty _ i0 _ 1 8 ht hi hz0 hz1 hz2 rfl (by omega) v n (i64s xs) hown ad ys.length c (i64s ys) (by rw [i64s_len]; omega) hcells (i64s_one ys) (by unfold maxLen; omega) (by omega) hbase
    refine ⟨v', w', hrun, ?_, h3, h5⟩
    have : i64s (xs ++ ys) = i64s xs ++ i64s ys := by simp [i64s]
    rw [this]; exact h2

theorem wp_append_ints {ops : Array Oper} {o : Oper} {a : Act} {K : Act → World → Prop} {Q : Exit → Act → World → Prop} {w : World} (s x : Operand) (t : TypeId)
    (ho : o.op = .call { callee := .builtin .append, args := #[s, x], argTypes := #[t, t] }) (hgd : o.guard = none) (ht : Tryz.prog.underlying t = some (.slice 3))
    (base : Nat) (A0 : Option Addr) (c0 : Nat) (xs : List Int) (hs : a.eval s = .slice A0 xs.length c0) (hown : Own w base A0 c0 xs)
    (B : Nat) (A : Option Addr) (c : Nat) (ys zs : List Int) (hx : a.eval x = .slice A ys.length c) (hr : Rd w B A ys) (hz : xs ++ ys = zs) (hl : zs.length ≤ 17592186044416) (hbase : base ≤ w.heap.size) {E : Prop}
    (h : ∀ A' cap' w', Own w' base A' cap' zs → w.grownBy w' (Value.slice A0 xs.length c0).ownBlock → ((Value.slice A' zs.length cap').ownBlock = (Value.slice A0 xs.length c0).ownBlock ∨ (Value.slice A' zs.length cap').ownBlock = some w.heap.size) → K (a.put o.dst (.slice A' zs.length cap')) w') :
    if Region.wanted o (yielded ops a.tmps) = true then Oper.wp Tryz.prog o a w K Q else E := by
  have hw : Region.wanted o (yielded ops a.tmps) = true := by simp [Region.wanted, hgd]
  rw [if_pos hw]
  subst hz
  obtain ⟨v', w', hrun, h2, h3, h4⟩ := run_append_ints w base t o.type ht _ _ xs hown B A c ys hr (by simpa using hl) hbase
  obtain ⟨_, A', cap', rfl, h2'⟩ := own_slice h2
  unfold Oper.wp execOp
  simp only [ho, resolve, invoke, builtin, Sem.run_bind, Sem.run_pure, Result.andThen_ok, List.map_toArray, List.map_cons, List.map_nil, hs, hx, hrun]
  exact h A' cap' w' h2' h3 h4

theorem wpList_append_ints {ops : Array Oper} {rest : List Oper} {o : Oper} {a : Act} {Q : Exit → Act → World → Prop} {w : World} (s x : Operand) (t : TypeId)
    (ho : o.op = .call { callee := .builtin .append, args := #[s, x], argTypes := #[t, t] }) (hgd : o.guard = none) (ht : Tryz.prog.underlying t = some (.slice 3))
    (base : Nat) (A0 : Option Addr) (c0 : Nat) (xs : List Int) (hs : a.eval s = .slice A0 xs.length c0) (hown : Own w base A0 c0 xs)
    (B : Nat) (A : Option Addr) (c : Nat) (ys zs : List Int) (hx : a.eval x = .slice A ys.length c) (hr : Rd w B A ys) (hz : xs ++ ys = zs) (hl : zs.length ≤ 17592186044416) (hbase : base ≤ w.heap.size)
    (h : ∀ A' cap' w', Own w' base A' cap' zs → w.grownBy w' (Value.slice A0 xs.length c0).ownBlock → ((Value.slice A' zs.length cap').ownBlock = (Value.slice A0 xs.length c0).ownBlock ∨ (Value.slice A' zs.length cap').ownBlock = some w.heap.size) → wpList Tryz.prog ops Q rest (a.put o.dst (.slice A' zs.length cap')) w') :
    wpList Tryz.prog ops Q (o :: rest) a w :=
  wpList_plain hgd fun K hK => by
    have := wp_append_ints (ops := ops) (E := True) (K := K) (Q := Q) s x t ho hgd ht base A0 c0 xs hs hown B A c ys zs hx hr hz hl hbase fun A' c' w' h2 h3 h4 => hK _ _ (h A' c' w' h2 h3 h4)
    rw [if_pos (by simp [Region.wanted, hgd])] at this
    exact this

end AtInt
end
section
open Go.RowKit
attribute [local go_sem ↓] Go.wp_at_zero Go.wp_at_succ

theorem Blk.set10 {W : World} {g : Nat} {t : TypeId} {a0 a1 a2 a3 a4 a5 a6 a7 a8 a9 v0 v1 v2 v3 v4 v5 v6 v7 v8 v9 : Value} (h : Blk W g t #[a0, a1, a2, a3, a4, a5, a6, a7, a8, a9]) :
    Blk ((((((((((W.setCell ⟨g, 0, none⟩ v0).setCell ⟨g, 1, none⟩ v1).setCell ⟨g, 2, none⟩ v2).setCell ⟨g, 3, none⟩ v3).setCell ⟨g, 4, none⟩ v4).setCell ⟨g, 5, none⟩ v5).setCell ⟨g, 6, none⟩ v6).setCell ⟨g, 7, none⟩ v7).setCell ⟨g, 8, none⟩ v8).setCell ⟨g, 9, none⟩ v9) g t #[v0, v1, v2, v3, v4, v5, v6, v7, v8, v9] := by
  have h0 : Blk _ g t #[v0, a1, a2, a3, a4, a5, a6, a7, a8, a9] := h.set_ 0 v0
  have h1 : Blk _ g t #[v0, v1, a2, a3, a4, a5, a6, a7, a8, a9] := h0.set_ 1 v1
  have h2 : Blk _ g t #[v0, v1, v2, a3, a4, a5, a6, a7, a8, a9] := h1.set_ 2 v2
  have h3 : Blk _ g t #[v0, v1, v2, v3, a4, a5, a6, a7, a8, a9] := h2.set_ 3 v3
  have h4 : Blk _ g t #[v0, v1, v2, v3, v4, a5, a6, a7, a8, a9] := h3.set_ 4 v4
  have h5 : Blk _ g t #[v0, v1, v2, v3, v4, v5, a6, a7, a8, a9] := h4.set_ 5 v5
  have h6 : Blk _ g t #[v0, v1, v2, v3, v4, v5, v6, a7, a8, a9] := h5.set_ 6 v6
  have h7 : Blk _ g t #[v0, v1, v2, v3, v4, v5, v6, v7, a8, a9] := h6.set_ 7 v7
  have h8 : Blk _ g t #[v0, v1, v2, v3, v4, v5, v6, v7, v8, a9] := h7.set_ 8 v8
  have h9 : Blk _ g t #[v0, v1, v2, v3, v4, v5, v6, v7, v8, v9] := h8.set_ 9 v9
  exact h9
theorem below10 {W : World} {B g : Nat} {v0 v1 v2 v3 v4 v5 v6 v7 v8 v9 : Value} (hg : B ≤ g) (hB : B ≤ W.heap.size) :
    Below B W ((((((((((W.setCell ⟨g, 0, none⟩ v0).setCell ⟨g, 1, none⟩ v1).setCell ⟨g, 2, none⟩ v2).setCell ⟨g, 3, none⟩ v3).setCell ⟨g, 4, none⟩ v4).setCell ⟨g, 5, none⟩ v5).setCell ⟨g, 6, none⟩ v6).setCell ⟨g, 7, none⟩ v7).setCell ⟨g, 8, none⟩ v8).setCell ⟨g, 9, none⟩ v9) := by
  have h0 := below1 (W := W) (B := B) (g := g) (i := 0) (v := v0) hg hB
  have h1 := h0.setCell (p := ⟨g, 1, none⟩) hg v1
  have h2 := h1.setCell (p := ⟨g, 2, none⟩) hg v2
  have h3 := h2.setCell (p := ⟨g, 3, none⟩) hg v3
  have h4 := h3.setCell (p := ⟨g, 4, none⟩) hg v4
  have h5 := h4.setCell (p := ⟨g, 5, none⟩) hg v5
  have h6 := h5.setCell (p := ⟨g, 6, none⟩) hg v6
  have h7 := h6.setCell (p := ⟨g, 7, none⟩) hg v7
  have h8 := h7.setCell (p := ⟨g, 8, none⟩) hg v8
  have h9 := h8.setCell (p := ⟨g, 9, none⟩) hg v9
  exact h9

/-- Which of the edges is taken. -/
def goesB (xs : List Int) (e : Edg) : Bool := decide (e.kd ≠ 12) || cmpB e.op (opdX xs e.av e.an) (opdX xs e.bv e.bn)
def takenW (es : List Edg) (xs : List Int) : List Nat → Int
  | [] => -1
  | i :: r => if goesB xs (eAt es i) = true then (i : Int) else takenW es xs r
theorem takenW_cons (es : List Edg) (xs : List Int) (i : Nat) (r : List Nat) : takenW es xs (i :: r) = if goesB xs (eAt es i) = true then (i : Int) else takenW es xs r := rfl
end
section
section
variable {P : Program} {ops : Array Oper} {Q : Exit → Act → World → Prop} {S : Bool → Bool → Bool → World → Prop} {md : Region.Mode} {j1 j2 j3 : Nat}

/-- Operation i leads from S b1 b2 on, for all that may be. -/
def StepO (P : Program) (_md : Region.Mode) (ops : Array Oper) (S : Bool → Bool → Bool → World → Prop) (j1 j2 j3 i : Nat) (o : Oper) (v : Value) (a : Act) : Prop :=
  ∀ b1 b2 b3, (i = j1 → b1 = false ∧ b2 = false ∧ b3 = false) → (i = j2 → b1 = true ∧ b2 = false ∧ b3 = false) → (i = j3 → b1 = true ∧ b2 = true ∧ b3 = false) → StepM P ops (S b1 b2 b3) (S (b1 || i == j1) (b2 || i == j2) (b3 || i == j3)) o v a

def AnyO (P : Program) (md : Region.Mode) (ops : Array Oper) (Q : Exit → Act → World → Prop) (S : Bool → Bool → Bool → World → Prop) (j1 j2 j3 m : Nat) : Nat → Array Bool → Act → Prop
  | 0, listed, a => earlyDone m listed ∧ ∀ w, S (listed.getD j1 false) (listed.getD j2 false) (listed.getD j3 false) w → wpAny P md ops Q 0 listed a w
  | fuel + 1, listed, a => (earlyDone m listed ∧ ∀ w, S (listed.getD j1 false) (listed.getD j2 false) (listed.getD j3 false) w → wpAny P md ops Q (fuel + 1) listed a w) ∨
    (Region.ready md ops listed ≠ [] ∧ ∀ i ∈ Region.ready md ops listed, i < m ∧ ∃ o v, ops[i]? = some o ∧ StepO P md ops S j1 j2 j3 i o v a ∧ AnyO P md ops Q S j1 j2 j3 m fuel (listed.setIfInBounds i true) (a.put o.dst v))

theorem AnyO.wpAny (hwt : Waits md ops j1 j2) (hwt2 : Waits md ops j2 j3) (hQ : ∀ e a w, Never e a w → Q e a w) {m : Nat} : ∀ (fuel : Nat) (listed : Array Bool) (a : Act), closedL md ops listed → AnyO P md ops Q S j1 j2 j3 m fuel listed a → ∀ w, S (listed.getD j1 false) (listed.getD j2 false) (listed.getD j3 false) w → Go.wpAny P md ops Q fuel listed a w
  | 0, _, _, _, h, w, hS => h.2 w hS
  | fuel + 1, listed, a, hcl, h, w, hS => by
    rcases h with ⟨_, h⟩ | ⟨hne, h⟩
    · exact h w hS
    · refine ⟨fun h0 => absurd h0 hne, fun i hi => ?_⟩
      obtain ⟨_, o, v, ho, hst, hrest⟩ := h i hi
      obtain ⟨g1, g2⟩ := ready_getD hi
      obtain ⟨_, oi, hoi, hall⟩ := mem_ready.1 hi
      have A12 : listed.getD j2 false = true → listed.getD j1 false = true := fun hj => hwt listed hcl (fun oj hoj e he hb => hcl j2 oj hoj hj e he hb)
      have A23 : listed.getD j3 false = true → listed.getD j2 false = true := fun hj => hwt2 listed hcl (fun oj hoj e he hb => hcl j3 oj hoj hj e he hb)
      have B2 : i = j2 → listed.getD j1 false = true := fun e => by
        subst e
        exact hwt listed hcl (fun oj hoj e he hb => by rw [hoi] at hoj; injection hoj with hoj; subst hoj; exact hall e he hb)
      have B3 : i = j3 → listed.getD j2 false = true := fun e => by
        subst e
        exact hwt2 listed hcl (fun oj hoj e he hb => by rw [hoi] at hoj; injection hoj with hoj; subst hoj; exact hall e he hb)
      have N2 : listed.getD j1 false = false → listed.getD j2 false = false := fun h => by
        cases hj : listed.getD j2 false with
        | false => rfl
        | true => rw [A12 hj] at h; cases h
      have N3 : listed.getD j2 false = false → listed.getD j3 false = false := fun h => by
        cases hj : listed.getD j3 false with
        | false => rfl
        | true => rw [A23 hj] at h; cases h
      refine (hst _ _ _ (fun e => ?_) (fun e => ?_) (fun e => ?_)).wpOp ho hS (fun w2 hS2 => AnyO.wpAny hwt hwt2 hQ fuel _ _ (hcl.set hi) hrest w2 ?_) hQ
      · have h1 : listed.getD j1 false = false := by rw [← e]; exact g2
        exact ⟨h1, N2 h1, N3 (N2 h1)⟩
      · have h2 : listed.getD j2 false = false := by rw [← e]; exact g2
        exact ⟨B2 e, h2, N3 h2⟩
      · have h3 : listed.getD j3 false = false := by rw [← e]; exact g2
        exact ⟨A12 (B3 e), B3 e, h3⟩
      · rw [getD_mark g1, getD_mark g1, getD_mark g1]; exact hS2

theorem AnyO.first (hsel : ∀ (j : Nat) (o : Oper) cs b, ops[j]? = some o → o.op ≠ .select cs b) {m : Nat} (htail : tailOk md ops m = true) {i : Nat} {oi : Oper} {v : Value} (hi : ops[i]? = some oi) (him : i < m) :
    ∀ (fuel : Nat) (listed : Array Bool) (a : Act), closedL md ops listed →
      (∀ j oj, ops[j]? = some oj → j ≠ i → listed.getD j true = false → (∀ e ∈ oj.after, Region.binds md e = true → e.on ≠ i) → oi.apart ops oj = true) →
      i ∈ Region.ready md ops listed → StepO P md ops S j1 j2 j3 i oi v a →
      AnyO P md ops Q S j1 j2 j3 m fuel (listed.setIfInBounds i true) (a.put oi.dst v) → AnyO P md ops Q S j1 j2 j3 m (fuel + 1) listed a := by
  intro fuel
  have early : ∀ (listed : Array Bool) (k : Nat), closedL md ops listed → i ∈ Region.ready md ops listed → k ∈ Region.ready md ops listed → k < m := by
    intro listed k hc hr hk
    rcases Nat.lt_or_ge k m with h | h
    · exact h
    · exfalso
      obtain ⟨_, oj, hoj, hall⟩ := mem_ready.1 hk
      have hjs : k < ops.size := (Array.getElem?_eq_some_iff.1 hoj).1
      have h1 := List.all_eq_true.1 htail k (List.mem_range.2 hjs)
      simp only [Bool.or_eq_true, decide_eq_true_eq] at h1
      have h2 := List.all_eq_true.1 (h1.resolve_left (by omega)) i (List.mem_range.2 him)
      have h3 := reachB_spec hc _ _ h2 (fun o ho e he hb => by rw [hoj] at ho; injection ho with ho; subst ho; exact hall e he hb)
      rw [(ready_getD hr).2] at h3; cases h3
  induction fuel with
  | zero =>
    intro listed a hc hfree hr hy H
    refine .inr ⟨fun h => (by rw [h] at hr; cases hr), fun k hk => ?_⟩
    by_cases hji : k = i
    · subst hji; exact ⟨him, oi, v, hi, hy, H⟩
    · exfalso
      have h1 := H.1 k (early listed k hc hr hk)
      rw [getD_set_ne false (Ne.symm hji), (ready_getD hk).2] at h1; cases h1
  | succ fuel ih =>
    intro listed a hc hfree hr hy H
    refine .inr ⟨fun h => (by rw [h] at hr; cases hr), fun k hk => ?_⟩
    by_cases hji : k = i
    · subst hji; exact ⟨him, oi, v, hi, hy, H⟩
    · have hjm := early listed k hc hr hk
      rcases H with ⟨hd, _⟩ | ⟨_, H⟩
      · exfalso
        have h1 := hd k hjm
        rw [getD_set_ne false (Ne.symm hji), (ready_getD hk).2] at h1; cases h1
      · obtain ⟨_, oj, u, hoj, hst, hrest⟩ := H k (ready_mono hk hji)
        obtain ⟨hjun, oj', hoj', hall⟩ := mem_ready.1 hk
        rw [hoj] at hoj'; injection hoj' with hoj'; subst hoj'
        have hnot : ∀ e ∈ oj.after, Region.binds md e = true → e.on ≠ i := fun e he hb heq => by
          have h1 := hall e he hb
          rw [heq, (ready_getD hr).2] at h1; cases h1
        obtain ⟨h1, h2, h3⟩ := Oper.apart_spec (hfree k oj hoj hji hjun hnot)
        refine ⟨hjm, oj, u, hoj, fun b1 b2 b3 hb hb' hb3 => (hst b1 b2 b3 hb hb' hb3).unputApart (hsel k oj · · hoj) _ _ h1, ih _ _ (hc.set hk) ?_ (ready_mono hr (Ne.symm hji)) (fun b1 b2 b3 hb hb' hb3 => (hy b1 b2 b3 hb hb' hb3).putApart (hsel i oi · · hi) _ _ h3) ?_⟩
        · intro k' ok hk' hki hun hno
          refine hfree k' ok hk' hki ?_ hno
          by_cases hjk : k = k'
          · subst hjk; exact hjun
          · rw [getD_set_ne true hjk] at hun; exact hun
        · rw [Array.setIfInBounds_comm _ _ hji, ← Act.put_comm a v u h2]
          exact hrest

def FlowO (P : Program) (ops : Array Oper) (Q : Exit → Act → World → Prop) (S : Bool → Bool → Bool → World → Prop) (j1 j2 j3 : Nat) : Nat → Nat → List Oper → Act → Prop
  | 0, _, l, a => ∀ w, S true true true w → wpList P ops Q l a w
  | _ + 1, _, [], a => ∀ w, S true true true w → Q .normal a w
  | m + 1, k, o :: rest, a => ∃ v, StepO P .any ops S j1 j2 j3 k o v a ∧ FlowO P ops Q S j1 j2 j3 m (k + 1) rest (a.put o.dst v)

theorem FlowO.anyO {m0 : Nat} (hsel : ∀ (j : Nat) (o : Oper) cs b, ops[j]? = some o → o.op ≠ .select cs b) (htail : tailOk .any ops m0 = true) (hm0 : m0 ≤ ops.size) (hj1 : j1 < m0) (hj2 : j2 < m0) (hj3 : j3 < m0)
    (hr : ∀ i, i < m0 → i ∈ Region.ready .any ops (pre ops.size i)) (hfr : ∀ i, i < m0 → Region.free .any ops (pre ops.size i) i = true)
    (hf : ∀ i, i < ops.size → m0 ≤ i → Region.ready .any ops (pre ops.size i) = [i]) (hend : Region.ready .any ops (pre ops.size ops.size) = []) :
    ∀ (m k : Nat) (l : List Oper), k + m = m0 → closedL .any ops (pre ops.size k) → (∀ j, l[j]? = ops[k + j]?) → ∀ (a : Act), FlowO P ops Q S j1 j2 j3 m k l a → AnyO P .any ops Q S j1 j2 j3 m0 (ops.size - k) (pre ops.size k) a
  | 0, k, l, hk, _, hl, a, h => by
    have hk' : k = m0 := by omega
    subst hk'
    have he : earlyDone k (pre ops.size k) := fun i hi => by rw [pre_getD _ _ _ _ (by omega) (by omega)]; simpa using hi
    have hjt1 : (pre ops.size k).getD j1 false = true := he j1 hj1
    have hjt2 : (pre ops.size k).getD j2 false = true := he j2 hj2
    have hjt3 : (pre ops.size k).getD j3 false = true := he j3 hj3
    have h1 : ∀ w, S ((pre ops.size k).getD j1 false) ((pre ops.size k).getD j2 false) ((pre ops.size k).getD j3 false) w → Go.wpAny P .any ops Q (ops.size - k) (pre ops.size k) a w := fun w hS => wpAny_tail hf hend _ _ l (Nat.le_refl _) (by omega) hl a w (h w (by rw [hjt1, hjt2, hjt3] at hS; exact hS))
    generalize hn : ops.size - k = n at h1
    cases n with
    | zero => exact ⟨he, h1⟩
    | succ n => exact .inl ⟨he, h1⟩
  | m + 1, k, l, hk, hc, hl, a, h => by
    have hks : k < ops.size := by omega
    cases l with
    | nil => have := hl 0; simp [Array.getElem?_eq_getElem hks] at this
    | cons o l =>
      have ho : ops[k]? = some o := by simpa using (hl 0).symm
      have hl' : ∀ j, l[j]? = ops[k + 1 + j]? := fun j => by have := hl (j + 1); simpa [Nat.add_assoc, Nat.add_comm 1 j] using this
      obtain ⟨v, hst, hrest⟩ := h
      have hn : ops.size - k = (ops.size - (k + 1)) + 1 := by omega
      rw [hn]
      refine AnyO.first hsel htail ho (by omega) _ _ _ hc (Region.free_spec ho (hfr k (by omega))) (hr k (by omega)) hst ?_
      rw [pre_set _ _ hks]
      refine FlowO.anyO hsel htail hm0 hj1 hj2 hj3 hr hfr hf hend m (k + 1) l (by omega) ?_ hl' _ hrest
      rw [← pre_set _ _ hks]
      exact hc.set (hr k (by omega))

theorem wp_region_flowO {id : Nat} {l : List Oper} {a : Act} {w : World} (m j1 j2 j3 : Nat) (S : Bool → Bool → Bool → World → Prop) (hm : P.follows .mixedOrders = true) (hc : flowOk l.toArray m = true) (hwt : reachB .any l.toArray j1 l.toArray.size j2 = true) (hwt2 : reachB .any l.toArray j2 l.toArray.size j3 = true) (hj1 : j1 < m) (hj2 : j2 < m) (hj3 : j3 < m) (hS : S false false false w.drew)
    (h : FlowO P l.toArray Q S j1 j2 j3 m 0 l a) : (Code.region id l.toArray true).wp P Q a w := by
  simp only [flowOk, Bool.and_eq_true, decide_eq_true_eq, beq_iff_eq, List.all_eq_true, List.mem_range] at hc
  obtain ⟨⟨⟨⟨⟨c1, c2⟩, c3⟩, c4⟩, c5⟩, c6⟩ := hc
  have hQ : ∀ e a w, Never e a w → Q e a w := fun _ _ _ h => (h : False).elim
  refine wp_region_any hm ?_
  have hp : Array.replicate l.toArray.size false = pre l.toArray.size 0 := by simp [pre, ← List.toArray_replicate]
  rw [hp]
  have hr : ∀ i, i < m → i ∈ Region.ready .any l.toArray (pre l.toArray.size i) := fun i hi => by simpa using (c4 i hi).1
  refine AnyO.wpAny (waits_of hwt) (waits_of hwt2) hQ _ _ _ ?_ (FlowO.anyO (m0 := m) (k := 0) (Region.noSelect_spec c1) c3 c2 hj1 hj2 hj3 hr (fun i hi => (c4 i hi).2) ?_ c6 m l (by omega) ?_ (by simp) a h) w.drew ?_
  rotate_left
  · intro i hi hmi
    have := c5 (i - m) (by omega)
    rwa [show m + (i - m) = i by omega] at this
  · intro k o _ hk
    exfalso
    rcases Nat.lt_or_ge k l.toArray.size with h' | h'
    · rw [pre_getD _ _ _ _ (by omega) h'] at hk; simp at hk
    · rw [Array.getD, dif_neg (by rw [pre_size _ _ (by omega)]; omega)] at hk; cases hk
  · rw [pre_getD _ _ _ _ (by omega) (by omega), pre_getD _ _ _ _ (by omega) (by omega), pre_getD _ _ _ _ (by omega) (by omega)]; simpa using hS
  · intro k o _ hk
    exfalso
    rcases Nat.lt_or_ge k l.toArray.size with h' | h'
    · rw [pre_getD _ _ _ _ (by omega) h'] at hk; simp at hk
    · rw [Array.getD, dif_neg (by rw [pre_size _ _ (by omega)]; omega)] at hk; cases hk

/-! The moves. -/
def AnyB3 (S : Bool → Bool → Bool → World → Prop) (w : World) : Prop := ∃ b1 b2 b3, S b1 b2 b3 w
theorem FlowO.take {m k : Nat} {o : Oper} {rest : List Oper} {a : Act} (v : Value) (hk : (k == j1) = false) (hk2 : (k == j2) = false) (hk3 : (k == j3) = false) (hw : Region.wanted o (yielded ops a.tmps) = true) (h : ∀ w, AnyB3 S w → ∀ R : Value → Prop, R v → Yl R w ((execOp a.eval o).run P w)) (hr : FlowO P ops Q S j1 j2 j3 m (k + 1) rest (a.put o.dst v)) :
    FlowO P ops Q S j1 j2 j3 (m + 1) k (o :: rest) a :=
  ⟨v, fun b1 b2 b3 _ _ _ => .inl ⟨hw, fun w hS K hK => by
    rw [hk, hk2, hk3, Bool.or_false, Bool.or_false, Bool.or_false] at hK
    have h1 := h w ⟨b1, b2, b3, hS⟩ (fun x => x = v) rfl
    unfold Oper.wp
    generalize (execOp a.eval o).run P w = r at *
    cases r with
    | ok n w' =>
      cases n with
      | value x => obtain ⟨e1, e2⟩ := h1; subst e1; subst e2; exact hK _ _ rfl hS
      | _ => exact h1.elim
    | halt x w' => exact h1.elim⟩, hr⟩
theorem FlowO.mark1 {m k : Nat} {o : Oper} {rest : List Oper} {a : Act} (v : Value) (hk : (k == j1) = true) (hk2 : (k == j2) = false) (hk3 : (k == j3) = false) (hw : Region.wanted o (yielded ops a.tmps) = true)
    (h : ∀ w, S false false false w → ∃ w2, (execOp a.eval o).run P w = .ok (.value v) w2 ∧ S true false false w2) (hr : FlowO P ops Q S j1 j2 j3 m (k + 1) rest (a.put o.dst v)) :
    FlowO P ops Q S j1 j2 j3 (m + 1) k (o :: rest) a :=
  ⟨v, fun b1 b2 b3 hb _ _ => .inl ⟨hw, fun w hS K hK => by
    obtain ⟨rfl, rfl, rfl⟩ := hb (by simpa using hk)
    rw [hk, hk2, hk3] at hK
    obtain ⟨w2, h1, h2⟩ := h w hS
    unfold Oper.wp; rw [h1]; exact hK _ _ rfl h2⟩, hr⟩
theorem FlowO.mark2 {m k : Nat} {o : Oper} {rest : List Oper} {a : Act} (v : Value) (hk : (k == j1) = false) (hk2 : (k == j2) = true) (hk3 : (k == j3) = false) (hw : Region.wanted o (yielded ops a.tmps) = true)
    (h : ∀ w, S true false false w → ∃ w2, (execOp a.eval o).run P w = .ok (.value v) w2 ∧ S true true false w2) (hr : FlowO P ops Q S j1 j2 j3 m (k + 1) rest (a.put o.dst v)) :
    FlowO P ops Q S j1 j2 j3 (m + 1) k (o :: rest) a :=
  ⟨v, fun b1 b2 b3 _ hb _ => .inl ⟨hw, fun w hS K hK => by
    obtain ⟨rfl, rfl, rfl⟩ := hb (by simpa using hk2)
    rw [hk, hk2, hk3] at hK
    obtain ⟨w2, h1, h2⟩ := h w hS
    unfold Oper.wp; rw [h1]; exact hK _ _ rfl h2⟩, hr⟩
theorem FlowO.mark3 {m k : Nat} {o : Oper} {rest : List Oper} {a : Act} (v : Value) (hk : (k == j1) = false) (hk2 : (k == j2) = false) (hk3 : (k == j3) = true) (hw : Region.wanted o (yielded ops a.tmps) = true)
    (h : ∀ w, S true true false w → ∃ w2, (execOp a.eval o).run P w = .ok (.value v) w2 ∧ S true true true w2) (hr : FlowO P ops Q S j1 j2 j3 m (k + 1) rest (a.put o.dst v)) :
    FlowO P ops Q S j1 j2 j3 (m + 1) k (o :: rest) a :=
  ⟨v, fun b1 b2 b3 _ _ hb => .inl ⟨hw, fun w hS K hK => by
    obtain ⟨rfl, rfl, rfl⟩ := hb (by simpa using hk3)
    rw [hk, hk2, hk3] at hK
    obtain ⟨w2, h1, h2⟩ := h w hS
    unfold Oper.wp; rw [h1]; exact hK _ _ rfl h2⟩, hr⟩
/-- Four worlds, one behind the other. -/
def SO (w0 w1 w2 w3 : World) : Bool → Bool → Bool → World → Prop
  | false, false, false => fun W => W = w0
  | true, false, false => fun W => W = w1
  | true, true, false => fun W => W = w2
  | true, true, true => fun W => W = w3
  | _, _, _ => fun _ => False
theorem SO.any {w0 w1 w2 w3 W : World} (h : AnyB3 (SO w0 w1 w2 w3) W) : W = w0 ∨ W = w1 ∨ W = w2 ∨ W = w3 := by
  obtain ⟨b1, b2, b3, h⟩ := h
  cases b1 <;> cases b2 <;> cases b3
  · exact .inl h
  · exact h.elim
  · exact h.elim
  · exact h.elim
  · exact .inr (.inl h)
  · exact h.elim
  · exact .inr (.inr (.inl h))
  · exact .inr (.inr (.inr h))
end
end
end Go.Proofs.YtkncebcekhfnfaaGreat
