/-
  A slice of slices of int that the call itself made, each with numbers of its own; append onto it (printed by gen_ownrows.py).
  The document's packs (labels: the least member of a class) are the packs of the links' roots, in plain words.
-/
import Derived.Test.YtofmidhkiobldaaOwnInt
import Derived.Test.YtofmidhkiobldaaPG41
namespace Go.Proofs.Ytofmidhkiobldaa
section
open Go.RowKit
namespace AtInt
theorem row_info : (Try.prog.info? 48).map (fun i => (i.zero, i.size, i.bytes)) = some (some (.slice none 0 0), 1, 24) := by kernel_rfl
abbrev R1 := List Int × Option Addr × Nat
def r1 (z : R1) : List Value := [.slice z.2.1 z.1.length z.2.2]
theorem r1_len (zs : List R1) : (zs.flatMap r1).length = zs.length := by
  induction zs with
  | nil => rfl
  | cons z zs ih => simp [List.flatMap_cons, ih, r1]
theorem r1_get : ∀ (zs : List R1) (k : Nat) (h : k < zs.length), (zs.flatMap r1)[k]? = some (.slice zs[k].2.1 zs[k].1.length zs[k].2.2)
  | [], k, h => absurd h (by simp)
  | z :: zs, 0, _ => by simp [r1]
  | z :: zs, k + 1, h => by
    rw [List.flatMap_cons, List.getElem?_append_right (by simp [r1]), show k + 1 - (r1 z).length = k by simp [r1]]
    exact r1_get zs k (by simpa using h)
theorem own_blk0 {w : World} {base cap g k : Nat} {xs : List Int} {t : TypeId} {cs : Array Value} (h : Own w base (some ⟨g, 0, none⟩) cap xs) (hk : Blk w k t cs) (ht : t ≠ 3) : g ≠ k := by
  rintro rfl
  rcases h.2 with ⟨h0, _⟩ | ⟨g', cap', cur, h1, _, h3, _⟩
  · cases h0
  · simp only [Value.slice.injEq, Option.some.injEq, Addr.mk.injEq] at h1
    obtain ⟨⟨rfl, _⟩, _⟩ := h1
    unfold Blk at hk
    rw [h3] at hk
    injection hk with hk
    injection hk with _ hk
    exact ht hk.symm
structure OwnR (w : World) (base : Nat) (A : Option Addr) (cap : Nat) (zs : List R1) : Prop where
  row : w.ownsRow base 48 1 (.slice A zs.length cap) zs.length (zs.flatMap r1)
  own : ∀ z ∈ zs, Own w base z.2.1 z.2.2 z.1
section
variable {w w' : World} {base cap : Nat} {A : Option Addr} {zs : List R1}
theorem OwnR.nil (w : World) (base : Nat) : OwnR w base none 0 [] := ⟨World.ownsRow_nil _ _ _ _, fun _ h => absurd h (by simp)⟩
theorem OwnR.below (h : OwnR w base A cap zs) (hb : Below w.heap.size w w') : OwnR w' base A cap zs :=
  ⟨World.ownsRow.kept h.row (grown_of_below hb none) (by cases h' : (Value.slice A zs.length cap).ownBlock <;> simp), fun z hz => (h.own z hz).below hb⟩
theorem OwnR.form (h : OwnR w base A cap zs) : (A = none ∧ zs = [] ∧ cap = 0) ∨ ∃ g cs, A = some ⟨g, 0, none⟩ ∧ base ≤ g ∧ g < w.heap.size ∧ w.heap[g]? = some (.cells cs 48 (0, 0)) := by
  rcases h.row.2 with ⟨h1, h0⟩ | ⟨g, cap', cur, h1, hb, hg, _⟩
  · injection h1 with h1 _ h3
    exact .inl ⟨h1, List.eq_nil_of_length_eq_zero h0, h3⟩
  · injection h1 with h1
    exact .inr ⟨g, cur, h1, hb, (Array.getElem?_eq_some_iff.1 hg).1, hg⟩
theorem OwnR.setFar (h : OwnR w base A cap zs) {p : Addr} (hp : p.block < base) (u : Value) : OwnR (w.setCell p u) base A cap zs :=
  ⟨World.ownsRow.kept h.row (grown_setCell w p u) (by
    rcases h.form with ⟨rfl, _⟩ | ⟨g, cs, rfl, h1, _⟩
    · exact .inl rfl
    · exact .inr (fun e => by simp [Value.ownBlock] at e; omega)), fun z hz => (h.own z hz).setFar hp u⟩
theorem OwnR.less {b2 : Nat} (h : OwnR w base A cap zs) (hb : b2 ≤ base) : OwnR w b2 A cap zs := by
  refine ⟨⟨h.row.1, ?_⟩, fun z hz => (h.own z hz).less hb⟩
  rcases h.row.2 with h1 | ⟨g, cap', cur, h1, h2, h3⟩
  · exact .inl h1
  · exact .inr ⟨g, cap', cur, h1, by omega, h3⟩
theorem OwnR.cell (h : OwnR w base A cap zs) {k : Nat} (hk : k < zs.length) : ∃ g, A = some ⟨g, 0, none⟩ ∧ base ≤ g ∧ g < w.heap.size ∧ w.cell? ⟨g, k, none⟩ = some (.slice zs[k].2.1 zs[k].1.length zs[k].2.2) := by
  rcases h.form with ⟨_, rfl, _⟩ | ⟨g, cs, rfl, h1, h2, _⟩
  · simp at hk
  · exact ⟨g, rfl, h1, h2, (World.ownsRow.cellAt (w := w) (xs := zs.flatMap r1) h.row k (by omega)).trans (r1_get zs k hk)⟩
end
theorem run_append_row (w : World) (base : Nat) (ty : TypeId) (A : Option Addr) (c : Nat) (zs : List R1) (z : R1) (h : OwnR w base A c zs) (g : Nat)
    (hk : Blk w g 48 #[.slice z.2.1 z.1.length z.2.2]) (hz : Own w base z.2.1 z.2.2 z.1) (hl : zs.length + 1 ≤ 1000000) (hbase : base ≤ w.heap.size) :
    ∃ A' c' w', (Builtin.append_ #[28, 28] ty #[.slice A zs.length c, .slice (some ⟨g, 0, none⟩) 1 1]).run Try.prog w = .ok (.slice A' (zs ++ [z]).length c') w' ∧ OwnR w' base A' c' (zs ++ [z]) ∧ w.grownBy w' (Value.slice A zs.length c).ownBlock := by
  obtain ⟨i0, hi, hz0, hz1, hz2⟩ := info_parts row_info
  obtain ⟨v', w', hrun, h2, h3, _, h5⟩ := run_append_own_at (P := Try.prog) w base 28 ty _ i0 _ 1 24 Try.underlying28 hi hz0 hz1 hz2 rfl (by omega) _ zs.length (zs.flatMap r1) h.row ⟨g, 0, none⟩ 1 1 (r1 z) rfl
    (fun j u hu => by rw [add_mk, Nat.zero_add, hk.cell j]; simpa [r1] using hu) (fun u hu => by simp [r1] at hu; subst hu; rfl) (by unfold maxLen; omega) (by omega) hbase
  have hl2 : (zs ++ [z]).length = zs.length + 1 := by simp
  have hf2 : (zs ++ [z]).flatMap r1 = zs.flatMap r1 ++ r1 z := by simp
  have keep : ∀ y : R1, Own w base y.2.1 y.2.2 y.1 → Own w' base y.2.1 y.2.2 y.1 := fun y hy => by
    refine hy.grown h3 ?_
    rcases h.form with ⟨rfl, _⟩ | ⟨gr, cs, rfl, _, _, hgr⟩
    · cases h' : (Value.slice y.2.1 y.1.length y.2.2).ownBlock <;> simp [Value.ownBlock]
    · rcases hy.form with ⟨e, _⟩ | ⟨gy, e, _⟩
      · rw [e]; exact .inl rfl
      · rw [e]
        rw [e] at hy
        exact .inr (fun e' => own_blk0 hy (show Blk w gr 48 cs from hgr) (by decide) (by simpa [Value.ownBlock] using e'))
  rcases h2.2 with ⟨_, h0⟩ | ⟨g', cap', cur, rfl, h4⟩
  · omega
  · refine ⟨_, cap', w', by rw [hl2]; exact hrun, ⟨by rw [hf2, hl2]; exact h2, fun y hy => ?_⟩, h3⟩
    rcases List.mem_append.1 hy with hy | hy
    · exact keep y (h.own y hy)
    · rw [List.mem_singleton] at hy; subst hy; exact keep y hz
theorem wpList_append_row {ops : Array Oper} {rest : List Oper} {o : Oper} {a : Act} {Q : Exit → Act → World → Prop} {w : World} (s x : Operand)
    (ho : o.op = .call { callee := .builtin .append, args := #[s, x], argTypes := #[28, 28] }) (hgd : o.guard = none)
    (base : Nat) (A0 : Option Addr) (c0 : Nat) (zs : List R1) (z : R1) (hs : a.eval s = .slice A0 zs.length c0) (hown : OwnR w base A0 c0 zs) (g : Nat)
    (hx : a.eval x = .slice (some ⟨g, 0, none⟩) 1 1) (hr : Blk w g 48 #[.slice z.2.1 z.1.length z.2.2]) (hz : Own w base z.2.1 z.2.2 z.1) (hl : zs.length + 1 ≤ 1000000) (hbase : base ≤ w.heap.size)
    (h : ∀ A' cap' w', OwnR w' base A' cap' (zs ++ [z]) → Below base w w' → wpList Try.prog ops Q rest (a.put o.dst (.slice A' (zs ++ [z]).length cap')) w') :
    wpList Try.prog ops Q (o :: rest) a w :=
  wpList_plain hgd fun K hK => by
    obtain ⟨A', c', w', hrun, h2, h3⟩ := run_append_row w base o.type A0 c0 zs z hown g hr hz hl hbase
    unfold Oper.wp execOp
    simp only [ho, resolve, invoke, builtin, Sem.run_bind, Sem.run_pure, Result.andThen_ok, List.map_toArray, List.map_cons, List.map_nil, hs, hx, hrun]
    exact hK _ _ (h A' c' w' h2 (below_grown h3 (fun k hk => by
      rcases hown.form with ⟨rfl, _⟩ | ⟨g', _, rfl, hg, _⟩
      · simp [Value.ownBlock] at hk
      · simp [Value.ownBlock] at hk; omega) hbase))
end AtInt
end
section
open Go.RowKit

/-- Two are put under the lesser label. -/
def joinM (L : Nat → Nat) (a b : Nat) : Nat → Nat := fun v => if L v = max (L a) (L b) then min (L a) (L b) else L v
/-- A label is the least of its class. -/
def LbOk (L : Nat → Nat) (N : Nat) : Prop := ∀ v, v < N → L v ≤ v ∧ L (L v) = L v
def SameP (R L : Nat → Nat) (N : Nat) : Prop := ∀ u v, u < N → v < N → (R u = R v ↔ L u = L v)

theorem joinM_ok {L : Nat → Nat} {N a b : Nat} (h : LbOk L N) (ha : a < N) (hb : b < N) : LbOk (joinM L a b) N := by
  intro v hv
  have h1 := h a ha
  have h2 := h b hb
  have h3 := h v hv
  unfold joinM
  rcases Nat.le_total (L a) (L b) with hle | hle
  · rw [Nat.max_eq_right hle, Nat.min_eq_left hle]
    by_cases e : L v = L b
    · rw [if_pos e, h1.2]
      refine ⟨by omega, ?_⟩
      split <;> rfl
    · rw [if_neg e, h3.2, if_neg e]
      exact ⟨h3.1, rfl⟩
  · rw [Nat.max_eq_left hle, Nat.min_eq_right hle]
    by_cases e : L v = L a
    · rw [if_pos e, h2.2]
      refine ⟨by omega, ?_⟩
      split <;> rfl
    · rw [if_neg e, h3.2, if_neg e]
      exact ⟨h3.1, rfl⟩
theorem join_same {R L : Nat → Nat} {N a b d : Nat} (h : SameP R L N) (ha : a < N) (hb : b < N) (hd : d < N) (e : R a = R d) : SameP (joinR R a b) (joinM L d b) N := by
  intro u v hu hv
  have h1 := h u v hu hv
  have h2 := h u d hu hd
  have h3 := h u b hu hb
  have h4 := h v d hv hd
  have h5 := h v b hv hb
  have h6 := h d b hd hb
  unfold joinR joinM
  rcases Nat.le_total (L d) (L b) with hle | hle
  · rw [Nat.max_eq_right hle, Nat.min_eq_left hle]
    split <;> split <;> split <;> split <;> omega
  · rw [Nat.max_eq_left hle, Nat.min_eq_right hle]
    split <;> split <;> split <;> split <;> omega

/-- One edge, the document's way. -/
def refE (L : Nat → Nat) (e : Edg) : Nat → Nat :=
  match (trio e).filter (fun v => decide (0 ≤ v)) with
  | [] => L
  | a :: t => t.foldl (fun L v => joinM L a.toNat v.toNat) L
def VarsIn (N : Nat) (e : Edg) : Prop := e.dst < N ∧ e.av < N ∧ e.bv < N
theorem edge_same {R L : Nat → Nat} {N : Nat} {e : Edg} (h : SameP R L N) (ho : LbOk L N) (hv : VarsIn N e) : SameP (rootsE R e) (refE L e) N ∧ LbOk (refE L e) N := by
  obtain ⟨h1, h2, h3⟩ := hv
  have tn : ∀ v : Int, 0 ≤ v → v < N → v.toNat < N := fun v h1 h2 => by omega
  have lt : ∀ v : Int, (v < 0) = ¬ (0 ≤ v) := fun v => by simp
  have m1 : ¬ ((0 : Int) ≤ -1) := by omega
  unfold rootsE refE trio
  by_cases c1 : 0 ≤ e.dst <;> by_cases c2 : 0 ≤ e.av <;> by_cases c3 : 0 ≤ e.bv <;>
    simp only [List.filter_cons, List.filter_nil, c1, c2, c3, lt, m1, not_true_eq_false, not_false_eq_true, decide_true, decide_false, if_true, if_false, ↓reduceIte, List.foldl_cons, List.foldl_nil, stepV, Bool.false_eq_true]
  · have k1 := tn _ c1 h1
    have k2 := tn _ c2 h2
    have k3 := tn _ c3 h3
    refine ⟨join_same (join_same h k1 k2 k1 rfl) k2 k3 k1 ?_, joinM_ok (joinM_ok ho k1 k2) k1 k3⟩
    unfold joinR
    simp
  · exact ⟨join_same h (tn _ c1 h1) (tn _ c2 h2) (tn _ c1 h1) rfl, joinM_ok ho (tn _ c1 h1) (tn _ c2 h2)⟩
  · exact ⟨join_same h (tn _ c1 h1) (tn _ c3 h3) (tn _ c1 h1) rfl, joinM_ok ho (tn _ c1 h1) (tn _ c3 h3)⟩
  · exact ⟨h, ho⟩
  · exact ⟨join_same h (tn _ c2 h2) (tn _ c3 h3) (tn _ c2 h2) rfl, joinM_ok ho (tn _ c2 h2) (tn _ c3 h3)⟩
  · exact ⟨h, ho⟩
  · exact ⟨h, ho⟩
  · exact ⟨h, ho⟩
theorem graph_same {N : Nat} {es : List Edg} (hv : ∀ e ∈ es, VarsIn N e) : SameP (es.foldl rootsE (fun x => x)) (es.foldl refE (fun x => x)) N ∧ LbOk (es.foldl refE (fun x => x)) N := by
  have H : ∀ (l : List Edg) (R L : Nat → Nat), (∀ e ∈ l, VarsIn N e) → SameP R L N → LbOk L N → SameP (l.foldl rootsE R) (l.foldl refE L) N ∧ LbOk (l.foldl refE L) N := by
    intro l
    induction l with
    | nil => intro R L _ h1 h2; exact ⟨h1, h2⟩
    | cons e l ih =>
      intro R L hl h1 h2
      obtain ⟨h3, h4⟩ := edge_same h1 h2 (hl e (by simp))
      exact ih _ _ (fun e he => hl e (by simp [he])) h3 h4
  exact H es _ _ hv (fun u v _ _ => Iff.rfl) (fun v _ => ⟨Nat.le_refl _, rfl⟩)

/-- The document's rows of the labels. -/
def refRow (L : Nat → Nat) (N v : Nat) : List Int := ((List.range N).filter (fun w => decide (v ≤ w ∧ L w = v))).map Int.ofNat
def refPacks (L : Nat → Nat) (N : Nat) : List (List Int) := ((List.range N).filter (fun v => decide (L v = v))).map (refRow L N)
theorem refPacks_eq {R L : Nat → Nat} {N : Nat} (h : SameP R L N) (ho : LbOk L N) : packsR R N = refPacks L N := by
  unfold packsR refPacks minsR
  have e : (List.range N).filter (isMin R) = (List.range N).filter (fun v => decide (L v = v)) := by
    apply List.filter_congr
    intro v hv
    have hv := List.mem_range.1 hv
    rw [Bool.eq_iff_iff]
    unfold isMin
    simp only [List.all_eq_true, List.mem_range, decide_eq_true_eq]
    have h3 := ho v hv
    constructor
    · intro hm
      by_cases hl : L v = v
      · exact hl
      · exfalso
        exact hm (L v) (by omega) ((h (L v) v (by omega) hv).2 h3.2)
    · intro hl u hu hr
      have := (h u v (by omega) hv).1 hr
      have := (ho u (by omega)).1
      omega
  rw [e]
  apply List.map_congr_left
  intro v hv
  obtain ⟨hv, hl⟩ := List.mem_filter.1 hv
  have hv := List.mem_range.1 hv
  have hl : L v = v := by simpa using hl
  unfold classL refRow
  congr 1
  apply List.filter_congr
  intro w hw
  have hw := List.mem_range.1 hw
  rw [Bool.eq_iff_iff]
  simp only [decide_eq_true_eq]
  have h1 := h w v hw hv
  have h2 := (ho w hw).1
  omega
end
end Go.Proofs.Ytofmidhkiobldaa
