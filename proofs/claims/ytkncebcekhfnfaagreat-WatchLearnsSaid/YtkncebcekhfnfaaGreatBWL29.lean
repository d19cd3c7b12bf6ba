/-
  A row of points that a run comes to (gnomonref10.Come). (Printed by gen_comerow.py.)
  The points that a run comes to, in plain words; small laws on rows of them.
  What a run of the program has in memory: lists of edges from each point, variables, arrays; what leaves them as they are.
  The document's state of a run: one array more; what another type's blocks leave as they were.
-/
import Derived.Test.YtkncebcekhfnfaaGreatRunAll
import Derived.Test.YtkncebcekhfnfaaGreatFlowO
import Derived.Test.YtkncebcekhfnfaaGreatBWL14
import Derived.Test.YtkncebcekhfnfaaGreatBWL27
import Derived.Test.YtkncebcekhfnfaaGreatBWL20
import Derived.Test.YtkncebcekhfnfaaGreatRGCheck
namespace Go.Proofs.YtkncebcekhfnfaaGreat
open Go.RowKit
section
attribute [local go_sem ↓] Go.wp_at_zero Go.wp_at_succ

/-- A point that a run comes to: the point, the step, the variables, and where these lie. -/
structure Cm where
  p : Int
  s : Int
  xs : List Int
  A : Option Addr
  c : Nat
def cm3 (z : Cm) : List Value := [.int .i64 z.p, .int .i64 z.s, .slice z.A z.xs.length z.c]
/-- The slice of comings at A reads as zs. -/
def RdC (w : World) (B : Nat) (A : Option Addr) (zs : List Cm) : Prop :=
  ∀ k (hk : k < zs.length), ∃ b off, A = some ⟨b, off, none⟩ ∧ b < B ∧ w.cell? ⟨b, off + k * 3, none⟩ = some (.int .i64 zs[k].p) ∧ w.cell? ⟨b, off + k * 3 + 1, none⟩ = some (.int .i64 zs[k].s) ∧ w.cell? ⟨b, off + k * 3 + 2, none⟩ = some (.slice zs[k].A zs[k].xs.length zs[k].c) ∧ Rd w B zs[k].A zs[k].xs
theorem come_info : (Tryz.prog.info? 78).map (fun i => (i.zero, i.size, i.bytes)) = some (some (.agg #[.int .i64 0, .int .i64 0, .slice none 0 0]), 3, 40) := by kernel_rfl
/-- A row of points that a run comes to, of the call's own, each with values of its own. -/
structure OwnC (w : World) (base : Nat) (A : Option Addr) (cap : Nat) (zs : List Cm) : Prop where
  row : w.ownsRow base 78 3 (.slice A zs.length cap) zs.length (zs.flatMap cm3)
  own : ∀ z ∈ zs, Own w base z.A z.c z.xs
  le : ∀ z ∈ zs, z.xs.length ≤ 17592186044416
section
variable {w w' : World} {base cap : Nat} {A : Option Addr} {zs : List Cm}
theorem OwnC.below (h : OwnC w base A cap zs) (hb : Below w.heap.size w w') : OwnC w' base A cap zs :=
  ⟨World.ownsRow.kept h.row (grown_of_below hb none) (by cases h' : (Value.slice A zs.length cap).ownBlock <;> simp), fun z hz => (h.own z hz).below hb, h.le⟩
theorem OwnC.form (h : OwnC w base A cap zs) : (A = none ∧ zs = [] ∧ cap = 0) ∨ ∃ g cs, A = some ⟨g, 0, none⟩ ∧ base ≤ g ∧ g < w.heap.size ∧ w.heap[g]? = some (.cells cs 78 (0, 0)) := by
  rcases h.row.2 with ⟨h1, h0⟩ | ⟨g, cap', cur, h1, hb, hg, _⟩
  · injection h1 with h1 _ h3
    exact .inl ⟨h1, List.eq_nil_of_length_eq_zero h0, h3⟩
  · injection h1 with h1
    exact .inr ⟨g, cur, h1, hb, (Array.getElem?_eq_some_iff.1 hg).1, hg⟩
theorem OwnC.rd (h : OwnC w base A cap zs) : RdC w w.heap.size A zs := fun k hk => by
  rcases h.form with ⟨_, rfl, _⟩ | ⟨g, cs, rfl, h1, h2, _⟩
  · simp at hk
  · have e := fun r (hr : r < 3) => (World.ownsRow.cellAt (w := w) (xs := zs.flatMap cm3) h.row (k * 3 + r) (by omega)).trans (fmS_get cm3 3 (fun _ => rfl) zs k r hk hr)
    refine ⟨g, 0, rfl, h2, ?_, ?_, ?_, (h.own _ (List.getElem_mem hk)).rd⟩
    · rw [Nat.zero_add]; exact e 0 (by omega)
    · rw [Nat.zero_add]; exact e 1 (by omega)
    · rw [Nat.zero_add]; exact e 2 (by omega)
end
theorem run_append_come (w : World) (base : Nat) (ty : TypeId) (A : Option Addr) (c : Nat) (zs : List Cm) (z : Cm) (h : OwnC w base A c zs) (g : Nat)
    (hk : Blk w g 78 (cm3 z).toArray) (hz : Own w base z.A z.c z.xs) (hzl : z.xs.length ≤ 17592186044416) (hl : zs.length + 1 ≤ 1000000) (hbase : base ≤ w.heap.size) :
    ∃ A' c' w', (Builtin.append_ #[75, 75] ty #[.slice A zs.length c, .slice (some ⟨g, 0, none⟩) 1 1]).run Tryz.prog w = .ok (.slice A' (zs ++ [z]).length c') w' ∧ OwnC w' base A' c' (zs ++ [z]) ∧ w.grownBy w' (Value.slice A zs.length c).ownBlock := by
  obtain ⟨i0, hi, hz0, hz1, hz2⟩ := info_parts come_info
  obtain ⟨v', w', hrun, h2, h3, _, h5⟩ := run_append_own_at (P := Tryz.prog) w base 75 ty _ i0 _ 3 40 Tryz.underlying75 hi hz0 hz1 hz2 rfl (by omega) _ zs.length (zs.flatMap cm3) h.row ⟨g, 0, none⟩ 1 1 (cm3 z) rfl
    (fun j u hu => by rw [add_mk, Nat.zero_add, hk.cell j]; simpa using hu) (fun u hu => by simp [cm3] at hu; rcases hu with rfl | rfl | rfl <;> rfl) (by unfold maxLen; omega) (by omega) hbase
  have hl2 : (zs ++ [z]).length = zs.length + 1 := by simp
  have hf2 : (zs ++ [z]).flatMap cm3 = zs.flatMap cm3 ++ cm3 z := by simp
  have keep : ∀ y : Cm, Own w base y.A y.c y.xs → Own w' base y.A y.c y.xs := fun y hy => by
    refine hy.grown h3 ?_
    rcases h.form with ⟨rfl, _⟩ | ⟨gr, cs, rfl, _, _, hgr⟩
    · cases h' : (Value.slice y.A y.xs.length y.c).ownBlock <;> simp [Value.ownBlock]
    · rcases hy.form with ⟨e, _⟩ | ⟨gy, e, _⟩
      · rw [e]; exact .inl rfl
      · rw [e]
        rw [e] at hy
        exact .inr (fun e' => own_blk hy (show Blk w gr 78 cs from hgr) (by decide) (by simpa [Value.ownBlock] using e'))
  rcases h2.2 with ⟨_, h0⟩ | ⟨g', cap', cur, rfl, h4⟩
  · omega
  · refine ⟨_, cap', w', by rw [hl2]; exact hrun, ⟨by rw [hf2, hl2]; exact h2, fun y hy => ?_, fun y hy => ?_⟩, h3⟩
    · rcases List.mem_append.1 hy with hy | hy
      · exact keep y (h.own y hy)
      · rw [List.mem_singleton] at hy; subst hy; exact keep y hz
    · rcases List.mem_append.1 hy with hy | hy
      · exact h.le y hy
      · rw [List.mem_singleton] at hy; subst hy; exact hzl
theorem wpList_append_come {ops : Array Oper} {rest : List Oper} {o : Oper} {a : Act} {Q : Exit → Act → World → Prop} {w : World} (s x : Operand)
    (ho : o.op = .call { callee := .builtin .append, args := #[s, x], argTypes := #[75, 75] }) (hgd : o.guard = none)
    (base : Nat) (A0 : Option Addr) (c0 : Nat) (zs : List Cm) (z : Cm) (hs : a.eval s = .slice A0 zs.length c0) (hown : OwnC w base A0 c0 zs) (g : Nat)
    (hx : a.eval x = .slice (some ⟨g, 0, none⟩) 1 1) (hr : Blk w g 78 (cm3 z).toArray) (hz : Own w base z.A z.c z.xs) (hzl : z.xs.length ≤ 17592186044416) (hl : zs.length + 1 ≤ 1000000) (hbase : base ≤ w.heap.size)
    (h : ∀ A' cap' w', OwnC w' base A' cap' (zs ++ [z]) → w.grownBy w' (Value.slice A0 zs.length c0).ownBlock → wpList Tryz.prog ops Q rest (a.put o.dst (.slice A' (zs ++ [z]).length cap')) w') :
    wpList Tryz.prog ops Q (o :: rest) a w :=
  wpList_plain hgd fun K hK => by
    obtain ⟨A', c', w', hrun, h2, h3⟩ := run_append_come w base o.type A0 c0 zs z hown g hr hz hzl hl hbase
    unfold Oper.wp execOp
    simp only [ho, resolve, invoke, builtin, Sem.run_bind, Sem.run_pure, Result.andThen_ok, List.map_toArray, List.map_cons, List.map_nil, hs, hx, hrun]
    exact hK _ _ (h A' c' w' h2 h3)
end
section

/-- The point, the step, the variables of each point that n steps come to. -/
def comesW (g : Gr) (m : Mach) (n : Nat) : List (Int × Int × List Int) := (List.range (n + 1)).map fun i => (((mAt g m i).p : Int), (i : Int), (mAt g m i).xs)
def cmk (z : Cm) : Int × Int × List Int := (z.p, z.s, z.xs)
theorem comesW_succ (g : Gr) (m : Mach) (n : Nat) : comesW g m (n + 1) = comesW g m n ++ [(((mAt g m (n + 1)).p : Int), ((n + 1 : Nat) : Int), (mAt g m (n + 1)).xs)] := by
  unfold comesW
  rw [List.range_succ, List.map_append]
  rfl
theorem comesW_len (g : Gr) (m : Mach) (n : Nat) : (comesW g m n).length = n + 1 := by simp [comesW]
theorem comes_snoc {g : Gr} {m : Mach} {n : Nat} {zs : List Cm} (h : zs.map cmk = comesW g m n) {z : Cm} (hz : cmk z = (((mAt g m (n + 1)).p : Int), ((n + 1 : Nat) : Int), (mAt g m (n + 1)).xs)) : (zs ++ [z]).map cmk = comesW g m (n + 1) := by
  rw [List.map_append, h, comesW_succ, List.map_cons, List.map_nil, hz]
/-- What Comes answers. -/
def ComesRes (g : Gr) (inp : List Int) (n : Nat) (w : World) (e : Ending) (w' : World) : Prop :=
  ∃ A c zs, e = .returned (.slice A zs.length c) ∧ zs.map cmk = comesW g (mZero g inp) n ∧ OwnC w' w.heap.size A c zs ∧ Below w.heap.size w w'
/-- The numbers of the edges from a point, as they lie in memory. -/
theorem outs_sliceL {w : World} {b0 F N : Nat} {f : Nat → Value} {es : List Edg} (h : LL enc1 w b0 F N 34 3 1 f (fun p => idxI es es.length p)) {p : Nat} (hp : p < N) :
    w.cell? ⟨F, p, none⟩ = some (f p) ∧ ∃ A c, f p = .slice A (idxE es es.length p).length c ∧ Rd w w.heap.size A (ints (idxE es es.length p)) := by
  refine ⟨h.row.cell hp, ?_⟩
  rcases h.slice hp with ⟨h1, h2⟩ | ⟨g, cap, h1, _, hg, _⟩
  · have h3 : idxE es es.length p = [] := by
      have : (ints (idxE es es.length p)).length = 0 := by
        show (idxI es es.length p).length = 0
        rw [h2]; rfl
      rw [ints_len] at this
      exact List.eq_nil_of_length_eq_zero this
    exact ⟨none, 0, by rw [h1, h3]; rfl, by rw [h3]; intro k hk; simp [ints] at hk⟩
  · have hl : (idxI es es.length p).length = (idxE es es.length p).length := ints_len _
    rw [hl] at h1
    refine ⟨_, _, h1, fun k hk => ⟨g, 0, rfl, hg, ?_⟩⟩
    rw [Nat.zero_add]
    rw [← hl] at h1
    rw [h.cell hp h1 (by rw [Nat.mul_one]; exact hk)]
    show ((idxI es es.length p).flatMap enc1)[k]? = _
    rw [fm1]
    exact i64s_get _ hk
/-- One point alone, in a slice that was just laid. -/
theorem ownC_one {w : World} {base : Nat} (h : base ≤ w.heap.size) {z : Cm} (hz : Own w base z.A z.c z.xs) (hl : z.xs.length ≤ 17592186044416) : OwnC (w.alloc (.cells #[.int .i64 z.p, .int .i64 z.s, .slice z.A z.xs.length z.c] 78)) base (some ⟨w.heap.size, 0, none⟩) 1 [z] := by
  refine ⟨?_, fun y hy => ?_, fun y hy => ?_⟩
  · have := World.ownsRow_lit (base := base) (e := 78) (size := 3) w #[.int .i64 z.p, .int .i64 z.s, .slice z.A z.xs.length z.c] 1 h (by unfold maxLen; omega) rfl
    exact this
  · rw [List.mem_singleton] at hy; subst hy
    exact hz.below (new1 _ _)
  · rw [List.mem_singleton] at hy; subst hy
    exact hl
theorem OwnC.less {w : World} {base b2 cap : Nat} {A : Option Addr} {zs : List Cm} (h : OwnC w base A cap zs) (hb : b2 ≤ base) : OwnC w b2 A cap zs := by
  refine ⟨⟨h.row.1, ?_⟩, fun z hz => (h.own z hz).less hb, h.le⟩
  rcases h.row.2 with h1 | ⟨g, cap', cur, h1, h2, h3⟩
  · exact .inl h1
  · exact .inr ⟨g, cap', cur, h1, by omega, h3⟩
theorem OwnC.off {w w' : World} {base b0 b1 cap : Nat} {A : Option Addr} {zs : List Cm} (h : OwnC w base A cap zs) (hO : Off b0 b1 w w') (hb : b1 ≤ base) : OwnC w' base A cap zs :=
  ⟨hO.row h.row hb, fun z hz => hO.own (h.own z hz) hb, h.le⟩
end
section

/-- Nothing that stood is changed but blocks of type t. -/
structure OnlyT (t : TypeId) (w w' : World) : Prop where
  size : w.heap.size ≤ w'.heap.size
  block : ∀ (g : Nat) (cs : Array Value) (u : TypeId) (k : Nat × Nat), w.heap[g]? = some (Obj.cells cs u k) → u ≠ t → w'.heap[g]? = w.heap[g]?
section
variable {t u : TypeId} {w w' w2 : World} {g : Nat} {cs : Array Value}
theorem OnlyT.trans (h : OnlyT t w w') (k : OnlyT t w' w2) : OnlyT t w w2 :=
  ⟨Nat.le_trans h.size k.size, fun g cs u fr e ne => by
    have h1 := h.block g cs u fr e ne
    exact (k.block g cs u fr (h1.trans e) ne).trans h1⟩
theorem OnlyT.of_set (h : Blk w g t cs) (i : Nat) (v : Value) : OnlyT t w (w.setCell ⟨g, i, none⟩ v) :=
  ⟨by simp, fun g' cs' u fr e ne => heap_setCell_other w ⟨g, i, none⟩ g' v (fun q => by
    have q : g' = g := q
    subst q
    unfold Blk at h
    rw [h] at e
    injection e with e
    injection e with _ e
    exact ne e.symm)⟩
theorem OnlyT.of_below (t : TypeId) (hb : Below w.heap.size w w') : OnlyT t w w' :=
  ⟨hb.size, fun g _cs _u _fr e _ => hb.block g (Array.getElem?_eq_some_iff.1 e).1⟩
theorem OnlyT.of_grown {row : Option Nat} (hg : w.grownBy w' row) (hr : ∀ k, row = some k → ∃ cs, Blk w k t cs) : OnlyT t w w' :=
  ⟨hg.size, fun g cs u fr e ne => hg.block g (Array.getElem?_eq_some_iff.1 e).1 (fun q => by
    obtain ⟨cs', h⟩ := hr g q.symm
    unfold Blk at h
    rw [h] at e
    injection e with e
    injection e with _ e
    exact ne e.symm)⟩
theorem Blk.only (h : Blk w g u cs) (hO : OnlyT t w w') (ne : u ≠ t) : Blk w' g u cs := (hO.block g cs u (0, 0) h ne).trans h
theorem ownsRow_only {base : Nat} {e : TypeId} {size n : Nat} {v : Value} {xs : List Value} (h : w.ownsRow base e size v n xs) (hO : OnlyT t w w') (ne : e ≠ t) : w'.ownsRow base e size v n xs := by
  refine ⟨h.1, ?_⟩
  rcases h.2 with h1 | ⟨g, cap, cur, h1, h2, h3, h4⟩
  · exact .inl h1
  · exact .inr ⟨g, cap, cur, h1, h2, (hO.block g cur e (0, 0) h3 ne).trans h3, h4⟩
theorem Own.only {base cap : Nat} {A : Option Addr} {m : List Int} (h : Own w base A cap m) (hO : OnlyT t w w') (ne : 2 ≠ t) : Own w' base A cap m := ownsRow_only h hO ne
theorem OwnR_only {base cap : Nat} {A : Option Addr} {zs : List At64.R1} (h : At64.OwnR w base A cap zs) (hO : OnlyT t w w') (ne : 2 ≠ t) (ne2 : 28 ≠ t) : At64.OwnR w' base A cap zs :=
  ⟨ownsRow_only h.row hO ne2, fun z hz => (h.own z hz).only hO ne⟩
theorem LL.only {α : Type} {enc : α → List Value} {base F n : Nat} {T e : TypeId} {size : Nat} {f : Nat → Value} {ls : Nat → List α} (h : LL enc w base F n T e size f ls) (hO : OnlyT t w w') (neT : T ≠ t) (nee : e ≠ t) : LL enc w' base F n T e size f ls := by
  obtain ⟨c, hc, h2⟩ := h.row
  exact ⟨⟨c, (hO.block F c T (0, 0) hc neT).trans hc, h2⟩, h.ge, fun p hp => ownsRow_only (h.own p hp) hO nee, h.apart, h.ne⟩
theorem Own.blk {base cap gv : Nat} {m : List Int} (h : Own w base (some ⟨gv, 0, none⟩) cap m) : ∃ cs, Blk w gv 2 cs := by
  rcases h.2 with ⟨h1, _⟩ | ⟨g, cap', cur, h1, h2, h3, h4⟩
  · cases h1
  · injection h1 with h1
    injection h1 with h1
    injection h1 with h1
    subst h1
    exact ⟨cur, h3⟩
end

/-- Lists of edges from each point, variables, arrays. -/
structure MemR (w : World) (b0 F N : Nat) (f : Nat → Value) (es : List Edg) (V R : Option Addr) (vc rc : Nat) (xs : List Int) (zs : List At64.R1) : Prop where
  outs : LL enc1 w b0 F N 34 3 1 f (fun p => idxI es es.length p)
  vars : Own w b0 V vc xs
  rows : At64.OwnR w b0 R rc zs
  apart : ApartR zs
  va : ∀ z ∈ zs, ∀ g, z.2.1 = some ⟨g, 0, none⟩ → V ≠ some ⟨g, 0, none⟩
section
variable {t : TypeId} {w w' : World} {b0 F N : Nat} {f : Nat → Value} {es : List Edg} {V R : Option Addr} {vc rc : Nat} {xs : List Int} {zs : List At64.R1}
theorem MemR.only (h : MemR w b0 F N f es V R vc rc xs zs) (hO : OnlyT t w w') (n1 : 34 ≠ t) (n2 : 3 ≠ t) (n3 : 2 ≠ t) (n4 : 28 ≠ t) : MemR w' b0 F N f es V R vc rc xs zs :=
  ⟨h.outs.only hO n1 n2, h.vars.only hO n3, OwnR_only h.rows hO n3 n4, h.apart, h.va⟩
theorem MemR.up (h : MemR w b0 F N f es V R vc rc xs zs) (hb : Below w.heap.size w w') : MemR w' b0 F N f es V R vc rc xs zs :=
  ⟨h.outs.below hb, h.vars.below hb, h.rows.below hb, h.apart, h.va⟩
theorem MemR.storeV {gv : Nat} (h : MemR w b0 F N f es (some ⟨gv, 0, none⟩) R vc rc xs zs) (k : Nat) (x : Int) : MemR (w.setCell ⟨gv, k, none⟩ (.int .i64 x)) b0 F N f es (some ⟨gv, 0, none⟩) R vc rc (xs.set k x) zs := by
  obtain ⟨cs, hk⟩ := h.vars.blk
  have hO := OnlyT.of_set hk k (.int .i64 x)
  refine ⟨h.outs.only hO (by decide) (by decide), h.vars.store k x, ⟨ownsRow_only h.rows.row hO (by decide), fun z hz => ?_⟩, h.apart, h.va⟩
  exact (h.rows.own z hz).far1 fun g' e q => by
    subst q
    exact h.va z hz g' e rfl
theorem MemR.storeA {a g : Nat} (h : MemR w b0 F N f es V R vc rc xs zs) (ha : a < zs.length) (hg : zs[a].2.1 = some ⟨g, 0, none⟩) (k : Nat) (x : Int) : MemR (w.setCell ⟨g, k, none⟩ (.int .i64 x)) b0 F N f es V R vc rc xs (setR zs a (zs[a].1.set k x)) := by
  have hok := h.rows.own _ (List.getElem_mem ha)
  rw [hg] at hok
  obtain ⟨cs, hk⟩ := hok.blk
  have hO := OnlyT.of_set hk k (.int .i64 x)
  refine ⟨h.outs.only hO (by decide) (by decide), h.vars.far1 fun g' e q => ?_, OwnR_store h.rows h.apart ha hg k x, h.apart.set, fun z hz g' e => ?_⟩
  · subst q
    exact h.va _ (List.getElem_mem ha) _ hg e
  · obtain ⟨j, hj, rfl⟩ := List.getElem_of_mem hz
    have hj' : j < zs.length := by rw [← setR_len (k := a) (l := zs[a].1.set k x)]; exact hj
    rw [setR_snd j hj' hj] at e
    exact h.va _ (List.getElem_mem hj') g' e
theorem MemR.ge_v {gv : Nat} (h : MemR w b0 F N f es (some ⟨gv, 0, none⟩) R vc rc xs zs) : b0 ≤ gv := by
  rcases h.vars.form with ⟨e, _⟩ | ⟨g, e, hg, _⟩
  · cases e
  · injection e with e; injection e with e; omega
theorem MemR.ge_a {a g : Nat} (h : MemR w b0 F N f es V R vc rc xs zs) (ha : a < zs.length) (hg : zs[a].2.1 = some ⟨g, 0, none⟩) : b0 ≤ g := by
  have hok := h.rows.own _ (List.getElem_mem ha)
  rw [hg] at hok
  rcases hok.form with ⟨e, _⟩ | ⟨g', e, hg, _⟩
  · cases e
  · injection e with e; injection e with e; omega
end
end
section

theorem StAt.only {t : TypeId} {w w' : World} {b0 gs vc rc : Nat} {V R : Option Addr} {xs : List Int} {zs : List At64.R1} (h : StAt w b0 gs V R vc rc xs zs) (hO : OnlyT t w w') (n1 : 117 ≠ t) (n3 : 2 ≠ t) (n4 : 28 ≠ t) : StAt w' b0 gs V R vc rc xs zs :=
  ⟨h.blk.only hO n1, h.le, h.vars.only hO n3, h.vlt, OwnR_only h.rows hO n3 n4⟩
theorem StAt.lt_a {w : World} {b0 gs vc rc : Nat} {V R : Option Addr} {xs : List Int} {zs : List At64.R1} (h : StAt w b0 gs V R vc rc xs zs) : ∀ z ∈ zs, ∀ g, z.2.1 = some ⟨g, 0, none⟩ → g < w.heap.size := fun z hz g e => by
  rcases (h.rows.own z hz).form with ⟨h1, _⟩ | ⟨g', h1, _, h2⟩
  · rw [h1] at e; cases e
  · rw [h1] at e; injection e with e; injection e with e; omega
/-- A new row of zeros, in a slice of its own, appended: three steps. -/
theorem StAt.new_row {w : World} {b0 gs vc rc : Nat} {V R : Option Addr} {xs : List Int} {zs : List At64.R1} (h : StAt w b0 gs V R vc rc xs zs) (ap : ApartR zs) (n : Nat) (hn : n ≤ 1024) (hz : zs.length ≤ 1000) :
    ∃ A3 c3 w9, (Builtin.append_ #[45, 45] 45 #[.slice R zs.length rc, .slice (some ⟨w.heap.size + 1, 0, none⟩) 1 1]).run Tryz.prog ((w.alloc (.cells (zcells n) 2)).alloc (.cells #[.slice (some ⟨w.heap.size, 0, none⟩) n n] 28)) = .ok (.slice A3 (zs.length + 1) c3) w9 ∧
      StAt (w9.setCell ⟨gs, 1, none⟩ (.slice A3 (zs.length + 1) c3)) b0 gs V A3 vc c3 xs (zs ++ [(List.replicate n 0, some ⟨w.heap.size, 0, none⟩, n)]) ∧ ApartR (zs ++ [(List.replicate n 0, some ⟨w.heap.size, 0, none⟩, n)]) ∧ Below (gs + 1) w w9 ∧ Below (gs + 1) ((w.alloc (.cells (zcells n) 2)).alloc (.cells #[.slice (some ⟨w.heap.size, 0, none⟩) n n] 28)) w9 := by
  have hgs := h.blk.lt
  have hA := new1 w (.cells (zcells n) 2)
  have n8 := new1 (w.alloc (.cells (zcells n) 2)) (.cells #[.slice (some ⟨w.heap.size, 0, none⟩) n n] 28)
  have k8 := Blk.new (w.alloc (.cells (zcells n) 2)) 28 #[.slice (some ⟨w.heap.size, 0, none⟩) n n]
  have hs8 : (w.alloc (.cells (zcells n) 2)).heap.size = w.heap.size + 1 := by simp
  have hb8 := bup hA n8
  have hm := (own_made w (show gs + 1 ≤ w.heap.size by omega) (show n ≤ 17592186044416 by omega)).below n8
  have rows8 := h.rows.below hb8
  rw [hs8] at k8
  have hl : (List.replicate n (0 : Int)).length = n := List.length_replicate
  obtain ⟨A3, c3, w9, hrun, rows9, hg⟩ := At64.run_append_row _ (gs + 1) 45 R rc zs (List.replicate n 0, some ⟨w.heap.size, 0, none⟩, n) rows8 (w.heap.size + 1) (by dsimp only; rw [hl]; exact k8) hm (by omega) (by have := hb8.size; omega)
  have hrowR : ∀ k, (Value.slice R zs.length rc).ownBlock = some k → gs + 1 ≤ k := fun k hk => by
    rcases h.rows.form with ⟨rfl, _⟩ | ⟨g', _, rfl, hg, _⟩
    · simp [Value.ownBlock] at hk
    · simp [Value.ownBlock] at hk; omega
  have hb89 : Below (gs + 1) ((w.alloc (.cells (zcells n) 2)).alloc (.cells #[.slice (some ⟨w.heap.size, 0, none⟩) n n] 28)) w9 := below_grown hg hrowR (by have := hb8.size; omega)
  have hbC : Below (gs + 1) w w9 := (hb8.mono (show gs + 1 ≤ w.heap.size by omega)).trans hb89
  have hv9 : Own w9 b0 V vc xs := (h.vars.below hb8).grown hg (by
    rcases h.vars.form with ⟨h', _⟩ | ⟨g', h', _⟩
    · rw [h']; exact .inl rfl
    · have := h.vlt g' h'
      rw [h']
      exact .inr (fun e => by have := hrowR g' (by rw [← e]; rfl); omega))
  have hl1 : (zs ++ [((List.replicate n (0 : Int), some ⟨w.heap.size, 0, none⟩, n) : At64.R1)]).length = zs.length + 1 := by simp
  have HP := h.put_row hbC hv9 rows9
  rw [hl1] at HP hrun
  exact ⟨A3, c3, w9, hrun, HP, ap.snoc h.lt_a, hbC, hb89⟩
end
end Go.Proofs.YtkncebcekhfnfaaGreat
