/-
  A graph as it comes in: slices of structs in general, then declarations, edges, the graph.
  gnomonlaw27.WatchExact answers true, whatever it is handed.
-/
import Derived.Test.YtkncebcekhfnfaaGreatBWT39
import Derived.Test.YtkncebcekhfnfaaGreatBWT12
import Derived.Test.YtkncebcekhfnfaaGreatBWT16
import Derived.Test.YtkncebcekhfnfaaGreatBWT38
namespace Go.Proofs.YtkncebcekhfnfaaGreat
section
open Go.ChangeShapes Go.WideShapes Go.ChangeAt Go.RowKit Go.Joins

theorem weightsAll_inG {H : Type} {P : Program} {e : TypeId} : ∀ {l : List (DataW H)} {d : DataW H}, d ∈ l → ∀ n ∈ d.weights P e, n ∈ DataW.weightsAll P e l
  | x :: l, d, hd, n, hn => by
    rw [DataW.weightsAll, List.mem_append]
    rcases List.mem_cons.1 hd with rfl | hd
    · exact .inl hn
    · exact .inr (weightsAll_inG hd n hn)
section
variable {H : Type} {enc : TypeId × Value → H} {W : World} {base : Nat} {held : Bool} {spare : Nat → Bool}
set_option maxRecDepth 100000 in
/-- A slice of structs: each element reads as the cells of something. -/
theorem open_rows {α : Type} {t e : TypeId} (ht : Tryz.prog.underlying t = some (.slice e)) (hne : 0 < Tryz.prog.cellsOf e) (cells : α → List Value) (Good : α → Prop) (hlen : ∀ a, (cells a).length = Tryz.prog.cellsOf e)
    (read : ∀ {fuel : Nat} {cs : List Value} {x : DataW H × List MemPlace}, DataW.trod enc Tryz.prog W base spare held fuel e cs = some x → ∃ a, cs = cells a ∧ ((∀ n ∈ x.1.weights Tryz.prog e, n ≤ reachBytes) → Good a))
    {fuel : Nat} {cs : List Value} {x : DataW H × List MemPlace} (h : DataW.trod enc Tryz.prog W base spare held fuel t cs = some x) :
    ∃ (A : Option Addr) (c : Nat) (l : List α), cs = [.slice A l.length c] ∧ (∀ k (hk : k < l.length), ∃ b off, A = some ⟨b, off, none⟩ ∧ b < W.heap.size ∧ ∀ r, r < Tryz.prog.cellsOf e → W.cell? ⟨b, off + k * Tryz.prog.cellsOf e + r, none⟩ = (cells l[k])[r]?) ∧
      ((∀ n ∈ x.1.weights Tryz.prog t, n ≤ reachBytes) → l.length * Tryz.prog.bytesOf e ≤ reachBytes ∧ ∀ a ∈ l, Good a) := by
  rcases DataW.trod_slice ht h with ⟨rfl, _⟩ | ⟨a, len, cap, elems, rest, n, _, rfl, rfl, _, hl, _, hlen', hel, _⟩
  · exact ⟨none, 0, [], rfl, fun k hk => absurd hk (by simp), fun _ => ⟨by simp, fun a ha => absurd ha (by simp)⟩⟩
  · have one : ∀ k : Fin len, ∃ z : α, ∃ hz : k.1 < elems.length, (∀ r, r < Tryz.prog.cellsOf e → W.cell? ((a.add (k.1 * Tryz.prog.cellsOf e)).add r) = (cells z)[r]?) ∧ ((∀ n ∈ (elems[k.1]'hz).1.weights Tryz.prog e, n ≤ reachBytes) → Good z) := fun k => by
      have hk' := hel k.1 k.2
      have hke : k.1 < elems.length := by have := k.2; omega
      rw [List.getElem?_eq_getElem hke, Option.bind_eq_some_iff] at hk'
      obtain ⟨cs, hcs, hy⟩ := hk'
      obtain ⟨z, rfl, hz⟩ := read hy
      obtain ⟨_, _, hcell⟩ := World.cells?_some hcs
      exact ⟨z, hke, fun r hr => hcell r hr, hz⟩
    obtain ⟨f, hf⟩ := Classical.axiomOfChoice one
    refine ⟨some a, cap, List.ofFn f, by simp, fun k hk => ?_, fun hw => ⟨?_, fun z hz => ?_⟩⟩
    · have hk' : k < len := by simpa using hk
      obtain ⟨_, hc, _⟩ := hf ⟨k, hk'⟩
      have h0 := hc 0 hne
      have hs : (cells (f ⟨k, hk'⟩))[0]? = some ((cells (f ⟨k, hk'⟩))[0]'(by rw [hlen]; exact hne)) := List.getElem?_eq_getElem _
      rw [hs] at h0
      have s0 := cell_lt h0
      obtain ⟨b, off, sp⟩ := a
      have hb : b < W.heap.size := by simpa [block_add] using s0.1
      have hsp : sp = none := by
        obtain ⟨_, hc', _⟩ := hf ⟨0, by omega⟩
        have h0' := hc' 0 hne
        have hs' : (cells (f ⟨0, by omega⟩))[0]? = some ((cells (f ⟨0, by omega⟩))[0]'(by rw [hlen]; exact hne)) := List.getElem?_eq_getElem _
        rw [hs'] at h0'
        have := (cell_lt h0').2
        simpa [Addr.add] using this
      subst hsp
      refine ⟨b, off, rfl, hb, fun r hr => ?_⟩
      have := hc r hr
      rw [add_mk, add_mk] at this
      simpa using this
    · have := hw (((elems.map (·.1)).length + (rest.map (·.1)).length) * Tryz.prog.bytesOf e) (by simp [DataW.weights, ht])
      simp only [List.length_map, List.length_ofFn] at this ⊢
      have h2 : len * Tryz.prog.bytesOf e ≤ (elems.length + rest.length) * Tryz.prog.bytesOf e := Nat.mul_le_mul_right _ (by omega)
      omega
    · obtain ⟨i, hi, rfl⟩ := List.getElem_of_mem hz
      have hi' : i < len := by simpa using hi
      rw [List.getElem_ofFn]
      obtain ⟨hz', _, hg⟩ := hf ⟨i, hi'⟩
      refine hg fun q hq => hw q ?_
      simp only [DataW.weights, ht, List.mem_cons, List.mem_append]
      exact .inr (.inl (weightsAll_inG (List.mem_map_of_mem (List.getElem_mem hz')) q hq))

theorem fieldG {fs : Array Field} {xs : List (DataW H × List MemPlace)} {n : Nat} {cs : List Value} (hf : ∀ (i : Nat) (f : Field), fs[i]? = some f → DataW.trod enc Tryz.prog W base spare held n f.type ((cs.drop f.offset).take (Tryz.prog.cellsOf f.type)) = xs[i]?)
    (i : Nat) (ty : TypeId) (off : Nat) (hi : (fs[i]?).map (fun f => (f.type, f.offset)) = some (ty, off)) : DataW.trod enc Tryz.prog W base spare held n ty ((cs.drop off).take (Tryz.prog.cellsOf ty)) = xs[i]? := by
  rw [Option.map_eq_some_iff] at hi
  obtain ⟨f, h1, h2⟩ := hi
  injection h2 with h2 h3
  subst h2 h3
  exact hf i f h1
def i64R (n : Int) : Prop := -9223372036854775808 ≤ n ∧ n ≤ 9223372036854775807
theorem wf_i64G {n : Int} (h : (Lit.int .i64 n).wf = true) : i64R n := by
  unfold i64R
  have h : (decide (IntKind.i64.min ≤ n) && decide (n ≤ IntKind.i64.max)) = true := h
  have e1 : IntKind.i64.min = -9223372036854775808 := by kernel_rfl
  have e2 : IntKind.i64.max = 9223372036854775807 := by kernel_rfl
  rw [e1, e2] at h
  simpa using h
theorem cells_str : Tryz.prog.cellsOf 9 = 1 := by kernel_rfl
theorem cells_intG : Tryz.prog.cellsOf 3 = 1 := by kernel_rfl
theorem cells_decl : Tryz.prog.cellsOf 60 = 2 := by kernel_rfl
theorem cells_edge : Tryz.prog.cellsOf 65 = 10 := by kernel_rfl
theorem cells_opd : Tryz.prog.cellsOf 63 = 2 := by kernel_rfl
theorem cells_cfg : Tryz.prog.cellsOf 26 = 6 := by kernel_rfl
theorem bytes_str : Tryz.prog.bytesOf 9 = 16 := by kernel_rfl
theorem bytes_decl : Tryz.prog.bytesOf 60 = 24 := by kernel_rfl
theorem bytes_edge : Tryz.prog.bytesOf 65 = 80 := by kernel_rfl

theorem int_of {fuel : Nat} {t : TypeId} {k : IntKind} {cs : List Value} {c : Value} {y : Option (DataW H × List MemPlace)} (ht : Tryz.prog.underlying t = some (.int k)) (h : DataW.trod enc Tryz.prog W base spare held fuel t cs = y) (hy : y.isSome = true) (hc : cs = [c]) : ∃ n, c = .int k n ∧ (Lit.int k n).wf = true := by
  obtain ⟨z, rfl⟩ := Option.isSome_iff_exists.1 hy
  obtain ⟨n, h1, _, h2⟩ := DataW.trod_int ht h
  rw [hc] at h1
  injection h1 with h1
  exact ⟨n, h1, h2⟩
/-- An edge's numbers, each an int64. -/
def EdgI (e : Edg) : Prop := i64R e.fr ∧ i64R e.te ∧ i64R e.kd ∧ i64R e.dst ∧ i64R e.arr ∧ i64R e.op ∧ i64R e.av ∧ i64R e.an ∧ i64R e.bv ∧ i64R e.bn
theorem list10 {α : Type} {l : List α} (h : l.length = 10) : ∃ c0 c1 c2 c3 c4 c5 c6 c7 c8 c9, l = [c0, c1, c2, c3, c4, c5, c6, c7, c8, c9] := by
  match l, h with
  | [c0, c1, c2, c3, c4, c5, c6, c7, c8, c9], _ => exact ⟨c0, c1, c2, c3, c4, c5, c6, c7, c8, c9, rfl⟩
theorem list2G {α : Type} {l : List α} (h : l.length = 2) : ∃ c0 c1, l = [c0, c1] := by
  match l, h with
  | [c0, c1], _ => exact ⟨c0, c1, rfl⟩
theorem list6G {α : Type} {l : List α} (h : l.length = 6) : ∃ c0 c1 c2 c3 c4 c5, l = [c0, c1, c2, c3, c4, c5] := by
  match l, h with
  | [c0, c1, c2, c3, c4, c5], _ => exact ⟨c0, c1, c2, c3, c4, c5, rfl⟩
set_option maxRecDepth 100000 in
theorem read_opd {fuel : Nat} {cs : List Value} {c0 c1 : Value} {y : Option (DataW H × List MemPlace)} (h : DataW.trod enc Tryz.prog W base spare held fuel 63 cs = y) (hy : y.isSome = true) (hc : cs = [c0, c1]) :
    ∃ v n, c0 = .int .i64 v ∧ c1 = .int .i64 n ∧ i64R v ∧ i64R n := by
  obtain ⟨z, rfl⟩ := Option.isSome_iff_exists.1 hy
  subst hc
  obtain ⟨xs, n, _, _, _, hlen, hf⟩ := DataW.trod_struct Tryz.underlying63 h
  have sm : ∀ i, i < 2 → (xs[i]?).isSome = true := fun i hi => by rw [List.getElem?_eq_getElem (by rw [hlen]; exact hi)]; rfl
  have ei : Tryz.prog.cellsOf 3 = 1 := by kernel_rfl
  have el : Tryz.prog.cellsOf 2 = 1 := by kernel_rfl
  have f0 := fieldG hf 0 3 0 rfl
  have f1 := fieldG hf 1 2 1 rfl
  rw [ei] at f0
  rw [el] at f1
  obtain ⟨a, ha, wa⟩ := int_of Tryz.underlying3 f0 (sm 0 (by omega)) rfl
  obtain ⟨b, hb, wb⟩ := int_of Tryz.underlying2 f1 (sm 1 (by omega)) rfl
  exact ⟨a, b, ha, hb, wf_i64G wa, wf_i64G wb⟩
set_option maxRecDepth 100000 in
theorem read_edge {fuel : Nat} {cs : List Value} {x : DataW H × List MemPlace} (h : DataW.trod enc Tryz.prog W base spare held fuel 65 cs = some x) :
    ∃ e : Edg, cs = e.cells ∧ EdgI e := by
  obtain ⟨xs, n, _, _, hl, hlen, hf⟩ := DataW.trod_struct Tryz.underlying65 h
  rw [cells_edge] at hl
  obtain ⟨c0, c1, c2, c3, c4, c5, c6, c7, c8, c9, rfl⟩ := list10 hl
  have sm : ∀ i, i < 8 → (xs[i]?).isSome = true := fun i hi => by rw [List.getElem?_eq_getElem (by rw [hlen]; exact hi)]; rfl
  have f0 := fieldG hf 0 3 0 rfl
  have f1 := fieldG hf 1 3 1 rfl
  have f2 := fieldG hf 2 3 2 rfl
  have f3 := fieldG hf 3 3 3 rfl
  have f4 := fieldG hf 4 3 4 rfl
  have f5 := fieldG hf 5 3 5 rfl
  have f6 := fieldG hf 6 63 6 rfl
  have f7 := fieldG hf 7 63 8 rfl
  rw [cells_intG] at f0 f1 f2 f3 f4 f5
  rw [cells_opd] at f6 f7
  clear hf
  obtain ⟨a0, rfl, w0⟩ := int_of Tryz.underlying3 f0 (sm 0 (by omega)) rfl
  obtain ⟨a1, rfl, w1⟩ := int_of Tryz.underlying3 f1 (sm 1 (by omega)) rfl
  obtain ⟨a2, rfl, w2⟩ := int_of Tryz.underlying3 f2 (sm 2 (by omega)) rfl
  obtain ⟨a3, rfl, w3⟩ := int_of Tryz.underlying3 f3 (sm 3 (by omega)) rfl
  obtain ⟨a4, rfl, w4⟩ := int_of Tryz.underlying3 f4 (sm 4 (by omega)) rfl
  obtain ⟨a5, rfl, w5⟩ := int_of Tryz.underlying3 f5 (sm 5 (by omega)) rfl
  obtain ⟨a6, a7, rfl, rfl, w6, w7⟩ := read_opd f6 (sm 6 (by omega)) rfl
  obtain ⟨a8, a9, rfl, rfl, w8, w9⟩ := read_opd f7 (sm 7 (by omega)) rfl
  exact ⟨⟨a0, a1, a2, a3, a4, a5, a6, a7, a8, a9⟩, rfl, wf_i64G w0, wf_i64G w1, wf_i64G w2, wf_i64G w3, wf_i64G w4, wf_i64G w5, w6, w7, w8, w9⟩
set_option maxRecDepth 100000 in
theorem read_decl {fuel : Nat} {cs : List Value} {x : DataW H × List MemPlace} (h : DataW.trod enc Tryz.prog W base spare held fuel 60 cs = some x) :
    ∃ z : ByteArray × Int, cs = [.string z.1, .int .i64 z.2] ∧ i64R z.2 := by
  obtain ⟨xs, n, _, _, hl, hlen, hf⟩ := DataW.trod_struct Tryz.underlying60 h
  rw [cells_decl] at hl
  obtain ⟨c0, c1, rfl⟩ := list2G hl
  have sm : ∀ i, i < 2 → (xs[i]?).isSome = true := fun i hi => by rw [List.getElem?_eq_getElem (by rw [hlen]; exact hi)]; rfl
  have f0 := fieldG hf 0 9 0 rfl
  have f1 := fieldG hf 1 3 1 rfl
  rw [cells_str] at f0
  rw [cells_intG] at f1
  obtain ⟨z, hz⟩ := Option.isSome_iff_exists.1 (sm 0 (by omega))
  rw [hz] at f0
  obtain ⟨s, hs, _⟩ := DataW.trod_string Tryz.underlying9 f0
  obtain ⟨b, hb, wb⟩ := int_of Tryz.underlying3 f1 (sm 1 (by omega)) rfl
  injection hs with hs
  exact ⟨(s, b), by rw [hs, hb], wf_i64G wb⟩
theorem read_str {fuel : Nat} {cs : List Value} {x : DataW H × List MemPlace} (h : DataW.trod enc Tryz.prog W base spare held fuel 9 cs = some x) :
    ∃ z : ByteArray, cs = [.string z] := by
  obtain ⟨s, hs, _⟩ := DataW.trod_string Tryz.underlying9 h
  exact ⟨s, hs⟩
/-- The graph. -/
structure GrOk (W : World) (g : Gr) (D E : Option Addr) : Prop where
  rd : RdD W W.heap.size D g.sz
  re : RdE W W.heap.size E g.es
  lv : g.nv ≤ 17592186044416
  ls : g.sz.length ≤ 17592186044416
  le : g.es.length ≤ 17592186044416
  ei : ∀ e ∈ g.es, EdgI e
  si : ∀ s ∈ g.sz, i64R s
  ni : i64R g.tm ∧ i64R g.pts ∧ i64R g.ex
set_option maxRecDepth 100000 in
theorem open_cfg {r : Reach} {b0 : Nat} {v : Value} {d : DataW H} {p : List MemPlace} (hv : Value.okWide Tryz.prog W r b0 26 v) (h : DataW.Trod enc Tryz.prog W base spare held 26 v d p) :
    ∃ (g : Gr) (V D E : Option Addr) (cv cd ce : Nat), v = grV g V D E cv cd ce ∧ ((∀ n ∈ d.weights Tryz.prog 26, n ≤ reachBytes) → GrOk W g D E) := by
  obtain ⟨cs, rfl, hsz⟩ := okWide_struct Tryz.underlying26 hv
  obtain ⟨fuel, hf⟩ := h
  obtain ⟨xs, n, _, hx, hl, hlen, hf⟩ := DataW.trod_struct Tryz.underlying26 hf
  rw [cells_cfg] at hl
  obtain ⟨c0, c1, c2, c3, c4, c5, hcs⟩ := list6G hl
  obtain ⟨y0, y1, y2, y3, y4, y5, rfl⟩ := list6G hlen
  rw [hcs] at hf
  have cv1 : Tryz.prog.cellsOf 22 = 1 := by kernel_rfl
  have cd1 : Tryz.prog.cellsOf 23 = 1 := by kernel_rfl
  have ce1 : Tryz.prog.cellsOf 24 = 1 := by kernel_rfl
  have f0 := fieldG hf 0 22 0 rfl
  have f1 := fieldG hf 1 3 1 rfl
  have f2 := fieldG hf 2 23 2 rfl
  have f3 := fieldG hf 3 3 3 rfl
  have f4 := fieldG hf 4 3 4 rfl
  have f5 := fieldG hf 5 24 5 rfl
  rw [cv1] at f0
  rw [cd1] at f2
  rw [ce1] at f5
  rw [cells_intG] at f1 f3 f4
  clear hf
  obtain ⟨tm, e1, w1⟩ := int_of (c := c1) Tryz.underlying3 f1 rfl rfl
  obtain ⟨pts, e3, w3⟩ := int_of (c := c3) Tryz.underlying3 f3 rfl rfl
  obtain ⟨ex, e4, w4⟩ := int_of (c := c4) Tryz.underlying3 f4 rfl rfl
  obtain ⟨V, cv, lv, h0, _, g0⟩ := open_rows (α := ByteArray) Tryz.underlying22 (by rw [cells_str]; omega) (fun z => [.string z]) (fun _ => True) (fun _ => by rw [cells_str]; rfl) (fun h => by obtain ⟨z, hz⟩ := read_str h; exact ⟨z, hz, fun _ => trivial⟩) f0
  obtain ⟨D, cd, ld, h2, k2, g2⟩ := open_rows (α := ByteArray × Int) Tryz.underlying23 (by rw [cells_decl]; omega) (fun z => [.string z.1, .int .i64 z.2]) (fun z => i64R z.2) (fun _ => by rw [cells_decl]; rfl) (fun h => by obtain ⟨z, hz, hi⟩ := read_decl h; exact ⟨z, hz, fun _ => hi⟩) f2
  obtain ⟨E, ce, le, h5, k5, g5⟩ := open_rows (α := Edg) Tryz.underlying24 (by rw [cells_edge]; omega) Edg.cells EdgI (fun _ => by rw [cells_edge]; rfl) (fun h => by obtain ⟨z, hz, hi⟩ := read_edge h; exact ⟨z, hz, fun _ => hi⟩) f5
  simp only [List.drop_zero, List.drop_succ_cons, List.take_succ_cons, List.take_zero, List.cons.injEq, and_true] at h0 h2 h5
  subst e1 e3 e4 h0 h2 h5
  have hcs' : cs = #[.slice V lv.length cv, .int .i64 tm, .slice D ld.length cd, .int .i64 pts, .int .i64 ex, .slice E le.length ce] := by
    obtain ⟨l⟩ := cs
    simp only [Value.cells] at hcs
    rw [hcs]
  refine ⟨⟨lv.length, tm, ld.map (·.2), pts, ex, le⟩, V, D, E, cv, cd, ce, ?_, fun hn => ?_⟩
  · rw [hcs']; unfold grV; simp
  · have hd : d = .agg [y0.1, y1.1, y2.1, y3.1, y4.1, y5.1] := by
      have := congrArg Prod.fst hx
      simpa using this
    subst hd
    have eC := Tryz.underlying26
    have hwt : ∀ q, (q ∈ y0.1.weights Tryz.prog 22 ∨ q ∈ y2.1.weights Tryz.prog 23 ∨ q ∈ y5.1.weights Tryz.prog 24) → q ≤ reachBytes := fun q hq => hn q (by
      simp only [DataW.weights, eC, DataW.weightsEach, List.map_cons, List.map_nil, List.mem_append]
      rcases hq with h | h | h
      · exact .inl h
      · exact .inr (.inr (.inl h))
      · exact .inr (.inr (.inr (.inr (.inr (.inl h))))))
    obtain ⟨b0, _⟩ := g0 (fun q hq => hwt q (.inl hq))
    obtain ⟨b2, i2⟩ := g2 (fun q hq => hwt q (.inr (.inl hq)))
    obtain ⟨b5, i5⟩ := g5 (fun q hq => hwt q (.inr (.inr hq)))
    rw [bytes_str] at b0
    rw [bytes_decl] at b2
    rw [bytes_edge] at b5
    rw [cells_decl] at k2
    rw [cells_edge] at k5
    have hr := reachBytes_lt
    refine ⟨fun k hk => ?_, fun k hk => ?_, by show lv.length ≤ _; omega, by show (ld.map (·.2)).length ≤ _; rw [List.length_map]; omega, by show le.length ≤ _; omega, i5, fun s hs => ?_, wf_i64G w1, wf_i64G w3, wf_i64G w4⟩
    · have hk' : k < ld.length := by simpa using hk
      obtain ⟨b, off, h1, h2, h3⟩ := k2 k hk'
      have e : gI (ld.map (·.2)) k = ld[k].2 := by unfold gI; simp [hk']
      exact ⟨b, off, h1, h2, ⟨_, h3 0 (by omega)⟩, by rw [e]; exact h3 1 (by omega)⟩
    · obtain ⟨b, off, h1, h2, h3⟩ := k5 k hk
      exact ⟨b, off, h1, h2, h3⟩
    · obtain ⟨z, hz, rfl⟩ := List.mem_map.1 hs
      exact i2 z hz
end
end
section
open Go.RowKit
attribute [local go_sem ↓] Go.wp_at_zero Go.wp_at_succ

/-- What watching tells, in one piece. -/
def outW (g : Gr) (os : List O) (inp : List Int) (k : Int) : Sn := if runE g os inp.length k = 0 then seenW g os inp k else ⟨false, 0, 0, []⟩
theorem wres_out {g : Gr} {os : List O} {inp : List Int} {k : Int} {w w' : World} {e : Ending} (h : WRes g os inp k w e w') :
    ∃ G, e = .returned (.tuple #[.agg #[.bool (outW g os inp k).held, .int .i64 (outW g os inp k).step, .int .i64 (outW g os inp k).point, .slice G (outW g os inp k).vis.length (outW g os inp k).vis.length], .int .i64 (runE g os inp.length k)]) ∧ Rd w' w'.heap.size G (outW g os inp k).vis ∧ Below w.heap.size w w' := by
  obtain ⟨gv, he, h1, hb⟩ := h
  unfold outW
  by_cases hr : runE g os inp.length k = 0
  · rw [if_pos hr] at he ⊢
    exact ⟨_, he, rdI_of (h1 hr), hb⟩
  · rw [if_neg hr] at he ⊢
    exact ⟨none, he, fun k hk => absurd hk (by simp), hb⟩
end
end Go.Proofs.YtkncebcekhfnfaaGreat
