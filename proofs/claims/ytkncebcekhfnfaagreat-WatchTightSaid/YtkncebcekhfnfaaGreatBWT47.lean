/-
  From the row to the walk: numbers, operands, ranges as they come in.
  From the row to the walk: five parameters; a slice of int64 whose cells are such numbers.
  From the row to the walk: a script: numbers, and no more of them than the slice has room for.
  Scripts as they come in: a slice of slices of numbers, with room for each.
  A row of octagons as it comes in.
-/
import Derived.Test.YtkncebcekhfnfaaGreatBWT39
import Derived.Test.YtkncebcekhfnfaaGreatBWT03
import Derived.Test.YtkncebcekhfnfaaGreatBWT10
import Derived.Test.YtkncebcekhfnfaaGreatBWT42
import Derived.Test.YtkncebcekhfnfaaGreatBWT38
namespace Go.Proofs.YtkncebcekhfnfaaGreat
section

end
section
open Go.ChangeShapes Go.WideShapes Go.ChangeAt Go.RowKit Go.Joins

section
variable {H : Type} {enc : TypeId × Value → H} {W : World} {base : Nat} {held : Bool} {spare : Nat → Bool} {r : Reach} {b0 : Nat} {v : Value} {d : DataW H} {p : List MemPlace}
theorem row_intsI {spare : Nat → Bool} {fuel : Nat} {cs : List Value} {x : DataW H × List MemPlace} (h : DataW.trod enc Tryz.prog W base spare held fuel 28 cs = some x) :
    ∃ (A : Option Addr) (c : Nat) (m : List Int), cs = [.slice A m.length c] ∧ Rd W W.heap.size A m ∧ ((∀ n ∈ x.1.weights Tryz.prog 28, n ≤ reachBytes) → m.length ≤ 17592186044416) ∧ ∀ i : Nat, I64 (gI m (i : Int)) := by
  rcases open_ints Tryz.underlying28 Tryz.underlying2 cells_i64 h with ⟨rfl, rfl⟩ | ⟨a, len, cap, zs, rfl, _, hl, _, hzl, rfl, hc, hwf⟩
  · exact ⟨none, 0, [], rfl, fun k hk => absurd hk (by simp), fun _ => by simp, fun i => by simp [gI, I64]⟩
  · have hle : len ≤ zs.length := by rw [hzl]; split <;> omega
    have hml : (zs.take len).length = len := by simp; omega
    refine ⟨some a, cap, zs.take len, by rw [hml], fun k hk => ?_, fun hw => ?_, fun i => (range_i64 (zs := zs.take len) (fun n hn => hwf n (List.mem_of_mem_take hn)) i)⟩
    · rw [hml] at hk
      have h0 := cell_lt (hc 0 (by omega))
      have hk' := hc k (by omega)
      obtain ⟨b, off, sp⟩ := a
      have hsp : sp = none := by simpa [Addr.add] using h0.2
      subst hsp
      have hb : b < W.heap.size := by simpa [Addr.add] using h0.1
      refine ⟨b, off, rfl, hb, ?_⟩
      have e : (⟨b, off, none⟩ : Addr).add k = ⟨b, off + k, none⟩ := by unfold Addr.add; split <;> simp_all
      rw [← e, hk']
      unfold gI
      rw [getD_take_lt zs len _ 0 (by simpa using hk)]
      rfl
    · have := hw (((lits (H := H) IntKind.i64 (zs.take len)).length + (lits (H := H) IntKind.i64 (zs.drop len)).length) * Tryz.prog.bytesOf 2) (by simp [DataW.weights, Tryz.underlying28])
      rw [bytes_i64] at this
      have hr := reachBytes_lt
      simp [lits] at this
      omega
end
end
section

end
section
open Go.ChangeShapes Go.WideShapes Go.ChangeAt Go.RowKit Go.Joins

theorem cells_slS : Tryz.prog.cellsOf 28 = 1 := by kernel_rfl
theorem bytes_slS : Tryz.prog.bytesOf 28 = 24 := by kernel_rfl
theorem weightsAll_inS {H : Type} {P : Program} {e : TypeId} : ∀ {l : List (DataW H)} {d : DataW H}, d ∈ l → ∀ n ∈ d.weights P e, n ∈ DataW.weightsAll P e l
  | x :: l, d, hd, n, hn => by
    rw [DataW.weightsAll, List.mem_append]
    rcases List.mem_cons.1 hd with rfl | hd
    · exact .inl hn
    · exact .inr (weightsAll_inS hd n hn)
section
variable {H : Type} {enc : TypeId × Value → H} {W : World} {base : Nat} {held : Bool}
theorem row_scr {spare : Nat → Bool} {fuel : Nat} {cs : List Value} {x : DataW H × List MemPlace} (h : DataW.trod enc Tryz.prog W base spare held fuel 28 cs = some x) :
    ∃ (A : Option Addr) (c : Nat) (m : List Int), cs = [.slice A m.length c] ∧ Rd W W.heap.size A m ∧ ((∀ n ∈ x.1.weights Tryz.prog 28, n ≤ reachBytes) → m.length ≤ 17592186044416) ∧ I64s m ∧ m.length ≤ c := by
  obtain ⟨A, c, m, rfl, hr, hw, hI⟩ := row_intsI h
  refine ⟨A, c, m, rfl, hr, hw, hI, ?_⟩
  rcases open_ints Tryz.underlying28 Tryz.underlying2 cells_i64 h with ⟨e, _⟩ | ⟨a, len, cap, zs, e, _, hl, _⟩
  · simp at e
    obtain ⟨-, rfl, -⟩ := e
    simp
  · simp at e
    omega
/-- The rows, before they are a list. -/
def RowsS (w : World) (A : Option Addr) (len : Nat) : Prop :=
  ∀ k, k < len → ∃ b off A' c' m, A = some ⟨b, off, none⟩ ∧ b < w.heap.size ∧ w.cell? ⟨b, off + k, none⟩ = some (.slice A' (List.length (α := Int) m) c') ∧ Rd w w.heap.size A' m ∧ m.length ≤ 17592186044416 ∧ I64s m ∧ m.length ≤ c'
theorem RdRC.of_rows {w : World} {A : Option Addr} {len : Nat} (h : RowsS w A len) : ∃ ps : List (List Int), ps.length = len ∧ RdRC w w.heap.size A ps ∧ (∀ s ∈ ps, I64s s) ∧ ∀ s ∈ ps, s.length ≤ 17592186044416 := by
  have h' : ∀ k : Fin len, ∃ m : List Int, ∃ b off A' c', A = some ⟨b, off, none⟩ ∧ b < w.heap.size ∧ w.cell? ⟨b, off + k.1, none⟩ = some (.slice A' m.length c') ∧ Rd w w.heap.size A' m ∧ m.length ≤ 17592186044416 ∧ I64s m ∧ m.length ≤ c' := fun k => by
    obtain ⟨b, off, A', c', m, h⟩ := h k.1 k.2
    exact ⟨m, b, off, A', c', h⟩
  obtain ⟨f, hf⟩ := Classical.axiomOfChoice h'
  refine ⟨List.ofFn f, by simp, fun k hk => ?_, fun s hs => ?_, fun s hs => ?_⟩
  · have hk' : k < len := by simpa using hk
    have e : (List.ofFn f)[k] = f ⟨k, hk'⟩ := by simp
    rw [e]
    obtain ⟨b, off, A', c', h1, h2, h3, h4, h5, h6, h7⟩ := hf ⟨k, hk'⟩
    exact ⟨b, off, A', c', h1, h2, h3, h4, h7⟩
  · obtain ⟨k, hk, rfl⟩ := List.getElem_of_mem hs
    have hk' : k < len := by simpa using hk
    have e : (List.ofFn f)[k] = f ⟨k, hk'⟩ := by simp
    rw [e]
    obtain ⟨b, off, A', c', h1, h2, h3, h4, h5, h6, h7⟩ := hf ⟨k, hk'⟩
    exact h6
  · obtain ⟨k, hk, rfl⟩ := List.getElem_of_mem hs
    have hk' : k < len := by simpa using hk
    have e : (List.ofFn f)[k] = f ⟨k, hk'⟩ := by simp
    rw [e]
    obtain ⟨b, off, A', c', h1, h2, h3, h4, h5, h6, h7⟩ := hf ⟨k, hk'⟩
    exact h5
set_option maxRecDepth 100000 in
theorem open_scrs {r : Reach} {b0 : Nat} {spare : Nat → Bool} {v : Value} {d : DataW H} {p : List MemPlace} (hv : Value.okWide Tryz.prog W r b0 45 v) (h : DataW.Trod enc Tryz.prog W base spare held 45 v d p) :
    ∃ (A : Option Addr) (c len : Nat), v = .slice A len c ∧ ((∀ n ∈ d.weights Tryz.prog 45, n ≤ reachBytes) → RowsS W A len ∧ len ≤ 17592186044416) := by
  obtain ⟨a, len, cap, rfl⟩ := okWide_slice Tryz.underlying45 hv
  obtain ⟨fuel, hf⟩ := h
  refine ⟨a, cap, len, rfl, fun hw => ?_⟩
  rcases DataW.trod_slice Tryz.underlying45 hf with ⟨h0, _⟩ | ⟨a', len', cap', elems, rest, n, _, hcs, hx, _, hl, _, hlen, hel, _⟩
  · simp [Value.cells] at h0
    obtain ⟨rfl, rfl, rfl⟩ := h0
    exact ⟨fun k hk => absurd hk (by simp), by simp⟩
  · simp [Value.cells] at hcs
    obtain ⟨rfl, rfl, rfl⟩ := hcs
    simp only [Prod.mk.injEq] at hx
    obtain ⟨rfl, rfl⟩ := hx
    have hwt : ∀ y ∈ elems, ∀ q ∈ y.1.weights Tryz.prog 28, q ≤ reachBytes := fun y hy q hq => hw q (by
      simp only [DataW.weights, Tryz.underlying45, List.mem_cons, List.mem_append]
      exact .inr (.inl (weightsAll_inS (List.mem_map_of_mem hy) q hq)))
    have one : ∀ k, k < len → ∃ A c m, W.cell? (a'.add (k * 1)) = some (.slice A (List.length (α := Int) m) c) ∧ Rd W W.heap.size A m ∧ m.length ≤ 17592186044416 ∧ I64s m ∧ m.length ≤ c := fun k hk => by
      have hk' := hel k hk
      have hke : k < elems.length := by omega
      rw [cells_slS, List.getElem?_eq_getElem hke, Option.bind_eq_some_iff] at hk'
      obtain ⟨cs, hcs, hy⟩ := hk'
      obtain ⟨A, c, m, rfl, hr, hm, hI, hcp⟩ := row_scr hy
      obtain ⟨_, _, hcell⟩ := World.cells?_some hcs
      have t0 := hcell 0 (by omega)
      simp only [List.getElem?_cons_zero] at t0
      have e0 : (a'.add (k * 1)).add 0 = a'.add (k * 1) := by
        obtain ⟨b, off, sp⟩ := a'
        cases sp <;> simp [Addr.add]
      rw [e0] at t0
      exact ⟨A, c, m, t0, hr, hm (hwt _ (List.getElem_mem hke)), hI, hcp⟩
    refine ⟨fun k hk => ?_, ?_⟩
    · obtain ⟨A, c, m, t0, hr, hm⟩ := one k hk
      obtain ⟨A1, c1, m1, u0, _⟩ := one 0 (by omega)
      have s0 := cell_lt t0
      have s1 := cell_lt u0
      obtain ⟨b, off, sp⟩ := a'
      have hsp : sp = none := by simpa [Addr.add] using s1.2
      subst hsp
      have hb : b < W.heap.size := by simpa [block_add] using s0.1
      rw [Nat.mul_one, add_mk] at t0
      exact ⟨b, off, A, c, m, rfl, hb, t0, hr, hm⟩
    · have := hw (((elems.map (·.1)).length + (rest.map (·.1)).length) * Tryz.prog.bytesOf 28) (by simp [DataW.weights, Tryz.underlying45])
      rw [bytes_slS] at this
      have hr := reachBytes_lt
      simp at this
      omega
end
end
section
open Go.ChangeShapes Go.WideShapes Go.ChangeAt Go.RowKit Go.Joins

theorem bytes_oct : Tryz.prog.bytesOf 53 = 40 := by kernel_rfl
theorem weightsAll_in {H : Type} {P : Program} {e : TypeId} : ∀ {l : List (DataW H)} {d : DataW H}, d ∈ l → ∀ n ∈ d.weights P e, n ∈ DataW.weightsAll P e l
  | x :: l, d, hd, n, hn => by
    rw [DataW.weightsAll, List.mem_append]
    rcases List.mem_cons.1 hd with rfl | hd
    · exact .inl hn
    · exact .inr (weightsAll_in hd n hn)

theorem list3 {α : Type} {l : List α} (h : l.length = 3) : ∃ c0 c1 c2, l = [c0, c1, c2] := by
  match l, h with
  | [c0, c1, c2], _ => exact ⟨c0, c1, c2, rfl⟩

section
variable {H : Type} {enc : TypeId × Value → H} {W : World} {base : Nat} {held : Bool}

set_option maxRecDepth 100000 in
theorem row_oct {spare : Nat → Bool} {fuel : Nat} {cs : List Value} {x : DataW H × List MemPlace} (h : DataW.trod enc Tryz.prog W base spare held fuel 53 cs = some x) :
    ∃ (n : Int) (e : Bool) (A : Option Addr) (c : Nat) (m : List Int), cs = [.int .i64 n, .bool e, .slice A m.length c] ∧ Rd W W.heap.size A m ∧ ((∀ q ∈ x.1.weights Tryz.prog 53, q ≤ reachBytes) → m.length ≤ 17592186044416) ∧ ∀ i : Nat, gI m i ≤ 9223372036854775807 := by
  obtain ⟨y0, y1, y2, n, rfl, hl, h0, h1, h2⟩ := Go.Deep.trod_struct3 Tryz.underlying53 h
  rw [cells_oct] at hl
  obtain ⟨c0, c1, c2, rfl⟩ := list3 hl
  · obtain ⟨k, hk, rfl, _⟩ := DataW.trod_int Tryz.underlying3 h0
    obtain ⟨b, hb, rfl⟩ := DataW.trod_bool Tryz.underlying4 h1
    obtain ⟨A, c, m, he, hr, hw, hg⟩ := row_ints h2
    have e0 : Tryz.prog.cellsOf 3 = 1 := by kernel_rfl
    have e1 : Tryz.prog.cellsOf 4 = 1 := by kernel_rfl
    have e2 : Tryz.prog.cellsOf 28 = 1 := by kernel_rfl
    simp only [e0, List.drop_zero, List.take_succ_cons, List.take_zero, List.cons.injEq, and_true] at hk
    simp only [e1, List.drop_succ_cons, List.drop_zero, List.take_succ_cons, List.take_zero, List.cons.injEq, and_true] at hb
    simp only [e2, List.drop_succ_cons, List.drop_zero, List.take_succ_cons, List.take_zero, List.cons.injEq, and_true] at he
    subst hk hb he
    refine ⟨k, b, A, c, m, rfl, hr, fun hn => hw fun q hq => hn q ?_, hg⟩
    have e := Tryz.underlying53
    simp only [DataW.weights, e, DataW.weightsEach, List.map_cons, List.map_nil, List.mem_append]
    exact .inr (.inr (.inl hq))

set_option maxRecDepth 100000 in
theorem open_row {r : Reach} {b0 : Nat} {spare : Nat → Bool} {v : Value} {d : DataW H} {p : List MemPlace} (hv : Value.okWide Tryz.prog W r b0 27 v) (h : DataW.Trod enc Tryz.prog W base spare held 27 v d p) :
    ∃ (A : Option Addr) (c len : Nat), v = .slice A len c ∧ ((∀ n ∈ d.weights Tryz.prog 27, n ≤ reachBytes) → RowRd W A len ∧ len ≤ 17592186044416) := by
  obtain ⟨a, len, cap, rfl⟩ := okWide_slice Tryz.underlying27 hv
  obtain ⟨fuel, hf⟩ := h
  refine ⟨a, cap, len, rfl, fun hw => ?_⟩
  rcases DataW.trod_slice Tryz.underlying27 hf with ⟨h0, _⟩ | ⟨a', len', cap', elems, rest, n, _, hcs, hx, _, hl, _, hlen, hel, _⟩
  · simp [Value.cells] at h0
    obtain ⟨rfl, rfl, rfl⟩ := h0
    exact ⟨fun k hk => absurd hk (by simp), by simp⟩
  · simp [Value.cells] at hcs
    obtain ⟨rfl, rfl, rfl⟩ := hcs
    simp only [Prod.mk.injEq] at hx
    obtain ⟨rfl, rfl⟩ := hx
    have hwt : ∀ y ∈ elems, ∀ q ∈ y.1.weights Tryz.prog 53, q ≤ reachBytes := fun y hy q hq => hw q (by
      simp only [DataW.weights, Tryz.underlying27, List.mem_cons, List.mem_append]
      exact .inr (.inl (weightsAll_in (List.mem_map_of_mem hy) q hq)))
    refine ⟨fun k hk => ?_, ?_⟩
    · have hk' := hel k hk
      have hke : k < elems.length := by omega
      rw [cells_oct, List.getElem?_eq_getElem hke, Option.bind_eq_some_iff] at hk'
      obtain ⟨cs, hcs, hy⟩ := hk'
      obtain ⟨vn, e, A, c, m, rfl, hr, hm, hg⟩ := row_oct hy
      obtain ⟨_, _, hcell⟩ := World.cells?_some hcs
      have t0 := hcell 0 (by omega)
      have t1 := hcell 1 (by omega)
      have t2 := hcell 2 (by omega)
      simp only [List.getElem?_cons_zero, List.getElem?_cons_succ] at t0 t1 t2
      have s0 := cell_lt t0
      obtain ⟨b, off, sp⟩ := a'
      have hb : b < W.heap.size := by simpa [block_add] using s0.1
      have hsp : sp = none := by
        have := s0.2
        by_cases hk0 : k = 0
        · subst hk0; simpa [Addr.add] using this
        · exact ((by
            have h0 := hel 0 (by omega)
            have h0e : 0 < elems.length := by omega
            rw [cells_oct, List.getElem?_eq_getElem h0e, Option.bind_eq_some_iff] at h0
            obtain ⟨cs', hcs', hy'⟩ := h0
            obtain ⟨vn', e', A', c', m', rfl, _⟩ := row_oct hy'
            have t := (World.cells?_some hcs').2.2 0 (by omega)
            simp only [List.getElem?_cons_zero] at t
            simpa [Addr.add] using (cell_lt t).2) : sp = none)
      subst hsp
      have ea : (⟨b, off, none⟩ : Addr).add (k * 3) = ⟨b, off + k * 3, none⟩ := add_mk _ _ _
      rw [ea, add_mk] at t0 t1 t2
      exact ⟨b, off, vn, e, A, c, m, rfl, hb, t0, t1, t2, hr, hm (hwt _ (List.getElem_mem hke)), hg⟩
    · have := hw (((elems.map (·.1)).length + (rest.map (·.1)).length) * Tryz.prog.bytesOf 53) (by simp [DataW.weights, Tryz.underlying27])
      rw [bytes_oct] at this
      have hr := reachBytes_lt
      simp at this
      omega
end
end
end Go.Proofs.YtkncebcekhfnfaaGreat
