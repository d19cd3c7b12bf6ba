/-
  A row of octagons as it comes in.
-/
import Derived.Test.YtanbplidigokgaaOpen
import Derived.Test.YtanbplidigokgaaLawWR
namespace Go.Proofs.Ytanbplidigokgaa
open Go.ChangeShapes Go.WideShapes Go.ChangeAt Go.RowKit Go.Joins

theorem bytes_oct : Try.prog.bytesOf 24 = 40 := by kernel_rfl
theorem weightsAll_in {H : Type} {P : Program} {e : TypeId} : ∀ {l : List (DataW H)} {d : DataW H}, d ∈ l → ∀ n ∈ d.weights P e, n ∈ DataW.weightsAll P e l
  | x :: l, d, hd, n, hn => by
    rw [DataW.weightsAll, List.mem_append]
    rcases List.mem_cons.1 hd with rfl | hd
    · exact .inl hn
    · exact .inr (weightsAll_in hd n hn)

theorem list3 {α : Type} {l : List α} (h : l.length = 3) : ∃ c0 c1 c2, l = [c0, c1, c2] := by
  match l, h with
  | [c0, c1, c2], _ => exact ⟨c0, c1, c2, rfl⟩

section
variable {H : Type} {enc : TypeId × Value → H} {W : World} {base : Nat} {held : Bool}

set_option maxRecDepth 100000 in
theorem row_oct {spare : Nat → Bool} {fuel : Nat} {cs : List Value} {x : DataW H × List MemPlace} (h : DataW.trod enc Try.prog W base spare held fuel 24 cs = some x) :
    ∃ (n : Int) (e : Bool) (A : Option Addr) (c : Nat) (m : List Int), cs = [.int .i64 n, .bool e, .slice A m.length c] ∧ Rd W W.heap.size A m ∧ ((∀ q ∈ x.1.weights Try.prog 24, q ≤ reachBytes) → m.length ≤ 17592186044416) ∧ ∀ i : Nat, gI m i ≤ 9223372036854775807 := by
  obtain ⟨y0, y1, y2, n, rfl, hl, h0, h1, h2⟩ := Go.Deep.trod_struct3 Try.underlying24 h
  rw [cells_oct] at hl
  obtain ⟨c0, c1, c2, rfl⟩ := list3 hl
  · obtain ⟨k, hk, rfl, _⟩ := DataW.trod_int Try.underlying3 h0
    obtain ⟨b, hb, rfl⟩ := DataW.trod_bool Try.underlying4 h1
    obtain ⟨A, c, m, he, hr, hw, hg⟩ := row_ints h2
    have e0 : Try.prog.cellsOf 3 = 1 := by kernel_rfl
    have e1 : Try.prog.cellsOf 4 = 1 := by kernel_rfl
    have e2 : Try.prog.cellsOf 22 = 1 := by kernel_rfl
    simp only [e0, List.drop_zero, List.take_succ_cons, List.take_zero, List.cons.injEq, and_true] at hk
    simp only [e1, List.drop_succ_cons, List.drop_zero, List.take_succ_cons, List.take_zero, List.cons.injEq, and_true] at hb
    simp only [e2, List.drop_succ_cons, List.drop_zero, List.take_succ_cons, List.take_zero, List.cons.injEq, and_true] at he
    subst hk hb he
    refine ⟨k, b, A, c, m, rfl, hr, fun hn => hw fun q hq => hn q ?_, hg⟩
    have e := Try.underlying24
    simp only [DataW.weights, e, DataW.weightsEach, List.map_cons, List.map_nil, List.mem_append]
    exact .inr (.inr (.inl hq))

set_option maxRecDepth 100000 in
theorem open_row {r : Reach} {b0 : Nat} {spare : Nat → Bool} {v : Value} {d : DataW H} {p : List MemPlace} (hv : Value.okWide Try.prog W r b0 37 v) (h : DataW.Trod enc Try.prog W base spare held 37 v d p) :
    ∃ (A : Option Addr) (c len : Nat), v = .slice A len c ∧ ((∀ n ∈ d.weights Try.prog 37, n ≤ reachBytes) → RowRd W A len ∧ len ≤ 17592186044416) := by
  obtain ⟨a, len, cap, rfl⟩ := okWide_slice Try.underlying37 hv
  obtain ⟨fuel, hf⟩ := h
  refine ⟨a, cap, len, rfl, fun hw => ?_⟩
  rcases DataW.trod_slice Try.underlying37 hf with ⟨h0, _⟩ | ⟨a', len', cap', elems, rest, n, _, hcs, hx, _, hl, _, hlen, hel, _⟩
  · simp [Value.cells] at h0
    obtain ⟨rfl, rfl, rfl⟩ := h0
    exact ⟨fun k hk => absurd hk (by simp), by simp⟩
  · simp [Value.cells] at hcs
    obtain ⟨rfl, rfl, rfl⟩ := hcs
    simp only [Prod.mk.injEq] at hx
    obtain ⟨rfl, rfl⟩ := hx
    have hwt : ∀ y ∈ elems, ∀ q ∈ y.1.weights Try.prog 24, q ≤ reachBytes := fun y hy q hq => hw q (by
      simp only [DataW.weights, Try.underlying37, List.mem_cons, List.mem_append]
      exact .inr (.inl (weightsAll_in (List.mem_map_of_mem hy) q hq)))
    refine ⟨fun k hk => ?_, ?_⟩
    · have hk' := hel k hk
      have hke : k < elems.length := by omega
      rw [cells_oct, List.getElem?_eq_getElem hke, Option.bind_eq_some_iff] at hk'
      obtain ⟨cs, hcs, hy⟩ := hk'
      obtain ⟨vn, e, A, c, m, rfl, hr, hm, hg⟩ := row_oct hy
      obtain ⟨_, _, hcell⟩ := World.cells?_some hcs
      have t0 := hcell 0 (by omega)
      have t1 := hcell 1 (by omega)
      have t2 := hcell 2 (by omega)
      simp only [List.getElem?_cons_zero, List.getElem?_cons_succ] at t0 t1 t2
      have s0 := cell_lt t0
      obtain ⟨b, off, sp⟩ := a'
      have hb : b < W.heap.size := by simpa [block_add] using s0.1
      have hsp : sp = none := by
        have := s0.2
        by_cases hk0 : k = 0
        · subst hk0; simpa [Addr.add] using this
        · exact ((by
            have h0 := hel 0 (by omega)
            have h0e : 0 < elems.length := by omega
            rw [cells_oct, List.getElem?_eq_getElem h0e, Option.bind_eq_some_iff] at h0
            obtain ⟨cs', hcs', hy'⟩ := h0
            obtain ⟨vn', e', A', c', m', rfl, _⟩ := row_oct hy'
            have t := (World.cells?_some hcs').2.2 0 (by omega)
            simp only [List.getElem?_cons_zero] at t
            simpa [Addr.add] using (cell_lt t).2) : sp = none)
      subst hsp
      have ea : (⟨b, off, none⟩ : Addr).add (k * 3) = ⟨b, off + k * 3, none⟩ := add_mk _ _ _
      rw [ea, add_mk] at t0 t1 t2
      exact ⟨b, off, vn, e, A, c, m, rfl, hb, t0, t1, t2, hr, hm (hwt _ (List.getElem_mem hke)), hg⟩
    · have := hw (((elems.map (·.1)).length + (rest.map (·.1)).length) * Try.prog.bytesOf 24) (by simp [DataW.weights, Try.underlying37])
      rw [bytes_oct] at this
      have hr := reachBytes_lt
      simp at this
      omega
end
end Go.Proofs.Ytanbplidigokgaa
