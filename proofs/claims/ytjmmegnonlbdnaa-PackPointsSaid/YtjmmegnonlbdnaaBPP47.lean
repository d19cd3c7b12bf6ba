/-
  Packs as they come in: a slice of slices of numbers.
  An octagon, packs and a point that came in.
-/
import Derived.Test.YtjmmegnonlbdnaaBPP46
import Derived.Test.YtjmmegnonlbdnaaPacks
namespace Go.Proofs.Ytjmmegnonlbdnaa
section
open Go.ChangeShapes Go.WideShapes Go.ChangeAt Go.RowKit Go.Joins

theorem cells_intP : Try.prog.cellsOf 3 = 1 := by kernel_rfl
theorem cells_slP : Try.prog.cellsOf 48 = 1 := by kernel_rfl
theorem bytes_intP : Try.prog.bytesOf 3 = 8 := by kernel_rfl
theorem bytes_slP : Try.prog.bytesOf 48 = 24 := by kernel_rfl
theorem weightsAll_inP {H : Type} {P : Program} {e : TypeId} : ∀ {l : List (DataW H)} {d : DataW H}, d ∈ l → ∀ n ∈ d.weights P e, n ∈ DataW.weightsAll P e l
  | x :: l, d, hd, n, hn => by
    rw [DataW.weightsAll, List.mem_append]
    rcases List.mem_cons.1 hd with rfl | hd
    · exact .inl hn
    · exact .inr (weightsAll_inP hd n hn)
section
variable {H : Type} {enc : TypeId × Value → H} {W : World} {base : Nat} {held : Bool}
theorem row_intsP {spare : Nat → Bool} {fuel : Nat} {cs : List Value} {x : DataW H × List MemPlace} (h : DataW.trod enc Try.prog W base spare held fuel 48 cs = some x) :
    ∃ (A : Option Addr) (c : Nat) (m : List Int), cs = [.slice A m.length c] ∧ Rd W W.heap.size A m ∧ ((∀ n ∈ x.1.weights Try.prog 48, n ≤ reachBytes) → m.length ≤ 17592186044416) := by
  rcases open_ints Try.underlying48 Try.underlying3 cells_intP h with ⟨rfl, rfl⟩ | ⟨a, len, cap, zs, rfl, _, hl, _, hzl, rfl, hc, hwf⟩
  · exact ⟨none, 0, [], rfl, fun k hk => absurd hk (by simp), fun _ => by simp⟩
  · have hle : len ≤ zs.length := by rw [hzl]; split <;> omega
    have hml : (zs.take len).length = len := by simp; omega
    refine ⟨some a, cap, zs.take len, by rw [hml], fun k hk => ?_, fun hw => ?_⟩
    · rw [hml] at hk
      have h0 := cell_lt (hc 0 (by omega))
      have hk' := hc k (by omega)
      obtain ⟨b, off, sp⟩ := a
      have hsp : sp = none := by simpa [Addr.add] using h0.2
      subst hsp
      have hb : b < W.heap.size := by simpa [Addr.add] using h0.1
      refine ⟨b, off, rfl, hb, ?_⟩
      have e : (⟨b, off, none⟩ : Addr).add k = ⟨b, off + k, none⟩ := by unfold Addr.add; split <;> simp_all
      rw [← e, hk']
      unfold gI
      rw [getD_take_lt zs len _ 0 (by simpa using hk)]
      rfl
    · have := hw (((lits (H := H) IntKind.i64 (zs.take len)).length + (lits (H := H) IntKind.i64 (zs.drop len)).length) * Try.prog.bytesOf 3) (by simp [DataW.weights, Try.underlying48])
      rw [bytes_intP] at this
      have hr := reachBytes_lt
      simp [lits] at this
      omega
/-- The rows, before they are a list. -/
def RowsP (w : World) (A : Option Addr) (len : Nat) : Prop :=
  ∀ k, k < len → ∃ b off A' c' m, A = some ⟨b, off, none⟩ ∧ b < w.heap.size ∧ w.cell? ⟨b, off + k, none⟩ = some (.slice A' (List.length (α := Int) m) c') ∧ Rd w w.heap.size A' m ∧ m.length ≤ 17592186044416
theorem RdL.of_rows {w : World} {A : Option Addr} {len : Nat} (h : RowsP w A len) : ∃ ps : List (List Int), ps.length = len ∧ RdL w w.heap.size A ps := by
  have h' : ∀ k : Fin len, ∃ m : List Int, ∃ b off A' c', A = some ⟨b, off, none⟩ ∧ b < w.heap.size ∧ w.cell? ⟨b, off + k.1, none⟩ = some (.slice A' m.length c') ∧ Rd w w.heap.size A' m ∧ m.length ≤ 17592186044416 := fun k => by
    obtain ⟨b, off, A', c', m, h⟩ := h k.1 k.2
    exact ⟨m, b, off, A', c', h⟩
  obtain ⟨f, hf⟩ := Classical.axiomOfChoice h'
  refine ⟨List.ofFn f, by simp, fun k hk => ?_⟩
  have hk' : k < len := by simpa using hk
  have e : rowL (List.ofFn f) k = f ⟨k, hk'⟩ := by unfold rowL; simp [hk']
  rw [e]
  exact hf ⟨k, hk'⟩
set_option maxRecDepth 100000 in
theorem open_packs {r : Reach} {b0 : Nat} {spare : Nat → Bool} {v : Value} {d : DataW H} {p : List MemPlace} (hv : Value.okWide Try.prog W r b0 28 v) (h : DataW.Trod enc Try.prog W base spare held 28 v d p) :
    ∃ (A : Option Addr) (c len : Nat), v = .slice A len c ∧ ((∀ n ∈ d.weights Try.prog 28, n ≤ reachBytes) → RowsP W A len ∧ len ≤ 17592186044416) := by
  obtain ⟨a, len, cap, rfl⟩ := okWide_slice Try.underlying28 hv
  obtain ⟨fuel, hf⟩ := h
  refine ⟨a, cap, len, rfl, fun hw => ?_⟩
  rcases DataW.trod_slice Try.underlying28 hf with ⟨h0, _⟩ | ⟨a', len', cap', elems, rest, n, _, hcs, hx, _, hl, _, hlen, hel, _⟩
  · simp [Value.cells] at h0
    obtain ⟨rfl, rfl, rfl⟩ := h0
    exact ⟨fun k hk => absurd hk (by simp), by simp⟩
  · simp [Value.cells] at hcs
    obtain ⟨rfl, rfl, rfl⟩ := hcs
    simp only [Prod.mk.injEq] at hx
    obtain ⟨rfl, rfl⟩ := hx
    have hwt : ∀ y ∈ elems, ∀ q ∈ y.1.weights Try.prog 48, q ≤ reachBytes := fun y hy q hq => hw q (by
      simp only [DataW.weights, Try.underlying28, List.mem_cons, List.mem_append]
      exact .inr (.inl (weightsAll_inP (List.mem_map_of_mem hy) q hq)))
    have one : ∀ k, k < len → ∃ A c m, W.cell? (a'.add (k * 1)) = some (.slice A (List.length (α := Int) m) c) ∧ Rd W W.heap.size A m ∧ m.length ≤ 17592186044416 := fun k hk => by
      have hk' := hel k hk
      have hke : k < elems.length := by omega
      rw [cells_slP, List.getElem?_eq_getElem hke, Option.bind_eq_some_iff] at hk'
      obtain ⟨cs, hcs, hy⟩ := hk'
      obtain ⟨A, c, m, rfl, hr, hm⟩ := row_intsP hy
      obtain ⟨_, _, hcell⟩ := World.cells?_some hcs
      have t0 := hcell 0 (by omega)
      simp only [List.getElem?_cons_zero] at t0
      have e0 : (a'.add (k * 1)).add 0 = a'.add (k * 1) := by
        obtain ⟨b, off, sp⟩ := a'
        cases sp <;> simp [Addr.add]
      rw [e0] at t0
      exact ⟨A, c, m, t0, hr, hm (hwt _ (List.getElem_mem hke))⟩
    refine ⟨fun k hk => ?_, ?_⟩
    · obtain ⟨A, c, m, t0, hr, hm⟩ := one k hk
      obtain ⟨A1, c1, m1, u0, _⟩ := one 0 (by omega)
      have s0 := cell_lt t0
      have s1 := cell_lt u0
      obtain ⟨b, off, sp⟩ := a'
      have hsp : sp = none := by simpa [Addr.add] using s1.2
      subst hsp
      have hb : b < W.heap.size := by simpa [block_add] using s0.1
      rw [Nat.mul_one, add_mk] at t0
      exact ⟨b, off, A, c, m, rfl, hb, t0, hr, hm⟩
    · have := hw (((elems.map (·.1)).length + (rest.map (·.1)).length) * Try.prog.bytesOf 48) (by simp [DataW.weights, Try.underlying28])
      rw [bytes_slP] at this
      have hr := reachBytes_lt
      simp at this
      omega
end
end
section

end
end Go.Proofs.Ytjmmegnonlbdnaa
