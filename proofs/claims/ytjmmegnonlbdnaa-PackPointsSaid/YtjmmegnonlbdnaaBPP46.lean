/-
  From the row to the walk: an octagon, a slice of int64 as they come in; the row's end 'true, and the input reads as it did'.
  From the row to the walk: numbers, operands, ranges as they come in.
  From the row to the walk: five parameters; a slice of int64 whose cells are such numbers.
-/
import Derived.Test.YtjmmegnonlbdnaaMem
import Derived.ProofKit
import Derived.SizedLaws
import Derived.Lib.SmallJoins
import Derived.Test.YtjmmegnonlbdnaaBPP36
namespace Go.Proofs.Ytjmmegnonlbdnaa
section
open Go.ChangeShapes Go.WideShapes Go.ChangeAt Go.RowKit Go.Joins

theorem Try.own : ownKnob Try.prog.godebug = none := by kernel_rfl
theorem Try.laidOut : laidOutB Try.prog = true := by kernel_rfl
theorem cells_i64 : Try.prog.cellsOf 2 = 1 := by kernel_rfl
theorem cells_oct : Try.prog.cellsOf 39 = 3 := by kernel_rfl
theorem bytes_i64 : Try.prog.bytesOf 2 = 8 := by kernel_rfl

section
variable {H : Type} {enc : TypeId × Value → H} {W : World} {base : Nat} {held : Bool}

theorem cell_lt {w : World} {p : Addr} {v : Value} (h : w.cell? p = some v) : p.block < w.heap.size ∧ p.spot = none := by
  unfold World.cell? at h
  split at h
  · rename_i hb
    refine ⟨(Array.getElem?_eq_some_iff.1 hb).1, ?_⟩
    split at h
    · cases h
    · rename_i hs
      simpa using hs
  · cases h

/-- The heart: a slice of int64 that is met in reading. -/
theorem row_ints {spare : Nat → Bool} {fuel : Nat} {cs : List Value} {x : DataW H × List MemPlace} (h : DataW.trod enc Try.prog W base spare held fuel 37 cs = some x) :
    ∃ (A : Option Addr) (c : Nat) (m : List Int), cs = [.slice A m.length c] ∧ Rd W W.heap.size A m ∧ ((∀ n ∈ x.1.weights Try.prog 37, n ≤ reachBytes) → m.length ≤ 17592186044416) ∧ ∀ i : Nat, gI m i ≤ 9223372036854775807 := by
  rcases open_ints Try.underlying37 Try.underlying2 cells_i64 h with ⟨rfl, rfl⟩ | ⟨a, len, cap, zs, rfl, _, hl, _, hzl, rfl, hc, hwf⟩
  · exact ⟨none, 0, [], rfl, fun k hk => absurd hk (by simp), fun _ => by simp, fun i => by simp [gI]⟩
  · have hle : len ≤ zs.length := by rw [hzl]; split <;> omega
    have hml : (zs.take len).length = len := by simp; omega
    refine ⟨some a, cap, zs.take len, by rw [hml], fun k hk => ?_, fun hw => ?_, fun i => (range_i64 (zs := zs.take len) (fun n hn => hwf n (List.mem_of_mem_take hn)) i).2⟩
    · rw [hml] at hk
      have h0 := cell_lt (hc 0 (by omega))
      have hk' := hc k (by omega)
      obtain ⟨b, off, sp⟩ := a
      have hsp : sp = none := by simpa [Addr.add] using h0.2
      subst hsp
      have hb : b < W.heap.size := by simpa [Addr.add] using h0.1
      refine ⟨b, off, rfl, hb, ?_⟩
      have e : (⟨b, off, none⟩ : Addr).add k = ⟨b, off + k, none⟩ := by unfold Addr.add; split <;> simp_all
      rw [← e, hk']
      unfold gI
      rw [getD_take_lt zs len _ 0 (by simpa using hk)]
      rfl
    · have := hw (((lits (H := H) IntKind.i64 (zs.take len)).length + (lits (H := H) IntKind.i64 (zs.drop len)).length) * Try.prog.bytesOf 2) (by simp [DataW.weights, Try.underlying37])
      rw [bytes_i64] at this
      have hr := reachBytes_lt
      simp [lits] at this
      omega

set_option maxRecDepth 100000 in
theorem open_oct {r : Reach} {b0 : Nat} {spare : Nat → Bool} {v : Value} {d : DataW H} {p : List MemPlace} (hv : Value.okWide Try.prog W r b0 39 v) (h : DataW.Trod enc Try.prog W base spare held 39 v d p) :
    ∃ (A : Option Addr) (c : Nat) (o : O), v = .agg #[.int .i64 o.n, .bool o.e, .slice A o.m.length c] ∧ Rd W W.heap.size A o.m ∧ ((∀ n ∈ d.weights Try.prog 39, n ≤ reachBytes) → o.m.length ≤ 17592186044416) := by
  obtain ⟨v0, v1, v2, y0, y1, y2, n, rfl, rfl, rfl, h0, h1, h2⟩ := open_agg3 Try.underlying39 (by kernel_rfl) cells_oct hv h
  obtain ⟨k, hk, rfl, _⟩ := DataW.trod_int Try.underlying3 h0
  obtain ⟨b, hb, rfl⟩ := DataW.trod_bool Try.underlying4 h1
  obtain ⟨A, c, m, he, hr, hw, _⟩ := row_ints h2
  injection hk with hk; subst hk
  injection hb with hb; subst hb
  injection he with he; subst he
  refine ⟨A, c, ⟨k, b, m⟩, rfl, hr, fun hn => hw fun q hq => hn q ?_⟩
  have e := Try.underlying39
  simp only [DataW.weights, e, DataW.weightsEach, List.map_cons, List.map_nil, List.mem_append]
  exact .inr (.inr (.inl hq))

/-- The row's end: it answers true, and what came in reads as it did. -/
theorem post_true {f : Func} {s : ChangeSpec} {W' : World} {args : Array Value} {ds : List (DataW H)} {before : List MemPlace} (hW : DataW.Whole enc Try.prog f.params.toList s.vars false W args.toList ds [] before)
    (hrt : f.resultTypes = #[4]) (hv : s.vars = []) (hfn : s.fn H (ds ++ []) = { results := [.lit (.bool true)], args := ds })
    (hargs : DataW.TrodAll enc Try.prog W' 0 (fun b => decide (b < W.heap.size)) true f.params.toList args.toList ds before) (hb : Below W.heap.size W W') :
    s.post enc Try.prog f false true false false W args (.bool true) W' := by
  refine ⟨ds, [], before, [], before, [], hW, ?_, ?_, ?_, World.keptBut_mono (fun p hp => ⟨hp, .inr (.inl hp)⟩) (hb.frame (· ∈ before)), fun h => by cases h⟩
  · rw [hfn, hrt]
    exact trodAll_mk1 (shut_bool Try.underlying4 _)
  · rw [hfn]; exact hargs
  · rw [hfn, hv]; rfl
end
end
section

end
section
open Go.ChangeShapes Go.WideShapes Go.ChangeAt Go.RowKit Go.Joins

section
variable {H : Type} {enc : TypeId × Value → H} {W : World} {base : Nat} {held : Bool} {spare : Nat → Bool} {r : Reach} {b0 : Nat} {v : Value} {d : DataW H} {p : List MemPlace}
theorem row_intsI {spare : Nat → Bool} {fuel : Nat} {cs : List Value} {x : DataW H × List MemPlace} (h : DataW.trod enc Try.prog W base spare held fuel 37 cs = some x) :
    ∃ (A : Option Addr) (c : Nat) (m : List Int), cs = [.slice A m.length c] ∧ Rd W W.heap.size A m ∧ ((∀ n ∈ x.1.weights Try.prog 37, n ≤ reachBytes) → m.length ≤ 17592186044416) ∧ ∀ i : Nat, I64 (gI m (i : Int)) := by
  rcases open_ints Try.underlying37 Try.underlying2 cells_i64 h with ⟨rfl, rfl⟩ | ⟨a, len, cap, zs, rfl, _, hl, _, hzl, rfl, hc, hwf⟩
  · exact ⟨none, 0, [], rfl, fun k hk => absurd hk (by simp), fun _ => by simp, fun i => by simp [gI, I64]⟩
  · have hle : len ≤ zs.length := by rw [hzl]; split <;> omega
    have hml : (zs.take len).length = len := by simp; omega
    refine ⟨some a, cap, zs.take len, by rw [hml], fun k hk => ?_, fun hw => ?_, fun i => (range_i64 (zs := zs.take len) (fun n hn => hwf n (List.mem_of_mem_take hn)) i)⟩
    · rw [hml] at hk
      have h0 := cell_lt (hc 0 (by omega))
      have hk' := hc k (by omega)
      obtain ⟨b, off, sp⟩ := a
      have hsp : sp = none := by simpa [Addr.add] using h0.2
      subst hsp
      have hb : b < W.heap.size := by simpa [Addr.add] using h0.1
      refine ⟨b, off, rfl, hb, ?_⟩
      have e : (⟨b, off, none⟩ : Addr).add k = ⟨b, off + k, none⟩ := by unfold Addr.add; split <;> simp_all
      rw [← e, hk']
      unfold gI
      rw [getD_take_lt zs len _ 0 (by simpa using hk)]
      rfl
    · have := hw (((lits (H := H) IntKind.i64 (zs.take len)).length + (lits (H := H) IntKind.i64 (zs.drop len)).length) * Try.prog.bytesOf 2) (by simp [DataW.weights, Try.underlying37])
      rw [bytes_i64] at this
      have hr := reachBytes_lt
      simp [lits] at this
      omega
set_option maxRecDepth 100000 in
theorem open_longsI (hv : Value.okWide Try.prog W r b0 37 v) (h : DataW.Trod enc Try.prog W base spare held 37 v d p) :
    ∃ (A : Option Addr) (c : Nat) (m : List Int), v = .slice A m.length c ∧ Rd W W.heap.size A m ∧ (∀ k : Nat, I64 (gI m (k : Int))) ∧ ((∀ n ∈ d.weights Try.prog 37, n ≤ reachBytes) → m.length ≤ 17592186044416) := by
  obtain ⟨a, len, cap, rfl⟩ := okWide_slice Try.underlying37 hv
  obtain ⟨fuel, hf⟩ := h
  obtain ⟨A, c, m, he, hr, hw, hI⟩ := row_intsI hf
  simp [Value.cells] at he
  obtain ⟨rfl, rfl, rfl⟩ := he
  exact ⟨_, _, m, rfl, hr, hI, hw⟩
end
end
end Go.Proofs.Ytjmmegnonlbdnaa
