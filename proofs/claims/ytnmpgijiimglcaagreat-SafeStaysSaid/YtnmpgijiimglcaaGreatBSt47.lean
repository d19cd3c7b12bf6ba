import Derived.Test.YtnmpgijiimglcaaGreatBSt02
import Derived.ProofKit
import Derived.SizedLaws
import Derived.Lib.SmallJoins
import Derived.Test.YtnmpgijiimglcaaGreatBSt08
import Derived.Test.YtnmpgijiimglcaaGreatBSt11
import Derived.Test.YtnmpgijiimglcaaGreatBSt25
namespace Go.Proofs.YtnmpgijiimglcaaGreat
section
set_option maxRecDepth 100000
set_option maxHeartbeats 8000000
open Go.ChangeShapes Go.WideShapes Go.ChangeAt Go.RowKit Go.Joins
theorem Tryz.own : ownKnob Tryz.prog.godebug = none := by kernel_rfl
theorem Tryz.laidOut : laidOutB Tryz.prog = true := by kernel_rfl
theorem cells_i64 : Tryz.prog.cellsOf 2 = 1 := by kernel_rfl
theorem cells_oct : Tryz.prog.cellsOf 24 = 3 := by kernel_rfl
theorem bytes_i64 : Tryz.prog.bytesOf 2 = 8 := by kernel_rfl
section
variable {H : Type} {enc : TypeId × Value → H} {W : World} {base : Nat} {held : Bool}
theorem cell_lt {w : World} {p : Addr} {v : Value} (h : w.cell? p = some v) : p.block < w.heap.size ∧ p.spot = none := by
 unfold World.cell? at h
 split at h
 ·rename_i hb
  refine ⟨(Array.getElem?_eq_some_iff.1 hb).1, ?_⟩
  split at h
  ·cases h
  ·rename_i hs
   simpa using hs
 ·cases h
theorem row_ints {spare : Nat → Bool} {fuel : Nat} {cs : List Value} {x : DataW H × List MemPlace} (h : DataW.trod enc Tryz.prog W base spare held fuel 22 cs = some x) :
  ∃ (A : Option Addr) (c : Nat) (m : List Int), cs = [.slice A m.length c] ∧ Rd W W.heap.size A m ∧ ((∀ n ∈ x.1.weights Tryz.prog 22, n ≤ reachBytes) → m.length ≤ 17592186044416) ∧ ∀ i : Nat, gI m i ≤ 9223372036854775807 := by
 rcases open_ints Tryz.underlying22 Tryz.underlying2 cells_i64 h with ⟨rfl, rfl⟩ | ⟨a, len, cap, zs, rfl, _, hl, _, hzl, rfl, hc, hwf⟩
 ·exact ⟨none, 0, [], rfl, fun k hk => absurd hk (by simp), fun _ => by simp, fun i => by simp [gI]⟩
 ·have hle : len ≤ zs.length := by rw [hzl]; split <;> omega
  have hml : (zs.take len).length = len := by simp; omega
  refine ⟨some a, cap, zs.take len, by rw [hml], fun k hk => ?_, fun hw => ?_, fun i => (range_i64 (zs := zs.take len) (fun n hn => hwf n (List.mem_of_mem_take hn)) i).2⟩
  ·rw [hml] at hk
   have h0 := cell_lt (hc 0 (by omega))
   have hk' := hc k (by omega)
   obtain ⟨b, off, sp⟩ := a
   have hsp : sp = none := by simpa [Addr.add] using h0.2
   subst hsp
   have hb : b < W.heap.size := by simpa [Addr.add] using h0.1
   refine ⟨b, off, rfl, hb, ?_⟩
   have e : (⟨b, off, none⟩ : Addr).add k = ⟨b, off + k, none⟩ := by unfold Addr.add; split <;> simp_all
   rw [← e, hk']
   unfold gI
   rw [getD_take_lt zs len _ 0 (by simpa using hk)]
   rfl
  ·have := hw (((lits (H := H) IntKind.i64 (zs.take len)).length + (lits (H := H) IntKind.i64 (zs.drop len)).length) * Tryz.prog.bytesOf 2) (by simp [DataW.weights, Tryz.underlying22])
   rw [bytes_i64] at this
   have hr := reachBytes_lt
   simp [lits] at this
   omega
theorem open_oct {r : Reach} {b0 : Nat} {spare : Nat → Bool} {v : Value} {d : DataW H} {p : List MemPlace} (hv : Value.okWide Tryz.prog W r b0 24 v) (h : DataW.Trod enc Tryz.prog W base spare held 24 v d p) :
  ∃ (A : Option Addr) (c : Nat) (o : O), v = .agg #[o.n, o.e, .slice A o.m.length c] ∧ Rd W W.heap.size A o.m ∧ ((∀ n ∈ d.weights Tryz.prog 24, n ≤ reachBytes) → o.m.length ≤ 17592186044416) := by
 obtain ⟨v0, v1, v2, y0, y1, y2, n, rfl, rfl, rfl, h0, h1, h2⟩ := open_agg3 Tryz.underlying24 (by kernel_rfl) cells_oct hv h
 obtain ⟨k, hk, rfl, _⟩ := DataW.trod_int Tryz.underlying3 h0
 obtain ⟨b, hb, rfl⟩ := DataW.trod_bool Tryz.underlying4 h1
 obtain ⟨A, c, m, he, hr, hw, _⟩ := row_ints h2
 injection hk with hk; subst hk
 injection hb with hb; subst hb
 injection he with he; subst he
 refine ⟨A, c, ⟨k, b, m⟩, rfl, hr, fun hn => hw fun q hq => hn q ?_⟩
 have e := Tryz.underlying24
 simp only [DataW.weights, e, DataW.weightsEach, List.map_cons, List.map_nil, List.mem_append]
 exact .inr (.inr (.inl hq))
theorem post_true {f : Func} {s : ChangeSpec} {W' : World} {args : Array Value} {ds : List (DataW H)} {before : List MemPlace} (hW : DataW.Whole enc Tryz.prog f.params.toList s.vars false W args.toList ds [] before)
  (hrt : f.resultTypes = #[4]) (hv : s.vars = []) (hfn : s.fn H (ds ++ []) = { results := [.lit (.bool true)], args := ds })
  (hargs : DataW.TrodAll enc Tryz.prog W' 0 (fun b => decide (b < W.heap.size)) true f.params.toList args.toList ds before) (hb : Below W.heap.size W W') :
  s.post enc Tryz.prog f false true false false W args (.bool true) W' := by
 refine ⟨ds, [], before, [], before, [], hW, ?_, ?_, ?_, World.keptBut_mono (fun p hp => ⟨hp, .inr (.inl hp)⟩) (hb.frame (· ∈ before)), fun h => by cases h⟩
 ·rw [hfn, hrt]
  exact trodAll_mk1 (shut_bool Tryz.underlying4 _)
 ·rw [hfn]; exact hargs
 ·rw [hfn, hv]; rfl
end
end
section
set_option maxRecDepth 100000
set_option maxHeartbeats 8000000
open Go.ChangeShapes Go.WideShapes Go.ChangeAt Go.RowKit Go.Joins
theorem wf_i64 {n : Int} (h : (Lit.int .i64 n).wf = true) : I64 n := range_i64 (zs := [n]) (fun k hk => by simp at hk; subst hk; exact h) 0
end
section
set_option maxRecDepth 100000
set_option maxHeartbeats 8000000
open Go.ChangeShapes Go.WideShapes Go.ChangeAt Go.RowKit Go.Joins
section
variable {H : Type} {enc : TypeId × Value → H} {P : Program} {w : World} {base : Nat} {held : Bool} {spare : Nat → Bool}
theorem trodAll_mk5 {t0 t1 t2 t3 t4 : TypeId} {v0 v1 v2 v3 v4 : Value} {d0 d1 d2 d3 d4 : DataW H} {p0 p1 p2 p3 p4 : List MemPlace} (h0 : DataW.Trod enc P w base spare held t0 v0 d0 p0) (h1 : DataW.Trod enc P w base spare held t1 v1 d1 p1)
  (h2 : DataW.Trod enc P w base spare held t2 v2 d2 p2) (h3 : DataW.Trod enc P w base spare held t3 v3 d3 p3) (h4 : DataW.Trod enc P w base spare held t4 v4 d4 p4) : DataW.TrodAll enc P w base spare held [t0, t1, t2, t3, t4] [v0, v1, v2, v3, v4] [d0, d1, d2, d3, d4] (p0 ++ (p1 ++ (p2 ++ (p3 ++ p4)))) :=
 ⟨p0, p1 ++ (p2 ++ (p3 ++ p4)), h0, trodAll_mk4 h1 h2 h3 h4, rfl⟩
end
end
section
set_option maxRecDepth 100000
set_option maxHeartbeats 8000000
open Go.ChangeShapes Go.WideShapes Go.ChangeAt Go.RowKit Go.Joins
section
variable {H : Type} {enc : TypeId × Value → H} {W : World} {base : Nat} {held : Bool} {spare : Nat → Bool}
theorem fieldG {fs : Array Field} {xs : List (DataW H × List MemPlace)} {n : Nat} {cs : List Value} (hf : ∀ (i : Nat) (f : Field), fs[i]? = some f → DataW.trod enc Tryz.prog W base spare held n f.type ((cs.drop f.offset).take (Tryz.prog.cellsOf f.type)) = xs[i]?)
  (i : Nat) (ty : TypeId) (off : Nat) (hi : (fs[i]?).map (fun f => (f.type, f.offset)) = some (ty, off)) : DataW.trod enc Tryz.prog W base spare held n ty ((cs.drop off).take (Tryz.prog.cellsOf ty)) = xs[i]? := by
 rw [Option.map_eq_some_iff] at hi
 obtain ⟨f, h1, h2⟩ := hi
 injection h2 with h2 h3
 subst h2 h3
 exact hf i f h1
def i64R (n : Int) : Prop := -9223372036854775808 ≤ n ∧ n ≤ 9223372036854775807
theorem wf_i64G {n : Int} (h : (Lit.int .i64 n).wf = true) : i64R n := by
 unfold i64R
 have h : (decide (IntKind.i64.min ≤ n) && decide (n ≤ IntKind.i64.max)) = true := h
 have e1 : IntKind.i64.min = -9223372036854775808 := by kernel_rfl
 have e2 : IntKind.i64.max = 9223372036854775807 := by kernel_rfl
 rw [e1, e2] at h
 simpa using h
theorem cells_int : Tryz.prog.cellsOf 3 = 1 := by kernel_rfl
theorem cells_edge : Tryz.prog.cellsOf 44 = 10 := by kernel_rfl
theorem cells_opd : Tryz.prog.cellsOf 26 = 2 := by kernel_rfl
theorem int_of {fuel : Nat} {t : TypeId} {k : IntKind} {cs : List Value} {c : Value} {y : Option (DataW H × List MemPlace)} (ht : Tryz.prog.underlying t = some (.int k)) (h : DataW.trod enc Tryz.prog W base spare held fuel t cs = y) (hy : y.isSome = true) (hc : cs = [c]) : ∃ n, c = .int k n ∧ (Lit.int k n).wf = true := by
 obtain ⟨z, rfl⟩ := Option.isSome_iff_exists.1 hy
 obtain ⟨n, h1, _, h2⟩ := DataW.trod_int ht h
 rw [hc] at h1
 injection h1 with h1
 exact ⟨n, h1, h2⟩
def EdgI (e : Edg) : Prop := i64R e.fr ∧ i64R e.te ∧ i64R e.kd ∧ i64R e.dst ∧ i64R e.arr ∧ i64R e.op ∧ i64R e.av ∧ i64R e.an ∧ i64R e.bv ∧ i64R e.bn
theorem list10 {α : Type} {l : List α} (h : l.length = 10) : ∃ c0 c1 c2 c3 c4 c5 c6 c7 c8 c9, l = [c0, c1, c2, c3, c4, c5, c6, c7, c8, c9] := by
 match l, h with
 | [c0, c1, c2, c3, c4, c5, c6, c7, c8, c9], _ => exact ⟨c0, c1, c2, c3, c4, c5, c6, c7, c8, c9, rfl⟩
theorem read_opd {fuel : Nat} {cs : List Value} {c0 c1 : Value} {y : Option (DataW H × List MemPlace)} (h : DataW.trod enc Tryz.prog W base spare held fuel 26 cs = y) (hy : y.isSome = true) (hc : cs = [c0, c1]) :
  ∃ v n, c0 = .int .i64 v ∧ c1 = .int .i64 n ∧ i64R v ∧ i64R n := by
 obtain ⟨z, rfl⟩ := Option.isSome_iff_exists.1 hy
 subst hc
 obtain ⟨xs, n, _, _, _, b0, hf⟩ := DataW.trod_struct Tryz.underlying26 h
 have sm : ∀ i, i < 2 → (xs[i]?).isSome = true := fun i hi => by rw [List.getElem?_eq_getElem (by rw [b0]; exact hi)]; rfl
 have ei : Tryz.prog.cellsOf 3 = 1 := by kernel_rfl
 have el : Tryz.prog.cellsOf 2 = 1 := by kernel_rfl
 have f0 := fieldG hf 0 3 0 rfl
 have f1 := fieldG hf 1 2 1 rfl
 rw [ei] at f0
 rw [el] at f1
 obtain ⟨a, ha, wa⟩ := int_of Tryz.underlying3 f0 (sm 0 (by omega)) rfl
 obtain ⟨b, hb, wb⟩ := int_of Tryz.underlying2 f1 (sm 1 (by omega)) rfl
 exact ⟨a, b, ha, hb, wf_i64G wa, wf_i64G wb⟩
theorem read_edge {fuel : Nat} {cs : List Value} {x : DataW H × List MemPlace} (h : DataW.trod enc Tryz.prog W base spare held fuel 44 cs = some x) :
  ∃ e : Edg, cs = e.cells ∧ EdgI e := by
 obtain ⟨xs, n, _, _, hl, b0, hf⟩ := DataW.trod_struct Tryz.underlying44 h
 rw [cells_edge] at hl
 obtain ⟨c0, c1, c2, c3, c4, c5, c6, c7, c8, c9, rfl⟩ := list10 hl
 have sm : ∀ i, i < 8 → (xs[i]?).isSome = true := fun i hi => by rw [List.getElem?_eq_getElem (by rw [b0]; exact hi)]; rfl
 have f0 := fieldG hf 0 3 0 rfl
 have f1 := fieldG hf 1 3 1 rfl
 have f2 := fieldG hf 2 3 2 rfl
 have f3 := fieldG hf 3 3 3 rfl
 have f4 := fieldG hf 4 3 4 rfl
 have f5 := fieldG hf 5 3 5 rfl
 have f6 := fieldG hf 6 26 6 rfl
 have f7 := fieldG hf 7 26 8 rfl
 rw [cells_int] at f0 f1 f2 f3 f4 f5
 rw [cells_opd] at f6 f7
 clear hf
 obtain ⟨a0, rfl, w0⟩ := int_of Tryz.underlying3 f0 (sm 0 (by omega)) rfl
 obtain ⟨a1, rfl, w1⟩ := int_of Tryz.underlying3 f1 (sm 1 (by omega)) rfl
 obtain ⟨a2, rfl, w2⟩ := int_of Tryz.underlying3 f2 (sm 2 (by omega)) rfl
 obtain ⟨a3, rfl, w3⟩ := int_of Tryz.underlying3 f3 (sm 3 (by omega)) rfl
 obtain ⟨a4, rfl, w4⟩ := int_of Tryz.underlying3 f4 (sm 4 (by omega)) rfl
 obtain ⟨a5, rfl, w5⟩ := int_of Tryz.underlying3 f5 (sm 5 (by omega)) rfl
 obtain ⟨a6, a7, rfl, rfl, w6, w7⟩ := read_opd f6 (sm 6 (by omega)) rfl
 obtain ⟨a8, a9, rfl, rfl, w8, w9⟩ := read_opd f7 (sm 7 (by omega)) rfl
 exact ⟨⟨a0, a1, a2, a3, a4, a5, a6, a7, a8, a9⟩, rfl, wf_i64G w0, wf_i64G w1, wf_i64G w2, wf_i64G w3, wf_i64G w4, wf_i64G w5, w6, w7, w8, w9⟩
end
end
section
set_option maxRecDepth 100000
set_option maxHeartbeats 8000000
open Go.ChangeShapes Go.WideShapes Go.ChangeAt Go.RowKit Go.Joins
section
variable {H : Type} {enc : TypeId × Value → H} {W : World} {base : Nat} {held : Bool} {spare : Nat → Bool} {r : Reach} {b0 : Nat} {v : Value} {d : DataW H} {p : List MemPlace}
theorem open_edg (hv : Value.okWide Tryz.prog W r b0 44 v) (h : DataW.Trod enc Tryz.prog W base spare held 44 v d p) :
  ∃ e : Edg, v = e.val ∧ I64 e.an ∧ I64 e.bn := by
 obtain ⟨cs, rfl, _⟩ := okWide_struct Tryz.underlying44 hv
 obtain ⟨fuel, hf⟩ := h
 obtain ⟨e, he, hi⟩ := read_edge hf
 refine ⟨e, ?_, hi.2.2.2.2.2.2.2.1, hi.2.2.2.2.2.2.2.2.2⟩
 have hc : cs.toList = e.cells := by simpa [Value.cells] using he
 have : cs = e.cells.toArray := by rw [← hc]
 rw [this]
 rfl
end
end
section
set_option maxRecDepth 100000
set_option maxHeartbeats 8000000
open Go.ChangeShapes Go.WideShapes Go.ChangeAt Go.RowKit Go.Joins
section
variable {H : Type} {enc : TypeId × Value → H} {P : Program} {w : World} {base : Nat} {held : Bool} {spare : Nat → Bool}
theorem trodAll_six {t0 t1 t2 t3 t4 t5 : TypeId} {args : Array Value} {ds : List (DataW H)} {ps : List MemPlace} (h : DataW.TrodAll enc P w base spare held [t0, t1, t2, t3, t4, t5] args.toList ds ps) :
  ∃ v0 v1 v2 v3 v4 v5 d0 d1 d2 d3 d4 d5 p0 p1 p2 p3 p4 p5, args = #[v0, v1, v2, v3, v4, v5] ∧ ds = [d0, d1, d2, d3, d4, d5] ∧ ps = p0 ++ p1 ++ p2 ++ p3 ++ p4 ++ p5 ∧ DataW.Trod enc P w base spare held t0 v0 d0 p0 ∧ DataW.Trod enc P w base spare held t1 v1 d1 p1 ∧ DataW.Trod enc P w base spare held t2 v2 d2 p2 ∧ DataW.Trod enc P w base spare held t3 v3 d3 p3 ∧ DataW.Trod enc P w base spare held t4 v4 d4 p4 ∧ DataW.Trod enc P w base spare held t5 v5 d5 p5 := by
 obtain ⟨v, vs, d, ds', p, q, hargs, rfl, rfl, hd, a5⟩ := trodAll_cons h
 obtain ⟨v1, vs1, d1, ds1, p1, q1, rfl, rfl, rfl, hd1, a3⟩ := trodAll_cons a5
 obtain ⟨v2, vs2, d2, ds2, p2, q2, rfl, rfl, rfl, hd2, a1⟩ := trodAll_cons a3
 obtain ⟨v3, vs3, d3, ds3, p3, q3, rfl, rfl, rfl, hd3, a4⟩ := trodAll_cons a1
 obtain ⟨v4, vs4, d4, ds4, p4, q4, rfl, rfl, rfl, hd4, a0⟩ := trodAll_cons a4
 obtain ⟨v5, vs5, d5, ds5, p5, q5, rfl, rfl, rfl, hd5, a2⟩ := trodAll_cons a0
 obtain ⟨rfl, rfl, rfl⟩ := trodAll_nil a2
 exact ⟨v, v1, v2, v3, v4, v5, d, d1, d2, d3, d4, d5, p, p1, p2, p3, p4, p5, by cases args; simp_all, rfl, by simp, hd, hd1, hd2, hd3, hd4, hd5⟩
theorem trodAll_mk6 {t0 t1 t2 t3 t4 t5 : TypeId} {v0 v1 v2 v3 v4 v5 : Value} {d0 d1 d2 d3 d4 d5 : DataW H} {p0 p1 p2 p3 p4 p5 : List MemPlace} (h0 : DataW.Trod enc P w base spare held t0 v0 d0 p0) (h1 : DataW.Trod enc P w base spare held t1 v1 d1 p1)
  (h2 : DataW.Trod enc P w base spare held t2 v2 d2 p2) (h3 : DataW.Trod enc P w base spare held t3 v3 d3 p3) (h4 : DataW.Trod enc P w base spare held t4 v4 d4 p4) (h5 : DataW.Trod enc P w base spare held t5 v5 d5 p5) : DataW.TrodAll enc P w base spare held [t0, t1, t2, t3, t4, t5] [v0, v1, v2, v3, v4, v5] [d0, d1, d2, d3, d4, d5] (p0 ++ (p1 ++ (p2 ++ (p3 ++ (p4 ++ p5))))) :=
 ⟨p0, p1 ++ (p2 ++ (p3 ++ (p4 ++ p5))), h0, trodAll_mk5 h1 h2 h3 h4 h5, rfl⟩
end
end
end Go.Proofs.YtnmpgijiimglcaaGreat
