/-
  gnomonlaw27.WatchLearns answers true, whatever it is handed.
  From the row to the walk: numbers, operands, ranges as they come in.
  From the row to the walk: five parameters; a slice of int64 whose cells are such numbers.
  From the row to the walk: a script: numbers, and no more of them than the slice has room for.
  Scripts as they come in: a slice of slices of numbers, with room for each.
-/
import Derived.Test.YtkncebcekhfnfaaGreatRLearn
import Derived.Test.YtkncebcekhfnfaaGreatBWL44
import Derived.Test.YtkncebcekhfnfaaGreatBWL45
import Derived.Test.YtkncebcekhfnfaaGreatBWL46
import Derived.Test.YtkncebcekhfnfaaGreatBWL07
import Derived.Test.YtkncebcekhfnfaaGreatBWL05
import Derived.Test.YtkncebcekhfnfaaGreatBWL31
namespace Go.Proofs.YtkncebcekhfnfaaGreat
section
open Go.RowKit
attribute [local go_sem ↓] Go.wp_at_zero Go.wp_at_succ

set_option maxRecDepth 8000 in
set_option maxHeartbeats 16000000 in
theorem watchLearns_walk (g : Gr) (ss : List (List Int)) (k : Int) (V D E S : Option Addr) (cv cd ce sc : Nat) (w : World) (h : GrOk w g D E) (hS : RdRC w w.heap.size S ss) (hlm : ss.length ≤ 17592186044416) (hI : ∀ s ∈ ss, I64s s) (hsl : ∀ s ∈ ss, s.length ≤ 17592186044416) :
    Calls Tryz.prog 4 #[grV g V D E cv cd ce, .slice S ss.length sc, .int .i64 k] w (SomeT w) := by
  have n0 := new1 w (.cells #[.slice V g.nv cv, .int .i64 g.tm, .slice D g.sz.length cd, .int .i64 g.pts, .int .i64 g.ex, .slice E g.es.length ce] 26)
  have k0 := Blk.new w 26 #[.slice V g.nv cv, .int .i64 g.tm, .slice D g.sz.length cd, .int .i64 g.pts, .int .i64 g.ex, .slice E g.es.length ce]
  have lv := h.lv
  have ls := h.ls
  have le := h.le
  have hei : ∀ e ∈ g.es, I64 e.an ∧ I64 e.bn := fun e he => ⟨(h.ei e he).2.2.2.2.2.2.2.1, (h.ei e he).2.2.2.2.2.2.2.2.2⟩
  have HD := hid h.rd
  have HE := hid h.re
  have HS := hid hS
  have HCK := hid (fun W (hb : Below w.heap.size w W) => (show Calls Tryz.prog 7 #[.agg #[.slice V g.nv cv, .int .i64 g.tm, .slice D g.sz.length cd, .int .i64 g.pts, .int .i64 g.ex, .slice E g.es.length ce]] W _ from rgcheck_any g V D E cv cd ce W (HD.out.up hb) (HE.out.up hb) lv ls le))
  have HFW := hid (fun W (hb : Below w.heap.size w W) (hc : chk g = 0) => (show Calls Tryz.prog 8 #[.agg #[.slice V g.nv cv, .int .i64 g.tm, .slice D g.sz.length cd, .int .i64 g.pts, .int .i64 g.ex, .slice E g.es.length ce]] W _ from few27_ok g V D E cv cd ce W hc))
  have HSM := hid (fun (A : Option Addr) (l c : Nat) W => small27_ok A l c k W)
  have HRR := hid (fun W (hb : Below w.heap.size w W) => (show Calls Tryz.prog 16 #[.agg #[.slice V g.nv cv, .int .i64 g.tm, .slice D g.sz.length cd, .int .i64 g.pts, .int .i64 g.ex, .slice E g.es.length ce], .slice S ss.length sc, .int .i64 k] W _ from rlearn_ok g V D E cv cd ce ss S sc k W (HD.out.up hb) (HE.out.up hb) (HS.out.up hb) lv ls le hei hI hlm))
  have HWR := hid (fun W (hb : Below w.heap.size w W) => (show Calls Tryz.prog 15 #[.agg #[.slice V g.nv cv, .int .i64 g.tm, .slice D g.sz.length cd, .int .i64 g.pts, .int .i64 g.ex, .slice E g.es.length ce], .slice S ss.length sc, .int .i64 k] W _ from wlearn_ok g V D E cv cd ce ss S sc k W (HD.out.up hb) (HE.out.up hb) (HS.out.up hb) lv ls le hei hI hlm hsl))
  have HEND : Hid (∀ W, Below w.heap.size w W → SomeT w (.returned (.bool true)) W) := hid fun W hb => ⟨rfl, hb⟩
  clear h hS hei hI hsl lv ls le
  unfold grV
  go_enter Tryz.func4, Tryz.ntmps4
  go_wp2_with fail
  refine (known27_ok _).mono ?_
  generalize w.alloc (.cells #[.slice V g.nv cv, .int .i64 g.tm, .slice D g.sz.length cd, .int .i64 g.pts, .int .i64 g.ex, .slice E g.es.length ce] 26) = w0 at *
  rintro e1 w1 ⟨rfl, hb1⟩
  replace k0 := k0.later hb1
  replace n0 := bup n0 hb1
  clear hb1
  obtain ⟨f0, f1, f2, f3, f4, f5, ff⟩ := blk6 k0
  go_wp2_with fail
  clear f0 f1 f2 f3 f4 f5 ff
  (with_reducible refine (HCK.out w1 n0).mono ?_)
  rintro e2 w2 ⟨rfl, hb2⟩
  replace k0 := k0.later hb2
  replace n0 := bup n0 hb2
  clear hb2
  obtain ⟨ck, HC⟩ : ∃ ck, Hid (chk g = ck) := ⟨_, hid rfl⟩
  rw [HC.out]
  by_cases hck : ck = 0
  focus
    subst hck
    obtain ⟨f0, f1, f2, f3, f4, f5, ff⟩ := blk6 k0
    go_wp2_with fail
    clear f0 f1 f2 f3 f4 f5 ff
    (with_reducible refine (HFW.out w2 n0 HC.out).mono ?_)
    rintro e3 w3 ⟨b1, rfl, hb3⟩
    replace k0 := k0.later hb3
    replace n0 := bup n0 hb3
    clear hb3
    cases b1
    case false =>
      go_wp2
      go_ret
      exact HEND.out _ n0
  rotate_left
  focus
    have t1 : (ck == 0) = false := by rw [beq_eq_false_iff_ne]; exact hck
    clear hck
    generalize w2 = w3 at *
  all_goals
    cases t70 : decide ((70 : Int) < (ss.length : Int))
    case true =>
      go_wp2
      go_ret
      exact HEND.out _ n0
    case false =>
      have hgo : decide ((400 : Int) < k) = false ∨ (decide ((400 : Int) < k) = true ∧ decide (k ≤ 65536) = true) ∨ (decide ((400 : Int) < k) = true ∧ decide (k ≤ 65536) = false) := by
        cases decide ((400 : Int) < k) <;> cases decide (k ≤ 65536) <;> simp
      rcases hgo with tk | ⟨tk, tk2⟩ | ⟨tk, tk2⟩
      rotate_left
      · go_wp2
        go_ret
        exact HEND.out _ n0
      all_goals
        go_upto_region 5 with fail
        clear t70 tk
        go_wp2
        go_loopw [7] (fun t wr => ∃ i : Nat, i ≤ ss.length ∧ t = .int .i64 (i : Int) ∧ Blk wr w.heap.size 26 #[.slice V g.nv cv, .int .i64 g.tm, .slice D g.sz.length cd, .int .i64 g.pts, .int .i64 g.ex, .slice E g.es.length ce] ∧ Below w.heap.size w wr) (fun t _ => ss.length - (Go.RowKit.intOf t).toNat)
        case atStart => exact ⟨0, by omega, rfl, k0, n0⟩
        case round =>
          clear k0 n0
          obtain ⟨i, hil, rfl, k0, n0⟩ := hrel
          by_cases hlt : i < ss.length
          · have hlt' : (i : Int) < (ss.length : Int) := by omega
            obtain ⟨b, off, Ak, ck2, rfl, hB, hc, -, -⟩ := (HS.out.up n0) i hlt
            generalize ss[i].length = sl at *
            go_wp2_with fail
            clear hc
            (with_reducible refine (HSM.out Ak sl ck2 wr).mono ?_)
            rintro e4 w4 ⟨b2, rfl, hb4⟩
            replace k0 := k0.later hb4
            replace n0 := bup n0 hb4
            clear hb4
            cases b2
            case false =>
              go_wp2
              go_ret
              exact HEND.out _ n0
            case true =>
              go_wp2
              go_roundw
              case rel => exact ⟨i + 1, by omega, by go_num, k0, n0⟩
              case measure => simp [Go.RowKit.intOf]; omega
          · obtain rfl : i = ss.length := by omega
            clear hlt hil
            obtain ⟨f0, f1, f2, f3, f4, f5, ff⟩ := blk6 k0
            go_wp2_with fail
            clear f0 f1 f2 f3 f4 f5 ff
            (with_reducible refine (HWR.out wr n0).mono ?_)
            rintro e5 w5 ⟨A1, c1, z1, rfl, he1, hr1, hl1, hb5⟩
            replace k0 := k0.later hb5
            replace n0 := bup n0 hb5
            have HR1 := hid (And.intro he1 (And.intro hr1 hl1))
            clear hb5 he1 hr1 hl1
            obtain ⟨f0, f1, f2, f3, f4, f5, ff⟩ := blk6 k0
            go_wp2_with fail
            clear f0 f1 f2 f3 f4 f5 ff
            (with_reducible refine (HRR.out w5 n0).mono ?_)
            rintro e6 w6 ⟨A2, c2, z2, rfl, he2, hr2, hl2, hb6⟩
            replace n0 := bup n0 hb6
            have HOC := hid (octs_same z1 z2 A1 A2 c1 c2 w6 (HR1.out.2.1.up hb6) hr2 (HR1.out.1.trans he2.symm) (by have := HR1.out.2.2; omega))
            generalize learnE g ss k = er at *
            clear hb6 he2 hr2 hl2 k0
            go_wp2_with fail
            (with_reducible refine HOC.out.mono ?_)
            rintro e7 w7 ⟨rfl, hb7⟩
            have n7 := bup n0 hb7
            go_wp2
            go_ret
            exact HEND.out _ n7
end
section

end
section
open Go.ChangeShapes Go.WideShapes Go.ChangeAt Go.RowKit Go.Joins

section
variable {H : Type} {enc : TypeId × Value → H} {W : World} {base : Nat} {held : Bool} {spare : Nat → Bool} {r : Reach} {b0 : Nat} {v : Value} {d : DataW H} {p : List MemPlace}
theorem row_intsI {spare : Nat → Bool} {fuel : Nat} {cs : List Value} {x : DataW H × List MemPlace} (h : DataW.trod enc Tryz.prog W base spare held fuel 28 cs = some x) :
    ∃ (A : Option Addr) (c : Nat) (m : List Int), cs = [.slice A m.length c] ∧ Rd W W.heap.size A m ∧ ((∀ n ∈ x.1.weights Tryz.prog 28, n ≤ reachBytes) → m.length ≤ 17592186044416) ∧ ∀ i : Nat, I64 (gI m (i : Int)) := by
  rcases open_ints Tryz.underlying28 Tryz.underlying2 cells_i64 h with ⟨rfl, rfl⟩ | ⟨a, len, cap, zs, rfl, _, hl, _, hzl, rfl, hc, hwf⟩
  · exact ⟨none, 0, [], rfl, fun k hk => absurd hk (by simp), fun _ => by simp, fun i => by simp [gI, I64]⟩
  · have hle : len ≤ zs.length := by rw [hzl]; split <;> omega
    have hml : (zs.take len).length = len := by simp; omega
    refine ⟨some a, cap, zs.take len, by rw [hml], fun k hk => ?_, fun hw => ?_, fun i => (range_i64 (zs := zs.take len) (fun n hn => hwf n (List.mem_of_mem_take hn)) i)⟩
    · rw [hml] at hk
      have h0 := cell_lt (hc 0 (by omega))
      have hk' := hc k (by omega)
      obtain ⟨b, off, sp⟩ := a
      have hsp : sp = none := by simpa [Addr.add] using h0.2
      subst hsp
      have hb : b < W.heap.size := by simpa [Addr.add] using h0.1
      refine ⟨b, off, rfl, hb, ?_⟩
      have e : (⟨b, off, none⟩ : Addr).add k = ⟨b, off + k, none⟩ := by unfold Addr.add; split <;> simp_all
      rw [← e, hk']
      unfold gI
      rw [getD_take_lt zs len _ 0 (by simpa using hk)]
      rfl
    · have := hw (((lits (H := H) IntKind.i64 (zs.take len)).length + (lits (H := H) IntKind.i64 (zs.drop len)).length) * Tryz.prog.bytesOf 2) (by simp [DataW.weights, Tryz.underlying28])
      rw [bytes_i64] at this
      have hr := reachBytes_lt
      simp [lits] at this
      omega
end
end
section

end
section
open Go.ChangeShapes Go.WideShapes Go.ChangeAt Go.RowKit Go.Joins

theorem cells_slS : Tryz.prog.cellsOf 28 = 1 := by kernel_rfl
theorem bytes_slS : Tryz.prog.bytesOf 28 = 24 := by kernel_rfl
theorem weightsAll_inS {H : Type} {P : Program} {e : TypeId} : ∀ {l : List (DataW H)} {d : DataW H}, d ∈ l → ∀ n ∈ d.weights P e, n ∈ DataW.weightsAll P e l
  | x :: l, d, hd, n, hn => by
    rw [DataW.weightsAll, List.mem_append]
    rcases List.mem_cons.1 hd with rfl | hd
    · exact .inl hn
    · exact .inr (weightsAll_inS hd n hn)
section
variable {H : Type} {enc : TypeId × Value → H} {W : World} {base : Nat} {held : Bool}
theorem row_scr {spare : Nat → Bool} {fuel : Nat} {cs : List Value} {x : DataW H × List MemPlace} (h : DataW.trod enc Tryz.prog W base spare held fuel 28 cs = some x) :
    ∃ (A : Option Addr) (c : Nat) (m : List Int), cs = [.slice A m.length c] ∧ Rd W W.heap.size A m ∧ ((∀ n ∈ x.1.weights Tryz.prog 28, n ≤ reachBytes) → m.length ≤ 17592186044416) ∧ I64s m ∧ m.length ≤ c := by
  obtain ⟨A, c, m, rfl, hr, hw, hI⟩ := row_intsI h
  refine ⟨A, c, m, rfl, hr, hw, hI, ?_⟩
  rcases open_ints Tryz.underlying28 Tryz.underlying2 cells_i64 h with ⟨e, _⟩ | ⟨a, len, cap, zs, e, _, hl, _⟩
  · simp at e
    obtain ⟨-, rfl, -⟩ := e
    simp
  · simp at e
    omega
/-- The rows, before they are a list. -/
def RowsS (w : World) (A : Option Addr) (len : Nat) : Prop :=
  ∀ k, k < len → ∃ b off A' c' m, A = some ⟨b, off, none⟩ ∧ b < w.heap.size ∧ w.cell? ⟨b, off + k, none⟩ = some (.slice A' (List.length (α := Int) m) c') ∧ Rd w w.heap.size A' m ∧ m.length ≤ 17592186044416 ∧ I64s m ∧ m.length ≤ c'
theorem RdRC.of_rows {w : World} {A : Option Addr} {len : Nat} (h : RowsS w A len) : ∃ ps : List (List Int), ps.length = len ∧ RdRC w w.heap.size A ps ∧ (∀ s ∈ ps, I64s s) ∧ ∀ s ∈ ps, s.length ≤ 17592186044416 := by
  have h' : ∀ k : Fin len, ∃ m : List Int, ∃ b off A' c', A = some ⟨b, off, none⟩ ∧ b < w.heap.size ∧ w.cell? ⟨b, off + k.1, none⟩ = some (.slice A' m.length c') ∧ Rd w w.heap.size A' m ∧ m.length ≤ 17592186044416 ∧ I64s m ∧ m.length ≤ c' := fun k => by
    obtain ⟨b, off, A', c', m, h⟩ := h k.1 k.2
    exact ⟨m, b, off, A', c', h⟩
  obtain ⟨f, hf⟩ := Classical.axiomOfChoice h'
  refine ⟨List.ofFn f, by simp, fun k hk => ?_, fun s hs => ?_, fun s hs => ?_⟩
  · have hk' : k < len := by simpa using hk
    have e : (List.ofFn f)[k] = f ⟨k, hk'⟩ := by simp
    rw [e]
    obtain ⟨b, off, A', c', h1, h2, h3, h4, h5, h6, h7⟩ := hf ⟨k, hk'⟩
    exact ⟨b, off, A', c', h1, h2, h3, h4, h7⟩
  · obtain ⟨k, hk, rfl⟩ := List.getElem_of_mem hs
    have hk' : k < len := by simpa using hk
    have e : (List.ofFn f)[k] = f ⟨k, hk'⟩ := by simp
    rw [e]
    obtain ⟨b, off, A', c', h1, h2, h3, h4, h5, h6, h7⟩ := hf ⟨k, hk'⟩
    exact h6
  · obtain ⟨k, hk, rfl⟩ := List.getElem_of_mem hs
    have hk' : k < len := by simpa using hk
    have e : (List.ofFn f)[k] = f ⟨k, hk'⟩ := by simp
    rw [e]
    obtain ⟨b, off, A', c', h1, h2, h3, h4, h5, h6, h7⟩ := hf ⟨k, hk'⟩
    exact h5
set_option maxRecDepth 100000 in
theorem open_scrs {r : Reach} {b0 : Nat} {spare : Nat → Bool} {v : Value} {d : DataW H} {p : List MemPlace} (hv : Value.okWide Tryz.prog W r b0 45 v) (h : DataW.Trod enc Tryz.prog W base spare held 45 v d p) :
    ∃ (A : Option Addr) (c len : Nat), v = .slice A len c ∧ ((∀ n ∈ d.weights Tryz.prog 45, n ≤ reachBytes) → RowsS W A len ∧ len ≤ 17592186044416) := by
  obtain ⟨a, len, cap, rfl⟩ := okWide_slice Tryz.underlying45 hv
  obtain ⟨fuel, hf⟩ := h
  refine ⟨a, cap, len, rfl, fun hw => ?_⟩
  rcases DataW.trod_slice Tryz.underlying45 hf with ⟨h0, _⟩ | ⟨a', len', cap', elems, rest, n, _, hcs, hx, _, hl, _, hlen, hel, _⟩
  · simp [Value.cells] at h0
    obtain ⟨rfl, rfl, rfl⟩ := h0
    exact ⟨fun k hk => absurd hk (by simp), by simp⟩
  · simp [Value.cells] at hcs
    obtain ⟨rfl, rfl, rfl⟩ := hcs
    simp only [Prod.mk.injEq] at hx
    obtain ⟨rfl, rfl⟩ := hx
    have hwt : ∀ y ∈ elems, ∀ q ∈ y.1.weights Tryz.prog 28, q ≤ reachBytes := fun y hy q hq => hw q (by
      simp only [DataW.weights, Tryz.underlying45, List.mem_cons, List.mem_append]
      exact .inr (.inl (weightsAll_inS (List.mem_map_of_mem hy) q hq)))
    have one : ∀ k, k < len → ∃ A c m, W.cell? (a'.add (k * 1)) = some (.slice A (List.length (α := Int) m) c) ∧ Rd W W.heap.size A m ∧ m.length ≤ 17592186044416 ∧ I64s m ∧ m.length ≤ c := fun k hk => by
      have hk' := hel k hk
      have hke : k < elems.length := by omega
      rw [cells_slS, List.getElem?_eq_getElem hke, Option.bind_eq_some_iff] at hk'
      obtain ⟨cs, hcs, hy⟩ := hk'
      obtain ⟨A, c, m, rfl, hr, hm, hI, hcp⟩ := row_scr hy
      obtain ⟨_, _, hcell⟩ := World.cells?_some hcs
      have t0 := hcell 0 (by omega)
      simp only [List.getElem?_cons_zero] at t0
      have e0 : (a'.add (k * 1)).add 0 = a'.add (k * 1) := by
        obtain ⟨b, off, sp⟩ := a'
        cases sp <;> simp [Addr.add]
      rw [e0] at t0
      exact ⟨A, c, m, t0, hr, hm (hwt _ (List.getElem_mem hke)), hI, hcp⟩
    refine ⟨fun k hk => ?_, ?_⟩
    · obtain ⟨A, c, m, t0, hr, hm⟩ := one k hk
      obtain ⟨A1, c1, m1, u0, _⟩ := one 0 (by omega)
      have s0 := cell_lt t0
      have s1 := cell_lt u0
      obtain ⟨b, off, sp⟩ := a'
      have hsp : sp = none := by simpa [Addr.add] using s1.2
      subst hsp
      have hb : b < W.heap.size := by simpa [block_add] using s0.1
      rw [Nat.mul_one, add_mk] at t0
      exact ⟨b, off, A, c, m, rfl, hb, t0, hr, hm⟩
    · have := hw (((elems.map (·.1)).length + (rest.map (·.1)).length) * Tryz.prog.bytesOf 28) (by simp [DataW.weights, Tryz.underlying45])
      rw [bytes_slS] at this
      have hr := reachBytes_lt
      simp at this
      omega
end
end
end Go.Proofs.YtkncebcekhfnfaaGreat
