/-
  gnomonlaw27.WatchExact answers true, whatever it is handed.
  A row of octagons as it comes in.
  From the row to the walk: numbers, operands, ranges as they come in.
  From the row to the walk: five parameters; a slice of int64 whose cells are such numbers.
  From the row to the walk: a script: numbers, and no more of them than the slice has room for.
-/
import Derived.Test.YtkncebcekhfnfaaGreatRRun27
import Derived.Test.YtkncebcekhfnfaaGreatBWE44
import Derived.Test.YtkncebcekhfnfaaGreatBWE45
import Derived.Test.YtkncebcekhfnfaaGreatBWE46
import Derived.Test.YtkncebcekhfnfaaGreatBWE03
import Derived.Test.YtkncebcekhfnfaaGreatBWE09
namespace Go.Proofs.YtkncebcekhfnfaaGreat
section
open Go.RowKit
attribute [local go_sem ↓] Go.wp_at_zero Go.wp_at_succ

/-- What watching tells, in one piece. -/
def outW (g : Gr) (os : List O) (inp : List Int) (k : Int) : Sn := if runE g os inp.length k = 0 then seenW g os inp k else ⟨false, 0, 0, []⟩
theorem outW_len (g : Gr) (os : List O) (inp : List Int) (k : Int) : (outW g os inp k).vis.length ≤ 17592186044416 := by
  unfold outW
  split
  · rename_i h
    unfold seenW
    rw [snAt_len]
    unfold runE at h
    by_cases hc : chk g = 0
    · have := (chk_in hc).2.1; omega
    · rw [if_pos hc] at h; exact absurd h hc
  · simp
theorem wres_out {g : Gr} {os : List O} {inp : List Int} {k : Int} {w w' : World} {e : Ending} (h : WRes g os inp k w e w') :
    ∃ G, e = .returned (.tuple #[.agg #[.bool (outW g os inp k).held, .int .i64 (outW g os inp k).step, .int .i64 (outW g os inp k).point, .slice G (outW g os inp k).vis.length (outW g os inp k).vis.length], .int .i64 (runE g os inp.length k)]) ∧ Rd w' w'.heap.size G (outW g os inp k).vis ∧ Below w.heap.size w w' := by
  obtain ⟨gv, he, h1, hb⟩ := h
  unfold outW
  by_cases hr : runE g os inp.length k = 0
  · rw [if_pos hr] at he ⊢
    exact ⟨_, he, rdI_of (h1 hr), hb⟩
  · rw [if_neg hr] at he ⊢
    exact ⟨none, he, fun k hk => absurd hk (by simp), hb⟩

set_option maxRecDepth 8000 in
set_option maxHeartbeats 16000000 in
theorem watchExact_walk (g : Gr) (zs : List Z) (inp : List Int) (k : Int) (V D E A S : Option Addr) (cv cd ce c sc : Nat) (w : World) (h : GrOk w g D E) (hz : RowZ w A zs) (hzl : zs.length ≤ 17592186044416) (hS : Rd w w.heap.size S inp) (hil : inp.length ≤ 17592186044416) (hI : I64s inp) (hcap : inp.length ≤ sc) :
    Calls Tryz.prog 3 #[grV g V D E cv cd ce, .slice A zs.length c, .slice S inp.length sc, .int .i64 k] w (SomeT w) := by
  have n0 := new1 w (.cells #[.slice V g.nv cv, .int .i64 g.tm, .slice D g.sz.length cd, .int .i64 g.pts, .int .i64 g.ex, .slice E g.es.length ce] 26)
  have k0 := Blk.new w 26 #[.slice V g.nv cv, .int .i64 g.tm, .slice D g.sz.length cd, .int .i64 g.pts, .int .i64 g.ex, .slice E g.es.length ce]
  have lv := h.lv
  have ls := h.ls
  have le := h.le
  have hei : ∀ e ∈ g.es, I64 e.an ∧ I64 e.bn := fun e he => ⟨(h.ei e he).2.2.2.2.2.2.2.1, (h.ei e he).2.2.2.2.2.2.2.2.2⟩
  have HD := hid h.rd
  have HE := hid h.re
  have HZ := hid hz
  have HS := hid hS
  have HCK := hid (fun W (hb : Below w.heap.size w W) => (show Calls Tryz.prog 7 #[.agg #[.slice V g.nv cv, .int .i64 g.tm, .slice D g.sz.length cd, .int .i64 g.pts, .int .i64 g.ex, .slice E g.es.length ce]] W _ from rgcheck_any g V D E cv cd ce W (HD.out.up hb) (HE.out.up hb) lv ls le))
  have HFW := hid (fun W (hb : Below w.heap.size w W) (hc : chk g = 0) => (show Calls Tryz.prog 8 #[.agg #[.slice V g.nv cv, .int .i64 g.tm, .slice D g.sz.length cd, .int .i64 g.pts, .int .i64 g.ex, .slice E g.es.length ce]] W _ from few27_ok g V D E cv cd ce W hc))
  have HSM := hid (fun W => small27_ok S inp.length sc k W)
  have HRR := hid (fun W (hb : Below w.heap.size w W) => (show Calls Tryz.prog 12 #[.agg #[.slice V g.nv cv, .int .i64 g.tm, .slice D g.sz.length cd, .int .i64 g.pts, .int .i64 g.ex, .slice E g.es.length ce], .slice A zs.length c, .slice S inp.length sc, .int .i64 k] W _ from r27run_ok g V D E cv cd ce A c zs inp S sc k W (HD.out.up hb) (HE.out.up hb) (HZ.out.up hb) (HS.out.up hb) lv ls le hzl hei hI))
  have HWR := hid (fun (A' : Option Addr) (c' : Nat) (ys : List Z) W (hb : Below w.heap.size w W) (hy : RowZ W A' ys) (hyl : ys.length ≤ 17592186044416) => (show Calls Tryz.prog 11 #[.agg #[.slice V g.nv cv, .int .i64 g.tm, .slice D g.sz.length cd, .int .i64 g.pts, .int .i64 g.ex, .slice E g.es.length ce], .slice A' ys.length c', .slice S inp.length sc, .int .i64 k] W _ from wrun_ok g V D E cv cd ce A' c' ys inp S sc k W (HD.out.up hb) (HE.out.up hb) hy (HS.out.up hb) hcap lv ls le hyl hei hI hil))
  clear h hz hS hei hI hcap hil lv ls le
  unfold grV
  go_enter Tryz.func3, Tryz.ntmps3
  go_wp2_with fail
  refine (known27_ok _).mono ?_
  generalize w.alloc (.cells #[.slice V g.nv cv, .int .i64 g.tm, .slice D g.sz.length cd, .int .i64 g.pts, .int .i64 g.ex, .slice E g.es.length ce] 26) = w0 at *
  rintro e1 w1 ⟨rfl, hb1⟩
  replace k0 := k0.later hb1
  replace n0 := bup n0 hb1
  clear hb1
  obtain ⟨f0, f1, f2, f3, f4, f5, ff⟩ := blk6 k0
  go_wp2_with fail
  clear f0 f1 f2 f3 f4 f5 ff
  (with_reducible refine (HCK.out w1 n0).mono ?_)
  rintro e2 w2 ⟨rfl, hb2⟩
  replace k0 := k0.later hb2
  replace n0 := bup n0 hb2
  clear hb2
  obtain ⟨ck, HC⟩ : ∃ ck, Hid (chk g = ck) := ⟨_, hid rfl⟩
  rw [HC.out]
  -- is it looked at?
  have HEND : Hid (∀ W, Below w.heap.size w W → SomeT w (.returned (.bool true)) W) := hid fun W hb => ⟨rfl, hb⟩
  by_cases hck : ck = 0
  focus
    subst hck
    obtain ⟨f0, f1, f2, f3, f4, f5, ff⟩ := blk6 k0
    go_wp2_with fail
    clear f0 f1 f2 f3 f4 f5 ff
    (with_reducible refine (HFW.out w2 n0 HC.out).mono ?_)
    rintro e3 w3 ⟨b1, rfl, hb3⟩
    replace k0 := k0.later hb3
    replace n0 := bup n0 hb3
    clear hb3
    cases b1
    case false =>
      go_wp2
      go_ret
      exact HEND.out _ n0
  rotate_left
  focus
    have t1 : (ck == 0) = false := by rw [beq_eq_false_iff_ne]; exact hck
    clear hck
    generalize w2 = w3 at *
  all_goals
    cases t80 : decide ((80 : Int) < (zs.length : Int))
    case true =>
      go_wp2
      go_ret
      exact HEND.out _ n0
    case false =>
      have hz80 : zs.length ≤ 80 := by have := of_decide_eq_false t80; omega
      go_wp2_with fail
      clear t80
      (with_reducible refine (HSM.out w3).mono ?_)
      rintro e4 w4 ⟨b2, rfl, hb4⟩
      replace k0 := k0.later hb4
      replace n0 := bup n0 hb4
      clear hb4
      cases b2
      case false =>
        go_wp2
        go_ret
        exact HEND.out _ n0
      case true =>
        go_wp2_with fail
        (with_reducible refine (copyocts_ok zs A c w4 (HZ.out.up n0) (by omega)).mono ?_)
        rintro e5 w5 ⟨A1, c1, ys, rfl, hys, own, hb5⟩
        replace k0 := k0.later hb5
        replace n0 := bup n0 hb5
        have hyl : ys.length = zs.length := by have := congrArg List.length hys; simpa using this
        have hw1 := HWR.out A1 c1 ys w5 n0 own.rows (by omega)
        rw [hys] at hw1
        have HW1 := hid hw1
        have HYS := hid (And.intro hys hyl)
        have HOW := hid own.rows
        clear hw1 hys hyl own hb5
        obtain ⟨f0, f1, f2, f3, f4, f5, ff⟩ := blk6 k0
        go_wp2_with fail
        clear f0 f1 f2 f3 f4 f5 ff
        (with_reducible refine HW1.out.mono ?_)
        clear HW1
        rintro e6 w6 h6
        obtain ⟨G, rfl, hG, hb6⟩ := wres_out h6
        replace k0 := k0.later hb6
        have HOW2 := hid (HOW.out.up hb6)
        replace n0 := bup n0 hb6
        clear h6 hb6 HOW
        obtain ⟨er, HER⟩ : ∃ er, Hid (runE g (zs.map (fun (z : Z) => z.1)) inp.length k = er) := ⟨_, hid rfl⟩
        obtain ⟨so, HSO⟩ : ∃ so, Hid (outW g (zs.map (fun (z : Z) => z.1)) inp k = so) := ⟨_, hid rfl⟩
        rw [HSO.out] at hG
        rw [HER.out, HSO.out]
        obtain ⟨hd, st, pt, vis⟩ := so
        dsimp only at *
        have n7 := new1 w6 (.cells #[.bool hd, .int .i64 st, .int .i64 pt, .slice G vis.length vis.length] 36)
        have k7 := Blk.new w6 36 #[.bool hd, .int .i64 st, .int .i64 pt, .slice G vis.length vis.length]
        have k07 := k0.later n7
        have n07 := bup n0 n7
        have hG7 := hG.up n7
        have HOW3 := hid (HOW2.out.up n7)
        clear k0 n0 hG HOW2 n7
        go_upto_region 7 with fail
        generalize w6.alloc (.cells #[.bool hd, .int .i64 st, .int .i64 pt, .slice G vis.length vis.length] 36) = w7 at *
        generalize w6.heap.size = g7 at *
        obtain ⟨f0, f1, f2, f3, f4, f5, ff⟩ := blk6 k07
        go_wp2_with fail
        clear f0 f1 f2 f3 f4 f5 ff k07
        (with_reducible refine (HRR.out w7 n07).mono ?_)
        rintro e8 w8 h8
        obtain ⟨G2, rfl, hG2, hb8⟩ := wres_out h8
        rw [HSO.out] at hG2
        rw [HER.out, HSO.out]
        dsimp only at *
        have k8 := k7.later hb8
        have hG8 := hG7.up hb8
        have n08 := bup n07 hb8
        have HOW4 := hid (HOW3.out.up hb8)
        clear h8 hb8 k7 hG7 n07 HOW3
        have n9 := new1 w8 (.cells #[.bool hd, .int .i64 st, .int .i64 pt, .slice G2 vis.length vis.length] 36)
        have k9 := Blk.new w8 36 #[.bool hd, .int .i64 st, .int .i64 pt, .slice G2 vis.length vis.length]
        have k8' := k8.later n9
        have n09 := bup n08 n9
        have hG9 := hG8.up n9
        have hG29 := hG2.up n9
        have HOW5 := hid (HOW4.out.up n9)
        clear k8 n08 hG8 hG2 HOW4 n9
        go_upto_region 8 with fail
        generalize w8.alloc (.cells #[.bool hd, .int .i64 st, .int .i64 pt, .slice G2 vis.length vis.length] 36) = w9 at *
        generalize w8.heap.size = g9 at *
        have HVL : Hid (vis.length ≤ 17592186044416) := hid (by have := HSO.out; have h1 := outW_len g (zs.map (fun (z : Z) => z.1)) inp k; rw [this] at h1; exact h1)
        have HIN := hid (ints_same vis G G2 vis.length vis.length w9 hG9 hG29 HVL.out)
        obtain ⟨x0, x1, x2, x3, -⟩ := blk4 k8'
        obtain ⟨y0, y1, y2, y3, -⟩ := blk4 k9
        clear hG9 hG29
        go_wp2_with fail
        clear x0 x1 x2 x3 y0 y1 y2 y3
        (with_reducible refine HIN.out.mono ?_)
        rintro e10 w10 ⟨rfl, hb10⟩
        have n10 := bup n09 hb10
        have HOC := hid (octs_same ys zs A1 A c1 c w10 (HOW5.out.up hb10) (HZ.out.up n10) HYS.out.1 (by have := HYS.out.2; omega))
        clear hb10
        go_wp2_with fail
        (with_reducible refine HOC.out.mono ?_)
        rintro e11 w11 ⟨rfl, hb11⟩
        have n11 := bup n10 hb11
        go_wp2
        go_ret
        exact HEND.out _ n11
end
section
open Go.ChangeShapes Go.WideShapes Go.ChangeAt Go.RowKit Go.Joins

theorem bytes_oct : Tryz.prog.bytesOf 53 = 40 := by kernel_rfl
theorem weightsAll_in {H : Type} {P : Program} {e : TypeId} : ∀ {l : List (DataW H)} {d : DataW H}, d ∈ l → ∀ n ∈ d.weights P e, n ∈ DataW.weightsAll P e l
  | x :: l, d, hd, n, hn => by
    rw [DataW.weightsAll, List.mem_append]
    rcases List.mem_cons.1 hd with rfl | hd
    · exact .inl hn
    · exact .inr (weightsAll_in hd n hn)

theorem list3 {α : Type} {l : List α} (h : l.length = 3) : ∃ c0 c1 c2, l = [c0, c1, c2] := by
  match l, h with
  | [c0, c1, c2], _ => exact ⟨c0, c1, c2, rfl⟩

section
variable {H : Type} {enc : TypeId × Value → H} {W : World} {base : Nat} {held : Bool}

set_option maxRecDepth 100000 in
theorem row_oct {spare : Nat → Bool} {fuel : Nat} {cs : List Value} {x : DataW H × List MemPlace} (h : DataW.trod enc Tryz.prog W base spare held fuel 53 cs = some x) :
    ∃ (n : Int) (e : Bool) (A : Option Addr) (c : Nat) (m : List Int), cs = [.int .i64 n, .bool e, .slice A m.length c] ∧ Rd W W.heap.size A m ∧ ((∀ q ∈ x.1.weights Tryz.prog 53, q ≤ reachBytes) → m.length ≤ 17592186044416) ∧ ∀ i : Nat, gI m i ≤ 9223372036854775807 := by
  obtain ⟨y0, y1, y2, n, rfl, hl, h0, h1, h2⟩ := Go.Deep.trod_struct3 Tryz.underlying53 h
  rw [cells_oct] at hl
  obtain ⟨c0, c1, c2, rfl⟩ := list3 hl
  · obtain ⟨k, hk, rfl, _⟩ := DataW.trod_int Tryz.underlying3 h0
    obtain ⟨b, hb, rfl⟩ := DataW.trod_bool Tryz.underlying4 h1
    obtain ⟨A, c, m, he, hr, hw, hg⟩ := row_ints h2
    have e0 : Tryz.prog.cellsOf 3 = 1 := by kernel_rfl
    have e1 : Tryz.prog.cellsOf 4 = 1 := by kernel_rfl
    have e2 : Tryz.prog.cellsOf 28 = 1 := by kernel_rfl
    simp only [e0, List.drop_zero, List.take_succ_cons, List.take_zero, List.cons.injEq, and_true] at hk
    simp only [e1, List.drop_succ_cons, List.drop_zero, List.take_succ_cons, List.take_zero, List.cons.injEq, and_true] at hb
    simp only [e2, List.drop_succ_cons, List.drop_zero, List.take_succ_cons, List.take_zero, List.cons.injEq, and_true] at he
    subst hk hb he
    refine ⟨k, b, A, c, m, rfl, hr, fun hn => hw fun q hq => hn q ?_, hg⟩
    have e := Tryz.underlying53
    simp only [DataW.weights, e, DataW.weightsEach, List.map_cons, List.map_nil, List.mem_append]
    exact .inr (.inr (.inl hq))

set_option maxRecDepth 100000 in
theorem open_row {r : Reach} {b0 : Nat} {spare : Nat → Bool} {v : Value} {d : DataW H} {p : List MemPlace} (hv : Value.okWide Tryz.prog W r b0 27 v) (h : DataW.Trod enc Tryz.prog W base spare held 27 v d p) :
    ∃ (A : Option Addr) (c len : Nat), v = .slice A len c ∧ ((∀ n ∈ d.weights Tryz.prog 27, n ≤ reachBytes) → RowRd W A len ∧ len ≤ 17592186044416) := by
  obtain ⟨a, len, cap, rfl⟩ := okWide_slice Tryz.underlying27 hv
  obtain ⟨fuel, hf⟩ := h
  refine ⟨a, cap, len, rfl, fun hw => ?_⟩
  rcases DataW.trod_slice Tryz.underlying27 hf with ⟨h0, _⟩ | ⟨a', len', cap', elems, rest, n, _, hcs, hx, _, hl, _, hlen, hel, _⟩
  · simp [Value.cells] at h0
    obtain ⟨rfl, rfl, rfl⟩ := h0
    exact ⟨fun k hk => absurd hk (by simp), by simp⟩
  · simp [Value.cells] at hcs
    obtain ⟨rfl, rfl, rfl⟩ := hcs
    simp only [Prod.mk.injEq] at hx
    obtain ⟨rfl, rfl⟩ := hx
    have hwt : ∀ y ∈ elems, ∀ q ∈ y.1.weights Tryz.prog 53, q ≤ reachBytes := fun y hy q hq => hw q (by
      simp only [DataW.weights, Tryz.underlying27, List.mem_cons, List.mem_append]
      exact .inr (.inl (weightsAll_in (List.mem_map_of_mem hy) q hq)))
    refine ⟨fun k hk => ?_, ?_⟩
    · have hk' := hel k hk
      have hke : k < elems.length := by omega
      rw [cells_oct, List.getElem?_eq_getElem hke, Option.bind_eq_some_iff] at hk'
      obtain ⟨cs, hcs, hy⟩ := hk'
      obtain ⟨vn, e, A, c, m, rfl, hr, hm, hg⟩ := row_oct hy
      obtain ⟨_, _, hcell⟩ := World.cells?_some hcs
      have t0 := hcell 0 (by omega)
      have t1 := hcell 1 (by omega)
      have t2 := hcell 2 (by omega)
      simp only [List.getElem?_cons_zero, List.getElem?_cons_succ] at t0 t1 t2
      have s0 := cell_lt t0
      obtain ⟨b, off, sp⟩ := a'
      have hb : b < W.heap.size := by simpa [block_add] using s0.1
      have hsp : sp = none := by
        have := s0.2
        by_cases hk0 : k = 0
        · subst hk0; simpa [Addr.add] using this
        · exact ((by
            have h0 := hel 0 (by omega)
            have h0e : 0 < elems.length := by omega
            rw [cells_oct, List.getElem?_eq_getElem h0e, Option.bind_eq_some_iff] at h0
            obtain ⟨cs', hcs', hy'⟩ := h0
            obtain ⟨vn', e', A', c', m', rfl, _⟩ := row_oct hy'
            have t := (World.cells?_some hcs').2.2 0 (by omega)
            simp only [List.getElem?_cons_zero] at t
            simpa [Addr.add] using (cell_lt t).2) : sp = none)
      subst hsp
      have ea : (⟨b, off, none⟩ : Addr).add (k * 3) = ⟨b, off + k * 3, none⟩ := add_mk _ _ _
      rw [ea, add_mk] at t0 t1 t2
      exact ⟨b, off, vn, e, A, c, m, rfl, hb, t0, t1, t2, hr, hm (hwt _ (List.getElem_mem hke)), hg⟩
    · have := hw (((elems.map (·.1)).length + (rest.map (·.1)).length) * Tryz.prog.bytesOf 53) (by simp [DataW.weights, Tryz.underlying27])
      rw [bytes_oct] at this
      have hr := reachBytes_lt
      simp at this
      omega
end
end
section

end
section
open Go.ChangeShapes Go.WideShapes Go.ChangeAt Go.RowKit Go.Joins

section
variable {H : Type} {enc : TypeId × Value → H} {W : World} {base : Nat} {held : Bool} {spare : Nat → Bool} {r : Reach} {b0 : Nat} {v : Value} {d : DataW H} {p : List MemPlace}
theorem row_intsI {spare : Nat → Bool} {fuel : Nat} {cs : List Value} {x : DataW H × List MemPlace} (h : DataW.trod enc Tryz.prog W base spare held fuel 28 cs = some x) :
    ∃ (A : Option Addr) (c : Nat) (m : List Int), cs = [.slice A m.length c] ∧ Rd W W.heap.size A m ∧ ((∀ n ∈ x.1.weights Tryz.prog 28, n ≤ reachBytes) → m.length ≤ 17592186044416) ∧ ∀ i : Nat, I64 (gI m (i : Int)) := by
  rcases open_ints Tryz.underlying28 Tryz.underlying2 cells_i64 h with ⟨rfl, rfl⟩ | ⟨a, len, cap, zs, rfl, _, hl, _, hzl, rfl, hc, hwf⟩
  · exact ⟨none, 0, [], rfl, fun k hk => absurd hk (by simp), fun _ => by simp, fun i => by simp [gI, I64]⟩
  · have hle : len ≤ zs.length := by rw [hzl]; split <;> omega
    have hml : (zs.take len).length = len := by simp; omega
    refine ⟨some a, cap, zs.take len, by rw [hml], fun k hk => ?_, fun hw => ?_, fun i => (range_i64 (zs := zs.take len) (fun n hn => hwf n (List.mem_of_mem_take hn)) i)⟩
    · rw [hml] at hk
      have h0 := cell_lt (hc 0 (by omega))
      have hk' := hc k (by omega)
      obtain ⟨b, off, sp⟩ := a
      have hsp : sp = none := by simpa [Addr.add] using h0.2
      subst hsp
      have hb : b < W.heap.size := by simpa [Addr.add] using h0.1
      refine ⟨b, off, rfl, hb, ?_⟩
      have e : (⟨b, off, none⟩ : Addr).add k = ⟨b, off + k, none⟩ := by unfold Addr.add; split <;> simp_all
      rw [← e, hk']
      unfold gI
      rw [getD_take_lt zs len _ 0 (by simpa using hk)]
      rfl
    · have := hw (((lits (H := H) IntKind.i64 (zs.take len)).length + (lits (H := H) IntKind.i64 (zs.drop len)).length) * Tryz.prog.bytesOf 2) (by simp [DataW.weights, Tryz.underlying28])
      rw [bytes_i64] at this
      have hr := reachBytes_lt
      simp [lits] at this
      omega
set_option maxRecDepth 100000 in
theorem open_longsI (hv : Value.okWide Tryz.prog W r b0 28 v) (h : DataW.Trod enc Tryz.prog W base spare held 28 v d p) :
    ∃ (A : Option Addr) (c : Nat) (m : List Int), v = .slice A m.length c ∧ Rd W W.heap.size A m ∧ (∀ k : Nat, I64 (gI m (k : Int))) ∧ ((∀ n ∈ d.weights Tryz.prog 28, n ≤ reachBytes) → m.length ≤ 17592186044416) := by
  obtain ⟨a, len, cap, rfl⟩ := okWide_slice Tryz.underlying28 hv
  obtain ⟨fuel, hf⟩ := h
  obtain ⟨A, c, m, he, hr, hw, hI⟩ := row_intsI hf
  simp [Value.cells] at he
  obtain ⟨rfl, rfl, rfl⟩ := he
  exact ⟨_, _, m, rfl, hr, hI, hw⟩
end
end
section
open Go.ChangeShapes Go.WideShapes Go.ChangeAt Go.RowKit Go.Joins

section
variable {H : Type} {enc : TypeId × Value → H} {W : World} {base : Nat} {held : Bool} {spare : Nat → Bool} {r : Reach} {b0 : Nat} {v : Value} {d : DataW H} {p : List MemPlace}
set_option maxRecDepth 100000 in
theorem open_scr (hv : Value.okWide Tryz.prog W r b0 28 v) (h : DataW.Trod enc Tryz.prog W base spare held 28 v d p) :
    ∃ (A : Option Addr) (c : Nat) (m : List Int), v = .slice A m.length c ∧ Rd W W.heap.size A m ∧ ((∀ k : Nat, I64 (gI m (k : Int))) ∧ m.length ≤ c) ∧ ((∀ n ∈ d.weights Tryz.prog 28, n ≤ reachBytes) → m.length ≤ 17592186044416) := by
  obtain ⟨A, c, m, rfl, hr, hI, hw⟩ := open_longsI hv h
  refine ⟨A, c, m, rfl, hr, ⟨hI, ?_⟩, hw⟩
  obtain ⟨fuel, hf⟩ := h
  rcases open_ints Tryz.underlying28 Tryz.underlying2 cells_i64 hf with ⟨e, _⟩ | ⟨a, len, cap, zs, e, _, hl, _⟩
  · simp [Value.cells] at e
    obtain ⟨-, rfl, -⟩ := e
    simp
  · simp [Value.cells] at e
    omega
end
end
end Go.Proofs.YtkncebcekhfnfaaGreat
