/-
  dbm.Top: a matrix of so many cells, of its own; dbm.counts: a difference as a bound.
  Where the cells are small closing saturates nowhere: a cell of the paths is the weight of a walk without a vertex twice. Plain.
  Octagons of two variables that are tight and without open cells: each cell is reached by a point of whole numbers; a variable that is let go can be given a number again. Plain.
  Behind an exact edge an octagon of two variables is tight, and has just the points that its points go to. Plain.
  The laws' graphs: one edge from the point 0 to the point 1, a comparison with its contrary beside it. Plain.
  trans.edge: what it answers, of what the functions that it calls answer.
  trans.Edge: what it answers, of what trans.edge answers.
  trans.adds: the other cases.
  trans.sums: what it answers (sums).
  trans.sums: what it answers (differences).
  trans.turns: what it answers.
  span's ends, and its Div: what they answer.
  span.Mul: what it answers.
  span.Rem: what it answers.
  span.In's Operand: what it answers.
  trans.products: what it answers.
  trans.equals, trans.shift (another variable; too far): what they answer.
  trans.Edge: what it answers at every edge.
  gnomonlaw16.TransSound: a point that takes an edge, and goes not wrong, is one of what is told behind it. Plain.
  trans.Exact: what it answers.
  Comparisons; each exact edge; the tightest octagon of points. Plain.
  gnomonref12.Points, of whatever points of numbers that are not great: the tightest octagon of them.
  gnomonref12.Points, of whatever points. (Printed by gen_rpointsa.py.)
-/
import Derived.Test.YtkncebcekhfnfaaGreatBWT35
import Derived.Test.YtkncebcekhfnfaaGreatBWT31
import Derived.Test.YtkncebcekhfnfaaGreatBWT10
import Derived.Test.YtkncebcekhfnfaaGreatBWT13
import Derived.Test.YtkncebcekhfnfaaGreatBWT15
import Derived.Test.YtkncebcekhfnfaaGreatBWT24
import Derived.Test.YtkncebcekhfnfaaGreatBWT16
import Derived.Test.YtkncebcekhfnfaaGreatBWT12
import Derived.Test.YtkncebcekhfnfaaGreatBWT38
namespace Go.Proofs.YtkncebcekhfnfaaGreat
section
open Go.RowKit
attribute [local go_sem ↓] Go.wp_at_zero Go.wp_at_succ

/-- An octagon of d variables, its cells of the call's own. -/
def TopRes (d N : Nat) (w : World) (e : Ending) (w' : World) : Prop := ∃ A1 c1 m, m.length = N * N ∧ e = .returned (.tuple #[.agg #[.int .i64 (d : Int), .bool false, .slice A1 m.length c1], .int .i64 0]) ∧ Own w' w.heap.size A1 c1 m ∧ Below w.heap.size w w'
set_option maxRecDepth 8000 in
set_option maxHeartbeats 4000000 in
theorem dtop_ok (d N : Nat) (w : World) (hd : d ≤ 64) (hNN : (N : Int) = 2 * (d : Int)) :
    Calls Tryz.prog 64 #[.int .i64 (d : Int)] w (TopRes d N w) := by
  have hM0 : 4 * (d : Int) * (d : Int) = ((N * N : Nat) : Int) := by rw [Int.natCast_mul, hNN, Int.mul_assoc, Int.mul_assoc, Int.mul_left_comm (d : Int) 2 (d : Int), ← Int.mul_assoc 2 2]; rfl
  have hN1 : N ≤ 128 := by omega
  have hqb : N * N ≤ 128 * 128 := Nat.mul_le_mul hN1 hN1
  have hmk := run_make64 (N * N) (by omega)
  rw [← hM0] at hmk
  have hm1 : 0 ≤ 4 * (d : Int) * (d : Int) := by rw [hM0]; omega
  have hm2 : 4 * (d : Int) * (d : Int) ≤ 16384 := by rw [hM0]; omega
  have t0 : decide (0 ≤ (d : Int) ∧ (d : Int) ≤ 64) = true := decide_eq_true (by omega)
  have p0 := Blk.new w 53 #[.int .i64 0, .bool false, .slice none 0 0]
  have hb0 := new1 w (.cells #[.int .i64 0, .bool false, .slice none 0 0] 53)
  have HR := hid (fun W => dright_any (d : Int) W)
  rw [t0] at HR
  clear t0
  have HM0 := hid hM0
  have HNN := hid hNN
  clear hM0 hNN
  go_enter Tryz.func64, Tryz.ntmps64
  go_wp2_with fail
  generalize w.alloc (.cells #[.int .i64 0, .bool false, .slice none 0 0] 53) = w1 at *
  (with_reducible refine (HR.out w1).mono ?_)
  rintro e2 w2 ⟨rfl, rfl⟩
  have hw1 := p0.lt
  have own := own_made w1 (base := w1.heap.size) (Nat.le_refl _) (show N * N ≤ 17592186044416 by omega)
  have n2 := new1 w1 (.cells (zcells (N * N)) 2)
  have p3 := Blk.new (w1.alloc (.cells (zcells (N * N)) 2)) 53 #[.int .i64 (d : Int), .bool false, .slice (some ⟨w1.heap.size, 0, none⟩) (N * N) (N * N)]
  have n3 := new1 (w1.alloc (.cells (zcells (N * N)) 2)) (.cells #[.int .i64 (d : Int), .bool false, .slice (some ⟨w1.heap.size, 0, none⟩) (N * N) (N * N)] 53)
  rw [show (w1.alloc (.cells (zcells (N * N)) 2)).heap.size = w1.heap.size + 1 by simp] at p3
  replace own := (own.below n3).less (show w.heap.size ≤ w1.heap.size by omega)
  replace p0 := (p0.later n2).later n3
  replace hb0 := bup (bup hb0 n2) n3
  go_upto_region 4 with fail
  clear n2 n3 hmk
  generalize (w1.alloc (.cells (zcells (N * N)) 2)).alloc (.cells #[.int .i64 (d : Int), .bool false, .slice (some ⟨w1.heap.size, 0, none⟩) (N * N) (N * N)] 53) = w3 at *
  have hgne : w1.heap.size ≠ w1.heap.size + 1 := by omega
  have hgne2 : w1.heap.size ≠ w.heap.size := by omega
  have hgge : w.heap.size ≤ w1.heap.size := by omega
  generalize w1.heap.size + 1 = g4 at *
  generalize w1.heap.size = ga at *
  clear hw1
  generalize hm : List.replicate (N * N) (0 : Int) = m0 at *
  have hl0 : m0.length = N * N := by rw [← hm, List.length_replicate]
  clear hm
  have hNN2 : N * N ≤ 16384 := by omega
  obtain ⟨LL2, hLL⟩ : ∃ L, N * N = L := ⟨_, rfl⟩
  have HLL := hid hLL
  rw [hLL] at own p3 hl0 hNN2 ⊢
  rw [hLL] at HM0
  clear hLL hqb
  obtain ⟨x0, x1, x2, fx⟩ := octbox p3
  go_wp2
  clear x0 x1 x2 fx
  go_loopw [21] (fun t wr => ∃ (k : Nat) (m : List Int), k ≤ LL2 ∧ t = .int .i64 (k : Int) ∧ m.length = LL2 ∧ Own wr w.heap.size (some ⟨ga, 0, none⟩) LL2 m ∧ Blk wr w.heap.size 53 #[.int .i64 0, .bool false, .slice none 0 0] ∧ Blk wr g4 53 #[.int .i64 (d : Int), .bool false, .slice (some ⟨ga, 0, none⟩) LL2 LL2] ∧ Below w.heap.size w wr) (fun t _ => LL2 - (Go.RowKit.intOf t).toNat)
  case atStart => exact ⟨0, m0, by omega, rfl, hl0, own, p0, p3, hb0⟩
  case round =>
    clear own p0 p3 hb0 hl0
    obtain ⟨k, m, hk, rfl, hml, own, p0, p3, hb0⟩ := hrel
    obtain ⟨x0, x1, x2, fx⟩ := octbox p3
    by_cases hlt : k < LL2
    · have hlt' : (k : Int) < (LL2 : Int) := by omega
      have hfr := own.frozen k
      obtain ⟨_, _, eA, _, cA⟩ := own.rd k (by omega)
      injection eA with eA; injection eA with eA1 eA2; subst eA1; subst eA2
      rw [Nat.zero_add] at cA
      have HO := hid (own.store k 9223372036854775807)
      have HB := hid (hb0.trans (below1 (i := k) (v := .int .i64 9223372036854775807) hgge hb0.size))
      have HP := hid (p0.far (p := ⟨ga, k, none⟩) hgne2 (.int .i64 9223372036854775807))
      have HP3 := hid (p3.far (p := ⟨ga, k, none⟩) hgne (.int .i64 9223372036854775807))
      have HML := hid hml
      clear own p0 p3 hb0 hml
      go_wp2
      go_roundw
      case rel => exact ⟨k + 1, m.set k 9223372036854775807, by omega, by go_num, by rw [List.length_set]; exact HML.out, HO.out, HP.out, HP3.out, HB.out⟩
      case measure => simp [Go.RowKit.intOf]; omega
    · obtain rfl : k = LL2 := by omega
      clear hlt hk
      have hn1 : 2 * (d : Int) ≤ 128 := by omega
      go_wp2
      clear x0 x1 x2 fx
      go_loopw [31] (fun t wr => ∃ (i : Nat) (m : List Int), i ≤ N ∧ t = .int .i64 (i : Int) ∧ m.length = k ∧ Own wr w.heap.size (some ⟨ga, 0, none⟩) k m ∧ Blk wr w.heap.size 53 #[.int .i64 0, .bool false, .slice none 0 0] ∧ Blk wr g4 53 #[.int .i64 (d : Int), .bool false, .slice (some ⟨ga, 0, none⟩) k k] ∧ Below w.heap.size w wr) (fun t _ => N - (Go.RowKit.intOf t).toNat)
      case atStart => exact ⟨0, m, by omega, rfl, hml, own, p0, p3, hb0⟩
      case round =>
        clear own p0 p3 hb0 hml
        obtain ⟨i, m, hi, rfl, hml, own, p0, p3, hb0⟩ := hrel
        by_cases hlt : i < N
        · have hlti : (i : Int) < 2 * (d : Int) := by have := HNN.out; omega
          obtain ⟨a1, a2, a3, a4, a5, a6⟩ := idx_ok HNN.out hlt hlt hN1
          rw [HLL.out] at a4 a6
          have HAT := hid (fun W => at_any (i : Int) (i : Int) (d : Int) W (by omega) (by omega) (by omega) (by omega) (by omega) (by omega))
          have HO := hid (fun W (h : Own W w.heap.size (some ⟨ga, 0, none⟩) k m) => h.store (i * N + i) 0)
          have HFR := hid (fun W (h : Own W w.heap.size (some ⟨ga, 0, none⟩) k m) => h.frozen (i * N + i))
          have HRD := hid (fun W (h : Own W w.heap.size (some ⟨ga, 0, none⟩) k m) => h.rd (i * N + i) (by omega))
          obtain ⟨x0, x1, x2, fx⟩ := octbox p3
          have l2 := later x2
          have HS := hid (And.intro own (And.intro p0 (And.intro p3 hb0)))
          have HML := hid hml
          clear own p0 p3 hb0 x0 x1 x2 fx hml
          go_wp2
          refine wp_region_flow 7 (fun W => Below wr.heap.size wr W) (by kernel_rfl) (by kernel_rfl) (Below.refl _ _).drew ?_
          (repeat (first | (refine Flow.skip (by rfl) ?_; simp only [Act.put, List.setIfInBounds_toArray, List.set_cons_zero, List.set_cons_succ]) | (refine' Flow.take _ (by rfl) (fun W hW R hR => ?_) ?_; rotate_left; (go_simp; (try go_bits); with_reducible exact hR); simp only [Act.put, List.setIfInBounds_toArray, List.set_cons_zero, List.set_cons_succ])))
          (refine Flow.call 52 #[.agg #[.int .i64 (i : Int), .int .i64 (i : Int)], .int .i64 (d : Int)] (.int .i64 (2 * (d : Int) * (i : Int) + (i : Int))) (by rfl) (fun X hX => by go_simp) (fun X hX => (HAT.out X).mono fun e' w' ⟨he, hb'⟩ => ⟨he, bstep hX hX.size hb'⟩) ?_; simp only [Act.put, List.setIfInBounds_toArray, List.set_cons_zero, List.set_cons_succ])
          (repeat (first | (refine Flow.skip (by rfl) ?_; simp only [Act.put, List.setIfInBounds_toArray, List.set_cons_zero, List.set_cons_succ]) | (refine' Flow.take _ (by rfl) (fun W hW R hR => ?_) ?_; rotate_left; (go_simp; (try go_bits); with_reducible exact hR); simp only [Act.put, List.setIfInBounds_toArray, List.set_cons_zero, List.set_cons_succ])))
          intro w9 hb9
          clear l2 HAT
          obtain ⟨own, p0, p3, hb0⟩ := HS.out
          replace own := own.below hb9
          replace p0 := p0.later hb9
          replace p3 := p3.later hb9
          replace hb0 := bup hb0 hb9
          have hfr := HFR.out _ own
          obtain ⟨_, _, eA, _, cA⟩ := HRD.out _ own
          injection eA with eA; injection eA with eA1 eA2; subst eA1; subst eA2
          rw [Nat.zero_add] at cA
          have HO2 := hid (HO.out _ own)
          have HB := hid (hb0.trans (below1 (i := i * N + i) (v := .int .i64 0) hgge hb0.size))
          have HP := hid (p0.far (p := ⟨ga, i * N + i, none⟩) hgne2 (.int .i64 0))
          have HP3 := hid (p3.far (p := ⟨ga, i * N + i, none⟩) hgne (.int .i64 0))
          clear own p0 p3 hb0 hb9 HS HO HRD HFR
          go_wp2
          go_roundw
          case rel => exact ⟨i + 1, m.set (i * N + i) 0, by omega, by go_num, by rw [List.length_set]; exact HML.out, HO2.out, HP.out, HP3.out, HB.out⟩
          case measure => simp [Go.RowKit.intOf]; omega
        · obtain rfl : i = N := by omega
          have hge : ¬ ((i : Int) < 2 * (d : Int)) := by have := HNN.out; omega
          obtain ⟨x0, x1, x2, fx⟩ := octbox p3
          obtain ⟨y0, y1, y2, fy⟩ := octbox p0
          have q9 := hid (p0.set3 (v0 := .int .i64 (d : Int)) (v1 := .bool false) (v2 := .slice (some ⟨ga, 0, none⟩) k k))
          have o9 := hid (own.far3 (g := w.heap.size) (v0 := .int .i64 (d : Int)) (v1 := .bool false) (v2 := .slice (some ⟨ga, 0, none⟩) k k) (own_blk' own p0 (by decide)))
          have hb9 := hid (hb0.trans (below3 (W := wr) (g := w.heap.size) (v0 := .int .i64 (d : Int)) (v1 := .bool false) (v2 := .slice (some ⟨ga, 0, none⟩) k k) (by omega) hb0.size))
          have HML := hid hml
          clear own p0 p3 hb0 hml
          go_wp2
          clear x0 x1 x2 fx y0 y1 y2 fy
          obtain ⟨z0, z1, z2, fz⟩ := octbox q9.out
          refine bodyPost_ret (v := .tuple #[.agg #[.int .i64 (d : Int), .bool false, .slice (some ⟨ga, 0, none⟩) k k], .int .i64 0]) (by simp [results, Tryz.results64, go_sem, z0, z1, z2]) rfl ?_
          exact ⟨_, k, m, HML.out.trans HLL.out.symm, by rw [HML.out], o9.out, hb9.out⟩
theorem wide_pos : wideV 4611686018427387904 = .agg #[.int .i64 0, .int .u64 4611686018427387904] := by
  unfold wideV
  rw [show (4611686018427387904 : Int) / 18446744073709551616 = 0 by decide, show (4611686018427387904 : Int) % 18446744073709551616 = 4611686018427387904 by decide]
theorem wide_neg : wideV (-4611686018427387904) = .agg #[.int .i64 (-1), .int .u64 13835058055282163712] := by
  unfold wideV
  rw [show (-4611686018427387904 : Int) / 18446744073709551616 = -1 by decide, show (-4611686018427387904 : Int) % 18446744073709551616 = 13835058055282163712 by decide]
set_option maxHeartbeats 4000000 in
theorem counts_ok (z : Int) (w : World) : Calls Tryz.prog 65 #[wideV z] w (BelVal (.int .i64 (cellPt z)) w) := by
  have HC1 := hid (fun W => wcompare_ok z 4611686018427387904 W)
  have HC2 := hid (fun W => wcompare_ok z (-4611686018427387904) W)
  have HO1 := hid (fun W => of_ok 4611686018427387904 (by unfold I64; omega) W)
  have HO2 := hid (fun W => of_ok (-4611686018427387904) (by unfold I64; omega) W)
  rw [wide_pos] at HC1 HO1
  rw [wide_neg] at HC2 HO2
  have HLO : Hid (-4611686018427387904 ≤ z → z ≤ 4611686018427387904 → (z % 18446744073709551616 = z ∧ 0 ≤ z) ∨ (z % 18446744073709551616 = z + 18446744073709551616 ∧ z < 0)) := hid (fun _ _ => by omega)
  unfold wideV at *
  obtain ⟨p0, hb0, -⟩ := new_one w #[.int .i64 (z / 18446744073709551616), .int .u64 (z % 18446744073709551616)] 110
  generalize z / 18446744073709551616 = zh at *
  generalize z % 18446744073709551616 = zl at *
  go_enter Tryz.func65, Tryz.ntmps65
  go_upto_region 1 with fail
  generalize w.alloc (Obj.cells #[.int .i64 zh, .int .u64 zl] 110) = w1 at *
  obtain ⟨x0, x1, fx⟩ := opbox p0
  have l0 := later x0
  have l1 := later x1
  clear x0 x1 fx
  refine wp_region_flow 2 (fun W => Below w1.heap.size w1 W) (by kernel_rfl) (by kernel_rfl) (Below.refl _ _).drew ?_
  (repeat (first | (refine Flow.skip (by rfl) ?_; simp only [Act.put, List.setIfInBounds_toArray, List.set_cons_zero, List.set_cons_succ]) | (refine' Flow.take _ (by rfl) (fun W hW R hR => ?_) ?_; rotate_left; (go_simp; (try go_bits); with_reducible exact hR); simp only [Act.put, List.setIfInBounds_toArray, List.set_cons_zero, List.set_cons_succ])))
  (refine Flow.call 55 #[.int .i64 4611686018427387904] (.agg #[.int .i64 0, .int .u64 4611686018427387904]) (by rfl) (fun X hX => by go_simp) (fun X hX => (HO1.out X).mono fun e' w' ⟨he, hb'⟩ => ⟨he, bstep hX hX.size hb'⟩) ?_; simp only [Act.put, List.setIfInBounds_toArray, List.set_cons_zero, List.set_cons_succ])
  (repeat (first | (refine Flow.skip (by rfl) ?_; simp only [Act.put, List.setIfInBounds_toArray, List.set_cons_zero, List.set_cons_succ]) | (refine' Flow.take _ (by rfl) (fun W hW R hR => ?_) ?_; rotate_left; (go_simp; (try go_bits); with_reducible exact hR); simp only [Act.put, List.setIfInBounds_toArray, List.set_cons_zero, List.set_cons_succ])))
  intro w2 hb2
  clear l0 l1
  go_wp2_with fail
  (with_reducible refine (HC1.out w2).mono ?_)
  rintro e3 w3 ⟨rfl, hb3⟩
  replace hb2 := hb2.trans (hb3.mono hb2.size)
  clear hb3 HC1 HO1
  by_cases h1 : 4611686018427387904 < z
  · have HS : Hid (sgnI z 4611686018427387904 = 1) := hid (by unfold sgnI; rw [if_neg (by omega), if_pos h1])
    have HV : Hid (cellPt z = 9223372036854775807) := hid (by unfold cellPt; rw [if_pos h1])
    rw [HS.out]
    have hb9 := bup hb0 hb2
    clear h1 p0
    go_wp2
    go_ret
    exact ⟨ret64 HV.out.symm, hb9⟩
  · have hs : decide (0 < sgnI z 4611686018427387904) = false := by
      rw [decide_eq_false_iff_not]; unfold sgnI
      rw [if_neg h1]
      split <;> omega
    have p2 := p0.later hb2
    have hb9 := bup hb0 hb2
    have H1 := hid (show (4611686018427387904 < z) → False from h1)
    generalize sgnI z 4611686018427387904 = sg at *
    clear h1 p0 hb2
    go_upto_region 3 with fail
    clear hs
    obtain ⟨x0, x1, fx⟩ := opbox p2
    have l0 := later x0
    have l1 := later x1
    clear x0 x1 fx
    refine wp_region_flow 2 (fun W => Below w3.heap.size w3 W) (by kernel_rfl) (by kernel_rfl) (Below.refl _ _).drew ?_
    (repeat (first | (refine Flow.skip (by rfl) ?_; simp only [Act.put, List.setIfInBounds_toArray, List.set_cons_zero, List.set_cons_succ]) | (refine' Flow.take _ (by rfl) (fun W hW R hR => ?_) ?_; rotate_left; (go_simp; (try go_bits); with_reducible exact hR); simp only [Act.put, List.setIfInBounds_toArray, List.set_cons_zero, List.set_cons_succ])))
    (refine Flow.call 55 #[.int .i64 (-4611686018427387904)] (.agg #[.int .i64 (-1), .int .u64 13835058055282163712]) (by rfl) (fun X hX => by go_simp) (fun X hX => (HO2.out X).mono fun e' w' ⟨he, hb'⟩ => ⟨he, bstep hX hX.size hb'⟩) ?_; simp only [Act.put, List.setIfInBounds_toArray, List.set_cons_zero, List.set_cons_succ])
    (repeat (first | (refine Flow.skip (by rfl) ?_; simp only [Act.put, List.setIfInBounds_toArray, List.set_cons_zero, List.set_cons_succ]) | (refine' Flow.take _ (by rfl) (fun W hW R hR => ?_) ?_; rotate_left; (go_simp; (try go_bits); with_reducible exact hR); simp only [Act.put, List.setIfInBounds_toArray, List.set_cons_zero, List.set_cons_succ])))
    intro w4 hb4
    clear l0 l1
    go_wp2_with fail
    (with_reducible refine (HC2.out w4).mono ?_)
    rintro e5 w5 ⟨rfl, hb5⟩
    replace hb4 := hb4.trans (hb5.mono hb4.size)
    replace p2 := p2.later hb4
    replace hb9 := bup hb9 hb4
    clear hb4 hb5 HC2 HO2
    by_cases h2 : z < -4611686018427387904
    · have HS : Hid (sgnI z (-4611686018427387904) = -1) := hid (by unfold sgnI; rw [if_pos h2])
      have HV : Hid (cellPt z = -4611686018427387904) := hid (by unfold cellPt; rw [if_neg H1.out]; have h11 := Int.not_lt.1 H1.out; omega)
      rw [HS.out]
      clear h2 p2
      go_wp2
      go_ret
      exact ⟨ret64 HV.out.symm, hb9⟩
    · have hs : decide (sgnI z (-4611686018427387904) < 0) = false := by
        rw [decide_eq_false_iff_not]; unfold sgnI; rw [if_neg h2]
        split <;> omega
      have HV : Hid (cellPt z = z) := hid (by unfold cellPt; rw [if_neg H1.out]; have h11 := Int.not_lt.1 H1.out; omega)
      have hl := HLO.out (by omega) (by have h11 := Int.not_lt.1 H1.out; omega)
      generalize sgnI z (-4611686018427387904) = sg at *
      obtain ⟨x0, x1, fx⟩ := opbox p2
      have HW : Hid (wrap64 zl = z) := hid (by
        have h11 := Int.not_lt.1 H1.out
        rcases hl with ⟨e, h⟩ | ⟨e, h⟩ <;> (rw [e]; unfold wrap64; omega))
      clear hl
      go_wp2
      go_ret
      exact ⟨ret64 (by rw [HW.out, HV.out]), hb9⟩
end
section
/-! ### A tight matrix shifted. -/
end
section
open Go.RowKit

/-- No cell is open, none great. -/
def Fin4 (ys : List Int) : Prop := ∀ i j : Nat, i < 4 → j < 4 → -1000000000000000 ≤ G 4 ys i j ∧ G 4 ys i j ≤ 1000000000000000
end
section
open Go.RowKit

/-- No octagon of two variables, or a tight one without open cells. -/
def P4 (p : O) : Prop := p = emptyO 2 ∨ ∃ zs, p = ⟨2, false, zs⟩ ∧ Tight 4 zs ∧ Fin4 zs
end
section

end
section

end
section

end
section

end
section

end
section

end
section

end
section

end
section

end
section

end
section

end
section

end
section

end
section

end
section

end
section

end
section

end
section

end
section
open Go.RowKit
attribute [local go_sem ↓] Go.wp_at_zero Go.wp_at_succ

/-- The most of the differences of points, as a bound. -/
def maxP (ls : List (List Int)) (i j : Nat) : Int := ls.foldl (fun s x => max s (cellPt (apartX x i j))) (-4611686018427387904)
theorem cellPt_rng (a : Int) : -4611686018427387904 ≤ cellPt a ∧ cellPt a ≤ 9223372036854775807 := by
  unfold cellPt
  split <;> omega
end
end Go.Proofs.YtkncebcekhfnfaaGreat
