/-
  close.Close: what it answers.
-/
import Derived.Test.YtkncebcekhfnfaaGreatBWT07
import Derived.Test.YtkncebcekhfnfaaGreatBWT08
namespace Go.Proofs.YtkncebcekhfnfaaGreat
open Go.RowKit
attribute [local go_sem ↓] Go.wp_at_zero Go.wp_at_succ

set_option maxHeartbeats 400000 in
theorem dempty_any (n : Int) (w : World) (h0 : 0 ≤ n) (h1 : n ≤ 64) :
    Calls Tryz.prog 35 #[.int .i64 n] w fun e w' => e = .returned (.tuple #[.agg #[.int .i64 n, .bool true, .slice none 0 0], .int .i64 0]) ∧ Below w.heap.size w w' := by
  have hd : decide (0 ≤ n ∧ n ≤ 64) = true := by simp [h0, h1]
  go_enter Tryz.func35, Tryz.ntmps35
  go_wp2_with fail
  refine (dright_any n _).mono ?_
  rintro e1 w1 ⟨rfl, rfl⟩
  rw [hd]
  go_wp2
  refine bodyPost_ret (v := .tuple #[.agg #[.int .i64 n, .bool true, .slice none 0 0], .int .i64 0]) (by simp [results, Tryz.results35, go_sem]) rfl ⟨rfl, ?_⟩
  exact new1 _ _

theorem check_bounds {o : O} (h : check o = 0) : AllB o.m := by
  obtain ⟨h0, h1, h2, h3⟩ := check_ok h
  intro p
  by_cases hp : p < o.m.length
  · have he : o.e = false := by
      cases he : o.e with
      | false => rfl
      | true => have := h2 he; rw [this] at hp; simp at hp
    have hl := h3 he
    have hr : rowsOk o (2 * o.n).toNat = true := by
      unfold check at h
      split at h
      · omega
      · rw [if_neg (by simp [he])] at h
        split at h
        · assumption
        · omega
    obtain ⟨N, hN⟩ : ∃ N : Nat, (N : Int) = 2 * o.n := ⟨(2 * o.n).toNat, by omega⟩
    have hNN : o.m.length = N * N := by
      have e : (4 * o.n * o.n) = ((N * N : Nat) : Int) := by rw [Int.natCast_mul, hN]; rw [show (4 : Int) = 2 * 2 from rfl]; simp only [Int.mul_assoc, Int.mul_left_comm]
      omega
    have hNt : (2 * o.n).toNat = N := by omega
    have hpos : 0 < N := by
      rcases Nat.eq_zero_or_pos N with h | h
      · rw [h] at hNN; omega
      · exact h
    have hi : p / N < N := Nat.div_lt_of_lt_mul (by omega)
    have hj : p % N < N := Nat.mod_lt _ hpos
    unfold rowsOk at hr
    rw [hNt] at hr
    have hrow := List.all_eq_true.1 hr (p / N) (List.mem_range.2 hi)
    unfold rowOk at hrow
    have hc := List.all_eq_true.1 hrow (p % N) (List.mem_range.2 hj)
    unfold cellOk at hc
    simp only [Bool.and_eq_true] at hc
    have hix : (2 * o.n * ((p / N : Nat) : Int) + ((p % N : Nat) : Int)) = (p : Int) := by
      rw [← hN, ← Int.natCast_mul, ← Int.natCast_add, Nat.div_add_mod]
    rw [← hix]
    exact hc.1.1
  · have : gI o.m p = 0 := by unfold gI; simp [List.getD, List.getElem?_eq_none (show o.m.length ≤ p by omega)]
    rw [this]; decide

theorem idx6_0 (f0 f1 f2 f3 f4 f5 : Value) (W : World) : (Instr.index 174 (.agg #[f0, f1, f2, f3, f4, f5]) (.int .i64 0)).run Tryz.prog W = .ok f0 W := by
  simp [Instr.index, run_underlying Tryz.underlying174, asIntOf, go_sem]
theorem idx6_1 (f0 f1 f2 f3 f4 f5 : Value) (W : World) : (Instr.index 174 (.agg #[f0, f1, f2, f3, f4, f5]) (.int .i64 1)).run Tryz.prog W = .ok f1 W := by
  simp [Instr.index, run_underlying Tryz.underlying174, asIntOf, go_sem]
theorem idx6_2 (f0 f1 f2 f3 f4 f5 : Value) (W : World) : (Instr.index 174 (.agg #[f0, f1, f2, f3, f4, f5]) (.int .i64 2)).run Tryz.prog W = .ok f2 W := by
  simp [Instr.index, run_underlying Tryz.underlying174, asIntOf, go_sem]
theorem idx6_3 (f0 f1 f2 f3 f4 f5 : Value) (W : World) : (Instr.index 174 (.agg #[f0, f1, f2, f3, f4, f5]) (.int .i64 3)).run Tryz.prog W = .ok f3 W := by
  simp [Instr.index, run_underlying Tryz.underlying174, asIntOf, go_sem]
theorem idx6_4 (f0 f1 f2 f3 f4 f5 : Value) (W : World) : (Instr.index 174 (.agg #[f0, f1, f2, f3, f4, f5]) (.int .i64 4)).run Tryz.prog W = .ok f4 W := by
  simp [Instr.index, run_underlying Tryz.underlying174, asIntOf, go_sem]
theorem idx6_5 (f0 f1 f2 f3 f4 f5 : Value) (W : World) : (Instr.index 174 (.agg #[f0, f1, f2, f3, f4, f5]) (.int .i64 5)).run Tryz.prog W = .ok f5 W := by
  simp [Instr.index, run_underlying Tryz.underlying174, asIntOf, go_sem]

/-- A matrix closed: none, if it is empty. -/
def closeM (N : Nat) (xs : List Int) : Option (List Int) :=
  if negs N (mirrors N N (paths N N xs)) N then none
  else if sideNegs N (evens N N (mirrors N N (paths N N xs))) N then none
  else some (strengthens N N (evens N N (mirrors N N (paths N N xs))))
def closeO (o : O) : O :=
  if o.e then ⟨o.n, true, []⟩
  else match closeM (2 * o.n).toNat o.m with
    | none => ⟨o.n, true, []⟩
    | some m => ⟨o.n, false, m⟩

def stageM (N : Nat) (xs : List Int) : Nat → List Int
  | 0 => xs
  | 1 => paths N N xs
  | 2 => mirrors N N (paths N N xs)
  | 3 => mirrors N N (paths N N xs)
  | 4 => evens N N (mirrors N N (paths N N xs))
  | 5 => evens N N (mirrors N N (paths N N xs))
  | _ => strengthens N N (evens N N (mirrors N N (paths N N xs)))

theorem closeO_none {n : Int} {m : List Int} (h : closeM (2 * n).toNat m = none) : closeO ⟨n, false, m⟩ = ⟨n, true, []⟩ := by
  unfold closeO; rw [if_neg (by simp)]; dsimp only; rw [h]
theorem closeO_some {n : Int} {m ys : List Int} (h : closeM (2 * n).toNat m = some ys) : closeO ⟨n, false, m⟩ = ⟨n, false, ys⟩ := by
  unfold closeO; rw [if_neg (by simp)]; dsimp only; rw [h]

/-- Close's own result. -/
def CloseRes (w : World) (o : O) (er : Int) (e : Ending) (w' : World) : Prop := ∃ A1 c1 s, e = .returned (.tuple #[.agg #[.int .i64 o.n, .bool o.e, .slice A1 o.m.length c1], .bool s, .int .i64 er]) ∧ Own w' w.heap.size A1 c1 o.m ∧ Below w.heap.size w w'

set_option maxRecDepth 8000 in
set_option maxHeartbeats 2000000 in
theorem close_any (o : O) (A : Option Addr) (c : Nat) (w : World) (hx : Rd w w.heap.size A o.m) (hm : o.m.length ≤ 17592186044416) :
    Calls Tryz.prog 71 #[.agg #[.int .i64 o.n, .bool o.e, .slice A o.m.length c]] w (CloseRes w (if check o = 0 then closeO o else ⟨0, false, []⟩) (check o)) := by
  obtain ⟨n, e, m⟩ := o
  dsimp only at *
  have hb0 : Below w.heap.size w ((w.alloc (Obj.cells #[.int .i64 n, .bool e, .slice A m.length c] 53)).alloc (Obj.cells #[.int .i64 0, .bool false, .slice none 0 0] 53)) := ((Below.refl _ _).alloc (Nat.le_refl _) _).alloc (by simp) _
  obtain ⟨p0, p1⟩ := blk_two (w := w) (Below.refl _ ((w.alloc (Obj.cells #[.int .i64 n, .bool e, .slice A m.length c] 53)).alloc (Obj.cells #[.int .i64 0, .bool false, .slice none 0 0] 53)))
  replace hx := hx.up hb0
  by_cases hk : check ⟨n, e, m⟩ = 0
  · rw [if_pos hk, hk]
    have hbd := check_bounds hk
    obtain ⟨n0, n1, he1, he2⟩ := check_ok hk
    dsimp only at hbd n0 n1 he1 he2
    have HE1 := hid he1
    have HE2 := hid he2
    have HBD := hid hbd
    have HK := hid hk
    clear he1 he2 hbd
    have hm1 : m.length ≤ 281474976710656 := by omega
    go_enter Tryz.func71, Tryz.ntmps71
    go_wp2_with fail
    refine (check_any ⟨n, e, m⟩ A c _ hx hm1).mono ?_
    rw [hk]
    clear hk hm1
    generalize (w.alloc (Obj.cells #[.int .i64 n, .bool e, .slice A m.length c] 53)).alloc (Obj.cells #[.int .i64 0, .bool false, .slice none 0 0] 53) = w0 at *
    rintro e1 w1 ⟨rfl, hb1⟩
    replace hx := hx.up hb1
    replace p0 := p0.later hb1
    replace p1 := p1.later hb1
    replace hb0 := bup hb0 hb1
    clear hb1
    obtain ⟨x0, x1, x2, fx⟩ := octbox p0
    cases e with
    | true =>
      have hm0 := HE1.out rfl
      subst hm0
      clear HE1 HE2
      go_wp2_with fail
      refine (dempty_any n w1 n0 n1).mono ?_
      rintro e2 w2 ⟨rfl, hb2⟩
      replace p1 := p1.later hb2
      replace hb0 := bup hb0 hb2
      clear hb2 x0 x1 x2 fx
      have n3 := new1 w2 (.cells #[.int .i64 n, .bool true, .slice none 0 0] 53)
      have p3 := Blk.new w2 53 #[.int .i64 n, .bool true, .slice none 0 0]
      obtain ⟨y0, y1, y2, fy⟩ := octbox (p1.later n3)
      replace hb0 := bup hb0 n3
      go_wp2
      refine bodyPost_ret (v := .tuple #[.agg #[.int .i64 n, .bool true, .slice none 0 0], .bool false, .int .i64 0]) (by simp [results, Tryz.results71, go_sem, y0, y1, y2]) rfl ⟨none, 0, false, rfl, own_nil _ _, ?_⟩
      exact hb0.trans (below3 (by omega) hb0.size)
    | false =>
      have hml := HE2.out rfl
      clear HE1 HE2
      obtain ⟨N, hN⟩ : ∃ N : Nat, (N : Int) = 2 * n := ⟨(2 * n).toNat, by omega⟩
      have hNN : m.length = N * N := by
        have e : (4 * n * n) = ((N * N : Nat) : Int) := by rw [Int.natCast_mul, hN]; rw [show (4 : Int) = 2 * 2 from rfl]; simp only [Int.mul_assoc, Int.mul_left_comm]
        omega
      have hNt : (2 * n).toNat = N := by omega
      have hN1 : N ≤ 128 := by omega
      have HN := hid hN
      have HNN := hid hNN
      have HNT := hid hNt
      clear hml hN hNN hNt
      go_wp2_with fail
      have m0 : Below w.heap.size w w1.drew := hb0.drew
      have m1 : Rd w1.drew w1.drew.heap.size A m := hx
      have q1 : Blk w1.drew (w.heap.size + 1) 53 #[.int .i64 0, .bool false, .slice none 0 0] := p1
      go_region_held3 (fun W => W.cell? ⟨w.heap.size, 0, none⟩ = some (.int .i64 n) ∧ W.cell? ⟨w.heap.size, 2, none⟩ = some (.slice A m.length c)) (first | go_keep | (refine ⟨?_, ?_⟩ <;> (refine cell_later ‹Below _ _ _› ?_; first | assumption | go_keep)))
        (first
          | (go_at_call 104; (with_reducible refine (clone_any m A c _ m1 hm).mono ?_); rintro ee u1 ⟨B1, r1, rfl, own1, hu1⟩))
      go_wp2_with fail
      have hB0 : w.heap.size + 2 ≤ w1.drew.heap.size := q1.lt
      have hMX : MX w1.drew.heap.size u1.heap.size n B1 r1 false m (u1.alloc (.cells #[.int .i64 n, .slice B1 m.length r1, .bool false, .bool false] 173)) := by
        refine ⟨hu1.size, fun g hg => ?_, ⟨false, Blk.new _ _ _⟩, own1.below (new1 _ _)⟩
        rcases own1.form with ⟨h, _⟩ | ⟨g', h, _, h2⟩
        · rw [h] at hg; cases hg
        · rw [h] at hg; injection hg with hg; injection hg with hg; omega
      have n2 := new1 u1 (.cells #[.int .i64 n, .slice B1 m.length r1, .bool false, .bool false] 173)
      have hBu : w1.drew.heap.size ≤ (u1.alloc (.cells #[.int .i64 n, .slice B1 m.length r1, .bool false, .bool false] 173)).heap.size := Nat.le_trans hu1.size n2.size
      have hbw := bup (bup m0 hu1) n2
      have hBw : w.heap.size ≤ w1.drew.heap.size := m0.size
      have p0' : Blk w1.drew w.heap.size 53 #[.int .i64 n, .bool false, .slice A m.length c] := p0
      replace p0 := (p0'.later hu1).later n2
      replace q1 := (q1.later hu1).later n2
      have hp0 : w.heap.size < w1.drew.heap.size := by omega
      have hq1 : w.heap.size + 1 < w1.drew.heap.size := by omega
      clear hx p1 hb0 x0 x1 x2 m0 m1 hu1 own1 n2 p0' hB0
      generalize u1.alloc (.cells #[.int .i64 n, .slice B1 m.length r1, .bool false, .bool false] 173) = u2 at *
      generalize u1.heap.size = gx at *
      generalize hBB : w1.drew.heap.size = B at *
      clear hBB
      go_loopw [48] (fun t wr => ∃ (k : Nat) (ys : List Int), k ≤ 6 ∧ t = .int .i64 k ∧ Hid (ys = stageM N m k) ∧ Hid (ys.length = N * N) ∧ MX B gx n B1 r1 false ys wr ∧ AllB ys ∧ Below B u2 wr ∧ Hid (3 ≤ k → negs N (stageM N m 2) N = false) ∧ Hid (5 ≤ k → sideNegs N (stageM N m 4) N = false)) (fun t _ => 6 - (Go.RowKit.intOf t).toNat)
      case atStart => exact ⟨0, m, by omega, rfl, hid rfl, HNN, hMX, HBD.out, Below.refl _ _, hid (fun h => absurd h (by omega)), hid (fun h => absurd h (by omega))⟩
      case round =>
        clear hMX
        obtain ⟨k, ys, hk, rfl, hys, hl, hM, hb, hbr, hn, hs⟩ := hrel
        have hBr0 : B ≤ wr.heap.size := Nat.le_trans hBu hbr.size
        have hq1x : True := trivial
        obtain rfl | rfl | rfl | rfl | rfl | rfl | rfl : k = 0 ∨ k = 1 ∨ k = 2 ∨ k = 3 ∨ k = 4 ∨ k = 5 ∨ k = 6 := by omega
        · -- paths_any
          clear hq1x
          have hix := fun W => idx6_0 (.func (.func 105) #[.pointer (some ⟨gx, 0, none⟩)] #[]) (.func (.func 106) #[.pointer (some ⟨gx, 0, none⟩)] #[]) (.func (.func 107) #[.pointer (some ⟨gx, 0, none⟩)] #[]) (.func (.func 108) #[.pointer (some ⟨gx, 0, none⟩)] #[]) (.func (.func 109) #[.pointer (some ⟨gx, 0, none⟩)] #[]) (.func (.func 110) #[.pointer (some ⟨gx, 0, none⟩)] #[]) W
          go_wp2_with fail
          refine (paths_any N hM HN.out hN1 hl.out hb hBr0).mono ?_
          rintro e3 w3 ⟨⟨v3, rfl⟩, hM3, hb3b, hl3, hb3⟩
          have hbr3 := hbr.trans hb3
          have xe := hM3.e_
          go_wp2
          go_roundw
          case rel => exact ⟨1, _, by omega, rfl, hid (by rw [hys.out]; rfl), hid hl3, hM3, hb3b, hbr3, hid (fun h => absurd h (by omega)), hid (fun h => absurd h (by omega))⟩
          case measure => simp [Go.RowKit.intOf]
        · -- mirrors_any
          clear hq1x
          have hix := fun W => idx6_1 (.func (.func 105) #[.pointer (some ⟨gx, 0, none⟩)] #[]) (.func (.func 106) #[.pointer (some ⟨gx, 0, none⟩)] #[]) (.func (.func 107) #[.pointer (some ⟨gx, 0, none⟩)] #[]) (.func (.func 108) #[.pointer (some ⟨gx, 0, none⟩)] #[]) (.func (.func 109) #[.pointer (some ⟨gx, 0, none⟩)] #[]) (.func (.func 110) #[.pointer (some ⟨gx, 0, none⟩)] #[]) W
          go_wp2_with fail
          refine (mirrors_any N hM HN.out hN1 hl.out hb hBr0).mono ?_
          rintro e3 w3 ⟨⟨v3, rfl⟩, hM3, hb3b, hl3, hb3⟩
          have hbr3 := hbr.trans hb3
          have xe := hM3.e_
          go_wp2
          go_roundw
          case rel => exact ⟨2, _, by omega, rfl, hid (by rw [hys.out]; rfl), hid hl3, hM3, hb3b, hbr3, hid (fun h => absurd h (by omega)), hid (fun h => absurd h (by omega))⟩
          case measure => simp [Go.RowKit.intOf]
        · -- loops_any
          clear hq1x
          have hix := fun W => idx6_2 (.func (.func 105) #[.pointer (some ⟨gx, 0, none⟩)] #[]) (.func (.func 106) #[.pointer (some ⟨gx, 0, none⟩)] #[]) (.func (.func 107) #[.pointer (some ⟨gx, 0, none⟩)] #[]) (.func (.func 108) #[.pointer (some ⟨gx, 0, none⟩)] #[]) (.func (.func 109) #[.pointer (some ⟨gx, 0, none⟩)] #[]) (.func (.func 110) #[.pointer (some ⟨gx, 0, none⟩)] #[]) W
          go_wp2_with fail
          refine (loops_any N hM HN.out hN1 hl.out hBr0).mono ?_
          rintro e3 w3 ⟨⟨v3, rfl⟩, hM3, hb3⟩
          have hbr3 := hbr.trans hb3
          rw [Bool.false_or] at hM3
          cases hneg : negs N ys N with
          | false =>
            rw [hneg] at hM3
            have xe := hM3.e_
            go_wp2
            go_roundw
            case rel => exact ⟨3, _, by omega, rfl, hid (by rw [hys.out]; rfl), hl, hM3, hb, hbr3, hid (fun _ => by rw [hys.out] at hneg; exact hneg), hid (fun h => absurd h (by omega))⟩
            case measure => simp [Go.RowKit.intOf]
          | true =>
            rw [hneg] at hM3
            have hnone : closeM N m = none := by unfold closeM; rw [if_pos (by rw [hys.out] at hneg; exact hneg)]
            have HNO := hid hnone
            clear hb3 hM
            have hBr : B ≤ w3.heap.size := Nat.le_trans hBu hbr3.size
            have r0 : Blk w3 w.heap.size _ _ := p0.below hbr3 hp0
            have r1' : Blk w3 (w.heap.size + 1) _ _ := q1.below hbr3 hq1
            have hbw3 : Below w.heap.size w w3 := hbw.trans (hbr3.mono hBw)
            obtain ⟨x0, x1, x2, fx⟩ := octbox r0
            have xe := hM3.e_
            clear hbr r0
            go_wp2_with fail
            refine (dempty_any n w3 n0 n1).mono ?_
            rintro e4 w4 ⟨rfl, hb4⟩
            clear x0 x1 x2 fx xe
            have hM4 := (hM3.up hb4).up (new1 w4 (.cells #[.int .i64 n, .bool true, .slice none 0 0] 53))
            have p4 := Blk.new w4 53 #[.int .i64 n, .bool true, .slice none 0 0]
            have r4 := (r1'.later hb4).later (new1 w4 (.cells #[.int .i64 n, .bool true, .slice none 0 0] 53))
            have hbw4 := bup (bup hbw3 hb4) (new1 w4 (.cells #[.int .i64 n, .bool true, .slice none 0 0] 53))
            go_wp2
            generalize w4.alloc (.cells #[.int .i64 n, .bool true, .slice none 0 0] 53) = w5 at *
            have hg4 := (r1'.later hb4).lt
            generalize w4.heap.size = g4 at *
            obtain ⟨sv, hk5⟩ := hM4.2.2.1
            have hgx := hM4.base
            have fs := SB.laters (g := w.heap.size + 1) (v0 := .int .i64 n) (v1 := .bool true) (v2 := .slice none 0 0) (hk5.cell 2) (by omega)
            obtain ⟨y0, y1, y2, fy⟩ := octbox p4
            have gy0 := SB.laters (g := w.heap.size + 1) (v0 := .int .i64 n) (v1 := .bool true) (v2 := .slice none 0 0) y0 (by omega)
            have gy1 := SB.laters (g := w.heap.size + 1) (v0 := .int .i64 n) (v1 := .bool true) (v2 := .slice none 0 0) y1 (by omega)
            have gy2 := SB.laters (g := w.heap.size + 1) (v0 := .int .i64 n) (v1 := .bool true) (v2 := .slice none 0 0) y2 (by omega)
            obtain ⟨b0, b1, b2, b3⟩ := SB.boxes (v0 := .int .i64 n) (v1 := .bool true) (v2 := .slice none 0 0) r4
            clear y0 y1 y2 fy hk5 hnone
            refine wp_region_flowM 6 5 (SB w5 (w.heap.size + 1) (.int .i64 n) (.bool true) (.slice none 0 0)) (by kernel_rfl) (by kernel_rfl) (by decide) (Below.refl _ _).drew ?_
            (repeat (first | (refine FlowM.skip (by rfl) (by rfl) ?_; simp only [Act.put, List.setIfInBounds_toArray, List.set_cons_zero, List.set_cons_succ]) | (refine' FlowM.take _ (by rfl) (by rfl) (fun W hW R hR => ?_) ?_; rotate_left; (go_simp; (try go_bits); with_reducible exact hR); simp only [Act.put, List.setIfInBounds_toArray, List.set_cons_zero, List.set_cons_succ])))
            (refine FlowM.mark (by rfl) (by rfl) (by rfl) (fun W hW R hR => ?_) ?_; (go_simp; (exact hR _ ⟨W, hW, rfl⟩)))
            intro w6 h6
            obtain ⟨W0, hb6, rfl⟩ := h6
            clear fs gy0 gy1 gy2 b0 b1 b2 b3
            obtain ⟨z0, z1, z2, fz⟩ := octbox ((r4.later hb6).set3 (v0 := .int .i64 n) (v1 := .bool true) (v2 := .slice none 0 0))
            have hbw6 := bup hbw4 hb6
            go_wp2
            refine bodyPost_ret (v := .tuple #[.agg #[.int .i64 n, .bool true, .slice none 0 0], .bool sv, .int .i64 0]) (by simp [results, Tryz.results71, go_sem, z0, z1, z2]) rfl ?_
            rw [closeO_none (by rw [HNT.out]; exact HNO.out)]
            exact ⟨none, 0, sv, rfl, own_nil _ _, hbw6.trans (below3 (by omega) hbw6.size)⟩
        · -- evens_any
          clear hq1x
          have hix := fun W => idx6_3 (.func (.func 105) #[.pointer (some ⟨gx, 0, none⟩)] #[]) (.func (.func 106) #[.pointer (some ⟨gx, 0, none⟩)] #[]) (.func (.func 107) #[.pointer (some ⟨gx, 0, none⟩)] #[]) (.func (.func 108) #[.pointer (some ⟨gx, 0, none⟩)] #[]) (.func (.func 109) #[.pointer (some ⟨gx, 0, none⟩)] #[]) (.func (.func 110) #[.pointer (some ⟨gx, 0, none⟩)] #[]) W
          go_wp2_with fail
          refine (evens_any N hM HN.out hN1 hl.out hb hBr0).mono ?_
          rintro e3 w3 ⟨⟨v3, rfl⟩, hM3, hb3b, hl3, hb3⟩
          have hbr3 := hbr.trans hb3
          have xe := hM3.e_
          go_wp2
          go_roundw
          case rel => exact ⟨4, _, by omega, rfl, hid (by rw [hys.out]; rfl), hid hl3, hM3, hb3b, hbr3, hid (fun _ => hn.out (by omega)), hid (fun h => absurd h (by omega))⟩
          case measure => simp [Go.RowKit.intOf]
        · -- sides_any
          clear hq1x
          have hix := fun W => idx6_4 (.func (.func 105) #[.pointer (some ⟨gx, 0, none⟩)] #[]) (.func (.func 106) #[.pointer (some ⟨gx, 0, none⟩)] #[]) (.func (.func 107) #[.pointer (some ⟨gx, 0, none⟩)] #[]) (.func (.func 108) #[.pointer (some ⟨gx, 0, none⟩)] #[]) (.func (.func 109) #[.pointer (some ⟨gx, 0, none⟩)] #[]) (.func (.func 110) #[.pointer (some ⟨gx, 0, none⟩)] #[]) W
          go_wp2_with fail
          refine (sides_any N hM HN.out hN1 hl.out hBr0).mono ?_
          rintro e3 w3 ⟨⟨v3, rfl⟩, hM3, hb3⟩
          have hbr3 := hbr.trans hb3
          rw [Bool.false_or] at hM3
          cases hneg : sideNegs N ys N with
          | false =>
            rw [hneg] at hM3
            have xe := hM3.e_
            go_wp2
            go_roundw
            case rel => exact ⟨5, _, by omega, rfl, hid (by rw [hys.out]; rfl), hl, hM3, hb, hbr3, hid (fun _ => hn.out (by omega)), hid (fun _ => by rw [hys.out] at hneg; exact hneg)⟩
            case measure => simp [Go.RowKit.intOf]
          | true =>
            rw [hneg] at hM3
            have hnone : closeM N m = none := by unfold closeM; rw [if_neg (by have := hn.out (by omega); rw [show stageM N m 2 = mirrors N N (paths N N m) from rfl] at this; simp [this]), if_pos (by rw [hys.out] at hneg; exact hneg)]
            have HNO := hid hnone
            clear hb3 hM
            have hBr : B ≤ w3.heap.size := Nat.le_trans hBu hbr3.size
            have r0 : Blk w3 w.heap.size _ _ := p0.below hbr3 hp0
            have r1' : Blk w3 (w.heap.size + 1) _ _ := q1.below hbr3 hq1
            have hbw3 : Below w.heap.size w w3 := hbw.trans (hbr3.mono hBw)
            obtain ⟨x0, x1, x2, fx⟩ := octbox r0
            have xe := hM3.e_
            clear hbr r0
            go_wp2_with fail
            refine (dempty_any n w3 n0 n1).mono ?_
            rintro e4 w4 ⟨rfl, hb4⟩
            clear x0 x1 x2 fx xe
            have hM4 := (hM3.up hb4).up (new1 w4 (.cells #[.int .i64 n, .bool true, .slice none 0 0] 53))
            have p4 := Blk.new w4 53 #[.int .i64 n, .bool true, .slice none 0 0]
            have r4 := (r1'.later hb4).later (new1 w4 (.cells #[.int .i64 n, .bool true, .slice none 0 0] 53))
            have hbw4 := bup (bup hbw3 hb4) (new1 w4 (.cells #[.int .i64 n, .bool true, .slice none 0 0] 53))
            go_wp2
            generalize w4.alloc (.cells #[.int .i64 n, .bool true, .slice none 0 0] 53) = w5 at *
            have hg4 := (r1'.later hb4).lt
            generalize w4.heap.size = g4 at *
            obtain ⟨sv, hk5⟩ := hM4.2.2.1
            have hgx := hM4.base
            have fs := SB.laters (g := w.heap.size + 1) (v0 := .int .i64 n) (v1 := .bool true) (v2 := .slice none 0 0) (hk5.cell 2) (by omega)
            obtain ⟨y0, y1, y2, fy⟩ := octbox p4
            have gy0 := SB.laters (g := w.heap.size + 1) (v0 := .int .i64 n) (v1 := .bool true) (v2 := .slice none 0 0) y0 (by omega)
            have gy1 := SB.laters (g := w.heap.size + 1) (v0 := .int .i64 n) (v1 := .bool true) (v2 := .slice none 0 0) y1 (by omega)
            have gy2 := SB.laters (g := w.heap.size + 1) (v0 := .int .i64 n) (v1 := .bool true) (v2 := .slice none 0 0) y2 (by omega)
            obtain ⟨b0, b1, b2, b3⟩ := SB.boxes (v0 := .int .i64 n) (v1 := .bool true) (v2 := .slice none 0 0) r4
            clear y0 y1 y2 fy hk5 hnone
            refine wp_region_flowM 6 5 (SB w5 (w.heap.size + 1) (.int .i64 n) (.bool true) (.slice none 0 0)) (by kernel_rfl) (by kernel_rfl) (by decide) (Below.refl _ _).drew ?_
            (repeat (first | (refine FlowM.skip (by rfl) (by rfl) ?_; simp only [Act.put, List.setIfInBounds_toArray, List.set_cons_zero, List.set_cons_succ]) | (refine' FlowM.take _ (by rfl) (by rfl) (fun W hW R hR => ?_) ?_; rotate_left; (go_simp; (try go_bits); with_reducible exact hR); simp only [Act.put, List.setIfInBounds_toArray, List.set_cons_zero, List.set_cons_succ])))
            (refine FlowM.mark (by rfl) (by rfl) (by rfl) (fun W hW R hR => ?_) ?_; (go_simp; (exact hR _ ⟨W, hW, rfl⟩)))
            intro w6 h6
            obtain ⟨W0, hb6, rfl⟩ := h6
            clear fs gy0 gy1 gy2 b0 b1 b2 b3
            obtain ⟨z0, z1, z2, fz⟩ := octbox ((r4.later hb6).set3 (v0 := .int .i64 n) (v1 := .bool true) (v2 := .slice none 0 0))
            have hbw6 := bup hbw4 hb6
            go_wp2
            refine bodyPost_ret (v := .tuple #[.agg #[.int .i64 n, .bool true, .slice none 0 0], .bool sv, .int .i64 0]) (by simp [results, Tryz.results71, go_sem, z0, z1, z2]) rfl ?_
            rw [closeO_none (by rw [HNT.out]; exact HNO.out)]
            exact ⟨none, 0, sv, rfl, own_nil _ _, hbw6.trans (below3 (by omega) hbw6.size)⟩
        · -- strengthens_any
          clear hq1x
          have hix := fun W => idx6_5 (.func (.func 105) #[.pointer (some ⟨gx, 0, none⟩)] #[]) (.func (.func 106) #[.pointer (some ⟨gx, 0, none⟩)] #[]) (.func (.func 107) #[.pointer (some ⟨gx, 0, none⟩)] #[]) (.func (.func 108) #[.pointer (some ⟨gx, 0, none⟩)] #[]) (.func (.func 109) #[.pointer (some ⟨gx, 0, none⟩)] #[]) (.func (.func 110) #[.pointer (some ⟨gx, 0, none⟩)] #[]) W
          go_wp2_with fail
          refine (strengthens_any N hM HN.out hN1 hl.out hb hBr0).mono ?_
          rintro e3 w3 ⟨⟨v3, rfl⟩, hM3, hb3b, hl3, hb3⟩
          have hbr3 := hbr.trans hb3
          have xe := hM3.e_
          go_wp2
          go_roundw
          case rel => exact ⟨6, _, by omega, rfl, hid (by rw [hys.out]; rfl), hid hl3, hM3, hb3b, hbr3, hid (fun _ => hn.out (by omega)), hid (fun _ => hs.out (by omega))⟩
          case measure => simp [Go.RowKit.intOf]
        · -- the end
          have hsome : closeM N m = some ys := by
            have h1 := hn.out (by omega)
            have h2 := hs.out (by omega)
            unfold closeM
            rw [show stageM N m 2 = mirrors N N (paths N N m) from rfl] at h1
            rw [show stageM N m 4 = evens N N (mirrors N N (paths N N m)) from rfl] at h2
            rw [if_neg (by simp [h1]), if_neg (by simp [h2]), hys.out]
            rfl
          have HSM := hid hsome
          have r0 := p0.below hbr hp0
          have r1' := q1.below hbr hq1
          have hbw3 : Below w.heap.size w wr := hbw.trans (hbr.mono hBw)
          obtain ⟨x0, x1, x2, fx⟩ := octbox r0
          obtain ⟨sv, hk5⟩ := hM.2.2.1
          have hgx := hM.base
          have fs := SB.laters (g := w.heap.size + 1) (v0 := .int .i64 n) (v1 := .bool false) (v2 := .slice B1 ys.length r1) (hk5.cell 2) (by omega)
          have fm := SB.laters (g := w.heap.size + 1) (v0 := .int .i64 n) (v1 := .bool false) (v2 := .slice B1 ys.length r1) (hk5.cell 1) (by omega)
          have f0 := SB.laters (g := w.heap.size + 1) (v0 := .int .i64 n) (v1 := .bool false) (v2 := .slice B1 ys.length r1) x0 (by omega)
          obtain ⟨b0, b1, b2, b3⟩ := SB.boxes (v0 := .int .i64 n) (v1 := .bool false) (v2 := .slice B1 ys.length r1) r1'
          clear x0 x1 x2 fx hk5 hsome r0
          go_wp2
          refine wp_region_flowM 12 11 (SB wr (w.heap.size + 1) (.int .i64 n) (.bool false) (.slice B1 ys.length r1)) (by kernel_rfl) (by kernel_rfl) (by decide) (Below.refl _ _).drew ?_
          (repeat (first | (refine FlowM.skip (by rfl) (by rfl) ?_; simp only [Act.put, List.setIfInBounds_toArray, List.set_cons_zero, List.set_cons_succ]) | (refine' FlowM.take _ (by rfl) (by rfl) (fun W hW R hR => ?_) ?_; rotate_left; (go_simp; (try go_bits); with_reducible exact hR); simp only [Act.put, List.setIfInBounds_toArray, List.set_cons_zero, List.set_cons_succ])))
          (refine FlowM.mark (by rfl) (by rfl) (by rfl) (fun W hW R hR => ?_) ?_; (go_simp; (exact hR _ ⟨W, hW, rfl⟩)))
          intro w6 h6
          obtain ⟨W0, hb6, rfl⟩ := h6
          clear fs fm f0 b0 b1 b2 b3
          obtain ⟨z0, z1, z2, fz⟩ := octbox ((r1'.later hb6).set3 (v0 := .int .i64 n) (v1 := .bool false) (v2 := .slice B1 ys.length r1))
          have own6 := (hM.up hb6).2.2.2
          have hbw6 := bup hbw3 hb6
          go_wp2
          refine bodyPost_ret (v := .tuple #[.agg #[.int .i64 n, .bool false, .slice B1 ys.length r1], .bool sv, .int .i64 0]) (by simp [results, Tryz.results71, go_sem, z0, z1, z2]) rfl ?_
          rw [closeO_some (by rw [HNT.out]; exact HSM.out)]
          exact ⟨B1, r1, sv, rfl, (((own6.setFar (by simpa using hq1) _).setFar (by simpa using hq1) _).setFar (by simpa using hq1) _).less hBw, hbw6.trans (below3 (by omega) hbw6.size)⟩
  · rw [if_neg hk]
    have tk : (check ⟨n, e, m⟩ != 0) = true := by simp [hk]
    have hhk := hid hk
    clear hk
    go_enter Tryz.func71, Tryz.ntmps71
    go_wp2_with fail
    refine (check_any ⟨n, e, m⟩ A c _ hx (by dsimp only; omega)).mono ?_
    generalize (w.alloc (Obj.cells #[.int .i64 n, .bool e, .slice A m.length c] 53)).alloc (Obj.cells #[.int .i64 0, .bool false, .slice none 0 0] 53) = w0 at *
    rintro e1 w1 ⟨rfl, hb1⟩
    replace p1 := p1.later hb1
    replace hb0 := bup hb0 hb1
    clear hb1
    obtain ⟨y0, y1, y2, fy⟩ := octbox p1
    generalize check ⟨n, e, m⟩ = er at *
    go_wp2
    refine bodyPost_ret (v := .tuple #[.agg #[.int .i64 0, .bool false, .slice none 0 0], .bool false, .int .i64 er]) (by simp [results, Tryz.results71, go_sem, y0, y1, y2]) rfl ⟨none, 0, false, rfl, own_nil _ _, ?_⟩
    exact hb0.trans (below3 (by omega) hb0.size)
end Go.Proofs.YtkncebcekhfnfaaGreat
