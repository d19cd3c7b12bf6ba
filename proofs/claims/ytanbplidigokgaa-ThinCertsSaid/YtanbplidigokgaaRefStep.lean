/-
  gnomonref22.step, Widen, Narrow; gnomonref12.Empty; gnomonref14.Pair: what each call answers: the same as widen tells.
-/
import Derived.Test.YtanbplidigokgaaWiden
import Derived.Test.YtanbplidigokgaaRefCheck
namespace Go.Proofs.Ytanbplidigokgaa
open Go.RowKit
attribute [local go_sem ↓] Go.wp_at_zero Go.wp_at_succ

theorem fOf_t (s : Int) : fOf true s = plus (near s) (near s) := by unfold fOf; rw [if_pos rfl, plus_near]
theorem fOf_f (s : Int) : fOf false s = near s := by unfold fOf; rw [if_neg (by simp)]

set_option maxHeartbeats 1000000 in
theorem rstep_any (steps : List Int) (tw : Bool) (y : Int) (A : Option Addr) (c : Nat) (w : World) (hx : Rd w w.heap.size A steps) (hm : steps.length ≤ 17592186044416) :
    Calls Try.prog 44 #[.slice A steps.length c, .bool tw, .int .i64 y] w fun e w' => e = .returned (.int .i64 (aboveF (fOf tw) steps y)) ∧ w = w' := by
  have hl0 : (0 : Int) ≤ (steps.length : Int) := by omega
  go_enter Try.func44, Try.ntmps44
  go_wp2
  go_loop [8, 7] (fun i t => ∃ k : Nat, k ≤ steps.length ∧ i = .int .i64 k ∧ t = .int .i64 (aboveF (fOf tw) (steps.take k) y)) (fun i _ => steps.length - (intOf i).toNat)
  case atStart => exact ⟨0, by omega, rfl, by simp [aboveF]⟩
  case round =>
    obtain ⟨k, hk, rfl, rfl⟩ := hrel
    by_cases hlt : k < steps.length
    · obtain ⟨b, off, rfl, hB, hc⟩ := hx k hlt
      have hi0 : (0 : Int) ≤ (k : Int) := by omega
      have hi1 : (k : Int) < (steps.length : Int) := by omega
      have T := hid (aboveF_take (fOf tw) steps y hlt)
      by_cases hy : y ≤ fOf tw (gI steps k)
      · have G : Hid (aboveGo (fOf tw) y (aboveF (fOf tw) (steps.take k) y) (gI steps k) = min (aboveF (fOf tw) (steps.take k) y) (fOf tw (gI steps k))) := by unfold aboveGo; rw [if_pos hy]; exact rfl
        generalize aboveF (fOf tw) (steps.take k) y = q at *
        cases tw
        · have F := hid (fOf_f (gI steps k))
          rw [F.out] at hy
          go_wp2_with (first | (go_at_call 79; refine (rnear_any _ _).mono ?_; rintro e w' ⟨rfl, rfl⟩) | (go_at_call 80; refine (rtwice_any _ _).mono ?_; rintro e w' ⟨rfl, rfl⟩))
          all_goals
            go_round
            case rel => exact ⟨k + 1, by omega, by go_num, by rw [T.out, G.out, F.out]; congr 1; omega⟩
            case measure => simp [intOf]; omega
        · have F := hid (fOf_t (gI steps k))
          rw [F.out] at hy
          go_wp2_with (first | (go_at_call 79; refine (rnear_any _ _).mono ?_; rintro e w' ⟨rfl, rfl⟩) | (go_at_call 80; refine (rtwice_any _ _).mono ?_; rintro e w' ⟨rfl, rfl⟩))
          all_goals
            go_round
            case rel => exact ⟨k + 1, by omega, by go_num, by rw [T.out, G.out, F.out]; congr 1; omega⟩
            case measure => simp [intOf]; omega
      · have G : Hid (aboveGo (fOf tw) y (aboveF (fOf tw) (steps.take k) y) (gI steps k) = aboveF (fOf tw) (steps.take k) y) := by unfold aboveGo; rw [if_neg hy]; exact rfl
        generalize aboveF (fOf tw) (steps.take k) y = q at *
        cases tw
        · have F := hid (fOf_f (gI steps k))
          rw [F.out] at hy
          go_wp2_with (first | (go_at_call 79; refine (rnear_any _ _).mono ?_; rintro e w' ⟨rfl, rfl⟩) | (go_at_call 80; refine (rtwice_any _ _).mono ?_; rintro e w' ⟨rfl, rfl⟩))
          all_goals
            go_round
            case rel => exact ⟨k + 1, by omega, by go_num, by rw [T.out, G.out]⟩
            case measure => simp [intOf]; omega
        · have F := hid (fOf_t (gI steps k))
          rw [F.out] at hy
          go_wp2_with (first | (go_at_call 79; refine (rnear_any _ _).mono ?_; rintro e w' ⟨rfl, rfl⟩) | (go_at_call 80; refine (rtwice_any _ _).mono ?_; rintro e w' ⟨rfl, rfl⟩))
          all_goals
            go_round
            case rel => exact ⟨k + 1, by omega, by go_num, by rw [T.out, G.out]⟩
            case measure => simp [intOf]; omega
    · have hkk : steps.take k = steps := List.take_of_length_le (by omega)
      have hki : ¬ (k : Int) < (steps.length : Int) := by omega
      have H := hid hkk; clear hkk
      go_wp2
      go_ret
      exact ⟨ret64 (by rw [H.out]), rfl⟩

set_option maxHeartbeats 400000 in
theorem rempty_any (n : Int) (w : World) :
    Calls Try.prog 46 #[.int .i64 n] w fun e w' => e = .returned (.agg #[.int .i64 n, .bool true, .slice none 0 0]) ∧ Below w.heap.size w w' := by
  go_enter Try.func46, Try.ntmps46
  go_wp2
  refine bodyPost_ret (v := .agg #[.int .i64 n, .bool true, .slice none 0 0]) (by simp [results, Try.results46, go_sem]) rfl ⟨rfl, ?_⟩
  exact (Below.refl _ _).alloc (Nat.le_refl _) _

theorem pairErr_1 {o p : O} (h : ¬ check o = 0) : pairErr o p = check o := by unfold pairErr; rw [if_pos h]
theorem pairErr_2 {o p : O} (h : check o = 0) (h' : ¬ check p = 0) : pairErr o p = check p := by unfold pairErr; rw [if_neg (by simpa using h), if_pos h']
theorem pairErr_3 {o p : O} (h : check o = 0) (h' : check p = 0) (h3 : ¬ o.n = p.n) : pairErr o p = 140 := by unfold pairErr; rw [if_neg (by simpa using h), if_neg (by simpa using h'), if_pos h3]
theorem pairErr_0 {o p : O} (h : check o = 0) (h' : check p = 0) (h3 : o.n = p.n) : pairErr o p = 0 := by unfold pairErr; rw [if_neg (by simpa using h), if_neg (by simpa using h'), if_neg (by simpa using h3)]

set_option maxHeartbeats 1000000 in
theorem pair_any (o p : O) (A A' : Option Addr) (c c' : Nat) (w : World) (hx : Rd w w.heap.size A o.m) (hy : Rd w w.heap.size A' p.m) (hm : o.m.length ≤ 17592186044416) (hm' : p.m.length ≤ 17592186044416) :
    Calls Try.prog 14 #[.agg #[.int .i64 o.n, .bool o.e, .slice A o.m.length c], .agg #[.int .i64 p.n, .bool p.e, .slice A' p.m.length c']] w fun e w' => e = .returned (.int .i64 (pairErr o p)) ∧ Below w.heap.size w w' := by
  obtain ⟨n, e, m⟩ := o
  obtain ⟨n', e', m'⟩ := p
  dsimp only at *
  have hb0 : Below w.heap.size w ((w.alloc (Obj.cells #[.int .i64 n, .bool e, .slice A m.length c] 24)).alloc (Obj.cells #[.int .i64 n', .bool e', .slice A' m'.length c'] 24)) := ((Below.refl _ _).alloc (Nat.le_refl _) _).alloc (by simp) _
  obtain ⟨b0, b1⟩ := blk_two (w := w) (Below.refl _ ((w.alloc (Obj.cells #[.int .i64 n, .bool e, .slice A m.length c] 24)).alloc (Obj.cells #[.int .i64 n', .bool e', .slice A' m'.length c'] 24)))
  have hsz : ((w.alloc (Obj.cells #[.int .i64 n, .bool e, .slice A m.length c] 24)).alloc (Obj.cells #[.int .i64 n', .bool e', .slice A' m'.length c'] 24)).heap.size = w.heap.size + 2 := by simp
  have hx0 := (hx.below hb0).more (B' := ((w.alloc (Obj.cells #[.int .i64 n, .bool e, .slice A m.length c] 24)).alloc (Obj.cells #[.int .i64 n', .bool e', .slice A' m'.length c'] 24)).heap.size) (by omega)
  have hy0 := (hy.below hb0).more (B' := ((w.alloc (Obj.cells #[.int .i64 n, .bool e, .slice A m.length c] 24)).alloc (Obj.cells #[.int .i64 n', .bool e', .slice A' m'.length c'] 24)).heap.size) (by omega)
  by_cases h1 : check ⟨n, e, m⟩ = 0
  · have t1 := eqb_t h1
    have H1 := hid h1; clear h1
    by_cases h2 : check ⟨n', e', m'⟩ = 0
    · have t2 := eqb_t h2
      have H2 := hid h2; clear h2
      by_cases h3 : n = n'
      · have t3 : (n != n') = false := by simp [h3]
        have H3 := hid h3; clear h3
        go_enter Try.func14, Try.ntmps14
        go_wp2_with fail
        generalize (w.alloc (Obj.cells #[.int .i64 n, .bool e, .slice A m.length c] 24)).alloc (Obj.cells #[.int .i64 n', .bool e', .slice A' m'.length c'] 24) = w0 at *
        refine (rcheck_any ⟨n, e, m⟩ A c _ hx0 (by dsimp only; omega)).mono ?_
        rintro e9 w1 ⟨rfl, hb1⟩
        have hz1 := hb1.size
        obtain ⟨x0, x1, x2, fx⟩ := octbox (b0.later hb1)
        obtain ⟨y0, y1, y2, fy⟩ := octbox (b1.later hb1)
        go_wp2_with fail
        refine (rcheck_any ⟨n', e', m'⟩ A' c' _ ((hy0.below hb1).more hz1) (by dsimp only; omega)).mono ?_
        rintro e8 w2 ⟨rfl, hb2⟩
        obtain ⟨x0', x1', x2', fx'⟩ := octbox ((b0.later hb1).later hb2)
        obtain ⟨y0', y1', y2', fy'⟩ := octbox ((b1.later hb1).later hb2)
        go_wp2
        go_ret
        exact ⟨ret64 (by rw [pairErr_0 H1.out H2.out H3.out]; exact H2.out), hb0.trans ((hb1.trans (hb2.mono hz1)).mono (by omega))⟩
      · have t3 : (n != n') = true := by simp [h3]
        have H3 := hid h3; clear h3
        go_enter Try.func14, Try.ntmps14
        go_wp2_with fail
        generalize (w.alloc (Obj.cells #[.int .i64 n, .bool e, .slice A m.length c] 24)).alloc (Obj.cells #[.int .i64 n', .bool e', .slice A' m'.length c'] 24) = w0 at *
        refine (rcheck_any ⟨n, e, m⟩ A c _ hx0 (by dsimp only; omega)).mono ?_
        rintro e9 w1 ⟨rfl, hb1⟩
        have hz1 := hb1.size
        obtain ⟨x0, x1, x2, fx⟩ := octbox (b0.later hb1)
        obtain ⟨y0, y1, y2, fy⟩ := octbox (b1.later hb1)
        go_wp2_with fail
        refine (rcheck_any ⟨n', e', m'⟩ A' c' _ ((hy0.below hb1).more hz1) (by dsimp only; omega)).mono ?_
        rintro e8 w2 ⟨rfl, hb2⟩
        obtain ⟨x0', x1', x2', fx'⟩ := octbox ((b0.later hb1).later hb2)
        obtain ⟨y0', y1', y2', fy'⟩ := octbox ((b1.later hb1).later hb2)
        go_wp2
        go_ret
        exact ⟨ret64 (by rw [pairErr_3 H1.out H2.out H3.out]), hb0.trans ((hb1.trans (hb2.mono hz1)).mono (by omega))⟩
    · have t2 := eqb_f h2
      have H2 := hid h2; clear h2
      go_enter Try.func14, Try.ntmps14
      go_wp2_with fail
      generalize (w.alloc (Obj.cells #[.int .i64 n, .bool e, .slice A m.length c] 24)).alloc (Obj.cells #[.int .i64 n', .bool e', .slice A' m'.length c'] 24) = w0 at *
      refine (rcheck_any ⟨n, e, m⟩ A c _ hx0 (by dsimp only; omega)).mono ?_
      rintro e9 w1 ⟨rfl, hb1⟩
      have hz1 := hb1.size
      obtain ⟨x0, x1, x2, fx⟩ := octbox (b0.later hb1)
      obtain ⟨y0, y1, y2, fy⟩ := octbox (b1.later hb1)
      go_wp2_with fail
      refine (rcheck_any ⟨n', e', m'⟩ A' c' _ ((hy0.below hb1).more hz1) (by dsimp only; omega)).mono ?_
      rintro e8 w2 ⟨rfl, hb2⟩
      obtain ⟨x0', x1', x2', fx'⟩ := octbox ((b0.later hb1).later hb2)
      obtain ⟨y0', y1', y2', fy'⟩ := octbox ((b1.later hb1).later hb2)
      go_wp2
      go_ret
      exact ⟨ret64 (by rw [pairErr_2 H1.out H2.out]), hb0.trans ((hb1.trans (hb2.mono hz1)).mono (by omega))⟩
  · have t1 := eqb_f h1
    have H1 := hid h1; clear h1
    go_enter Try.func14, Try.ntmps14
    go_wp2_with fail
    generalize (w.alloc (Obj.cells #[.int .i64 n, .bool e, .slice A m.length c] 24)).alloc (Obj.cells #[.int .i64 n', .bool e', .slice A' m'.length c'] 24) = w0 at *
    refine (rcheck_any ⟨n, e, m⟩ A c _ hx0 (by dsimp only; omega)).mono ?_
    rintro e9 w1 ⟨rfl, hb1⟩
    have hz1 := hb1.size
    obtain ⟨x0, x1, x2, fx⟩ := octbox (b0.later hb1)
    obtain ⟨y0, y1, y2, fy⟩ := octbox (b1.later hb1)
    go_wp2
    go_ret
    exact ⟨ret64 (by rw [pairErr_1 H1.out]), hb0.trans (hb1.mono (by omega))⟩
end Go.Proofs.Ytanbplidigokgaa
