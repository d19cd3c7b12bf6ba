/-
  widen.right, order.right: what is wrong with two octagons.
-/
import Derived.Test.YtanbplidigokgaaCheckAny
import Derived.Test.YtanbplidigokgaaOwn
namespace Go.Proofs.Ytanbplidigokgaa
open Go.RowKit

def pairErr (o p : O) : Int := if check o ≠ 0 then check o else if check p ≠ 0 then check p else if o.n ≠ p.n then 140 else 0

set_option maxHeartbeats 1000000 in
theorem wright_any (o p : O) (A A' : Option Addr) (c c' : Nat) (w : World) (hx : Rd w w.heap.size A o.m) (hy : Rd w w.heap.size A' p.m) (hm : o.m.length ≤ 17592186044416) (hm' : p.m.length ≤ 17592186044416) :
    Calls Try.prog 35 #[.agg #[.int .i64 o.n, .bool o.e, .slice A o.m.length c], .agg #[.int .i64 p.n, .bool p.e, .slice A' p.m.length c']] w fun e w' => e = .returned (.int .i64 (pairErr o p)) ∧ Below w.heap.size w w' := by
  obtain ⟨n, e, m⟩ := o
  obtain ⟨n', e', m'⟩ := p
  dsimp only at *
  have i0 : ∀ W, (Instr.index 98 (.agg #[.int .i64 n, .bool e, .slice A m.length c, .int .i64 n', .bool e', .slice A' m'.length c']) (.int .i64 0)).run Try.prog W = .ok (.agg #[.int .i64 n, .bool e, .slice A m.length c]) W := fun _ => by kernel_rfl
  have i1 : ∀ W, (Instr.index 98 (.agg #[.int .i64 n, .bool e, .slice A m.length c, .int .i64 n', .bool e', .slice A' m'.length c']) (.int .i64 1)).run Try.prog W = .ok (.agg #[.int .i64 n', .bool e', .slice A' m'.length c']) W := fun _ => by kernel_rfl
  go_enter Try.func35, Try.ntmps35
  go_wp2
  have hb0 : Below w.heap.size w ((w.alloc (Obj.cells #[.int .i64 n, .bool e, .slice A m.length c] 24)).alloc (Obj.cells #[.int .i64 n', .bool e', .slice A' m'.length c'] 24)) := ((Below.refl _ _).alloc (Nat.le_refl _) _).alloc (by simp) _
  obtain ⟨b0, b1⟩ := blk_two (w := w) (Below.refl _ ((w.alloc (Obj.cells #[.int .i64 n, .bool e, .slice A m.length c] 24)).alloc (Obj.cells #[.int .i64 n', .bool e', .slice A' m'.length c'] 24)))
  have hs0 : w.heap.size + 2 ≤ ((w.alloc (Obj.cells #[.int .i64 n, .bool e, .slice A m.length c] 24)).alloc (Obj.cells #[.int .i64 n', .bool e', .slice A' m'.length c'] 24)).heap.size := by simp
  generalize (w.alloc (Obj.cells #[.int .i64 n, .bool e, .slice A m.length c] 24)).alloc (Obj.cells #[.int .i64 n', .bool e', .slice A' m'.length c'] 24) = w0 at *
  go_loopw [11] (fun i wr => (i = .int .i64 0 ∨ (i = .int .i64 1 ∧ check ⟨n, e, m⟩ = 0) ∨ (i = .int .i64 2 ∧ check ⟨n, e, m⟩ = 0 ∧ check ⟨n', e', m'⟩ = 0)) ∧ Below (w.heap.size + 2) w0 wr) (fun i _ => 2 - (intOf i).toNat)
  case atStart => exact ⟨.inl rfl, Below.refl _ _⟩
  case round =>
    obtain ⟨hi, hbr⟩ := hrel
    have hsr : w.heap.size + 2 ≤ wr.heap.size := Nat.le_trans hs0 hbr.size
    have hxr := (hx.below (hb0.trans (hbr.mono (by omega)))).more (B' := wr.heap.size) (by omega)
    have hyr := (hy.below (hb0.trans (hbr.mono (by omega)))).more (B' := wr.heap.size) (by omega)
    rcases hi with rfl | ⟨rfl, h1⟩ | ⟨rfl, h1, h2⟩
    · by_cases tc : check ⟨n, e, m⟩ = 0
      · have tn : (check ⟨n, e, m⟩ != 0) = false := by simp [tc]
        have TC := hid tc; clear tc
        go_wp2_with (go_at_call 60; refine (check_any ⟨n, e, m⟩ A c _ ((hxr.below ((Below.refl _ _).alloc (Nat.le_refl _) _)).more (by simp)) (by dsimp only; omega)).mono ?_; rintro e' w1 ⟨rfl, hb1⟩)
        go_roundw
        case rel => exact ⟨.inr (.inl ⟨rfl, TC.out⟩), bstep hbr hsr (((Below.refl _ _).alloc (Nat.le_refl _) _).trans (hb1.mono (by simp)))⟩
        case measure => simp [intOf]
      · have tn : (check ⟨n, e, m⟩ != 0) = true := by simp [tc]
        have TC := hid tc; clear tc
        go_wp2_with (go_at_call 60; refine (check_any ⟨n, e, m⟩ A c _ ((hxr.below ((Below.refl _ _).alloc (Nat.le_refl _) _)).more (by simp)) (by dsimp only; omega)).mono ?_; rintro e' w1 ⟨rfl, hb1⟩)
        go_ret
        exact ⟨ret64 (by unfold pairErr; rw [if_pos TC.out]), hb0.trans ((bstep hbr hsr (((Below.refl _ _).alloc (Nat.le_refl _) _).trans (hb1.mono (by simp)))).mono (by omega))⟩
    · have H1 := hid h1; clear h1
      by_cases tc : check ⟨n', e', m'⟩ = 0
      · have tn : (check ⟨n', e', m'⟩ != 0) = false := by simp [tc]
        have TC := hid tc; clear tc
        go_wp2_with (go_at_call 60; refine (check_any ⟨n', e', m'⟩ A' c' _ ((hyr.below ((Below.refl _ _).alloc (Nat.le_refl _) _)).more (by simp)) (by dsimp only; omega)).mono ?_; rintro e' w1 ⟨rfl, hb1⟩)
        go_roundw
        case rel => exact ⟨.inr (.inr ⟨rfl, H1.out, TC.out⟩), bstep hbr hsr (((Below.refl _ _).alloc (Nat.le_refl _) _).trans (hb1.mono (by simp)))⟩
        case measure => simp [intOf]
      · have tn : (check ⟨n', e', m'⟩ != 0) = true := by simp [tc]
        have TC := hid tc; clear tc
        go_wp2_with (go_at_call 60; refine (check_any ⟨n', e', m'⟩ A' c' _ ((hyr.below ((Below.refl _ _).alloc (Nat.le_refl _) _)).more (by simp)) (by dsimp only; omega)).mono ?_; rintro e' w1 ⟨rfl, hb1⟩)
        go_ret
        exact ⟨ret64 (by unfold pairErr; rw [if_neg (by simpa using H1.out), if_pos TC.out]), hb0.trans ((bstep hbr hsr (((Below.refl _ _).alloc (Nat.le_refl _) _).trans (hb1.mono (by simp)))).mono (by omega))⟩
    · have H1 := hid h1; have H2 := hid h2; clear h1 h2
      obtain ⟨x0, x1, x2, fx⟩ := octbox (b0.below hbr (by omega))
      obtain ⟨y0, y1, y2, fy⟩ := octbox (b1.below hbr (by omega))
      by_cases tn : n = n'
      · have tb : (n != n') = false := by simp [tn]
        have TN := hid tn; clear tn
        go_wp2
        go_ret
        exact ⟨ret64 (by unfold pairErr; rw [if_neg (by simpa using H1.out), if_neg (by simpa using H2.out), if_neg (by simpa using TN.out)]), hb0.trans (hbr.mono (by omega))⟩
      · have tb : (n != n') = true := by simp [tn]
        have TN := hid tn; clear tn
        go_wp2
        go_ret
        exact ⟨ret64 (by unfold pairErr; rw [if_neg (by simpa using H1.out), if_neg (by simpa using H2.out), if_pos (by simpa using TN.out)]), hb0.trans (hbr.mono (by omega))⟩

set_option maxHeartbeats 1000000 in
theorem oright_any (o p : O) (A A' : Option Addr) (c c' : Nat) (w : World) (hx : Rd w w.heap.size A o.m) (hy : Rd w w.heap.size A' p.m) (hm : o.m.length ≤ 17592186044416) (hm' : p.m.length ≤ 17592186044416) :
    Calls Try.prog 48 #[.agg #[.int .i64 o.n, .bool o.e, .slice A o.m.length c], .agg #[.int .i64 p.n, .bool p.e, .slice A' p.m.length c']] w fun e w' => e = .returned (.int .i64 (pairErr o p)) ∧ Below w.heap.size w w' := by
  obtain ⟨n, e, m⟩ := o
  obtain ⟨n', e', m'⟩ := p
  dsimp only at *
  have i0 : ∀ W, (Instr.index 98 (.agg #[.int .i64 n, .bool e, .slice A m.length c, .int .i64 n', .bool e', .slice A' m'.length c']) (.int .i64 0)).run Try.prog W = .ok (.agg #[.int .i64 n, .bool e, .slice A m.length c]) W := fun _ => by kernel_rfl
  have i1 : ∀ W, (Instr.index 98 (.agg #[.int .i64 n, .bool e, .slice A m.length c, .int .i64 n', .bool e', .slice A' m'.length c']) (.int .i64 1)).run Try.prog W = .ok (.agg #[.int .i64 n', .bool e', .slice A' m'.length c']) W := fun _ => by kernel_rfl
  go_enter Try.func48, Try.ntmps48
  go_wp2
  have hb0 : Below w.heap.size w ((w.alloc (Obj.cells #[.int .i64 n, .bool e, .slice A m.length c] 24)).alloc (Obj.cells #[.int .i64 n', .bool e', .slice A' m'.length c'] 24)) := ((Below.refl _ _).alloc (Nat.le_refl _) _).alloc (by simp) _
  obtain ⟨b0, b1⟩ := blk_two (w := w) (Below.refl _ ((w.alloc (Obj.cells #[.int .i64 n, .bool e, .slice A m.length c] 24)).alloc (Obj.cells #[.int .i64 n', .bool e', .slice A' m'.length c'] 24)))
  have hs0 : w.heap.size + 2 ≤ ((w.alloc (Obj.cells #[.int .i64 n, .bool e, .slice A m.length c] 24)).alloc (Obj.cells #[.int .i64 n', .bool e', .slice A' m'.length c'] 24)).heap.size := by simp
  generalize (w.alloc (Obj.cells #[.int .i64 n, .bool e, .slice A m.length c] 24)).alloc (Obj.cells #[.int .i64 n', .bool e', .slice A' m'.length c'] 24) = w0 at *
  go_loopw [11] (fun i wr => (i = .int .i64 0 ∨ (i = .int .i64 1 ∧ check ⟨n, e, m⟩ = 0) ∨ (i = .int .i64 2 ∧ check ⟨n, e, m⟩ = 0 ∧ check ⟨n', e', m'⟩ = 0)) ∧ Below (w.heap.size + 2) w0 wr) (fun i _ => 2 - (intOf i).toNat)
  case atStart => exact ⟨.inl rfl, Below.refl _ _⟩
  case round =>
    obtain ⟨hi, hbr⟩ := hrel
    have hsr : w.heap.size + 2 ≤ wr.heap.size := Nat.le_trans hs0 hbr.size
    have hxr := (hx.below (hb0.trans (hbr.mono (by omega)))).more (B' := wr.heap.size) (by omega)
    have hyr := (hy.below (hb0.trans (hbr.mono (by omega)))).more (B' := wr.heap.size) (by omega)
    rcases hi with rfl | ⟨rfl, h1⟩ | ⟨rfl, h1, h2⟩
    · by_cases tc : check ⟨n, e, m⟩ = 0
      · have tn : (check ⟨n, e, m⟩ != 0) = false := by simp [tc]
        have TC := hid tc; clear tc
        go_wp2_with (go_at_call 60; refine (check_any ⟨n, e, m⟩ A c _ ((hxr.below ((Below.refl _ _).alloc (Nat.le_refl _) _)).more (by simp)) (by dsimp only; omega)).mono ?_; rintro e' w1 ⟨rfl, hb1⟩)
        go_roundw
        case rel => exact ⟨.inr (.inl ⟨rfl, TC.out⟩), bstep hbr hsr (((Below.refl _ _).alloc (Nat.le_refl _) _).trans (hb1.mono (by simp)))⟩
        case measure => simp [intOf]
      · have tn : (check ⟨n, e, m⟩ != 0) = true := by simp [tc]
        have TC := hid tc; clear tc
        go_wp2_with (go_at_call 60; refine (check_any ⟨n, e, m⟩ A c _ ((hxr.below ((Below.refl _ _).alloc (Nat.le_refl _) _)).more (by simp)) (by dsimp only; omega)).mono ?_; rintro e' w1 ⟨rfl, hb1⟩)
        go_ret
        exact ⟨ret64 (by unfold pairErr; rw [if_pos TC.out]), hb0.trans ((bstep hbr hsr (((Below.refl _ _).alloc (Nat.le_refl _) _).trans (hb1.mono (by simp)))).mono (by omega))⟩
    · have H1 := hid h1; clear h1
      by_cases tc : check ⟨n', e', m'⟩ = 0
      · have tn : (check ⟨n', e', m'⟩ != 0) = false := by simp [tc]
        have TC := hid tc; clear tc
        go_wp2_with (go_at_call 60; refine (check_any ⟨n', e', m'⟩ A' c' _ ((hyr.below ((Below.refl _ _).alloc (Nat.le_refl _) _)).more (by simp)) (by dsimp only; omega)).mono ?_; rintro e' w1 ⟨rfl, hb1⟩)
        go_roundw
        case rel => exact ⟨.inr (.inr ⟨rfl, H1.out, TC.out⟩), bstep hbr hsr (((Below.refl _ _).alloc (Nat.le_refl _) _).trans (hb1.mono (by simp)))⟩
        case measure => simp [intOf]
      · have tn : (check ⟨n', e', m'⟩ != 0) = true := by simp [tc]
        have TC := hid tc; clear tc
        go_wp2_with (go_at_call 60; refine (check_any ⟨n', e', m'⟩ A' c' _ ((hyr.below ((Below.refl _ _).alloc (Nat.le_refl _) _)).more (by simp)) (by dsimp only; omega)).mono ?_; rintro e' w1 ⟨rfl, hb1⟩)
        go_ret
        exact ⟨ret64 (by unfold pairErr; rw [if_neg (by simpa using H1.out), if_pos TC.out]), hb0.trans ((bstep hbr hsr (((Below.refl _ _).alloc (Nat.le_refl _) _).trans (hb1.mono (by simp)))).mono (by omega))⟩
    · have H1 := hid h1; have H2 := hid h2; clear h1 h2
      obtain ⟨x0, x1, x2, fx⟩ := octbox (b0.below hbr (by omega))
      obtain ⟨y0, y1, y2, fy⟩ := octbox (b1.below hbr (by omega))
      by_cases tn : n = n'
      · have tb : (n != n') = false := by simp [tn]
        have TN := hid tn; clear tn
        go_wp2
        go_ret
        exact ⟨ret64 (by unfold pairErr; rw [if_neg (by simpa using H1.out), if_neg (by simpa using H2.out), if_neg (by simpa using TN.out)]), hb0.trans (hbr.mono (by omega))⟩
      · have tb : (n != n') = true := by simp [tn]
        have TN := hid tn; clear tn
        go_wp2
        go_ret
        exact ⟨ret64 (by unfold pairErr; rw [if_neg (by simpa using H1.out), if_neg (by simpa using H2.out), if_pos (by simpa using TN.out)]), hb0.trans (hbr.mono (by omega))⟩
end Go.Proofs.Ytanbplidigokgaa
