/-
  gnomonlaw22.WidenSame: the law's own walk.
-/
import Derived.Test.YtanbplidigokgaaLawWX
namespace Go.Proofs.Ytanbplidigokgaa
open Go.RowKit
attribute [local go_sem ↓] Go.wp_at_zero Go.wp_at_succ

theorem cellsF_self {F : Int → Int → Bool → Int} (h : ∀ x s, F x x s = x) (n : Int) (m : List Int) : cellsF F n m m = m := by
  apply List.ext_getElem
  · rw [cellsF_len]
  · intro i h1 h2
    rw [cellsF_len] at h1
    simp only [cellsF, List.getElem_map, List.getElem_range, h]
    unfold gI
    simp [List.getD, List.getElem?_eq_getElem h1]
theorem pairErr_self {o : O} (h : check o = 0) : pairErr o o = 0 := pairErr_0 h h rfl
theorem widenO_self {o : O} {steps : List Int} (h : check o = 0) : (widenO o o steps).1 = o := by
  unfold widenO
  rw [if_neg (by simpa using pairErr_self h)]
  by_cases he : o.e = true
  · rw [if_pos he]
  · rw [if_neg he, if_neg he, cellsF_self (fun x s => widenF_le (Int.le_refl x))]
    obtain ⟨n, e, m⟩ := o
    simp at he
    rw [he]
theorem narrowO_self {o : O} (h : check o = 0) : (narrowO o o).1 = o := by
  unfold narrowO
  rw [if_neg (by simpa using pairErr_self h)]
  by_cases he : o.e = true
  · rw [if_pos he]
  · rw [if_neg he, if_neg he, cellsF_self (fun x s => by simp)]
    obtain ⟨n, e, m⟩ := o
    simp at he
    rw [he]

set_option maxHeartbeats 1000000 in
theorem widenSame_walk (a : O) (steps : List Int) (A S : Option Addr) (c cs : Nat) (w : World) (hx : Rd w w.heap.size A a.m) (hs : Rd w w.heap.size S steps) (hm : a.m.length ≤ 17592186044416) (hms : steps.length ≤ 17592186044416) :
    Calls Try.prog 5 #[.agg #[.int .i64 a.n, .bool a.e, .slice A a.m.length c], .slice S steps.length cs] w fun e w' => e = .returned (.bool true) ∧ Below w.heap.size w w' := by
  obtain ⟨n, e, m⟩ := a
  dsimp only at *
  have hb0 : Below w.heap.size w (w.alloc (Obj.cells #[.int .i64 n, .bool e, .slice A m.length c] 24)) := new1 _ _
  have p0 := Blk.new w 24 #[.int .i64 n, .bool e, .slice A m.length c]
  replace hx := hx.up hb0
  replace hs := hs.up hb0
  by_cases hlen : 100 < steps.length
  · have hl : (100 : Int) < (steps.length : Int) := by omega
    go_enter Try.func5, Try.ntmps5
    go_wp2_with fail
    refine (known22_any _).mono ?_
    rintro e1 w1 ⟨rfl, hb1⟩
    go_wp2
    go_ret
    exact ⟨rfl, bup hb0 hb1⟩
  · have hl : ¬ (100 : Int) < (steps.length : Int) := by omega
    go_enter Try.func5, Try.ntmps5
    go_wp2_with fail
    refine (known22_any _).mono ?_
    generalize w.alloc (Obj.cells #[.int .i64 n, .bool e, .slice A m.length c] 24) = w0 at *
    rintro e1 w1 ⟨rfl, hb1⟩
    replace hx := hx.up hb1
    replace hs := hs.up hb1
    replace p0 := p0.later hb1
    replace hb0 := bup hb0 hb1
    clear hb1
    obtain ⟨x0, x1, x2, fx⟩ := octbox p0
    go_wp2_with fail
    refine (rcheck_any ⟨n, e, m⟩ A c w1 hx (by dsimp only; omega)).mono ?_
    rintro ee w2 ⟨rfl, hb2⟩
    clear x0 x1 x2 fx
    replace hx := hx.up hb2
    replace hs := hs.up hb2
    replace p0 := p0.later hb2
    replace hb0 := bup hb0 hb2
    clear hb2
    by_cases hk : check ⟨n, e, m⟩ = 0
    · have tk : (check ⟨n, e, m⟩ != 0) = false := by simp [hk]
      have hc := widen_any ⟨n, e, m⟩ ⟨n, e, m⟩ steps A A S c c cs w2 hx hx hs hm hm hms
      rw [widenO_err, pairErr_self hk, widenO_self hk] at hc
      have hn := fun (w : World) (h : Rd w w.heap.size A m) => narrow_any ⟨n, e, m⟩ ⟨n, e, m⟩ A A c c w h h hm hm
      rw [narrowO_err, pairErr_self hk, narrowO_self hk] at hn
      dsimp only at hn hc
      have hhk := hid hk
      clear hk
      obtain ⟨x0, x1, x2, fx⟩ := octbox p0
      go_wp2_with fail
      refine hc.mono ?_
      clear hc x0 x1 x2 fx
      rintro ee w3 ⟨B1, r1, rfl, own3, hb3⟩
      have s1 := own3.rd
      clear own3
      replace hx := hx.up hb3
      replace p0 := p0.later hb3
      replace hb0 := bup hb0 hb3
      clear hb3 hs
      have n4 := new1 w3 (.cells #[.int .i64 n, .bool e, .slice B1 m.length r1] 24)
      have k6 := Blk.new w3 24 #[.int .i64 n, .bool e, .slice B1 m.length r1]
      obtain ⟨x0, x1, x2, fx⟩ := octbox (p0.later n4)
      go_wp2_with fail
      replace s1 := s1.up n4
      replace hx := hx.up n4
      replace p0 := p0.later n4
      replace hb0 := bup hb0 n4
      clear n4 x0 x1 x2 fx
      generalize w3.alloc (.cells #[.int .i64 n, .bool e, .slice B1 m.length r1] 24) = w4 at *
      generalize w3.heap.size = g6 at *
      refine (hn _ hx).mono ?_
      clear hn
      rintro ee w5 ⟨B2, r2, rfl, own5, hb5⟩
      have s2 := own5.rd
      clear own5
      replace s1 := s1.up hb5
      replace hx := hx.up hb5
      replace p0 := p0.later hb5
      replace k6 := k6.later hb5
      replace hb0 := bup hb0 hb5
      clear hb5
      have n4 := new1 w5 (.cells #[.int .i64 n, .bool e, .slice B2 m.length r2] 24)
      have k7 := Blk.new w5 24 #[.int .i64 n, .bool e, .slice B2 m.length r2]
      obtain ⟨x0, x1, x2, fx⟩ := octbox (p0.later n4)
      obtain ⟨z0, z1, z2, fz⟩ := octbox (k6.later n4)
      go_wp2_with fail
      replace s1 := s1.up n4
      replace s2 := s2.up n4
      replace hx := hx.up n4
      replace p0 := p0.later n4
      replace k6 := k6.later n4
      replace hb0 := bup hb0 n4
      clear n4 x0 x1 x2 fx z0 z1 z2 fz
      generalize w5.alloc (.cells #[.int .i64 n, .bool e, .slice B2 m.length r2] 24) = w6 at *
      generalize w5.heap.size = g7 at *
      refine (oct_self ⟨n, e, m⟩ B1 A r1 c w6 s1 hx hm).mono ?_
      rintro ee w7 ⟨rfl, hb7⟩
      replace s2 := s2.up hb7
      replace hx := hx.up hb7
      replace p0 := p0.later hb7
      replace k7 := k7.later hb7
      replace hb0 := bup hb0 hb7
      obtain ⟨x0, x1, x2, fx⟩ := octbox p0
      obtain ⟨q0, q1, q2, fq⟩ := octbox k7
      go_wp2_with fail
      refine (oct_self ⟨n, e, m⟩ B2 A r2 c w7 s2 hx hm).mono ?_
      rintro ee w8 ⟨rfl, hb8⟩
      go_wp2
      go_ret
      exact ⟨rfl, bup hb0 hb8⟩
    · have tk : (check ⟨n, e, m⟩ != 0) = true := by simp [hk]
      have hhk := hid hk
      clear hk
      go_wp2
      go_ret
      exact ⟨rfl, hb0⟩
end Go.Proofs.Ytanbplidigokgaa
