/-
  gnomonlaw22.upTo, gnomonlaw22.known: known answers true.
-/
import Derived.Test.YtanbplidigokgaaRefWiden
import Derived.Test.YtanbplidigokgaaEq
namespace Go.Proofs.Ytanbplidigokgaa
open Go.RowKit
attribute [local go_sem ↓] Go.wp_at_zero Go.wp_at_succ

theorem new1 (w : World) (o : Obj) : Below w.heap.size w (w.alloc o) := (Below.refl _ _).alloc (Nat.le_refl _) _
theorem bup {w0 w w' : World} (h : Below w0.heap.size w0 w) (hb : Below w.heap.size w w') : Below w0.heap.size w0 w' := h.trans (hb.mono h.size)
theorem Rd.up {w w' : World} {A : Option Addr} {xs : List Int} (h : Rd w w.heap.size A xs) (hb : Below w.heap.size w w') : Rd w' w'.heap.size A xs := (h.below hb).more hb.size
theorem Blk.rd {w : World} {g : Nat} {t : TypeId} {xs : List Int} (h : Blk w g t (i64s xs).toArray) : Rd w w.heap.size (some ⟨g, 0, none⟩) xs := fun k hk =>
  ⟨g, 0, rfl, h.lt, by rw [Nat.zero_add, h.cell k, List.getElem?_toArray, i64s_get xs hk]⟩

set_option maxHeartbeats 400000 in
theorem upto_any (n m : Int) (hn : 0 ≤ n) (hn' : n ≤ 1000) (hm : 2 * n = m) (w : World) :
    Calls Try.prog 34 #[.int .i64 n] w (OctRes w ⟨1, false, [0, m, 9223372036854775807, 0]⟩) := by
  have HM := hid hm; clear hm
  go_enter Try.func34, Try.ntmps34
  go_wp2
  refine bodyPost_ret (v := .agg #[.int .i64 1, .bool false, .slice (some ⟨w.heap.size + 1, 0, none⟩) 4 4]) (by simp [results, Try.results34, go_sem]) rfl (octRes (some ⟨w.heap.size + 1, 0, none⟩) 4 rfl ?_ ?_)
  · have hb := Blk.new (w.alloc (Obj.cells #[.int .i64 1, .bool false, .slice (some ⟨w.heap.size + 1, 0, none⟩) 4 4] 24)) 2 (i64s [0, 2 * n, 9223372036854775807, 0]).toArray
    rw [World.size_alloc] at hb
    rw [← HM.out]
    exact hb.rd
  · exact ((Below.refl _ _).alloc (Nat.le_refl _) _).alloc (by simp) _

theorem kW : widenO ⟨1, false, [0, 2, 9223372036854775807, 0]⟩ ⟨1, false, [0, 4, 9223372036854775807, 0]⟩ [0, 5] = (⟨1, false, [0, 10, 9223372036854775807, 0]⟩, 0) := by
  have h1 : (widenO ⟨1, false, [0, 2, 9223372036854775807, 0]⟩ ⟨1, false, [0, 4, 9223372036854775807, 0]⟩ [0, 5]).1.m = [0, 10, 9223372036854775807, 0] := by decide +kernel
  have h2 : (widenO ⟨1, false, [0, 2, 9223372036854775807, 0]⟩ ⟨1, false, [0, 4, 9223372036854775807, 0]⟩ [0, 5]).1.n = 1 := by decide +kernel
  have h3 : (widenO ⟨1, false, [0, 2, 9223372036854775807, 0]⟩ ⟨1, false, [0, 4, 9223372036854775807, 0]⟩ [0, 5]).1.e = false := by decide +kernel
  have h4 : (widenO ⟨1, false, [0, 2, 9223372036854775807, 0]⟩ ⟨1, false, [0, 4, 9223372036854775807, 0]⟩ [0, 5]).2 = 0 := by decide +kernel
  generalize widenO ⟨1, false, [0, 2, 9223372036854775807, 0]⟩ ⟨1, false, [0, 4, 9223372036854775807, 0]⟩ [0, 5] = q at *
  obtain ⟨⟨n, e, m⟩, x⟩ := q
  dsimp only at h1 h2 h3 h4
  rw [h1, h2, h3, h4]
theorem kN : narrowO ⟨1, false, [0, 9223372036854775807, 9223372036854775807, 0]⟩ ⟨1, false, [0, 18, 9223372036854775807, 0]⟩ = (⟨1, false, [0, 18, 9223372036854775807, 0]⟩, 0) := by
  have h1 : (narrowO ⟨1, false, [0, 9223372036854775807, 9223372036854775807, 0]⟩ ⟨1, false, [0, 18, 9223372036854775807, 0]⟩).1.m = [0, 18, 9223372036854775807, 0] := by decide +kernel
  have h2 : (narrowO ⟨1, false, [0, 9223372036854775807, 9223372036854775807, 0]⟩ ⟨1, false, [0, 18, 9223372036854775807, 0]⟩).1.n = 1 := by decide +kernel
  have h3 : (narrowO ⟨1, false, [0, 9223372036854775807, 9223372036854775807, 0]⟩ ⟨1, false, [0, 18, 9223372036854775807, 0]⟩).1.e = false := by decide +kernel
  have h4 : (narrowO ⟨1, false, [0, 9223372036854775807, 9223372036854775807, 0]⟩ ⟨1, false, [0, 18, 9223372036854775807, 0]⟩).2 = 0 := by decide +kernel
  generalize narrowO ⟨1, false, [0, 9223372036854775807, 9223372036854775807, 0]⟩ ⟨1, false, [0, 18, 9223372036854775807, 0]⟩ = q at *
  obtain ⟨⟨n, e, m⟩, x⟩ := q
  dsimp only at h1 h2 h3 h4
  rw [h1, h2, h3, h4]

theorem oct4_true (a b c d : Int) (A A' : Option Addr) (c1 c2 : Nat) (w : World) (hx : Rd w w.heap.size A [a, b, c, d]) (hy : Rd w w.heap.size A' [a, b, c, d]) :
    Calls Try.prog 15 #[.agg #[.int .i64 1, .bool false, .slice A 4 c1], .agg #[.int .i64 1, .bool false, .slice A' 4 c2]] w fun e w' => e = .returned (.bool true) ∧ Below w.heap.size w w' :=
  (oct_any ⟨1, false, [a, b, c, d]⟩ ⟨1, false, [a, b, c, d]⟩ A A' c1 c2 w hx hy (by simp)).mono fun _ _ ⟨he, hb⟩ => ⟨he.trans (retb ((eqO_iff _ _).2 rfl)), hb⟩
theorem upto4 (n m : Int) (hn : 0 ≤ n) (hn' : n ≤ 1000) (hm : 2 * n = m) (w : World) :
    Calls Try.prog 34 #[.int .i64 n] w fun e w' => ∃ A1 c1, e = .returned (.agg #[.int .i64 1, .bool false, .slice A1 4 c1]) ∧ Rd w' w'.heap.size A1 [0, m, 9223372036854775807, 0] ∧ Below w.heap.size w w' :=
  upto_any n m hn hn' hm w

set_option maxHeartbeats 1000000 in
theorem known22_any (w : World) :
    Calls Try.prog 10 #[] w fun e w' => e = .returned (.bool true) ∧ Below w.heap.size w w' := by
  go_enter Try.func10, Try.ntmps10
  go_wp2_with fail
  refine (upto_any 1 2 (by omega) (by omega) rfl _).mono ?_
  rintro e1 w1 ⟨A1, c1, rfl, r1, hb1⟩
  dsimp only at r1 ⊢
  go_wp2_with fail
  refine (upto_any 2 4 (by omega) (by omega) rfl _).mono ?_
  rintro e2 w2 ⟨A2, c2, rfl, r2, hb2⟩
  dsimp only at r2 ⊢
  go_wp2_with fail
  have hlit := Blk.new w2 2 (i64s [0, 5]).toArray
  have hba : Below w2.heap.size w2 (w2.alloc (.cells (i64s [0, 5]).toArray 2)) := (Below.refl _ _).alloc (Nat.le_refl _) _
  have hc := widen_any ⟨1, false, [0, 2, 9223372036854775807, 0]⟩ ⟨1, false, [0, 4, 9223372036854775807, 0]⟩ [0, 5] A1 A2 (some ⟨w2.heap.size, 0, none⟩) c1 c2 2 (w2.alloc (.cells (i64s [0, 5]).toArray 2))
    (((r1.below hb2).more hb2.size).below hba |>.more hba.size) ((r2.below hba).more hba.size) hlit.rd (by simp) (by simp) (by simp)
  rw [kW] at hc
  refine hc.mono ?_
  rintro e3 w3 ⟨A3, c3, rfl, own3, hb3⟩
  dsimp only at own3 ⊢
  clear hc hlit
  have hbw3 : Below w.heap.size w w3 := hb1.trans ((hb2.trans ((hba.trans (hb3.mono hba.size)).mono hb2.size)).mono hb1.size)
  have r3 := own3.rd
  clear own3 r1 r2 hba hb3 hb2 hb1
  go_wp2_with fail
  have n4 := new1 w3 (.cells #[.int .i64 1, .bool false, .slice A3 4 c3] 24)
  have bx := Blk.new w3 24 #[.int .i64 1, .bool false, .slice A3 4 c3]
  have r4 := r3.up n4
  have hbw4 := bup hbw3 n4
  have hs4 : (w3.alloc (.cells #[.int .i64 1, .bool false, .slice A3 4 c3] 24)).heap.size = w3.heap.size + 1 := by simp
  generalize w3.alloc (.cells #[.int .i64 1, .bool false, .slice A3 4 c3] 24) = w4 at *
  have n5 := new1 w4 (.cells (i64s [0, 9223372036854775807, 9223372036854775807, 0]).toArray 2)
  have l5 := (Blk.new w4 2 (i64s [0, 9223372036854775807, 9223372036854775807, 0]).toArray).rd
  rw [hs4] at l5
  have bx5 := bx.later n5
  have r5 := r4.up n5
  have hbw5 := bup hbw4 n5
  refine Calls.mono (R := OctRes (w4.alloc (.cells (i64s [0, 9223372036854775807, 9223372036854775807, 0]).toArray 2)) ⟨1, false, [0, 18, 9223372036854775807, 0]⟩) (upto_any 9 18 (by omega) (by omega) rfl _) ?_
  generalize w4.alloc (.cells (i64s [0, 9223372036854775807, 9223372036854775807, 0]).toArray 2) = w5 at *
  rintro e6 w6 ⟨A6, c6, rfl, r6, hb6⟩
  dsimp only at r6 ⊢
  have l6 := l5.up hb6
  have r36 := r5.up hb6
  have bx6 := bx5.later hb6
  have hbw6 := bup hbw5 hb6
  clear bx bx5 r3 r4 r5 l5 n4 n5 hbw3 hbw4 hbw5 hb6 hs4
  go_wp2_with fail
  have hc := narrow_any ⟨1, false, [0, 9223372036854775807, 9223372036854775807, 0]⟩ ⟨1, false, [0, 18, 9223372036854775807, 0]⟩ (some ⟨w3.heap.size + 1, 0, none⟩) A6 4 c6 w6 l6 r6 (by simp) (by simp)
  rw [kN] at hc
  refine hc.mono ?_
  rintro e7 w7 ⟨A7, c7, rfl, own7, hb7⟩
  dsimp only at own7 ⊢
  have r7 := own7.rd
  have r37 := r36.up hb7
  have bx7 := bx6.later hb7
  have hbw7 := bup hbw6 hb7
  have hlt7 := bx7.lt
  clear hc own7 l6 r6 r36 bx6 hbw6 hb7
  go_wp2_with fail
  have n8 := new1 w7 (.cells #[.int .i64 1, .bool false, .slice A7 4 c7] 24)
  have by8 := Blk.new w7 24 #[.int .i64 1, .bool false, .slice A7 4 c7]
  have r8 := r7.up n8
  have r38 := r37.up n8
  have bx8 := bx7.later n8
  have hbw8 := bup hbw7 n8
  clear r7 r37 bx7 hbw7 n8
  generalize w7.alloc (.cells #[.int .i64 1, .bool false, .slice A7 4 c7] 24) = w8 at *
  obtain ⟨x0, x1, x2, fx⟩ := octbox bx8
  obtain ⟨y0, y1, y2, fy⟩ := octbox by8
  have m38 : Rd w8.drew w8.drew.heap.size A3 [0, 10, 9223372036854775807, 0] := r38
  have m8 : Rd w8.drew w8.drew.heap.size A7 [0, 18, 9223372036854775807, 0] := r8
  have m0 : Below w.heap.size w w8.drew := hbw8.drew
  go_region_held3 (fun W => W.cell? ⟨w3.heap.size, 0, none⟩ = some (.int .i64 1) ∧ W.cell? ⟨w3.heap.size, 1, none⟩ = some (.bool false) ∧ W.cell? ⟨w3.heap.size, 2, none⟩ = some (.slice A3 4 c3) ∧ W.cell? ⟨w7.heap.size, 0, none⟩ = some (.int .i64 1) ∧ W.cell? ⟨w7.heap.size, 1, none⟩ = some (.bool false) ∧ W.cell? ⟨w7.heap.size, 2, none⟩ = some (.slice A7 4 c7)) (first | go_keep | (refine ⟨?_, ?_, ?_, ?_, ?_, ?_⟩ <;> (refine cell_later ‹Below _ _ _› ?_; first | assumption | go_keep)))
    (first
      | (go_at_call 34; (with_reducible refine (upto4 5 10 (by omega) (by omega) (by omega) _).mono ?_); rintro e9 u1 ⟨B1, d1, rfl, q1, hu1⟩)
      | (go_at_call 34; (with_reducible refine (upto4 9 18 (by omega) (by omega) (by omega) _).mono ?_); rintro e9 u3 ⟨B2, d2, rfl, q2, hu3⟩)
      | (go_at_call 15; (with_reducible refine (oct4_true _ _ _ _ A3 B1 c3 d1 _ (m38.up hu1) q1).mono ?_); rintro e9 u2 ⟨rfl, hu2⟩)
      | (go_at_call 15; (with_reducible refine (oct4_true _ _ _ _ A7 B2 c7 d2 _ (((m8.up hu1).up hu2).up hu3) q2).mono ?_); rintro e9 u4 ⟨rfl, hu4⟩))
  go_wp2
  go_ret
  exact ⟨rfl, bup (bup (bup (bup m0 hu1) hu2) hu3) hu4⟩
end Go.Proofs.Ytanbplidigokgaa
