/-
  The document's Bound of octagons that may be: what it answers, and which block alone it changes.
-/
import Derived.Test.YtnmpgijiimglcaaGreatBTG25
import Derived.Test.YtnmpgijiimglcaaGreatRTop
import Derived.Test.YtnmpgijiimglcaaGreatLawWX
namespace Go.Proofs.YtnmpgijiimglcaaGreat
open Go.RowKit
attribute [local go_sem ↓] Go.wp_at_zero Go.wp_at_succ

theorem grown3 {W : World} {g : Nat} {v0 v1 v2 : Value} : W.grownBy (((W.setCell ⟨g, 0, none⟩ v0).setCell ⟨g, 1, none⟩ v1).setCell ⟨g, 2, none⟩ v2) (some g) :=
  ((grown_setCell W ⟨g, 0, none⟩ v0).trans (grown_setCell _ ⟨g, 1, none⟩ v1)).trans (grown_setCell _ ⟨g, 2, none⟩ v2)
/-- What stood is kept, but for the row that came in. -/
def rowB (A : Option Addr) : Option Nat := A.map (·.block)
theorem Blk.kept {w w' : World} {g : Nat} {t : TypeId} {cs : Array Value} {row : Option Nat} (h : Blk w g t cs) (hg : w.grownBy w' row) (hr : row ≠ some g) : Blk w' g t cs :=
  (hg.block g h.lt (fun e => hr e.symm)).trans h
theorem row_ne {w : World} {base cap k : Nat} {A : Option Addr} {xs : List Int} {t : TypeId} {cs : Array Value} (h : Own w base A cap xs) (hk : Blk w k t cs) (ht : t ≠ 2) : rowB A ≠ some k := by
  rcases h.form with ⟨rfl, _⟩ | ⟨g, rfl, _⟩
  · simp [rowB]
  · intro e
    simp only [rowB, Option.map_some, Option.some.injEq] at e
    exact own_blk' h hk ht g rfl e
/-- An octagon over the row that came in, or a new one; only that row is changed. -/
def RRes (w : World) (base : Nat) (A : Option Addr) (c : Nat) (o : O) (e : Ending) (w' : World) : Prop :=
  ∃ A1 c1, e = .returned (.agg #[.int .i64 o.n, .bool o.e, .slice A1 o.m.length c1]) ∧ Own w' base A1 c1 o.m ∧ (A1 = A ∨ ∀ k, rowB A1 = some k → w.heap.size ≤ k) ∧ w.grownBy w' (rowB A) ∧ (o.e = false → A1 = A ∧ c1 = c)
set_option maxRecDepth 8000 in
set_option maxHeartbeats 4000000 in
theorem rbound2_ok (n : Int) (m : List Int) (N i j base : Nat) (v : Int) (A : Option Addr) (c : Nat) (w : World) (own : Own w base A c m) (hbase : base ≤ w.heap.size) (hN : (N : Int) = 2 * n) (hn : N ≤ 128) (hl : m.length = N * N) (hi : i < N) (hj : j < N) (hij : i ≠ j) :
    Calls Tryz.prog 52 #[.agg #[.int .i64 n, .bool false, .slice A m.length c], .int .i64 (i : Int), .int .i64 (j : Int), .int .i64 v] w fun e w' => e = .returned (.agg #[.int .i64 n, .bool false, .slice A m.length c]) ∧ Own w' base A c (boundM N i j v m) ∧ w.grownBy w' (A.map (·.block)) := by
  have hb0 : Below w.heap.size w ((w.alloc (Obj.cells #[.int .i64 n, .bool false, .slice A m.length c] 24)).alloc (Obj.cells #[.int .i64 0, .bool false, .slice none 0 0] 24)) := ((Below.refl _ _).alloc (Nat.le_refl _) _).alloc (by simp) _
  obtain ⟨p0, p1⟩ := blk_two (w := w) (Below.refl _ ((w.alloc (Obj.cells #[.int .i64 n, .bool false, .slice A m.length c] 24)).alloc (Obj.cells #[.int .i64 0, .bool false, .slice none 0 0] 24)))
  have hni := nx_lt hN hi
  have hnj := nx_lt hN hj
  have HIA := hid (idxr_ok hN hi hj hn)
  have HID := hid (idxr_ok hN hnj hni hn)
  have hp1 : w.heap.size + 1 < ((w.alloc (Obj.cells #[.int .i64 n, .bool false, .slice A m.length c] 24)).alloc (Obj.cells #[.int .i64 0, .bool false, .slice none 0 0] 24)).heap.size := p1.lt
  have ho : ∀ g, A = some ⟨g, 0, none⟩ → g < w.heap.size := by
    rcases own.form with ⟨rfl, _⟩ | ⟨g', rfl, _, h'⟩
    · intro g hg; cases hg
    · intro g hg; injection hg with hg; injection hg with hg; omega
  replace own := own.below hb0
  have hn0 : 0 ≤ 2 * n := by omega
  have hn1 : 2 * n ≤ 128 := by omega
  have HL := hid hl
  rw [← hl] at HIA HID
  have HV : Hid (boundV N i j v m = if near v < gI m ((i * N + j : Nat) : Int) then near v else gI m ((i * N + j : Nat) : Int)) := hid rfl
  have HM : Hid (boundM N i j v m = (m.set (i * N + j) (boundV N i j v m)).set (nx j * N + nx i) (boundV N i j v m)) := hid rfl
  generalize boundM N i j v m = bm at *
  have tij : ((i : Int) == (j : Int)) = false := by rw [beq_eq_false_iff_ne]; omega
  clear hN hl
  go_enter Tryz.func52, Tryz.ntmps52
  go_wp2_with fail
  refine (rnear_any _ _).mono ?_
  rintro e1 w1 ⟨rfl, rfl⟩
  generalize (w.alloc (Obj.cells #[.int .i64 n, .bool false, .slice A m.length c] 24)).alloc (Obj.cells #[.int .i64 0, .bool false, .slice none 0 0] 24) = w0 at *
  generalize near v = vn at *
  obtain ⟨x0, x1, x2, fx⟩ := octbox p0
  obtain ⟨a1, a2, a3, a4, a5, a6⟩ := HIA.out
  obtain ⟨d1, d2, d3, d4, d5, d6⟩ := HID.out
  go_upto_region 9 with fail
  have f2 := later x2
  clear x0 x1 x2 fx
  obtain ⟨g1, o1, rfl, _, c4⟩ := own.rd (i * N + j) a4
  have hg0 : o1 = 0 := by
    rcases own.form with ⟨h, _⟩ | ⟨g, h, _⟩
    · cases h
    · injection h with h; injection h
  subst hg0
  have hg1 : base ≤ g1 := by
    rcases own.form with ⟨h, _⟩ | ⟨g, h, h', _⟩
    · cases h
    · injection h with h; injection h with h; omega
  have hg1w : g1 < w.heap.size := ho g1 rfl
  generalize hx : gI m ((i * N + j : Nat) : Int) = x at *
  have f4 := later c4
  rw [Nat.zero_add] at f4
  have fz := own.frozen (i * N + j)
  refine wp_region_flow 18 (fun X => Below w0.heap.size w0 X) (by kernel_rfl) (by kernel_rfl) (Below.refl _ _).drew ?_
  (repeat (first | (refine Flow.skip (by rfl) ?_; simp only [Act.put, List.setIfInBounds_toArray, List.set_cons_zero, List.set_cons_succ]) | (refine' Flow.take _ (by rfl) (fun W hW R hR => ?_) ?_; rotate_left; (go_simp; (try go_bits); with_reducible exact hR); simp only [Act.put, List.setIfInBounds_toArray, List.set_cons_zero, List.set_cons_succ])))
  intro W2 hW2
  clear f4 f2 c4
  replace own := own.below hW2
  replace p0 := p0.later hW2
  replace p1 := p1.later hW2
  have hbw := bup hb0 hW2
  have fz := own.frozen (i * N + j)
  have c4 : W2.cell? ⟨g1, i * N + j, none⟩ = some (.int .i64 x) := by
    obtain ⟨g2, o2, e2, _, c4⟩ := own.rd (i * N + j) a4
    obtain ⟨rfl, rfl⟩ : g1 = g2 ∧ 0 = o2 := by simpa using e2
    rw [Nat.zero_add, hx] at c4
    exact c4
  have hV := HV.out
  generalize (if vn < x then vn else x) = y at *
  rw [hV] at HM
  go_upto_region 10 with fail
  clear c4 fz
  have hp0 := p0.lt
  have own1 := own.store (i * N + j) y
  replace p0 := p0.far (p := ⟨g1, i * N + j, none⟩) (by simp; omega) (.int .i64 y)
  replace p1 := p1.far (p := ⟨g1, i * N + j, none⟩) (by simp; omega) (.int .i64 y)
  have hbs : w.grownBy (W2.setCell ⟨g1, i * N + j, none⟩ (.int .i64 y)) (some g1) := (grown_of_below hbw (some g1)).trans (grown_setCell W2 ⟨g1, i * N + j, none⟩ (.int .i64 y))
  have hgy : gI (m.set (i * N + j) y) ((i * N + j : Nat) : Int) = y := by
    have := gI_put m (i * N + j) y (i * N + j) a4
    rw [if_pos rfl] at this; exact this
  have HGY := hid hgy
  clear hgy own hbw hW2
  generalize W2.setCell ⟨g1, i * N + j, none⟩ (.int .i64 y) = W3 at *
  obtain ⟨x0, x1, x2, fx⟩ := octbox p0
  have f2 := later x2
  clear x0 x1 x2 fx
  have f4 : ∀ X, Below W3.heap.size W3 X → X.cell? ⟨g1, i * N + j, none⟩ = some (.int .i64 y) := by
    obtain ⟨g2, o2, e2, _, c4⟩ := own1.rd (i * N + j) (by rw [List.length_set]; exact a4)
    obtain ⟨rfl, rfl⟩ : g1 = g2 ∧ 0 = o2 := by simpa using e2
    rw [Nat.zero_add, HGY.out] at c4
    exact later c4
  refine wp_region_flow 18 (fun X => Below W3.heap.size W3 X) (by kernel_rfl) (by kernel_rfl) (Below.refl _ _).drew ?_
  (repeat (first | (refine Flow.skip (by rfl) ?_; simp only [Act.put, List.setIfInBounds_toArray, List.set_cons_zero, List.set_cons_succ]) | (refine' Flow.take _ (by rfl) (fun W hW R hR => ?_) ?_; rotate_left; (go_simp; (try go_bits); with_reducible exact hR); simp only [Act.put, List.setIfInBounds_toArray, List.set_cons_zero, List.set_cons_succ])))
  (refine Flow.call 61 #[.int .i64 (j : Int)] (.int .i64 ((nx j : Nat) : Int)) (by rfl) (fun X hX => by go_simp) (fun X hX => (across_nx j _ (by omega)).mono fun e' w' ⟨he, hw⟩ => ⟨he, hw ▸ hX⟩) ?_; simp only [Act.put, List.setIfInBounds_toArray, List.set_cons_zero, List.set_cons_succ])
  (repeat (first | (refine Flow.skip (by rfl) ?_; simp only [Act.put, List.setIfInBounds_toArray, List.set_cons_zero, List.set_cons_succ]) | (refine' Flow.take _ (by rfl) (fun W hW R hR => ?_) ?_; rotate_left; (go_simp; (try go_bits); with_reducible exact hR); simp only [Act.put, List.setIfInBounds_toArray, List.set_cons_zero, List.set_cons_succ])))
  (refine Flow.call 61 #[.int .i64 (i : Int)] (.int .i64 ((nx i : Nat) : Int)) (by rfl) (fun X hX => by go_simp) (fun X hX => (across_nx i _ (by omega)).mono fun e' w' ⟨he, hw⟩ => ⟨he, hw ▸ hX⟩) ?_; simp only [Act.put, List.setIfInBounds_toArray, List.set_cons_zero, List.set_cons_succ])
  (repeat (first | (refine Flow.skip (by rfl) ?_; simp only [Act.put, List.setIfInBounds_toArray, List.set_cons_zero, List.set_cons_succ]) | (refine' Flow.take _ (by rfl) (fun W hW R hR => ?_) ?_; rotate_left; (go_simp; (try go_bits); with_reducible exact hR); simp only [Act.put, List.setIfInBounds_toArray, List.set_cons_zero, List.set_cons_succ])))
  intro W4 hW4
  clear f4 f2
  replace own1 := own1.below hW4
  replace p0 := p0.later hW4
  replace p1 := p1.later hW4
  replace hbs := hbs.trans (grown_of_below hW4 (some g1))
  obtain ⟨g2, o2, e2, _, c4⟩ := own1.rd (nx j * N + nx i) (by rw [List.length_set]; exact d4)
  obtain ⟨rfl, rfl⟩ : g1 = g2 ∧ 0 = o2 := by simpa using e2
  clear e2
  have fz := own1.frozen (nx j * N + nx i)
  rw [Nat.zero_add] at c4
  go_upto_region 11 with fail
  clear c4 fz
  have hp0' := p0.lt
  replace own1 := own1.store (nx j * N + nx i) y
  replace p0 := p0.far (p := ⟨g1, nx j * N + nx i, none⟩) (by simp; omega) (.int .i64 y)
  replace p1 := p1.far (p := ⟨g1, nx j * N + nx i, none⟩) (by simp; omega) (.int .i64 y)
  replace hbs := hbs.trans (grown_setCell W4 ⟨g1, nx j * N + nx i, none⟩ (.int .i64 y))
  rw [← HM.out] at own1
  generalize W4.setCell ⟨g1, nx j * N + nx i, none⟩ (.int .i64 y) = W5 at *
  obtain ⟨x0, x1, x2, fx⟩ := octbox p0
  obtain ⟨y0, y1, y2, fy⟩ := octbox p1
  go_wp2
  clear x0 x1 x2 fx y0 y1 y2 fy
  have q3 := p1.set3 (v0 := .int .i64 n) (v1 := .bool false) (v2 := .slice (some ⟨g1, 0, none⟩) m.length c)
  have o3 := own1.far3 (g := w.heap.size + 1) (v0 := .int .i64 n) (v1 := .bool false) (v2 := .slice (some ⟨g1, 0, none⟩) m.length c) (own_blk' own1 p1 (by decide))
  obtain ⟨z0, z1, z2, fz⟩ := octbox q3
  exact bodyPost_ret (v := .agg #[.int .i64 n, .bool false, .slice (some ⟨g1, 0, none⟩) m.length c]) (by simp [results, Tryz.results52, go_sem, z0, z1, z2]) rfl ⟨rfl, o3, hbs.andThen (grown3 (g := w.heap.size + 1)) (fun k e => .inl (by injection e with e; omega))⟩

theorem rgrow_of {w w' : World} {A : Option Addr} (h : Below w.heap.size w w') : w.grownBy w' (rowB A) := grown_of_below h _

set_option maxRecDepth 8000 in
set_option maxHeartbeats 2000000 in
theorem rbound_o (n : Int) (o : O) (ok : OkO n o) (i j base : Nat) (hi : (i : Int) < 2 * n) (hj : (j : Int) < 2 * n) (hij : i ≠ j) (v : Int) (A : Option Addr) (c : Nat) (w : World) (own : Own w base A c o.m) (hbase : base ≤ w.heap.size) :
    Calls Tryz.prog 52 #[.agg #[.int .i64 o.n, .bool o.e, .slice A o.m.length c], .int .i64 (i : Int), .int .i64 (j : Int), .int .i64 v] w (RRes w base A c (withO o i j v)) := by
  rcases ok.form with rfl | ⟨N, m, hN, hn, rfl, hc⟩
  · -- nothing is there
    have hW : withO (emptyO n) i j v = ⟨n, true, []⟩ := rfl
    rw [hW]
    unfold emptyO at *
    dsimp only at *
    obtain ⟨p0, p1, hb0, hsz⟩ := new_two w #[.int .i64 n, .bool true, .slice A 0 c] #[.int .i64 0, .bool false, .slice none 0 0] 24 24
    clear hsz
    obtain ⟨x0, x1, x2, fx⟩ := octbox p0
    simp only [List.length_nil]
    go_enter Tryz.func52, Tryz.ntmps52
    obtain ⟨y0, y1, y2, fy⟩ := octbox p1
    go_wp2
    clear x0 x1 x2 fx y0 y1 y2 fy
    refine bodyPost_ret (v := .agg #[.int .i64 n, .bool true, .slice A 0 c]) (by simp [results, Tryz.results52, go_sem]) rfl ?_
    refine ⟨A, c, rfl, own.below ?_, .inl rfl, rgrow_of ?_, fun h => by cases h⟩
    all_goals repeat (first | exact Below.refl _ _ | refine Below.setCell ?_ (by simp) _ | refine Below.alloc ?_ (by simp) _)
  · have HB := rbound2_ok n m N i j base v A c w own hbase hN hn hc.len (by omega) (by omega) hij
    refine HB.mono ?_
    rintro e w' ⟨rfl, ho, hg⟩
    have hW : withO ⟨n, false, m⟩ i j v = ⟨n, false, boundM N i j v m⟩ := by
      unfold withO; rw [if_neg (by simp), if_neg hij]; dsimp only; rw [show (2 * n).toNat = N by omega]
    rw [hW]
    exact ⟨A, c, by rw [boundM_len], ho, .inl rfl, hg, fun _ => ⟨rfl, rfl⟩⟩
theorem withO_e {o : O} {i j : Nat} {c : Int} (h : (withO o i j c).e = false) : o.e = false := by
  cases he : o.e
  · rfl
  · unfold withO at h; rw [he, if_pos rfl] at h; cases h
/-- The frame of a walk that changes one row in place: the row is now A1. -/
def Fr (w W : World) (A A1 : Option Addr) : Prop := (A1 = A ∨ ∀ k, rowB A1 = some k → w.heap.size ≤ k) ∧ w.grownBy W (rowB A)
section
variable {w W W' : World} {A A1 A2 : Option Addr} {g base c : Nat} {v0 v1 v2 : Value} {m : List Int}
theorem Fr.refl (w : World) (A : Option Addr) : Fr w w A A := ⟨.inl rfl, World.grownBy.refl _ _⟩
theorem Fr.size (h : Fr w W A A1) : w.heap.size ≤ W.heap.size := h.2.size
theorem Fr.below (h : Fr w W A A1) (hb : Below W.heap.size W W') : Fr w W' A A1 := ⟨h.1, h.2.trans (grown_of_below hb _)⟩
theorem Fr.call (h : Fr w W A A1) (ha : A2 = A1 ∨ ∀ k, rowB A2 = some k → W.heap.size ≤ k) (hg : W.grownBy W' (rowB A1)) : Fr w W' A A2 := by
  refine ⟨?_, h.2.andThen hg (fun j e => ?_)⟩
  · rcases ha with rfl | ha
    · exact h.1
    · exact .inr (fun k e => Nat.le_trans h.size (ha k e))
  · rcases h.1 with rfl | h1
    · exact .inr e
    · exact .inl (h1 j e)
theorem Fr.set3 (h : Fr w W A A1) (hg : w.heap.size ≤ g) : Fr w (((W.setCell ⟨g, 0, none⟩ v0).setCell ⟨g, 1, none⟩ v1).setCell ⟨g, 2, none⟩ v2) A A1 :=
  ⟨h.1, h.2.andThen grown3 (fun j e => .inl (by injection e with e; omega))⟩
theorem Fr.made (h : Fr w W A A1) (hb : Below W.heap.size W W') (hn : Own W' W.heap.size A2 c m) : Fr w W' A A2 := by
  refine ⟨.inr (fun k e => ?_), h.2.trans (grown_of_below hb _)⟩
  rcases hn.form with ⟨rfl, _⟩ | ⟨g, rfl, h1, _⟩
  · cases e
  · simp only [rowB, Option.map_some, Option.some.injEq] at e
    have := h.size
    omega
end
end Go.Proofs.YtnmpgijiimglcaaGreat
