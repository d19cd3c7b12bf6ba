/-
  widen.Widen, widen.Narrow: what each call answers.
-/
import Derived.Test.YtanbplidigokgaaCells
import Derived.Test.YtanbplidigokgaaRight
import Derived.Test.YtanbplidigokgaaAbove
namespace Go.Proofs.Ytanbplidigokgaa
open Go.RowKit

def widenO (a b : O) (steps : List Int) : O × Int :=
  if pairErr a b ≠ 0 then (⟨0, false, []⟩, pairErr a b) else if a.e then (b, 0) else if b.e then (a, 0) else (⟨a.n, false, cellsF (widenF steps) a.n a.m b.m⟩, 0)

theorem pair_ok {a b : O} (h : pairErr a b = 0) : check a = 0 ∧ check b = 0 ∧ a.n = b.n := by
  unfold pairErr at h
  by_cases h1 : check a = 0
  · by_cases h2 : check b = 0
    · by_cases h3 : a.n = b.n
      · exact ⟨h1, h2, h3⟩
      · simp [h1, h2, h3] at h
    · simp [h1, h2] at h
  · simp [h1] at h
theorem check_ok {o : O} (h : check o = 0) : 0 ≤ o.n ∧ o.n ≤ 64 ∧ (o.e = true → o.m = []) ∧ (o.e = false → (o.m.length : Int) = 4 * o.n * o.n) := by
  by_cases hs : sizeBad o = true
  · unfold check at h; rw [if_pos hs] at h; omega
  · unfold sizeBad at hs
    simp at hs
    obtain ⟨⟨⟨h1, h2⟩, h3⟩, h4⟩ := hs
    exact ⟨h1, h2, h3, h4⟩

def narrowO (a b : O) : O × Int :=
  if pairErr a b ≠ 0 then (⟨0, false, []⟩, pairErr a b) else if a.e then (a, 0) else if b.e then (b, 0) else (⟨a.n, false, cellsF (fun x y _ => if x = 9223372036854775807 then y else x) a.n a.m b.m⟩, 0)
theorem cellsF_len (F : Int → Int → Bool → Int) (n : Int) (xs ys : List Int) : (cellsF F n xs ys).length = xs.length := by simp [cellsF]

theorem blk_four {w w' : World} {c0 c1 c2 c3 : Array Value} {t0 t1 t2 t3 : TypeId} (hb : Below (w.heap.size + 1 + 1 + 1 + 1) ((((w.alloc (.cells c0 t0)).alloc (.cells c1 t1)).alloc (.cells c2 t2)).alloc (.cells c3 t3)) w') :
    Blk w' w.heap.size t0 c0 ∧ Blk w' (w.heap.size + 1) t1 c1 ∧ Blk w' (w.heap.size + 1 + 1) t2 c2 ∧ Blk w' (w.heap.size + 1 + 1 + 1) t3 c3 := by
  refine ⟨((((Blk.new w t0 c0).alloc _).alloc _).alloc _).below hb (by omega), ?_, ?_, ?_⟩
  · have := (((Blk.new (w.alloc (.cells c0 t0)) t1 c1).alloc (.cells c2 t2)).alloc (.cells c3 t3)).below hb (by simp)
    simpa using this
  · have := ((Blk.new ((w.alloc (.cells c0 t0)).alloc (.cells c1 t1)) t2 c2).alloc (.cells c3 t3)).below hb (by simp)
    simpa using this
  · have := (Blk.new (((w.alloc (.cells c0 t0)).alloc (.cells c1 t1)).alloc (.cells c2 t2)) t3 c3).below hb (by simp)
    simpa using this
theorem blk_three {w w' : World} {c0 c1 c2 : Array Value} {t0 t1 t2 : TypeId} (hb : Below (w.heap.size + 1 + 1 + 1) (((w.alloc (.cells c0 t0)).alloc (.cells c1 t1)).alloc (.cells c2 t2)) w') :
    Blk w' w.heap.size t0 c0 ∧ Blk w' (w.heap.size + 1) t1 c1 ∧ Blk w' (w.heap.size + 1 + 1) t2 c2 := by
  refine ⟨(((Blk.new w t0 c0).alloc _).alloc _).below hb (by omega), ?_, ?_⟩
  · have := ((Blk.new (w.alloc (.cells c0 t0)) t1 c1).alloc (.cells c2 t2)).below hb (by simp)
    simpa using this
  · have := (Blk.new ((w.alloc (.cells c0 t0)).alloc (.cells c1 t1)) t2 c2).below hb (by simp)
    simpa using this

set_option maxHeartbeats 2000000 in
theorem widen_any (a b : O) (steps : List Int) (A A' S : Option Addr) (c c' cs : Nat) (w : World) (hx : Rd w w.heap.size A a.m) (hy : Rd w w.heap.size A' b.m) (hs : Rd w w.heap.size S steps) (hm : a.m.length ≤ 17592186044416) (hm' : b.m.length ≤ 17592186044416) (hms : steps.length ≤ 17592186044416) :
    Calls Try.prog 12 #[.agg #[.int .i64 a.n, .bool a.e, .slice A a.m.length c], .agg #[.int .i64 b.n, .bool b.e, .slice A' b.m.length c'], .slice S steps.length cs] w fun e w' => ∃ A1 c1, e = .returned (.tuple #[.agg #[.int .i64 (widenO a b steps).1.n, .bool (widenO a b steps).1.e, .slice A1 (widenO a b steps).1.m.length c1], .int .i64 (widenO a b steps).2]) ∧ Own w' w.heap.size A1 c1 (widenO a b steps).1.m ∧ Below w.heap.size w w' := by
  obtain ⟨n, e, m⟩ := a
  obtain ⟨n', e', m'⟩ := b
  dsimp only at *
  by_cases hp : pairErr ⟨n, e, m⟩ ⟨n', e', m'⟩ = 0
  · have tp : (pairErr ⟨n, e, m⟩ ⟨n', e', m'⟩ != 0) = false := by simp [hp]
    have hw : widenO ⟨n, e, m⟩ ⟨n', e', m'⟩ steps = if e then (⟨n', e', m'⟩, 0) else if e' then (⟨n, e, m⟩, 0) else (⟨n, false, cellsF (widenF steps) n m m'⟩, 0) := by
      unfold widenO; rw [if_neg (by simpa using hp)]
    obtain ⟨q1, q2, q3⟩ := pair_ok hp
    obtain ⟨k1, k2, k3, k4⟩ := check_ok q1
    obtain ⟨l1, l2, l3, l4⟩ := check_ok q2
    dsimp only at *
    have LN : Hid (e = false → e' = false → m'.length = m.length) := fun h h' => by have := k4 h; have := l4 h'; subst q3; omega
    clear q1 q2 hp q3 l4 k3 l3 l1 l2
    cases e
    · cases e'
      · rw [hw]; simp only [Bool.false_eq_true, if_false]
        clear hw
        go_enter Try.func12, Try.ntmps12
        go_wp2_with fail
        have hb0 : Below w.heap.size w ((((w.alloc (Obj.cells #[.int .i64 n, .bool false, .slice A m.length c] 24)).alloc (Obj.cells #[.int .i64 n', .bool false, .slice A' m'.length c'] 24)).alloc (Obj.cells #[.slice S steps.length cs] 22)).alloc (Obj.cells #[.int .i64 0, .bool false, .slice none 0 0] 24)) := (((((Below.refl _ _).alloc (Nat.le_refl _) _).alloc (by simp; try omega) _).alloc (by simp; try omega) _).alloc (by simp; try omega) _)
        obtain ⟨b0, b1, b2, b3⟩ := blk_four (w := w) (Below.refl _ ((((w.alloc (Obj.cells #[.int .i64 n, .bool false, .slice A m.length c] 24)).alloc (Obj.cells #[.int .i64 n', .bool false, .slice A' m'.length c'] 24)).alloc (Obj.cells #[.slice S steps.length cs] 22)).alloc (Obj.cells #[.int .i64 0, .bool false, .slice none 0 0] 24)))
        have hsz : ((((w.alloc (Obj.cells #[.int .i64 n, .bool false, .slice A m.length c] 24)).alloc (Obj.cells #[.int .i64 n', .bool false, .slice A' m'.length c'] 24)).alloc (Obj.cells #[.slice S steps.length cs] 22)).alloc (Obj.cells #[.int .i64 0, .bool false, .slice none 0 0] 24)).heap.size = w.heap.size + 1 + 1 + 1 + 1 := by simp
        have hx0 := (hx.below hb0).more (B' := ((((w.alloc (Obj.cells #[.int .i64 n, .bool false, .slice A m.length c] 24)).alloc (Obj.cells #[.int .i64 n', .bool false, .slice A' m'.length c'] 24)).alloc (Obj.cells #[.slice S steps.length cs] 22)).alloc (Obj.cells #[.int .i64 0, .bool false, .slice none 0 0] 24)).heap.size) (by omega)
        have hy0 := (hy.below hb0).more (B' := ((((w.alloc (Obj.cells #[.int .i64 n, .bool false, .slice A m.length c] 24)).alloc (Obj.cells #[.int .i64 n', .bool false, .slice A' m'.length c'] 24)).alloc (Obj.cells #[.slice S steps.length cs] 22)).alloc (Obj.cells #[.int .i64 0, .bool false, .slice none 0 0] 24)).heap.size) (by omega)
        have hs0 := (hs.below hb0).more (B' := ((((w.alloc (Obj.cells #[.int .i64 n, .bool false, .slice A m.length c] 24)).alloc (Obj.cells #[.int .i64 n', .bool false, .slice A' m'.length c'] 24)).alloc (Obj.cells #[.slice S steps.length cs] 22)).alloc (Obj.cells #[.int .i64 0, .bool false, .slice none 0 0] 24)).heap.size) (by omega)
        generalize (((w.alloc (Obj.cells #[.int .i64 n, .bool false, .slice A m.length c] 24)).alloc (Obj.cells #[.int .i64 n', .bool false, .slice A' m'.length c'] 24)).alloc (Obj.cells #[.slice S steps.length cs] 22)).alloc (Obj.cells #[.int .i64 0, .bool false, .slice none 0 0] 24) = w0 at *
        refine (wright_any ⟨n, false, m⟩ ⟨n', false, m'⟩ A A' c c' _ hx0 hy0 hm hm').mono ?_
        rintro e9 w1 ⟨rfl, hb1⟩
        have hx1 := (hx0.below hb1).more (B' := w1.heap.size) hb1.size
        have hy1 := (hy0.below hb1).more (B' := w1.heap.size) hb1.size
        have hs1 := (hs0.below hb1).more (B' := w1.heap.size) hb1.size
        have d0 := b0.later hb1
        have d1 := b1.later hb1
        have d2 := b2.later hb1
        have d3 := b3.later hb1
        have hz1 := hb1.size
        obtain ⟨x0, x1, x2, fx⟩ := octbox d0
        obtain ⟨y0, y1, y2, fy⟩ := octbox d1
        obtain ⟨r0, r1, r2, fr⟩ := octbox d3
        have s0 := d2.cell 0
        simp only [List.getElem?_toArray, List.getElem?_cons_zero] at s0
        have hbw1 := hb0.trans (hb1.mono (show w.heap.size ≤ w0.heap.size by omega))
        clear b0 b1 b2 b3 hb1 hx0 hy0 hs0 hb0
        go_wp2_with fail
        refine (cellsW_any (widenF steps) n m m' false false n' A A' c c' (w.heap.size + 1 + 1) _ hx1 hy1 hm (LN.out (by simp) (by simp)) k1 k2 (k4 (by simp)) ?_).mono ?_
        · intro x y s W hW
          exact (widen1_any steps S cs _ x y s W ((hs1.below hW).more hW.size) hms (cell_later hW s0)).mono fun e w' ⟨he, hb⟩ => ⟨he, hb ▸ Below.refl _ _⟩
        rintro e8 w2 ⟨A1, c1, rfl, hown, hb2⟩
        obtain ⟨p0, p1, p2, fp⟩ := octbox (d3.later hb2)
        have hz2 := hb2.size
        clear r0 r1 r2 fr x0 x1 x2 fx y0 y1 y2 fy
        have hle : (cellsF (widenF steps) n m m').length = m.length := cellsF_len _ _ _ _
        go_wp2
        refine bodyPost_ret (v := .tuple #[.agg #[.int .i64 n, .bool false, .slice A1 m.length c1], .int .i64 0]) (by simp [results, Try.results12, go_sem, p0, p1, p2]) rfl ⟨A1, c1, by rw [hle], ?_, ?_⟩
        · exact (((hown.setFar (by simp; try omega) _).setFar (by simp; try omega) _).setFar (by simp; try omega) _).less (by omega)
        · exact (((hbw1.trans (hb2.mono (show w.heap.size ≤ w1.heap.size by omega))).setCell (by simp; try omega) _).setCell (by simp; try omega) _).setCell (by simp; try omega) _
      · rw [hw]; simp only [Bool.false_eq_true, if_false, if_true]
        clear hw k4
        go_enter Try.func12, Try.ntmps12
        go_wp2_with fail
        have hb0 : Below w.heap.size w ((((w.alloc (Obj.cells #[.int .i64 n, .bool false, .slice A m.length c] 24)).alloc (Obj.cells #[.int .i64 n', .bool true, .slice A' m'.length c'] 24)).alloc (Obj.cells #[.slice S steps.length cs] 22)).alloc (Obj.cells #[.int .i64 0, .bool false, .slice none 0 0] 24)) := (((((Below.refl _ _).alloc (Nat.le_refl _) _).alloc (by simp; try omega) _).alloc (by simp; try omega) _).alloc (by simp; try omega) _)
        obtain ⟨b0, b1, b2, b3⟩ := blk_four (w := w) (Below.refl _ ((((w.alloc (Obj.cells #[.int .i64 n, .bool false, .slice A m.length c] 24)).alloc (Obj.cells #[.int .i64 n', .bool true, .slice A' m'.length c'] 24)).alloc (Obj.cells #[.slice S steps.length cs] 22)).alloc (Obj.cells #[.int .i64 0, .bool false, .slice none 0 0] 24)))
        have hsz : ((((w.alloc (Obj.cells #[.int .i64 n, .bool false, .slice A m.length c] 24)).alloc (Obj.cells #[.int .i64 n', .bool true, .slice A' m'.length c'] 24)).alloc (Obj.cells #[.slice S steps.length cs] 22)).alloc (Obj.cells #[.int .i64 0, .bool false, .slice none 0 0] 24)).heap.size = w.heap.size + 1 + 1 + 1 + 1 := by simp
        have hx0 := (hx.below hb0).more (B' := ((((w.alloc (Obj.cells #[.int .i64 n, .bool false, .slice A m.length c] 24)).alloc (Obj.cells #[.int .i64 n', .bool true, .slice A' m'.length c'] 24)).alloc (Obj.cells #[.slice S steps.length cs] 22)).alloc (Obj.cells #[.int .i64 0, .bool false, .slice none 0 0] 24)).heap.size) (by omega)
        have hy0 := (hy.below hb0).more (B' := ((((w.alloc (Obj.cells #[.int .i64 n, .bool false, .slice A m.length c] 24)).alloc (Obj.cells #[.int .i64 n', .bool true, .slice A' m'.length c'] 24)).alloc (Obj.cells #[.slice S steps.length cs] 22)).alloc (Obj.cells #[.int .i64 0, .bool false, .slice none 0 0] 24)).heap.size) (by omega)
        have hs0 := (hs.below hb0).more (B' := ((((w.alloc (Obj.cells #[.int .i64 n, .bool false, .slice A m.length c] 24)).alloc (Obj.cells #[.int .i64 n', .bool true, .slice A' m'.length c'] 24)).alloc (Obj.cells #[.slice S steps.length cs] 22)).alloc (Obj.cells #[.int .i64 0, .bool false, .slice none 0 0] 24)).heap.size) (by omega)
        generalize (((w.alloc (Obj.cells #[.int .i64 n, .bool false, .slice A m.length c] 24)).alloc (Obj.cells #[.int .i64 n', .bool true, .slice A' m'.length c'] 24)).alloc (Obj.cells #[.slice S steps.length cs] 22)).alloc (Obj.cells #[.int .i64 0, .bool false, .slice none 0 0] 24) = w0 at *
        refine (wright_any ⟨n, false, m⟩ ⟨n', true, m'⟩ A A' c c' _ hx0 hy0 hm hm').mono ?_
        rintro e9 w1 ⟨rfl, hb1⟩
        have hx1 := (hx0.below hb1).more (B' := w1.heap.size) hb1.size
        have hy1 := (hy0.below hb1).more (B' := w1.heap.size) hb1.size
        have hs1 := (hs0.below hb1).more (B' := w1.heap.size) hb1.size
        have d0 := b0.later hb1
        have d1 := b1.later hb1
        have d2 := b2.later hb1
        have d3 := b3.later hb1
        have hz1 := hb1.size
        obtain ⟨x0, x1, x2, fx⟩ := octbox d0
        obtain ⟨y0, y1, y2, fy⟩ := octbox d1
        obtain ⟨r0, r1, r2, fr⟩ := octbox d3
        have s0 := d2.cell 0
        simp only [List.getElem?_toArray, List.getElem?_cons_zero] at s0
        have hbw1 := hb0.trans (hb1.mono (show w.heap.size ≤ w0.heap.size by omega))
        clear b0 b1 b2 b3 hb1 hx0 hy0 hs0 hb0
        go_wp2_with fail
        refine (copied_any n false m A c _ hx1 hm).mono ?_
        rintro e8 w2 ⟨A1, c1, rfl, hown, hb2⟩
        obtain ⟨p0, p1, p2, fp⟩ := octbox (d3.later hb2)
        have hz2 := hb2.size
        clear r0 r1 r2 fr x0 x1 x2 fx y0 y1 y2 fy
        go_wp2
        refine bodyPost_ret (v := .tuple #[.agg #[.int .i64 n, .bool false, .slice A1 m.length c1], .int .i64 0]) (by simp [results, Try.results12, go_sem, p0, p1, p2]) rfl ⟨A1, c1, rfl, ?_, ?_⟩
        · exact (((hown.setFar (by simp; try omega) _).setFar (by simp; try omega) _).setFar (by simp; try omega) _).less (by omega)
        · exact (((hbw1.trans (hb2.mono (show w.heap.size ≤ w1.heap.size by omega))).setCell (by simp; try omega) _).setCell (by simp; try omega) _).setCell (by simp; try omega) _
    · rw [hw]; simp only [if_true]
      clear hw k4
      go_enter Try.func12, Try.ntmps12
      go_wp2_with fail
      have hb0 : Below w.heap.size w ((((w.alloc (Obj.cells #[.int .i64 n, .bool true, .slice A m.length c] 24)).alloc (Obj.cells #[.int .i64 n', .bool e', .slice A' m'.length c'] 24)).alloc (Obj.cells #[.slice S steps.length cs] 22)).alloc (Obj.cells #[.int .i64 0, .bool false, .slice none 0 0] 24)) := (((((Below.refl _ _).alloc (Nat.le_refl _) _).alloc (by simp; try omega) _).alloc (by simp; try omega) _).alloc (by simp; try omega) _)
      obtain ⟨b0, b1, b2, b3⟩ := blk_four (w := w) (Below.refl _ ((((w.alloc (Obj.cells #[.int .i64 n, .bool true, .slice A m.length c] 24)).alloc (Obj.cells #[.int .i64 n', .bool e', .slice A' m'.length c'] 24)).alloc (Obj.cells #[.slice S steps.length cs] 22)).alloc (Obj.cells #[.int .i64 0, .bool false, .slice none 0 0] 24)))
      have hsz : ((((w.alloc (Obj.cells #[.int .i64 n, .bool true, .slice A m.length c] 24)).alloc (Obj.cells #[.int .i64 n', .bool e', .slice A' m'.length c'] 24)).alloc (Obj.cells #[.slice S steps.length cs] 22)).alloc (Obj.cells #[.int .i64 0, .bool false, .slice none 0 0] 24)).heap.size = w.heap.size + 1 + 1 + 1 + 1 := by simp
      have hx0 := (hx.below hb0).more (B' := ((((w.alloc (Obj.cells #[.int .i64 n, .bool true, .slice A m.length c] 24)).alloc (Obj.cells #[.int .i64 n', .bool e', .slice A' m'.length c'] 24)).alloc (Obj.cells #[.slice S steps.length cs] 22)).alloc (Obj.cells #[.int .i64 0, .bool false, .slice none 0 0] 24)).heap.size) (by omega)
      have hy0 := (hy.below hb0).more (B' := ((((w.alloc (Obj.cells #[.int .i64 n, .bool true, .slice A m.length c] 24)).alloc (Obj.cells #[.int .i64 n', .bool e', .slice A' m'.length c'] 24)).alloc (Obj.cells #[.slice S steps.length cs] 22)).alloc (Obj.cells #[.int .i64 0, .bool false, .slice none 0 0] 24)).heap.size) (by omega)
      have hs0 := (hs.below hb0).more (B' := ((((w.alloc (Obj.cells #[.int .i64 n, .bool true, .slice A m.length c] 24)).alloc (Obj.cells #[.int .i64 n', .bool e', .slice A' m'.length c'] 24)).alloc (Obj.cells #[.slice S steps.length cs] 22)).alloc (Obj.cells #[.int .i64 0, .bool false, .slice none 0 0] 24)).heap.size) (by omega)
      generalize (((w.alloc (Obj.cells #[.int .i64 n, .bool true, .slice A m.length c] 24)).alloc (Obj.cells #[.int .i64 n', .bool e', .slice A' m'.length c'] 24)).alloc (Obj.cells #[.slice S steps.length cs] 22)).alloc (Obj.cells #[.int .i64 0, .bool false, .slice none 0 0] 24) = w0 at *
      refine (wright_any ⟨n, true, m⟩ ⟨n', e', m'⟩ A A' c c' _ hx0 hy0 hm hm').mono ?_
      rintro e9 w1 ⟨rfl, hb1⟩
      have hx1 := (hx0.below hb1).more (B' := w1.heap.size) hb1.size
      have hy1 := (hy0.below hb1).more (B' := w1.heap.size) hb1.size
      have hs1 := (hs0.below hb1).more (B' := w1.heap.size) hb1.size
      have d0 := b0.later hb1
      have d1 := b1.later hb1
      have d2 := b2.later hb1
      have d3 := b3.later hb1
      have hz1 := hb1.size
      obtain ⟨x0, x1, x2, fx⟩ := octbox d0
      obtain ⟨y0, y1, y2, fy⟩ := octbox d1
      obtain ⟨r0, r1, r2, fr⟩ := octbox d3
      have s0 := d2.cell 0
      simp only [List.getElem?_toArray, List.getElem?_cons_zero] at s0
      have hbw1 := hb0.trans (hb1.mono (show w.heap.size ≤ w0.heap.size by omega))
      clear b0 b1 b2 b3 hb1 hx0 hy0 hs0 hb0
      go_wp2_with fail
      refine (copied_any n' e' m' A' c' _ hy1 hm').mono ?_
      rintro e8 w2 ⟨A1, c1, rfl, hown, hb2⟩
      obtain ⟨p0, p1, p2, fp⟩ := octbox (d3.later hb2)
      have hz2 := hb2.size
      clear r0 r1 r2 fr x0 x1 x2 fx y0 y1 y2 fy
      go_wp2
      refine bodyPost_ret (v := .tuple #[.agg #[.int .i64 n', .bool e', .slice A1 m'.length c1], .int .i64 0]) (by simp [results, Try.results12, go_sem, p0, p1, p2]) rfl ⟨A1, c1, rfl, ?_, ?_⟩
      · exact (((hown.setFar (by simp; try omega) _).setFar (by simp; try omega) _).setFar (by simp; try omega) _).less (by omega)
      · exact (((hbw1.trans (hb2.mono (show w.heap.size ≤ w1.heap.size by omega))).setCell (by simp; try omega) _).setCell (by simp; try omega) _).setCell (by simp; try omega) _
  · have tp : (pairErr ⟨n, e, m⟩ ⟨n', e', m'⟩ != 0) = true := by simp [hp]
    have hw : widenO ⟨n, e, m⟩ ⟨n', e', m'⟩ steps = (⟨0, false, []⟩, pairErr ⟨n, e, m⟩ ⟨n', e', m'⟩) := by
      unfold widenO; rw [if_pos (by simpa using hp)]
    rw [hw]; dsimp only
    clear hw hp
    go_enter Try.func12, Try.ntmps12
    go_wp2_with fail
    have hb0 : Below w.heap.size w ((((w.alloc (Obj.cells #[.int .i64 n, .bool e, .slice A m.length c] 24)).alloc (Obj.cells #[.int .i64 n', .bool e', .slice A' m'.length c'] 24)).alloc (Obj.cells #[.slice S steps.length cs] 22)).alloc (Obj.cells #[.int .i64 0, .bool false, .slice none 0 0] 24)) := (((((Below.refl _ _).alloc (Nat.le_refl _) _).alloc (by simp; try omega) _).alloc (by simp; try omega) _).alloc (by simp; try omega) _)
    obtain ⟨b0, b1, b2, b3⟩ := blk_four (w := w) (Below.refl _ ((((w.alloc (Obj.cells #[.int .i64 n, .bool e, .slice A m.length c] 24)).alloc (Obj.cells #[.int .i64 n', .bool e', .slice A' m'.length c'] 24)).alloc (Obj.cells #[.slice S steps.length cs] 22)).alloc (Obj.cells #[.int .i64 0, .bool false, .slice none 0 0] 24)))
    have hsz : ((((w.alloc (Obj.cells #[.int .i64 n, .bool e, .slice A m.length c] 24)).alloc (Obj.cells #[.int .i64 n', .bool e', .slice A' m'.length c'] 24)).alloc (Obj.cells #[.slice S steps.length cs] 22)).alloc (Obj.cells #[.int .i64 0, .bool false, .slice none 0 0] 24)).heap.size = w.heap.size + 1 + 1 + 1 + 1 := by simp
    have hx0 := (hx.below hb0).more (B' := ((((w.alloc (Obj.cells #[.int .i64 n, .bool e, .slice A m.length c] 24)).alloc (Obj.cells #[.int .i64 n', .bool e', .slice A' m'.length c'] 24)).alloc (Obj.cells #[.slice S steps.length cs] 22)).alloc (Obj.cells #[.int .i64 0, .bool false, .slice none 0 0] 24)).heap.size) (by omega)
    have hy0 := (hy.below hb0).more (B' := ((((w.alloc (Obj.cells #[.int .i64 n, .bool e, .slice A m.length c] 24)).alloc (Obj.cells #[.int .i64 n', .bool e', .slice A' m'.length c'] 24)).alloc (Obj.cells #[.slice S steps.length cs] 22)).alloc (Obj.cells #[.int .i64 0, .bool false, .slice none 0 0] 24)).heap.size) (by omega)
    have hs0 := (hs.below hb0).more (B' := ((((w.alloc (Obj.cells #[.int .i64 n, .bool e, .slice A m.length c] 24)).alloc (Obj.cells #[.int .i64 n', .bool e', .slice A' m'.length c'] 24)).alloc (Obj.cells #[.slice S steps.length cs] 22)).alloc (Obj.cells #[.int .i64 0, .bool false, .slice none 0 0] 24)).heap.size) (by omega)
    generalize (((w.alloc (Obj.cells #[.int .i64 n, .bool e, .slice A m.length c] 24)).alloc (Obj.cells #[.int .i64 n', .bool e', .slice A' m'.length c'] 24)).alloc (Obj.cells #[.slice S steps.length cs] 22)).alloc (Obj.cells #[.int .i64 0, .bool false, .slice none 0 0] 24) = w0 at *
    refine (wright_any ⟨n, e, m⟩ ⟨n', e', m'⟩ A A' c c' _ hx0 hy0 hm hm').mono ?_
    rintro e9 w1 ⟨rfl, hb1⟩
    have hx1 := (hx0.below hb1).more (B' := w1.heap.size) hb1.size
    have hy1 := (hy0.below hb1).more (B' := w1.heap.size) hb1.size
    have hs1 := (hs0.below hb1).more (B' := w1.heap.size) hb1.size
    have d0 := b0.later hb1
    have d1 := b1.later hb1
    have d2 := b2.later hb1
    have d3 := b3.later hb1
    have hz1 := hb1.size
    obtain ⟨x0, x1, x2, fx⟩ := octbox d0
    obtain ⟨y0, y1, y2, fy⟩ := octbox d1
    obtain ⟨r0, r1, r2, fr⟩ := octbox d3
    have s0 := d2.cell 0
    simp only [List.getElem?_toArray, List.getElem?_cons_zero] at s0
    have hbw1 := hb0.trans (hb1.mono (show w.heap.size ≤ w0.heap.size by omega))
    clear b0 b1 b2 b3 hb1 hx0 hy0 hs0 hb0
    go_wp2
    refine bodyPost_ret (v := .tuple #[.agg #[.int .i64 0, .bool false, .slice none 0 0], .int .i64 (pairErr ⟨n, e, m⟩ ⟨n', e', m'⟩)]) (by simp [results, Try.results12, go_sem, r0, r1, r2]) rfl ⟨none, 0, rfl, ?_, ?_⟩
    · exact own_nil _ _
    · exact (((hbw1).setCell (by simp; try omega) _).setCell (by simp; try omega) _).setCell (by simp; try omega) _

set_option maxHeartbeats 2000000 in
theorem narrow_any (a b : O) (A A' : Option Addr) (c c' : Nat) (w : World) (hx : Rd w w.heap.size A a.m) (hy : Rd w w.heap.size A' b.m) (hm : a.m.length ≤ 17592186044416) (hm' : b.m.length ≤ 17592186044416) :
    Calls Try.prog 13 #[.agg #[.int .i64 a.n, .bool a.e, .slice A a.m.length c], .agg #[.int .i64 b.n, .bool b.e, .slice A' b.m.length c']] w fun e w' => ∃ A1 c1, e = .returned (.tuple #[.agg #[.int .i64 (narrowO a b).1.n, .bool (narrowO a b).1.e, .slice A1 (narrowO a b).1.m.length c1], .int .i64 (narrowO a b).2]) ∧ Own w' w.heap.size A1 c1 (narrowO a b).1.m ∧ Below w.heap.size w w' := by
  obtain ⟨n, e, m⟩ := a
  obtain ⟨n', e', m'⟩ := b
  dsimp only at *
  by_cases hp : pairErr ⟨n, e, m⟩ ⟨n', e', m'⟩ = 0
  · have tp : (pairErr ⟨n, e, m⟩ ⟨n', e', m'⟩ != 0) = false := by simp [hp]
    have hw : narrowO ⟨n, e, m⟩ ⟨n', e', m'⟩ = if e then (⟨n, e, m⟩, 0) else if e' then (⟨n', e', m'⟩, 0) else (⟨n, false, cellsF (fun x y _ => if x = 9223372036854775807 then y else x) n m m'⟩, 0) := by
      unfold narrowO; rw [if_neg (by simpa using hp)]
    obtain ⟨q1, q2, q3⟩ := pair_ok hp
    obtain ⟨k1, k2, k3, k4⟩ := check_ok q1
    obtain ⟨l1, l2, l3, l4⟩ := check_ok q2
    dsimp only at *
    have LN : Hid (e = false → e' = false → m'.length = m.length) := fun h h' => by have := k4 h; have := l4 h'; subst q3; omega
    clear q1 q2 hp q3 l4 k3 l3 l1 l2
    cases e
    · cases e'
      · rw [hw]; simp only [Bool.false_eq_true, if_false]
        clear hw
        go_enter Try.func13, Try.ntmps13
        go_wp2_with fail
        have hb0 : Below w.heap.size w (((w.alloc (Obj.cells #[.int .i64 n, .bool false, .slice A m.length c] 24)).alloc (Obj.cells #[.int .i64 n', .bool false, .slice A' m'.length c'] 24)).alloc (Obj.cells #[.int .i64 0, .bool false, .slice none 0 0] 24)) := ((((Below.refl _ _).alloc (Nat.le_refl _) _).alloc (by simp; try omega) _).alloc (by simp; try omega) _)
        obtain ⟨b0, b1, b3⟩ := blk_three (w := w) (Below.refl _ (((w.alloc (Obj.cells #[.int .i64 n, .bool false, .slice A m.length c] 24)).alloc (Obj.cells #[.int .i64 n', .bool false, .slice A' m'.length c'] 24)).alloc (Obj.cells #[.int .i64 0, .bool false, .slice none 0 0] 24)))
        have hsz : (((w.alloc (Obj.cells #[.int .i64 n, .bool false, .slice A m.length c] 24)).alloc (Obj.cells #[.int .i64 n', .bool false, .slice A' m'.length c'] 24)).alloc (Obj.cells #[.int .i64 0, .bool false, .slice none 0 0] 24)).heap.size = w.heap.size + 1 + 1 + 1 := by simp
        have hx0 := (hx.below hb0).more (B' := (((w.alloc (Obj.cells #[.int .i64 n, .bool false, .slice A m.length c] 24)).alloc (Obj.cells #[.int .i64 n', .bool false, .slice A' m'.length c'] 24)).alloc (Obj.cells #[.int .i64 0, .bool false, .slice none 0 0] 24)).heap.size) (by omega)
        have hy0 := (hy.below hb0).more (B' := (((w.alloc (Obj.cells #[.int .i64 n, .bool false, .slice A m.length c] 24)).alloc (Obj.cells #[.int .i64 n', .bool false, .slice A' m'.length c'] 24)).alloc (Obj.cells #[.int .i64 0, .bool false, .slice none 0 0] 24)).heap.size) (by omega)
        generalize ((w.alloc (Obj.cells #[.int .i64 n, .bool false, .slice A m.length c] 24)).alloc (Obj.cells #[.int .i64 n', .bool false, .slice A' m'.length c'] 24)).alloc (Obj.cells #[.int .i64 0, .bool false, .slice none 0 0] 24) = w0 at *
        refine (wright_any ⟨n, false, m⟩ ⟨n', false, m'⟩ A A' c c' _ hx0 hy0 hm hm').mono ?_
        rintro e9 w1 ⟨rfl, hb1⟩
        have hx1 := (hx0.below hb1).more (B' := w1.heap.size) hb1.size
        have hy1 := (hy0.below hb1).more (B' := w1.heap.size) hb1.size
        have d0 := b0.later hb1
        have d1 := b1.later hb1
        have d3 := b3.later hb1
        have hz1 := hb1.size
        obtain ⟨x0, x1, x2, fx⟩ := octbox d0
        obtain ⟨y0, y1, y2, fy⟩ := octbox d1
        obtain ⟨r0, r1, r2, fr⟩ := octbox d3
        have hbw1 := hb0.trans (hb1.mono (show w.heap.size ≤ w0.heap.size by omega))
        clear b0 b1 b3 hb1 hx0 hy0 hb0
        go_wp2_with fail
        refine (cellsN_any (fun x y _ => if x = 9223372036854775807 then y else x) n m m' false false n' A A' c c' _ hx1 hy1 hm (LN.out (by simp) (by simp)) k1 k2 (k4 (by simp)) ?_).mono ?_
        · intro x y s W hW
          exact (narrow1_any x y s W).mono fun e w' ⟨he, hb⟩ => ⟨he, hb ▸ Below.refl _ _⟩
        rintro e8 w2 ⟨A1, c1, rfl, hown, hb2⟩
        obtain ⟨p0, p1, p2, fp⟩ := octbox (d3.later hb2)
        have hz2 := hb2.size
        clear r0 r1 r2 fr x0 x1 x2 fx y0 y1 y2 fy
        have hle : (cellsF (fun x y _ => if x = 9223372036854775807 then y else x) n m m').length = m.length := cellsF_len _ _ _ _
        go_wp2
        refine bodyPost_ret (v := .tuple #[.agg #[.int .i64 n, .bool false, .slice A1 m.length c1], .int .i64 0]) (by simp [results, Try.results13, go_sem, p0, p1, p2]) rfl ⟨A1, c1, by rw [hle], ?_, ?_⟩
        · exact (((hown.setFar (by simp; try omega) _).setFar (by simp; try omega) _).setFar (by simp; try omega) _).less (by omega)
        · exact (((hbw1.trans (hb2.mono (show w.heap.size ≤ w1.heap.size by omega))).setCell (by simp; try omega) _).setCell (by simp; try omega) _).setCell (by simp; try omega) _
      · rw [hw]; simp only [Bool.false_eq_true, if_false, if_true]
        clear hw k4
        go_enter Try.func13, Try.ntmps13
        go_wp2_with fail
        have hb0 : Below w.heap.size w (((w.alloc (Obj.cells #[.int .i64 n, .bool false, .slice A m.length c] 24)).alloc (Obj.cells #[.int .i64 n', .bool true, .slice A' m'.length c'] 24)).alloc (Obj.cells #[.int .i64 0, .bool false, .slice none 0 0] 24)) := ((((Below.refl _ _).alloc (Nat.le_refl _) _).alloc (by simp; try omega) _).alloc (by simp; try omega) _)
        obtain ⟨b0, b1, b3⟩ := blk_three (w := w) (Below.refl _ (((w.alloc (Obj.cells #[.int .i64 n, .bool false, .slice A m.length c] 24)).alloc (Obj.cells #[.int .i64 n', .bool true, .slice A' m'.length c'] 24)).alloc (Obj.cells #[.int .i64 0, .bool false, .slice none 0 0] 24)))
        have hsz : (((w.alloc (Obj.cells #[.int .i64 n, .bool false, .slice A m.length c] 24)).alloc (Obj.cells #[.int .i64 n', .bool true, .slice A' m'.length c'] 24)).alloc (Obj.cells #[.int .i64 0, .bool false, .slice none 0 0] 24)).heap.size = w.heap.size + 1 + 1 + 1 := by simp
        have hx0 := (hx.below hb0).more (B' := (((w.alloc (Obj.cells #[.int .i64 n, .bool false, .slice A m.length c] 24)).alloc (Obj.cells #[.int .i64 n', .bool true, .slice A' m'.length c'] 24)).alloc (Obj.cells #[.int .i64 0, .bool false, .slice none 0 0] 24)).heap.size) (by omega)
        have hy0 := (hy.below hb0).more (B' := (((w.alloc (Obj.cells #[.int .i64 n, .bool false, .slice A m.length c] 24)).alloc (Obj.cells #[.int .i64 n', .bool true, .slice A' m'.length c'] 24)).alloc (Obj.cells #[.int .i64 0, .bool false, .slice none 0 0] 24)).heap.size) (by omega)
        generalize ((w.alloc (Obj.cells #[.int .i64 n, .bool false, .slice A m.length c] 24)).alloc (Obj.cells #[.int .i64 n', .bool true, .slice A' m'.length c'] 24)).alloc (Obj.cells #[.int .i64 0, .bool false, .slice none 0 0] 24) = w0 at *
        refine (wright_any ⟨n, false, m⟩ ⟨n', true, m'⟩ A A' c c' _ hx0 hy0 hm hm').mono ?_
        rintro e9 w1 ⟨rfl, hb1⟩
        have hx1 := (hx0.below hb1).more (B' := w1.heap.size) hb1.size
        have hy1 := (hy0.below hb1).more (B' := w1.heap.size) hb1.size
        have d0 := b0.later hb1
        have d1 := b1.later hb1
        have d3 := b3.later hb1
        have hz1 := hb1.size
        obtain ⟨x0, x1, x2, fx⟩ := octbox d0
        obtain ⟨y0, y1, y2, fy⟩ := octbox d1
        obtain ⟨r0, r1, r2, fr⟩ := octbox d3
        have hbw1 := hb0.trans (hb1.mono (show w.heap.size ≤ w0.heap.size by omega))
        clear b0 b1 b3 hb1 hx0 hy0 hb0
        go_wp2_with fail
        refine (copied_any n' true m' A' c' _ hy1 hm').mono ?_
        rintro e8 w2 ⟨A1, c1, rfl, hown, hb2⟩
        obtain ⟨p0, p1, p2, fp⟩ := octbox (d3.later hb2)
        have hz2 := hb2.size
        clear r0 r1 r2 fr x0 x1 x2 fx y0 y1 y2 fy
        go_wp2
        refine bodyPost_ret (v := .tuple #[.agg #[.int .i64 n', .bool true, .slice A1 m'.length c1], .int .i64 0]) (by simp [results, Try.results13, go_sem, p0, p1, p2]) rfl ⟨A1, c1, rfl, ?_, ?_⟩
        · exact (((hown.setFar (by simp; try omega) _).setFar (by simp; try omega) _).setFar (by simp; try omega) _).less (by omega)
        · exact (((hbw1.trans (hb2.mono (show w.heap.size ≤ w1.heap.size by omega))).setCell (by simp; try omega) _).setCell (by simp; try omega) _).setCell (by simp; try omega) _
    · rw [hw]; simp only [if_true]
      clear hw k4
      go_enter Try.func13, Try.ntmps13
      go_wp2_with fail
      have hb0 : Below w.heap.size w (((w.alloc (Obj.cells #[.int .i64 n, .bool true, .slice A m.length c] 24)).alloc (Obj.cells #[.int .i64 n', .bool e', .slice A' m'.length c'] 24)).alloc (Obj.cells #[.int .i64 0, .bool false, .slice none 0 0] 24)) := ((((Below.refl _ _).alloc (Nat.le_refl _) _).alloc (by simp; try omega) _).alloc (by simp; try omega) _)
      obtain ⟨b0, b1, b3⟩ := blk_three (w := w) (Below.refl _ (((w.alloc (Obj.cells #[.int .i64 n, .bool true, .slice A m.length c] 24)).alloc (Obj.cells #[.int .i64 n', .bool e', .slice A' m'.length c'] 24)).alloc (Obj.cells #[.int .i64 0, .bool false, .slice none 0 0] 24)))
      have hsz : (((w.alloc (Obj.cells #[.int .i64 n, .bool true, .slice A m.length c] 24)).alloc (Obj.cells #[.int .i64 n', .bool e', .slice A' m'.length c'] 24)).alloc (Obj.cells #[.int .i64 0, .bool false, .slice none 0 0] 24)).heap.size = w.heap.size + 1 + 1 + 1 := by simp
      have hx0 := (hx.below hb0).more (B' := (((w.alloc (Obj.cells #[.int .i64 n, .bool true, .slice A m.length c] 24)).alloc (Obj.cells #[.int .i64 n', .bool e', .slice A' m'.length c'] 24)).alloc (Obj.cells #[.int .i64 0, .bool false, .slice none 0 0] 24)).heap.size) (by omega)
      have hy0 := (hy.below hb0).more (B' := (((w.alloc (Obj.cells #[.int .i64 n, .bool true, .slice A m.length c] 24)).alloc (Obj.cells #[.int .i64 n', .bool e', .slice A' m'.length c'] 24)).alloc (Obj.cells #[.int .i64 0, .bool false, .slice none 0 0] 24)).heap.size) (by omega)
      generalize ((w.alloc (Obj.cells #[.int .i64 n, .bool true, .slice A m.length c] 24)).alloc (Obj.cells #[.int .i64 n', .bool e', .slice A' m'.length c'] 24)).alloc (Obj.cells #[.int .i64 0, .bool false, .slice none 0 0] 24) = w0 at *
      refine (wright_any ⟨n, true, m⟩ ⟨n', e', m'⟩ A A' c c' _ hx0 hy0 hm hm').mono ?_
      rintro e9 w1 ⟨rfl, hb1⟩
      have hx1 := (hx0.below hb1).more (B' := w1.heap.size) hb1.size
      have hy1 := (hy0.below hb1).more (B' := w1.heap.size) hb1.size
      have d0 := b0.later hb1
      have d1 := b1.later hb1
      have d3 := b3.later hb1
      have hz1 := hb1.size
      obtain ⟨x0, x1, x2, fx⟩ := octbox d0
      obtain ⟨y0, y1, y2, fy⟩ := octbox d1
      obtain ⟨r0, r1, r2, fr⟩ := octbox d3
      have hbw1 := hb0.trans (hb1.mono (show w.heap.size ≤ w0.heap.size by omega))
      clear b0 b1 b3 hb1 hx0 hy0 hb0
      go_wp2_with fail
      refine (copied_any n true m A c _ hx1 hm).mono ?_
      rintro e8 w2 ⟨A1, c1, rfl, hown, hb2⟩
      obtain ⟨p0, p1, p2, fp⟩ := octbox (d3.later hb2)
      have hz2 := hb2.size
      clear r0 r1 r2 fr x0 x1 x2 fx y0 y1 y2 fy
      go_wp2
      refine bodyPost_ret (v := .tuple #[.agg #[.int .i64 n, .bool true, .slice A1 m.length c1], .int .i64 0]) (by simp [results, Try.results13, go_sem, p0, p1, p2]) rfl ⟨A1, c1, rfl, ?_, ?_⟩
      · exact (((hown.setFar (by simp; try omega) _).setFar (by simp; try omega) _).setFar (by simp; try omega) _).less (by omega)
      · exact (((hbw1.trans (hb2.mono (show w.heap.size ≤ w1.heap.size by omega))).setCell (by simp; try omega) _).setCell (by simp; try omega) _).setCell (by simp; try omega) _
  · have tp : (pairErr ⟨n, e, m⟩ ⟨n', e', m'⟩ != 0) = true := by simp [hp]
    have hw : narrowO ⟨n, e, m⟩ ⟨n', e', m'⟩ = (⟨0, false, []⟩, pairErr ⟨n, e, m⟩ ⟨n', e', m'⟩) := by
      unfold narrowO; rw [if_pos (by simpa using hp)]
    rw [hw]; dsimp only
    clear hw hp
    go_enter Try.func13, Try.ntmps13
    go_wp2_with fail
    have hb0 : Below w.heap.size w (((w.alloc (Obj.cells #[.int .i64 n, .bool e, .slice A m.length c] 24)).alloc (Obj.cells #[.int .i64 n', .bool e', .slice A' m'.length c'] 24)).alloc (Obj.cells #[.int .i64 0, .bool false, .slice none 0 0] 24)) := ((((Below.refl _ _).alloc (Nat.le_refl _) _).alloc (by simp; try omega) _).alloc (by simp; try omega) _)
    obtain ⟨b0, b1, b3⟩ := blk_three (w := w) (Below.refl _ (((w.alloc (Obj.cells #[.int .i64 n, .bool e, .slice A m.length c] 24)).alloc (Obj.cells #[.int .i64 n', .bool e', .slice A' m'.length c'] 24)).alloc (Obj.cells #[.int .i64 0, .bool false, .slice none 0 0] 24)))
    have hsz : (((w.alloc (Obj.cells #[.int .i64 n, .bool e, .slice A m.length c] 24)).alloc (Obj.cells #[.int .i64 n', .bool e', .slice A' m'.length c'] 24)).alloc (Obj.cells #[.int .i64 0, .bool false, .slice none 0 0] 24)).heap.size = w.heap.size + 1 + 1 + 1 := by simp
    have hx0 := (hx.below hb0).more (B' := (((w.alloc (Obj.cells #[.int .i64 n, .bool e, .slice A m.length c] 24)).alloc (Obj.cells #[.int .i64 n', .bool e', .slice A' m'.length c'] 24)).alloc (Obj.cells #[.int .i64 0, .bool false, .slice none 0 0] 24)).heap.size) (by omega)
    have hy0 := (hy.below hb0).more (B' := (((w.alloc (Obj.cells #[.int .i64 n, .bool e, .slice A m.length c] 24)).alloc (Obj.cells #[.int .i64 n', .bool e', .slice A' m'.length c'] 24)).alloc (Obj.cells #[.int .i64 0, .bool false, .slice none 0 0] 24)).heap.size) (by omega)
    generalize ((w.alloc (Obj.cells #[.int .i64 n, .bool e, .slice A m.length c] 24)).alloc (Obj.cells #[.int .i64 n', .bool e', .slice A' m'.length c'] 24)).alloc (Obj.cells #[.int .i64 0, .bool false, .slice none 0 0] 24) = w0 at *
    refine (wright_any ⟨n, e, m⟩ ⟨n', e', m'⟩ A A' c c' _ hx0 hy0 hm hm').mono ?_
    rintro e9 w1 ⟨rfl, hb1⟩
    have hx1 := (hx0.below hb1).more (B' := w1.heap.size) hb1.size
    have hy1 := (hy0.below hb1).more (B' := w1.heap.size) hb1.size
    have d0 := b0.later hb1
    have d1 := b1.later hb1
    have d3 := b3.later hb1
    have hz1 := hb1.size
    obtain ⟨x0, x1, x2, fx⟩ := octbox d0
    obtain ⟨y0, y1, y2, fy⟩ := octbox d1
    obtain ⟨r0, r1, r2, fr⟩ := octbox d3
    have hbw1 := hb0.trans (hb1.mono (show w.heap.size ≤ w0.heap.size by omega))
    clear b0 b1 b3 hb1 hx0 hy0 hb0
    go_wp2
    refine bodyPost_ret (v := .tuple #[.agg #[.int .i64 0, .bool false, .slice none 0 0], .int .i64 (pairErr ⟨n, e, m⟩ ⟨n', e', m'⟩)]) (by simp [results, Try.results13, go_sem, r0, r1, r2]) rfl ⟨none, 0, rfl, ?_, ?_⟩
    · exact own_nil _ _
    · exact (((hbw1).setCell (by simp; try omega) _).setCell (by simp; try omega) _).setCell (by simp; try omega) _

end Go.Proofs.Ytanbplidigokgaa
