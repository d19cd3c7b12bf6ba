/-
  widen.above, its two functions, the two closures of Widen and Narrow; the reference's step.
  widen.Widen, widen.Narrow: what each call answers.
-/
import Derived.Test.YtofmidhkiobldaaOwn
import Derived.Test.YtofmidhkiobldaaPG12
import Derived.Test.YtofmidhkiobldaaPG10
namespace Go.Proofs.Ytofmidhkiobldaa
section
open Go.RowKit

def fOf (tw : Bool) (s : Int) : Int := if tw then plus s s else near s
def aboveGo (f : Int → Int) (y : Int) (out : Int) (s : Int) : Int := if y ≤ f s then min out (f s) else out
def aboveF (f : Int → Int) (steps : List Int) (y : Int) : Int := steps.foldl (aboveGo f y) 9223372036854775807
theorem aboveF_take (f : Int → Int) (steps : List Int) (y : Int) {k : Nat} (h : k < steps.length) : aboveF f (steps.take (k + 1)) y = aboveGo f y (aboveF f (steps.take k) y) (gI steps k) := by
  unfold aboveF
  rw [show steps.take (k + 1) = steps.take k ++ [gI steps k] by rw [List.take_succ_eq_append_getElem h]; unfold gI; simp [h], List.foldl_append]; rfl

def widenF (steps : List Int) (x y : Int) (s : Bool) : Int := if y ≤ x then x else if s then aboveF (fun s => plus s s) steps y else aboveF near steps y
end
section
open Go.RowKit

def widenO (a b : O) (steps : List Int) : O × Int :=
  if pairErr a b ≠ 0 then (⟨0, false, []⟩, pairErr a b) else if a.e then (b, 0) else if b.e then (a, 0) else (⟨a.n, false, cellsF (widenF steps) a.n a.m b.m⟩, 0)

theorem pair_ok {a b : O} (h : pairErr a b = 0) : check a = 0 ∧ check b = 0 ∧ a.n = b.n := by
  unfold pairErr at h
  by_cases h1 : check a = 0
  · by_cases h2 : check b = 0
    · by_cases h3 : a.n = b.n
      · exact ⟨h1, h2, h3⟩
      · simp [h1, h2, h3] at h
    · simp [h1, h2] at h
  · simp [h1] at h
theorem check_ok {o : O} (h : check o = 0) : 0 ≤ o.n ∧ o.n ≤ 64 ∧ (o.e = true → o.m = []) ∧ (o.e = false → (o.m.length : Int) = 4 * o.n * o.n) := by
  by_cases hs : sizeBad o = true
  · unfold check at h; rw [if_pos hs] at h; omega
  · unfold sizeBad at hs
    simp at hs
    obtain ⟨⟨⟨h1, h2⟩, h3⟩, h4⟩ := hs
    exact ⟨h1, h2, h3, h4⟩

def narrowO (a b : O) : O × Int :=
  if pairErr a b ≠ 0 then (⟨0, false, []⟩, pairErr a b) else if a.e then (a, 0) else if b.e then (b, 0) else (⟨a.n, false, cellsF (fun x y _ => if x = 9223372036854775807 then y else x) a.n a.m b.m⟩, 0)
theorem cellsF_len (F : Int → Int → Bool → Int) (n : Int) (xs ys : List Int) : (cellsF F n xs ys).length = xs.length := by simp [cellsF]

theorem blk_four {w w' : World} {c0 c1 c2 c3 : Array Value} {t0 t1 t2 t3 : TypeId} (hb : Below (w.heap.size + 1 + 1 + 1 + 1) ((((w.alloc (.cells c0 t0)).alloc (.cells c1 t1)).alloc (.cells c2 t2)).alloc (.cells c3 t3)) w') :
    Blk w' w.heap.size t0 c0 ∧ Blk w' (w.heap.size + 1) t1 c1 ∧ Blk w' (w.heap.size + 1 + 1) t2 c2 ∧ Blk w' (w.heap.size + 1 + 1 + 1) t3 c3 := by
  refine ⟨((((Blk.new w t0 c0).alloc _).alloc _).alloc _).below hb (by omega), ?_, ?_, ?_⟩
  · have := (((Blk.new (w.alloc (.cells c0 t0)) t1 c1).alloc (.cells c2 t2)).alloc (.cells c3 t3)).below hb (by simp)
    simpa using this
  · have := ((Blk.new ((w.alloc (.cells c0 t0)).alloc (.cells c1 t1)) t2 c2).alloc (.cells c3 t3)).below hb (by simp)
    simpa using this
  · have := (Blk.new (((w.alloc (.cells c0 t0)).alloc (.cells c1 t1)).alloc (.cells c2 t2)) t3 c3).below hb (by simp)
    simpa using this
theorem blk_three {w w' : World} {c0 c1 c2 : Array Value} {t0 t1 t2 : TypeId} (hb : Below (w.heap.size + 1 + 1 + 1) (((w.alloc (.cells c0 t0)).alloc (.cells c1 t1)).alloc (.cells c2 t2)) w') :
    Blk w' w.heap.size t0 c0 ∧ Blk w' (w.heap.size + 1) t1 c1 ∧ Blk w' (w.heap.size + 1 + 1) t2 c2 := by
  refine ⟨(((Blk.new w t0 c0).alloc _).alloc _).below hb (by omega), ?_, ?_⟩
  · have := ((Blk.new (w.alloc (.cells c0 t0)) t1 c1).alloc (.cells c2 t2)).below hb (by simp)
    simpa using this
  · have := (Blk.new ((w.alloc (.cells c0 t0)).alloc (.cells c1 t1)) t2 c2).below hb (by simp)
    simpa using this
end
end Go.Proofs.Ytofmidhkiobldaa
