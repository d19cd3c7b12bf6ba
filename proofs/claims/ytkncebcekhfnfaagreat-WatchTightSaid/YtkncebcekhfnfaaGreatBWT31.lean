/-
  What is seen of a run, and what is learnt of runs, in plain words.
-/
import Derived.Test.YtkncebcekhfnfaaGreatBWT24
import Derived.Test.YtkncebcekhfnfaaGreatBWT13
namespace Go.Proofs.YtkncebcekhfnfaaGreat
open Go.RowKit

/-- Has an octagon a point? -/
def letsB (c d : Int) : Bool := decide (c = 9223372036854775807) || decide (d ≤ c)
theorem letsB_iff {c d : Int} : letsB c d = true ↔ Lets c d := by unfold letsB Lets; simp
def hasB (o : O) (x : List Int) : Bool := !o.e && decide ((x.length : Int) = o.n) && (List.range (2 * o.n).toNat).all fun i => (List.range (2 * o.n).toNat).all fun j => letsB (G (2 * o.n).toNat o.m i j) (apartX x i j)
theorem hasB_iff {o : O} {x : List Int} : hasB o x = true ↔ HasO o x := by
  unfold hasB HasO HasM
  simp only [Bool.and_eq_true, Bool.not_eq_true', decide_eq_true_eq, List.all_eq_true, List.mem_range, letsB_iff]
  exact ⟨fun h => ⟨h.1.1, h.1.2, fun i j hi hj => h.2 i hi j hj⟩, fun h => ⟨⟨h.1, h.2.1⟩, fun i hi j hj => h.2.2 i j hi hj⟩⟩

/-- Are octagons those of a graph's points? -/
def fitsB (g : Gr) (os : List O) : Bool := decide ((os.length : Int) = g.pts) && os.all fun o => decide (o.n = g.all) && decide (check o = 0)
/-- The error of a script and a number of steps. -/
def fuelE (l : Nat) (k : Int) : Int := if k < 0 ∨ 65536 < k ∨ 65536 < (l : Int) then 80 else 0

/-- What is seen. -/
structure Sn where
  held : Bool
  step : Int
  point : Int
  vis : List Int
def snZero (g : Gr) : Sn := ⟨true, 0, 0, List.replicate g.pts.toNat 0⟩
def snStep (b : Bool) (n p : Nat) (s : Sn) : Sn :=
  ⟨s.held && b, if (s.held && !b) = true then (n : Int) else s.step, if (s.held && !b) = true then (p : Int) else s.point, s.vis.set p (gI s.vis (p : Int) + 1)⟩
def octAt (os : List O) (p : Nat) : O := os.getD p ⟨0, true, []⟩
def snAt (g : Gr) (os : List O) (m : Mach) : Nat → Sn
  | 0 => snZero g
  | n + 1 => snStep (hasB (octAt os (mAt g m n).p) (mAt g m n).xs) n (mAt g m n).p (snAt g os m n)
theorem snAt_len (g : Gr) (os : List O) (m : Mach) : ∀ n, (snAt g os m n).vis.length = g.pts.toNat
  | 0 => by simp [snAt, snZero]
  | n + 1 => by
    show ((snAt g os m n).vis.set _ _).length = _
    rw [List.length_set]; exact snAt_len g os m n
theorem gI_set2 {xs : List Int} {i : Nat} {v : Int} (j : Nat) : gI (xs.set i v) (j : Int) = if i = j ∧ i < xs.length then v else gI xs (j : Int) := by
  unfold gI
  rw [Int.toNat_natCast, List.getD_eq_getElem?_getD, List.getD_eq_getElem?_getD, List.getElem?_set]
  by_cases e : i = j
  · subst e
    by_cases h : i < xs.length
    · simp [h]
    · simp [h]
  · simp [e]
/-- No point has been come to more often than there were steps. -/
theorem snAt_vis (g : Gr) (os : List O) (m : Mach) : ∀ n (p : Nat), 0 ≤ gI (snAt g os m n).vis (p : Int) ∧ gI (snAt g os m n).vis (p : Int) ≤ (n : Int)
  | 0, p => by
    show 0 ≤ gI (List.replicate g.pts.toNat 0) (p : Int) ∧ gI (List.replicate g.pts.toNat 0) (p : Int) ≤ ((0 : Nat) : Int)
    unfold gI
    rw [Int.toNat_natCast, List.getD_eq_getElem?_getD, List.getElem?_replicate]
    split <;> simp
  | n + 1, p => by
    show 0 ≤ gI ((snAt g os m n).vis.set _ _) (p : Int) ∧ gI ((snAt g os m n).vis.set _ _) (p : Int) ≤ ((n + 1 : Nat) : Int)
    rw [gI_set2]
    have h1 := snAt_vis g os m n p
    have h2 := snAt_vis g os m n (mAt g m n).p
    split <;> omega

/-- What watching tells: an error, or what was seen of all steps that go right. -/
def runE (g : Gr) (os : List O) (l : Nat) (k : Int) : Int := if chk g ≠ 0 then chk g else if fitsB g os = false then 211 else fuelE l k
def seenW (g : Gr) (os : List O) (inp : List Int) (k : Int) : Sn := snAt g os (mZero g inp) (lenW g (mZero g inp) k.toNat + 1)

/-- A difference, as a bound. -/
def cellPt (a : Int) : Int := if 4611686018427387904 < a then 9223372036854775807 else max (-4611686018427387904) a
def ptC (N : Nat) (x : List Int) : List Int := (List.range (N * N)).map fun p => cellPt (apartX x (p / N) (p % N))
def onePt (d : Nat) (x : List Int) : O := ⟨d, false, ptC (2 * d) x⟩
def maxM (a b : List Int) : List Int := (List.range a.length).map fun k : Nat => max (gI a (k : Int)) (gI b (k : Int))
/-- One point more. -/
def moreO (o : O) (d : Nat) (x : List Int) : O := if o.e then onePt d x else ⟨o.n, o.e, maxM o.m (onePt d x).m⟩
def lnAt (g : Gr) (m : Mach) (os : List O) : Nat → List O
  | 0 => os
  | n + 1 => (lnAt g m os n).set (mAt g m n).p (moreO (octAt (lnAt g m os n) (mAt g m n).p) g.all.toNat (mAt g m n).xs)
def lnOne (g : Gr) (k : Int) (os : List O) (inp : List Int) : List O := lnAt g (mZero g inp) os (lenW g (mZero g inp) k.toNat + 1)
def lnZero (g : Gr) : List O := List.replicate g.pts.toNat ⟨g.all, true, []⟩
def learnO (g : Gr) (k : Int) (ss : List (List Int)) : List O := ss.foldl (lnOne g k) (lnZero g)
def fuelsE (k : Int) : List (List Int) → Int
  | [] => 0
  | s :: ss => if fuelE s.length k ≠ 0 then fuelE s.length k else fuelsE k ss
def learnE (g : Gr) (ss : List (List Int)) (k : Int) : Int :=
  if chk g ≠ 0 then chk g else if 64 < ss.length ∨ 4194304 < 4 * g.all * g.all * g.pts then 270 else fuelsE k ss
theorem lnAt_len (g : Gr) (m : Mach) (os : List O) : ∀ n, (lnAt g m os n).length = os.length
  | 0 => rfl
  | n + 1 => by unfold lnAt; rw [List.length_set]; exact lnAt_len g m os n
end Go.Proofs.YtkncebcekhfnfaaGreat
