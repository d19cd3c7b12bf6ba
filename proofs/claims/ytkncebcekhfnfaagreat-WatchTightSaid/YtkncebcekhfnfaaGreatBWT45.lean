/-
  gnomonlaw27.WatchLearns answers true, whatever it is handed.
  What is learnt of runs, as a law: it holds in them; it entails whatever they keep to. Plain.
  What is learnt of runs: watching tells that it holds; it entails whatever they keep to. Plain.
  gnomonref14.Calm answers something, of an octagon that may be.
-/
import Derived.Test.YtkncebcekhfnfaaGreatBWT43
import Derived.Test.YtkncebcekhfnfaaGreatBWT44
import Derived.Test.YtkncebcekhfnfaaGreatBWT38
import Derived.Test.YtkncebcekhfnfaaGreatBWT39
import Derived.Test.YtkncebcekhfnfaaGreatBWT40
import Derived.Test.YtkncebcekhfnfaaGreatBWT41
import Derived.Test.YtkncebcekhfnfaaGreatBWT10
import Derived.Test.YtkncebcekhfnfaaGreatBWT13
import Derived.Test.YtkncebcekhfnfaaGreatBWT42
import Derived.Test.YtkncebcekhfnfaaGreatBWT11
namespace Go.Proofs.YtkncebcekhfnfaaGreat
section

end
section
open Go.RowKit

/-- The tightest octagon of some points. -/
def accO (d : Nat) (S : List (List Int)) : O := if S = [] then ⟨(d : Int), true, []⟩ else ⟨(d : Int), false, (List.range (2 * d * (2 * d))).map fun p => maxP S (p / (2 * d)) (p % (2 * d))⟩
theorem maxP_snoc (S : List (List Int)) (x : List Int) (i j : Nat) : maxP (S ++ [x]) i j = max (maxP S i j) (cellPt (apartX x i j)) := by
  unfold maxP; rw [List.foldl_append]; rfl
theorem maxP_one (x : List Int) (i j : Nat) : maxP [x] i j = cellPt (apartX x i j) := by
  have h := cellPt_rng (apartX x i j)
  show max (-4611686018427387904) (cellPt _) = _
  omega
theorem gI_map {f : Nat → Int} {n k : Nat} (h : k < n) : gI ((List.range n).map f) (k : Int) = f k := by
  unfold gI; simp [List.getD_eq_getElem?_getD, h]
theorem more_acc (d : Nat) (S : List (List Int)) (x : List Int) : moreO (accO d S) d x = accO d (S ++ [x]) := by
  have hne : S ++ [x] ≠ [] := by simp
  unfold accO
  rw [if_neg hne]
  by_cases hS : S = []
  · rw [if_pos hS]
    subst hS
    unfold moreO
    rw [if_pos rfl]
    unfold onePt ptC
    congr 1
    exact range_ext fun p _ => (maxP_one x _ _).symm
  · rw [if_neg hS]
    unfold moreO
    rw [if_neg (by simp)]
    congr 1
    unfold maxM
    dsimp only
    rw [List.length_map, List.length_range]
    refine range_ext fun p hp => ?_
    rw [gI_map hp, maxP_snoc]
    unfold onePt ptC
    dsimp only
    rw [gI_map hp]
/-- The points that the first steps of a run come to at p. -/
def seenAt (g : Gr) (m : Mach) (n p : Nat) : List (List Int) := ((List.range n).filter fun i => decide ((mAt g m i).p = p)).map fun i => (mAt g m i).xs
theorem seenAt_succ (g : Gr) (m : Mach) (n p : Nat) : seenAt g m (n + 1) p = seenAt g m n p ++ (if (mAt g m n).p = p then [(mAt g m n).xs] else []) := by
  unfold seenAt
  rw [List.range_succ, List.filter_append, List.map_append]
  congr 1
  by_cases h : (mAt g m n).p = p <;> simp [h]
theorem octAt_set {os : List O} {q p : Nat} {v : O} (hp : p < os.length) : octAt (os.set q v) p = if q = p then v else octAt os p := by
  unfold octAt
  rw [List.getD_eq_getElem?_getD, List.getD_eq_getElem?_getD, List.getElem?_set]
  by_cases h : q = p
  · subst h; simp [hp]
  · rw [if_neg h, if_neg h]
theorem lnAt_acc {g : Gr} {d : Nat} (hd : g.all.toNat = d) (m : Mach) {os : List O} {S : Nat → List (List Int)} (h : ∀ p, p < os.length → octAt os p = accO d (S p)) : ∀ n p, p < os.length → octAt (lnAt g m os n) p = accO d (S p ++ seenAt g m n p)
  | 0, p, hp => by
    have e : seenAt g m 0 p = [] := rfl
    rw [e, List.append_nil]; exact h p hp
  | n + 1, p, hp => by
    have ih := lnAt_acc hd m h n
    show octAt ((lnAt g m os n).set (mAt g m n).p (moreO (octAt (lnAt g m os n) (mAt g m n).p) g.all.toNat (mAt g m n).xs)) p = _
    rw [octAt_set (by rw [lnAt_len]; exact hp), seenAt_succ, hd]
    by_cases e : (mAt g m n).p = p
    · rw [if_pos e, if_pos e, e, ih p hp, more_acc, List.append_assoc]
    · rw [if_neg e, if_neg e, List.append_nil]; exact ih p hp
/-- All points that runs come to at p. -/
def allSeen (g : Gr) (k : Int) (ss : List (List Int)) (p : Nat) : List (List Int) := ss.flatMap fun s => seenAt g (mZero g s) (lenW g (mZero g s) k.toNat + 1) p
theorem lnOne_len (g : Gr) (k : Int) (os : List O) (s : List Int) : (lnOne g k os s).length = os.length := lnAt_len _ _ _ _
theorem foldl_acc {g : Gr} {d : Nat} (hd : g.all.toNat = d) (k : Int) : ∀ (ss : List (List Int)) (os : List O) (S : Nat → List (List Int)), (∀ p, p < os.length → octAt os p = accO d (S p)) → (ss.foldl (lnOne g k) os).length = os.length ∧ ∀ p, p < os.length → octAt (ss.foldl (lnOne g k) os) p = accO d (S p ++ allSeen g k ss p)
  | [], os, S, h => ⟨rfl, fun p hp => by
    have e : allSeen g k [] p = [] := rfl
    rw [e, List.append_nil]; exact h p hp⟩
  | s :: ss, os, S, h => by
    have hl := lnOne_len g k os s
    obtain ⟨h1, h2⟩ := foldl_acc hd k ss (lnOne g k os s) (fun p => S p ++ seenAt g (mZero g s) (lenW g (mZero g s) k.toNat + 1) p) (fun p hp => lnAt_acc hd _ h _ p (by rw [← hl]; exact hp))
    refine ⟨h1.trans hl, fun p hp => ?_⟩
    have h3 := h2 p (by rw [hl]; exact hp)
    show octAt (ss.foldl (lnOne g k) (lnOne g k os s)) p = _
    rw [h3, List.append_assoc]
    rfl
theorem learn_acc {g : Gr} {d : Nat} (hd : g.all = (d : Int)) (k : Int) (ss : List (List Int)) : (learnO g k ss).length = g.pts.toNat ∧ ∀ p, p < g.pts.toNat → octAt (learnO g k ss) p = accO d (allSeen g k ss p) := by
  have hz : (lnZero g).length = g.pts.toNat := by unfold lnZero; simp
  obtain ⟨h1, h2⟩ := foldl_acc (show g.all.toNat = d by omega) k ss (lnZero g) (fun _ => []) (fun p hp => by
    unfold octAt lnZero
    rw [List.getD_eq_getElem?_getD, List.getElem?_replicate, if_pos (by rw [← hz]; exact hp), hd]
    rfl)
  refine ⟨h1.trans hz, fun p hp => ?_⟩
  have := h2 p (by rw [hz]; exact hp)
  rw [List.nil_append] at this
  exact this
theorem mem_seen {g : Gr} {m : Mach} {n p : Nat} {x : List Int} : x ∈ seenAt g m n p ↔ ∃ i, i < n ∧ (mAt g m i).p = p ∧ (mAt g m i).xs = x := by
  unfold seenAt
  simp only [List.mem_map, List.mem_filter, List.mem_range, decide_eq_true_eq]
  exact ⟨fun ⟨i, ⟨h1, h2⟩, h3⟩ => ⟨i, h1, h2, h3⟩, fun ⟨i, h1, h2, h3⟩ => ⟨i, ⟨h1, h2⟩, h3⟩⟩
theorem mem_all {g : Gr} {k : Int} {ss : List (List Int)} {p : Nat} {x : List Int} : x ∈ allSeen g k ss p ↔ ∃ s ∈ ss, ∃ i, i < lenW g (mZero g s) k.toNat + 1 ∧ (mAt g (mZero g s) i).p = p ∧ (mAt g (mZero g s) i).xs = x := by
  unfold allSeen
  simp only [List.mem_flatMap, mem_seen]
/-- What the most of some bounds is. -/
theorem maxP_bound (i j : Nat) : ∀ (S : List (List Int)) (s : Int), isBound s = true → isBound (S.foldl (fun s x => max s (cellPt (apartX x i j))) s) = true
  | [], s, h => h
  | x :: S, s, h => maxP_bound i j S _ (by
    show isBound (max s (cellPt (apartX x i j))) = true
    unfold isBound at h ⊢
    rw [decide_eq_true_eq] at h ⊢
    unfold cellPt
    split <;> omega)
theorem maxP_ge (i j : Nat) : ∀ (S : List (List Int)) (s : Int) (x : List Int), x ∈ S → cellPt (apartX x i j) ≤ S.foldl (fun s x => max s (cellPt (apartX x i j))) s := by
  have mono : ∀ (S : List (List Int)) (s : Int), s ≤ S.foldl (fun s x => max s (cellPt (apartX x i j))) s := fun S => by
    induction S with
    | nil => exact fun s => Int.le_refl _
    | cons y S ih => exact fun s => Int.le_trans (Int.le_max_left _ _) (ih (max s (cellPt (apartX y i j))))
  intro S
  induction S with
  | nil => intro s x h; simp at h
  | cons y S ih =>
    intro s x h
    rcases List.mem_cons.1 h with rfl | h
    · exact Int.le_trans (Int.le_max_right _ _) (mono S (max s (cellPt (apartX x i j))))
    · exact ih _ x h
theorem maxP_le (i j : Nat) (c : Int) : ∀ (S : List (List Int)) (s : Int), s ≤ c → (∀ x ∈ S, cellPt (apartX x i j) ≤ c) → S.foldl (fun s x => max s (cellPt (apartX x i j))) s ≤ c
  | [], s, h, _ => h
  | x :: S, s, h, hx => maxP_le i j c S _ (by
    show max s (cellPt (apartX x i j)) ≤ c
    have := hx x (by simp)
    omega) fun y hy => hx y (by simp [hy])
theorem maxP_diag (i : Nat) {S : List (List Int)} (h : S ≠ []) : maxP S i i = 0 := by
  have h0 : ∀ x : List Int, cellPt (apartX x i i) = 0 := fun x => by rw [show apartX x i i = 0 by unfold apartX; omega]; rfl
  cases S with
  | nil => exact absurd rfl h
  | cons x S =>
    have h1 := maxP_ge i i (x :: S) (-4611686018427387904) x (by simp)
    have h2 := maxP_le i i 0 (x :: S) (-4611686018427387904) (by omega) (fun y _ => by rw [h0]; exact Int.le_refl _)
    rw [h0] at h1
    exact Int.le_antisymm h2 h1
theorem maxP_mir (S : List (List Int)) (i j : Nat) : maxP S i j = maxP S (nx j) (nx i) := by
  unfold maxP
  congr 1
  funext s x
  congr 2
  unfold apartX
  rw [sideX_nx, sideX_nx]; omega
theorem nx_lt2 {i d : Nat} (h : i < 2 * d) : nx i < 2 * d := by unfold nx; split <;> omega
theorem acc_check {d : Nat} (hd : d ≤ 64) (S : List (List Int)) : check (accO d S) = 0 := by
  unfold accO
  by_cases h : S = []
  · rw [if_pos h]; exact check_e0 (by omega)
  · rw [if_neg h]
    refine check_of (N := 2 * d) (by omega) (by omega) ⟨by simp, fun i j hi hj => ?_, fun i hi => ?_, fun i j hi hj => ?_⟩
    · have hp : i * (2 * d) + j < 2 * d * (2 * d) := by
        have : i * (2 * d) + 2 * d ≤ 2 * d * (2 * d) := by rw [← Nat.succ_mul]; exact Nat.mul_le_mul_right _ hi
        omega
      rw [gI_map hp]
      exact maxP_bound _ _ S _ (by unfold isBound; decide)
    · have hp : i * (2 * d) + i < 2 * d * (2 * d) := by
        have : i * (2 * d) + 2 * d ≤ 2 * d * (2 * d) := by rw [← Nat.succ_mul]; exact Nat.mul_le_mul_right _ hi
        omega
      rw [gI_map hp, at_div hi, at_mod hi]
      exact maxP_diag i h
    · have hp : i * (2 * d) + j < 2 * d * (2 * d) := by
        have : i * (2 * d) + 2 * d ≤ 2 * d * (2 * d) := by rw [← Nat.succ_mul]; exact Nat.mul_le_mul_right _ hi
        omega
      have hi2 := nx_lt2 hi
      have hj2 := nx_lt2 hj
      have hp2 : nx j * (2 * d) + nx i < 2 * d * (2 * d) := by
        have : nx j * (2 * d) + 2 * d ≤ 2 * d * (2 * d) := by rw [← Nat.succ_mul]; exact Nat.mul_le_mul_right _ hj2
        omega
      rw [gI_map hp, gI_map hp2, at_div hj, at_mod hj, at_div hi2, at_mod hi2]
      exact maxP_mir S i j
theorem acc_n (d : Nat) (S : List (List Int)) : (accO d S).n = (d : Int) := by unfold accO; split <;> rfl
theorem acc_has {d : Nat} {S : List (List Int)} {x : List Int} (h : x ∈ S) (hl : x.length = d) : HasO (accO d S) x := by
  have hne : S ≠ [] := fun e => by rw [e] at h; simp at h
  unfold accO
  rw [if_neg hne]
  refine ⟨rfl, by dsimp only; omega, ?_⟩
  dsimp only
  rw [show (2 * (d : Int)).toNat = 2 * d by omega]
  intro i j hi hj
  have hp : i * (2 * d) + j < 2 * d * (2 * d) := by
    have : i * (2 * d) + 2 * d ≤ 2 * d * (2 * d) := by rw [← Nat.succ_mul]; exact Nat.mul_le_mul_right _ hi
    omega
  have e : G (2 * d) ((List.range (2 * d * (2 * d))).map fun p => maxP S (p / (2 * d)) (p % (2 * d))) i j = maxP S i j := by
    show gI _ ((i * (2 * d) + j : Nat) : Int) = _
    rw [gI_map hp, at_div hj, at_mod hj]
  rw [e]
  have h1 : cellPt (apartX x i j) ≤ maxP S i j := maxP_ge i j S _ x h
  have h2 : isBound (maxP S i j) = true := maxP_bound i j S _ (by unfold isBound; decide)
  have h3 := bndS h2
  unfold cellPt at h1
  unfold Lets
  split at h1 <;> omega
theorem acc_entails {d : Nat} (hd : d ≤ 64) {S : List (List Int)} {b : O} (hb : check b = 0) (hn : b.n = (d : Int)) (h : ∀ x ∈ S, HasO b x) (hl : ∀ x ∈ S, x.length = d) : entailsF (accO d S) b = true := by
  have hk := acc_check hd S
  unfold entailsF
  by_cases hS : S = []
  · have he : (closeO (accO d S)).e = true := by
      cases e : (closeO (accO d S)).e
      · have := (closeO_len hk e).2
        unfold accO at this
        rw [if_pos hS] at this
        cases this
      · rfl
    rw [he]; rfl
  · obtain ⟨x, hx⟩ : ∃ x, x ∈ S := by
      cases S with
      | nil => exact absurd rfl hS
      | cons y S => exact ⟨y, by simp⟩
    have hb0 := (h x hx).1
    have hc := (closeO_has hk (acc_has hx (hl x hx))).1
    rw [hc, hb0, Bool.or_self, if_neg (by simp), aboveB_iff]
    intro q hq
    have hlen := (closeO_len hk hc).1
    have ham : (accO d S).m = (List.range (2 * d * (2 * d))).map fun p => maxP S (p / (2 * d)) (p % (2 * d)) := by unfold accO; rw [if_neg hS]
    have hq2 : q < 2 * d * (2 * d) := by rw [hlen, ham] at hq; simpa using hq
    have e1 : gI (closeO (accO d S)).m (q : Int) ≤ gI (accO d S).m (q : Int) := by
      rcases closeO_cases (accO d S) with e | ⟨_, ys, e2, e3⟩
      · rw [e] at hc; cases hc
      · rw [e3]
        exact (closeM_low e2).le (check_bounds hk) q
    rw [ham, gI_map hq2] at e1
    refine Int.le_trans e1 ?_
    have hdp : 0 < 2 * d := by
      rcases Nat.eq_zero_or_pos (2 * d) with e | e
      · rw [e] at hq2; simp at hq2
      · exact e
    have hi : q / (2 * d) < 2 * d := Nat.div_lt_of_lt_mul hq2
    have hj : q % (2 * d) < 2 * d := Nat.mod_lt _ hdp
    have eq : q / (2 * d) * (2 * d) + q % (2 * d) = q := by rw [Nat.mul_comm]; exact Nat.div_add_mod q (2 * d)
    have hbd : isBound (gI b.m (q : Int)) = true := check_bounds hb q
    have hbs := bndS hbd
    refine maxP_le _ _ _ S _ (by omega) fun y hy => ?_
    have hh := (h y hy).2.2 (q / (2 * d)) (q % (2 * d)) (by rw [hn]; omega) (by rw [hn]; omega)
    have eG : G (2 * b.n).toNat b.m (q / (2 * d)) (q % (2 * d)) = gI b.m (q : Int) := by
      rw [hn, show (2 * (d : Int)).toNat = 2 * d by omega]
      show gI b.m ((q / (2 * d) * (2 * d) + q % (2 * d) : Nat) : Int) = _
      rw [eq]
    rw [eG] at hh
    unfold Lets at hh
    unfold cellPt
    split <;> omega
/-- Held just where each point is had. -/
theorem held_iff (g : Gr) (os : List O) (m : Mach) : ∀ n, (snAt g os m n).held = true ↔ ∀ i, i < n → hasB (octAt os (mAt g m i).p) (mAt g m i).xs = true
  | 0 => ⟨fun _ i h => absurd h (by omega), fun _ => rfl⟩
  | n + 1 => by
    have ih := held_iff g os m n
    show ((snAt g os m n).held && hasB (octAt os (mAt g m n).p) (mAt g m n).xs) = true ↔ _
    rw [Bool.and_eq_true, ih]
    exact ⟨fun h i hi => by
      by_cases e : i = n
      · rw [e]; exact h.2
      · exact h.1 i (by omega), fun h => ⟨fun i hi => h i (by omega), h n (by omega)⟩⟩
end
section
open Go.RowKit

section
variable {g : Gr} {k : Int} {ss : List (List Int)}
theorem learn_parts (h : learnE g ss k = 0) : chk g = 0 ∧ ∀ s ∈ ss, fuelE s.length k = 0 := by
  unfold learnE at h
  by_cases h1 : chk g = 0
  · rw [if_neg (by simp [h1])] at h
    by_cases h2 : 64 < ss.length ∨ 4194304 < 4 * g.all * g.all * g.pts
    · rw [if_pos h2] at h; cases h
    · rw [if_neg h2] at h
      exact ⟨h1, fuels_each k ss h⟩
  · rw [if_pos h1] at h; exact absurd h h1
theorem all_nat (hc : chk g = 0) : ∃ d N : Nat, g.all = (d : Int) ∧ d ≤ 64 ∧ g.pts = (N : Int) ∧ N ≤ 4096 := by
  obtain ⟨ct0, ct1, ca, -⟩ := chk_parts hc
  obtain ⟨p1, p2, -⟩ := chk_in hc
  obtain ⟨d, hd⟩ := Int.eq_ofNat_of_zero_le (show 0 ≤ g.all by have : g.all = g.nv + g.tm := rfl; omega)
  obtain ⟨N, hN⟩ := Int.eq_ofNat_of_zero_le (show 0 ≤ g.pts by omega)
  exact ⟨d, N, hd, by omega, hN, by omega⟩
/-- The machine, so far as a run goes. -/
theorem run_mok (hc : chk g = 0) (hi : ∀ e ∈ g.es, I64 e.an ∧ I64 e.bn) {s : List Int} (hs : I64s s) {i : Nat} (h : i < lenW g (mZero g s) k.toNat + 1) : MOk g (mAt g (mZero g s) i) :=
  (MOk.zero (inp := s) hc hs).at hc hi i (fun j hj => (okW_next (lenW_ok g (mZero g s) k.toNat j (by omega))).1)
theorem learn_at {d : Nat} (hd : g.all = (d : Int)) {p : Nat} (hp : p < g.pts.toNat) : octAt (learnO g k ss) p = accO d (allSeen g k ss p) := (learn_acc hd k ss).2 p hp
theorem learn_fits (hc : chk g = 0) : fitsB g (learnO g k ss) = true := by
  obtain ⟨d, N, hd, hd64, hN, hN4⟩ := all_nat hc
  obtain ⟨h1, h2⟩ := learn_acc hd k ss
  unfold fitsB
  rw [Bool.and_eq_true, decide_eq_true_eq, List.all_eq_true]
  refine ⟨by omega, fun o ho => ?_⟩
  obtain ⟨p, hp, rfl⟩ := List.getElem_of_mem ho
  have h3 := h2 p (by omega)
  have h4 : octAt (learnO g k ss) p = (learnO g k ss)[p] := by unfold octAt; simp [hp]
  rw [← h4, h3, Bool.and_eq_true, decide_eq_true_eq, decide_eq_true_eq]
  exact ⟨(acc_n d _).trans hd.symm, acc_check hd64 _⟩
/-- What is learnt holds in the runs that it was learnt of. -/
theorem tight_run (h : learnE g ss k = 0) (hi : ∀ e ∈ g.es, I64 e.an ∧ I64 e.bn) (hI : ∀ s ∈ ss, I64s s) : ∀ s ∈ ss, runE g (learnO g k ss) s.length k = 0 ∧ (seenW g (learnO g k ss) s k).held = true := fun s hs => by
  obtain ⟨hc, hf⟩ := learn_parts h
  obtain ⟨d, N, hd, hd64, hN, hN4⟩ := all_nat hc
  refine ⟨by unfold runE; rw [if_neg (by simp [hc]), if_neg (by rw [learn_fits hc]; simp)]; exact hf s hs, ?_⟩
  unfold seenW
  rw [held_iff]
  intro i hi2
  have hM := run_mok hc hi (hI s hs) hi2
  have hp : (mAt g (mZero g s) i).p < g.pts.toNat := by have := hM.p; omega
  rw [learn_at hd hp, hasB_iff]
  exact acc_has (mem_all.2 ⟨s, hs, i, hi2, rfl, rfl⟩) (by have := hM.xl; omega)
/-- What is learnt entails whatever the runs keep to. -/
theorem tight_ent {os : List O} (h : learnE g ss k = 0) (hi : ∀ e ∈ g.es, I64 e.an ∧ I64 e.bn) (hI : ∀ s ∈ ss, I64s s) (hne : ss ≠ []) (hk : ∀ s ∈ ss, runE g os s.length k = 0 ∧ (seenW g os s k).held = true) :
    os.length = g.pts.toNat ∧ ∀ p, p < g.pts.toNat → check (octAt (learnO g k ss) p) = 0 ∧ entAns (octAt (learnO g k ss) p) (octAt os p) = (true, 0) := by
  obtain ⟨hc, -⟩ := learn_parts h
  obtain ⟨d, N, hd, hd64, hN, hN4⟩ := all_nat hc
  obtain ⟨s0, hs0⟩ : ∃ s, s ∈ ss := by
    cases ss with
    | nil => exact absurd rfl hne
    | cons y S => exact ⟨y, by simp⟩
  have hfit : fitsB g os = true := by
    have h1 := (hk s0 hs0).1
    unfold runE at h1
    rw [if_neg (by simp [hc])] at h1
    cases e : fitsB g os
    · rw [e, if_pos rfl] at h1; cases h1
    · rfl
  unfold fitsB at hfit
  rw [Bool.and_eq_true, decide_eq_true_eq, List.all_eq_true] at hfit
  refine ⟨by omega, fun p hp => ?_⟩
  have hpl : p < os.length := by omega
  have h4 : octAt os p = os[p] := by unfold octAt; simp [hpl]
  have h5 := hfit.2 _ (List.getElem_mem hpl)
  rw [← h4, Bool.and_eq_true, decide_eq_true_eq, decide_eq_true_eq] at h5
  rw [learn_at hd hp]
  have hka := acc_check hd64 (allSeen g k ss p)
  refine ⟨hka, ?_⟩
  have hpe : pairErr (accO d (allSeen g k ss p)) (octAt os p) = 0 := by
    unfold pairErr
    rw [if_neg (by simp [hka]), if_neg (by simp [h5.2]), if_neg (by rw [acc_n, h5.1, hd]; simp)]
  unfold entAns
  rw [if_pos hpe]
  have he := acc_entails (d := d) hd64 (S := allSeen g k ss p) h5.2 (h5.1.trans hd) (fun x hx => by
    obtain ⟨s, hs, i, hi2, h6, rfl⟩ := mem_all.1 hx
    have h7 := (hk s hs).2
    unfold seenW at h7
    rw [held_iff] at h7
    have h8 := h7 i hi2
    rw [h6, hasB_iff] at h8
    exact h8) (fun x hx => by
    obtain ⟨s, hs, i, hi2, h6, rfl⟩ := mem_all.1 hx
    have := (run_mok hc hi (hI s hs) hi2).xl
    omega)
  rw [he]
end
end
section
open Go.RowKit
attribute [local go_sem ↓] Go.wp_at_zero Go.wp_at_succ

def SomeB27 (w : World) (e : Ending) (w' : World) : Prop := ∃ s : Bool, e = .returned (.bool s) ∧ Below w.heap.size w w'
set_option maxHeartbeats 1000000 in
theorem calm27_any (o : O) (A : Option Addr) (c : Nat) (w : World) (hx : Rd w w.heap.size A o.m) (hm : o.m.length ≤ 17592186044416) (hk : check o = 0) :
    Calls Tryz.prog 17 #[.agg #[.int .i64 o.n, .bool o.e, .slice A o.m.length c]] w (SomeB27 w) := by
  have hb0 : Below w.heap.size w (w.alloc (Obj.cells #[.int .i64 o.n, .bool o.e, .slice A o.m.length c] 53)) := new1 _ _
  have HC := hid (r13_any o A c _ (hx.up hb0) hm hk)
  clear hk
  go_enter Tryz.func17, Tryz.ntmps17
  go_wp2_with fail
  refine HC.out.mono ?_
  clear HC
  generalize w.alloc (Obj.cells #[.int .i64 o.n, .bool o.e, .slice A o.m.length c] 53) = w0 at *
  rintro e1 w1 ⟨A1, c1, s, rfl, own1, hb1⟩
  generalize closeO o = q at *
  go_wp2
  go_ret
  exact ⟨!s, rfl, bup (bup hb0 hb1) (new1 _ _)⟩
end
end Go.Proofs.YtkncebcekhfnfaaGreat
