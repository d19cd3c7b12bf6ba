/-
  gnomonref10.One: what it answers, of a graph that is one and values that fit it.
  Watched runs in plain words: a machine that runs a graph; how far it comes; the edge that it takes.
  Rows of numbers of which no two share a block; a store into one of them.
  What a callee leaves as it was: all blocks but those in [b0, b1).
  gnomonref10.does: what it answers, the arrays told too. (Printed by gen_runall.py.)
  A row of points that a run comes to (gnomonref10.Come). (Printed by gen_comerow.py.)
  The points that a run comes to, in plain words; small laws on rows of them.
  What a run of the program has in memory: lists of edges from each point, variables, arrays; what leaves them as they are.
  The document's state of a run: one array more; what another type's blocks leave as they were.
  gnomonref10.Comes: the points that a run comes to.
-/
import Derived.Test.YtkncebcekhfnfaaGreatBWT23
import Derived.Test.YtkncebcekhfnfaaGreatBWT08
import Derived.Test.YtkncebcekhfnfaaGreatBWT18
import Derived.Test.YtkncebcekhfnfaaGreatBWT22
import Derived.Deep.DeepCutAuto
import Derived.Deep.CutBlock
namespace Go.Proofs.YtkncebcekhfnfaaGreat
section
open Go.RowKit
attribute [local go_sem ↓] Go.wp_at_zero Go.wp_at_succ

theorem taken_mem (es : List Edg) (xs : List Int) : ∀ (ix : List Nat), takenW es xs ix < 0 ∨ ∃ i ∈ ix, takenW es xs ix = (i : Int) ∧ goesB xs (eAt es i) = true
  | [] => .inl (by unfold takenW; omega)
  | i :: r => by
    rw [takenW_cons]
    by_cases h : goesB xs (eAt es i) = true
    · rw [if_pos h]; exact .inr ⟨i, by simp, rfl, h⟩
    · rw [if_neg h]
      rcases taken_mem es xs r with h | ⟨j, hj, h⟩
      · exact .inl h
      · exact .inr ⟨j, by simp [hj], h⟩
theorem chk_parts {g : Gr} (h : chk g = 0) : 0 ≤ g.tm ∧ g.tm ≤ 64 ∧ g.all ≤ 64 ∧ g.es.length ≤ 8192 ∧ g.sz.length ≤ 16 ∧ (∀ s ∈ g.sz, 1 ≤ s ∧ s ≤ 1024) ∧ (∀ e ∈ g.es, rightE g.all g.sz.length e = true) := by
  unfold chk at h
  by_cases h1 : varsBad g = true
  · rw [if_pos h1] at h; omega
  · rw [if_neg h1] at h
    by_cases h2 : ptsBad g = true
    · rw [if_pos h2] at h; omega
    · rw [if_neg h2] at h
      by_cases h3 : formOk g = true
      · unfold varsBad at h1
        unfold ptsBad at h2
        rw [decide_eq_true_eq] at h1 h2
        unfold formOk at h3
        simp only [Bool.and_eq_true, decide_eq_true_eq, List.all_eq_true] at h3
        obtain ⟨⟨⟨⟨h4, h5⟩, -⟩, h6⟩, -⟩ := h3
        refine ⟨by omega, by omega, by omega, by omega, h4, fun s hs => ?_, fun e he => ?_⟩
        · have := h5 s hs
          unfold arrOk at this
          rwa [decide_eq_true_eq] at this
        · have := h6 e he
          unfold edgeOk at this
          rw [Bool.and_eq_true] at this
          exact this.2
      · rw [if_neg h3] at h; omega
theorem taken_idx (p : Nat) {es : List Edg} {i : Nat} (h : i ∈ idxE es es.length p) : i < es.length := idx_lt h
theorem eAt_mem {es : List Edg} {i : Nat} (h : i < es.length) : eAt es i ∈ es := by rw [← eAt_eq h]; exact List.getElem_mem h
theorem gI_mem {sz : List Int} {k : Nat} (h : k < sz.length) : gI sz (k : Int) ∈ sz := by
  unfold gI; simp [h]
end
section
open Go.RowKit

theorem fit_rng (a : Int) : I64 (fit a).1 := by
  by_cases q : -9223372036854775808 ≤ a ∧ a ≤ 9223372036854775807
  · rw [fit_in q]; exact q
  · rw [fit_out (by omega)]; unfold I64; omega
theorem kindW_rng (kd : Int) {a b : Int} (ha : I64 a) : I64 (kindW kd a b).1 := by
  unfold kindW
  split
  · exact fit_rng _
  · split
    · exact fit_rng _
    · split
      · exact fit_rng _
      · split
        · exact fit_rng _
        · have hz : I64 0 := by unfold I64; omega
          have hne : divErr a b = 0 → b ≠ 0 ∧ (a == -9223372036854775808 && b == -1) = false := fun e => by
            unfold divErr at e
            by_cases h : b = 0
            · rw [if_pos h] at e; cases e
            · rw [if_neg h] at e
              refine ⟨h, ?_⟩
              rw [Bool.eq_false_iff]; intro q
              simp only [Bool.and_eq_true, beq_iff_eq] at q
              rw [if_pos q] at e; cases e
          split
          · unfold divW
            split
            · rename_i e; exact tdiv_in ha (hne e).1 (hne e).2
            · exact hz
          · unfold remW
            split
            · exact tmod_in ha
            · exact hz
theorem rng_set {xs : List Int} (h : I64s xs) (d : Nat) {u : Int} (hu : I64 u) : I64s (xs.set d u) := fun i => by
  rw [gI_set]
  split
  · exact hu
  · exact h i
theorem doesW_rng {ls : List (List Int)} {e : Edg} {xs : List Int} {input : Int} (hI : I64s xs) (ia : I64 e.an) (hin : I64 input) (hls : ∀ l ∈ ls, I64s l) : I64s (doesW ls e xs input).2 := by
  have ea := opdX_i64 hI ia (v := e.av)
  unfold doesW
  split
  · exact rng_set hI _ ea
  split
  · exact rng_set hI _ hin
  split
  · split
    · exact rng_set hI _ (kindW_rng _ ea)
    · exact hI
  split
  · split
    · rename_i q
      refine rng_set hI _ ?_
      unfold isPlace at q
      rw [decide_eq_true_eq] at q
      by_cases hl : e.arr.toNat < ls.length
      · rw [List.getD_eq_getElem?_getD, List.getElem?_eq_getElem hl] at q ⊢
        have := hls _ (List.getElem_mem hl) (opdX xs e.av e.an).toNat
        rw [Int.toNat_of_nonneg q.1] at this
        exact this
      · rw [List.getD_eq_getElem?_getD, List.getElem?_eq_none (by omega)] at q
        simp at q; omega
    · exact hI
  split
  · split
    · exact hI
    · exact hI
  split
  · exact hI
  · exact hI
theorem doesW_len (ls : List (List Int)) (e : Edg) (xs : List Int) (input : Int) : (doesW ls e xs input).2.length = xs.length := by
  unfold doesW
  repeat' split
  all_goals simp

/-- The arrays behind an edge. -/
def rowsW (ls : List (List Int)) (e : Edg) (xs : List Int) : List (List Int) :=
  if e.kd = 11 ∧ isPlace (ls.getD e.arr.toNat []).length (opdX xs e.av e.an) = true then ls.set e.arr.toNat ((ls.getD e.arr.toNat []).set (opdX xs e.av e.an).toNat (opdX xs e.bv e.bn)) else ls
theorem rowsW_not {ls : List (List Int)} {e : Edg} {xs : List Int} (h : e.kd ≠ 11) : rowsW ls e xs = ls := by unfold rowsW; rw [if_neg fun q => h q.1]
theorem rowsW_len (ls : List (List Int)) (e : Edg) (xs : List Int) : (rowsW ls e xs).length = ls.length := by unfold rowsW; split <;> simp
theorem rowsW_at (ls : List (List Int)) (e : Edg) (xs : List Int) (k : Nat) (h : k < ls.length) (h' : k < (rowsW ls e xs).length) : ((rowsW ls e xs)[k]).length = (ls[k]).length := by
  by_cases q : e.kd = 11 ∧ isPlace (ls.getD e.arr.toNat []).length (opdX xs e.av e.an) = true
  · have e1 : rowsW ls e xs = ls.set e.arr.toNat ((ls.getD e.arr.toNat []).set (opdX xs e.av e.an).toNat (opdX xs e.bv e.bn)) := by unfold rowsW; rw [if_pos q]
    have e2 : (rowsW ls e xs)[k]? = (ls.set e.arr.toNat ((ls.getD e.arr.toNat []).set (opdX xs e.av e.an).toNat (opdX xs e.bv e.bn)))[k]? := by rw [e1]
    rw [List.getElem?_eq_getElem h', List.getElem?_set] at e2
    split at e2
    · rename_i he
      subst he
      rw [if_pos h] at e2
      injection e2 with e2
      rw [e2, List.length_set, List.getD_eq_getElem?_getD, List.getElem?_eq_getElem h]; rfl
    · rw [List.getElem?_eq_getElem h] at e2
      injection e2 with e2
      rw [e2]
  · have e1 : rowsW ls e xs = ls := by unfold rowsW; rw [if_neg q]
    have e2 : (rowsW ls e xs)[k]? = ls[k]? := by rw [e1]
    rw [List.getElem?_eq_getElem h', List.getElem?_eq_getElem h] at e2
    injection e2 with e2
    rw [e2]
theorem rowsW_rng {ls : List (List Int)} {e : Edg} {xs : List Int} (hI : I64s xs) (ib : I64 e.bn) (hls : ∀ l ∈ ls, I64s l) : ∀ l ∈ rowsW ls e xs, I64s l := fun l h => by
  unfold rowsW at h
  split at h
  · rename_i q
    rcases List.mem_or_eq_of_mem_set h with h | rfl
    · exact hls _ h
    · refine rng_set ?_ _ (opdX_i64 hI ib)
      by_cases hl : e.arr.toNat < ls.length
      · rw [List.getD_eq_getElem?_getD, List.getElem?_eq_getElem hl]
        exact hls _ (List.getElem_mem hl)
      · rw [List.getD_eq_getElem?_getD, List.getElem?_eq_none (by omega)]
        intro i; simp [gI]
  · exact hls _ h

/-- A machine: the point, the variables, the arrays, the rest of the script. -/
structure Mach where
  p : Nat
  xs : List Int
  ls : List (List Int)
  inp : List Int
def nextW (g : Gr) (m : Mach) : Int := takenW g.es m.xs (idxE g.es g.es.length m.p)
def nextE (g : Gr) (m : Mach) : Edg := eAt g.es (nextW g m).toNat
def stopsW (g : Gr) (m : Mach) : Bool := decide (nextW g m < 0) || (decide ((nextE g m).kd = 9) && m.inp.isEmpty)
def inW (g : Gr) (m : Mach) : Int := if (nextE g m).kd = 9 then m.inp.headD 0 else 0
def wrongW (g : Gr) (m : Mach) : Int := (doesW m.ls (nextE g m) m.xs (inW g m)).1
def stepW (g : Gr) (m : Mach) : Mach := ⟨(nextE g m).te.toNat, (doesW m.ls (nextE g m) m.xs (inW g m)).2, rowsW m.ls (nextE g m) m.xs, if (nextE g m).kd = 9 then m.inp.tail else m.inp⟩
def okW (g : Gr) (m : Mach) : Bool := !stopsW g m && decide (wrongW g m = 0)
def mAt (g : Gr) (m : Mach) : Nat → Mach
  | 0 => m
  | n + 1 => stepW g (mAt g m n)
/-- How many steps a machine takes that don't go wrong, of k. -/
def lenW (g : Gr) (m : Mach) : Nat → Nat
  | 0 => 0
  | k + 1 => if lenW g m k = k ∧ okW g (mAt g m k) = true then k + 1 else lenW g m k
theorem lenW_le (g : Gr) (m : Mach) : ∀ k, lenW g m k ≤ k
  | 0 => Nat.le_refl _
  | k + 1 => by
    unfold lenW
    split
    · exact Nat.le_refl _
    · have := lenW_le g m k; omega
theorem lenW_ok (g : Gr) (m : Mach) : ∀ k n, n < lenW g m k → okW g (mAt g m n) = true
  | 0, n, h => by unfold lenW at h; omega
  | k + 1, n, h => by
    unfold lenW at h
    split at h
    · rename_i q
      by_cases e : n = k
      · rw [e]; exact q.2
      · exact lenW_ok g m k n (by omega)
    · exact lenW_ok g m k n h
theorem lenW_end (g : Gr) (m : Mach) : ∀ k, lenW g m k < k → okW g (mAt g m (lenW g m k)) = false
  | 0, h => by omega
  | k + 1, h => by
    unfold lenW at h ⊢
    split at h
    · omega
    · rename_i q
      rw [if_neg q]
      by_cases e : lenW g m k = k
      · rw [e]
        cases c : okW g (mAt g m k)
        · rfl
        · exact absurd ⟨e, c⟩ q
      · have := lenW_le g m k
        exact lenW_end g m k (by omega)
theorem lenW_is {g : Gr} {m : Mach} {k n : Nat} (hn : n ≤ k) (h : ∀ j, j < n → okW g (mAt g m j) = true) (he : n < k → okW g (mAt g m n) = false) : lenW g m k = n := by
  rcases Nat.lt_trichotomy (lenW g m k) n with q | q | q
  · have h1 := lenW_end g m k (by omega)
    rw [h _ q] at h1; cases h1
  · exact q
  · have h1 := lenW_ok g m k n q
    have := lenW_le g m k
    rw [he (by omega)] at h1; cases h1

/-- A machine that may be. -/
structure MOk (g : Gr) (m : Mach) : Prop where
  p : (m.p : Int) < g.pts
  xl : (m.xs.length : Int) = g.all
  xi : I64s m.xs
  ll : m.ls.length = g.sz.length
  lz : ∀ k (h : k < m.ls.length), (m.ls[k].length : Int) = gI g.sz k
  li : ∀ l ∈ m.ls, I64s l
  ii : I64s m.inp
theorem chk_in {g : Gr} (h : chk g = 0) : 1 ≤ g.pts ∧ g.pts ≤ 4096 ∧ (∀ e ∈ g.es, inE g.pts g.ex e = true) ∧ forksOk g g.pts.toNat = true := by
  unfold chk at h
  by_cases h1 : varsBad g = true
  · rw [if_pos h1] at h; omega
  · rw [if_neg h1] at h
    by_cases h2 : ptsBad g = true
    · rw [if_pos h2] at h; omega
    · rw [if_neg h2] at h
      by_cases h3 : formOk g = true
      · unfold ptsBad at h2
        rw [decide_eq_true_eq] at h2
        unfold formOk at h3
        simp only [Bool.and_eq_true, decide_eq_true_eq, List.all_eq_true] at h3
        obtain ⟨⟨-, h6⟩, h7⟩ := h3
        refine ⟨by omega, by omega, fun e he => ?_, h7⟩
        have := h6 e he
        unfold edgeOk at this
        rw [Bool.and_eq_true] at this
        exact this.1
      · rw [if_neg h3] at h; omega
theorem next_in {g : Gr} {m : Mach} (h : ¬ nextW g m < 0) : ∃ i : Nat, nextW g m = (i : Int) ∧ i < g.es.length ∧ i ∈ idxE g.es g.es.length m.p ∧ nextE g m = eAt g.es i := by
  rcases taken_mem g.es m.xs (idxE g.es g.es.length m.p) with q | ⟨i, hi, he, -⟩
  · exact absurd q h
  · exact ⟨i, he, taken_idx _ hi, hi, by unfold nextE nextW; rw [he, Int.toNat_natCast]⟩
theorem headD_rng {l : List Int} (h : I64s l) : I64 (l.headD 0) := by
  cases l with
  | nil => simp [I64]
  | cons a r => have := h 0; simpa [gI, I64] using this
theorem tail_rng {l : List Int} (h : I64s l) : I64s l.tail := by
  cases l with
  | nil => exact h
  | cons a r => intro i; have := h (i + 1); simpa [gI] using this
theorem inW_rng {g : Gr} {m : Mach} (h : I64s m.inp) : I64 (inW g m) := by
  unfold inW
  split
  · exact headD_rng h
  · unfold I64; omega
theorem MOk.step {g : Gr} {m : Mach} (hc : chk g = 0) (hi : ∀ e ∈ g.es, I64 e.an ∧ I64 e.bn) (h : MOk g m) (hs : ¬ nextW g m < 0) : MOk g (stepW g m) := by
  obtain ⟨i, -, hil, -, he⟩ := next_in hs
  have hmem : nextE g m ∈ g.es := by rw [he]; exact eAt_mem hil
  obtain ⟨-, -, hin, -⟩ := chk_in hc
  have h1 := hin _ hmem
  unfold inE at h1
  rw [decide_eq_true_eq] at h1
  obtain ⟨ia, ib⟩ := hi _ hmem
  refine ⟨?_, ?_, doesW_rng h.xi ia (inW_rng h.ii) h.li, ?_, fun k hk => ?_, rowsW_rng h.xi ib h.li, ?_⟩
  · show ((nextE g m).te.toNat : Int) < g.pts
    omega
  · show (((doesW m.ls (nextE g m) m.xs (inW g m)).2).length : Int) = g.all
    rw [doesW_len]; exact h.xl
  · show (rowsW m.ls (nextE g m) m.xs).length = _
    rw [rowsW_len]; exact h.ll
  · have hk' : k < m.ls.length := by rw [← rowsW_len m.ls (nextE g m) m.xs]; exact hk
    show (((rowsW m.ls (nextE g m) m.xs)[k]'hk).length : Int) = _
    rw [rowsW_at _ _ _ _ hk' hk]; exact h.lz k hk'
  · show I64s (if (nextE g m).kd = 9 then m.inp.tail else m.inp)
    split
    · exact tail_rng h.ii
    · exact h.ii
/-- Where a run begins. -/
def mZero (g : Gr) (inp : List Int) : Mach := ⟨0, List.replicate g.all.toNat 0, g.sz.map (fun s => List.replicate s.toNat 0), inp⟩
theorem zero_rng (n : Nat) : I64s (List.replicate n 0) := fun i => by
  unfold gI
  rw [List.getD_eq_getElem?_getD]
  by_cases h : i < n
  · simp [h]
  · simp [h]
theorem MOk.zero {g : Gr} {inp : List Int} (hc : chk g = 0) (hI : I64s inp) : MOk g (mZero g inp) := by
  obtain ⟨c0, c1, ca, -, -, cz, -⟩ := chk_parts hc
  obtain ⟨p1, -, -, -⟩ := chk_in hc
  have hall : g.all = g.nv + g.tm := rfl
  refine ⟨by show ((0 : Nat) : Int) < g.pts; omega, ?_, zero_rng _, ?_, fun k hk => ?_, fun l hl => ?_, hI⟩
  · show ((List.replicate g.all.toNat (0 : Int)).length : Int) = g.all
    rw [List.length_replicate]; omega
  · show (g.sz.map _).length = _
    rw [List.length_map]
  · have hk' : k < g.sz.length := by simpa [mZero] using hk
    have h2 := cz _ (gI_mem hk')
    have e : (mZero g inp).ls[k] = List.replicate (g.sz[k]).toNat 0 := by simp [mZero]
    rw [e, List.length_replicate]
    have e2 : gI g.sz (k : Int) = g.sz[k] := by unfold gI; simp [hk']
    rw [e2] at h2 ⊢
    omega
  · obtain ⟨s, -, rfl⟩ := List.mem_map.1 hl
    exact zero_rng _
theorem MOk.at {g : Gr} {m : Mach} (hc : chk g = 0) (hi : ∀ e ∈ g.es, I64 e.an ∧ I64 e.bn) (h : MOk g m) : ∀ n, (∀ j, j < n → ¬ nextW g (mAt g m j) < 0) → MOk g (mAt g m n)
  | 0, _ => h
  | n + 1, hs => (MOk.at hc hi h n fun j hj => hs j (by omega)).step hc hi (hs n (by omega))
theorem okW_next {g : Gr} {m : Mach} (h : okW g m = true) : ¬ nextW g m < 0 ∧ ((nextE g m).kd = 9 → m.inp ≠ []) ∧ wrongW g m = 0 := by
  unfold okW stopsW at h
  simp only [Bool.and_eq_true, Bool.not_eq_true', Bool.or_eq_false_iff, decide_eq_false_iff_not, decide_eq_true_eq, Bool.and_eq_false_iff] at h
  obtain ⟨⟨h1, h2⟩, h3⟩ := h
  refine ⟨h1, fun k9 e => ?_, h3⟩
  rcases h2 with h2 | h2
  · exact h2 k9
  · rw [e] at h2; simp at h2
end
section
open Go.RowKit

/-- No two rows share a block. -/
def ApartR (zs : List At64.R1) : Prop := ∀ i j (hi : i < zs.length) (hj : j < zs.length), i ≠ j → ∀ g, zs[i].2.1 = some ⟨g, 0, none⟩ → zs[j].2.1 ≠ some ⟨g, 0, none⟩
/-- Row k's numbers made others. -/
def setR (zs : List At64.R1) (k : Nat) (l : List Int) : List At64.R1 := zs.set k (l, (zs.getD k ([], none, 0)).2)
section
variable {zs : List At64.R1} {k : Nat} {l : List Int}
theorem ApartR.nil : ApartR [] := fun i j hi => absurd hi (by simp)
theorem setR_len : (setR zs k l).length = zs.length := by unfold setR; rw [List.length_set]
theorem setR_map : (setR zs k l).map (·.1) = (zs.map (·.1)).set k l := by unfold setR; rw [List.map_set]
theorem setR_get (i : Nat) (hi' : i < (setR zs k l).length) : (setR zs k l)[i]'hi' = if k = i then (l, (zs.getD k ([], none, 0)).2) else zs[i]'(by rw [setR_len] at hi'; exact hi') := List.getElem_set hi'
theorem setR_snd (i : Nat) (hi : i < zs.length) (hi' : i < (setR zs k l).length) : ((setR zs k l)[i]'hi').2 = zs[i].2 := by
  rw [setR_get]
  split
  · rename_i e
    subst e
    simp [List.getD_eq_getElem?_getD, hi]
  · rfl
theorem setR_same (hk : k < zs.length) (hk' : k < (setR zs k l).length) : (setR zs k l)[k]'hk' = (l, zs[k].2) := by
  rw [setR_get, if_pos rfl]
  simp [List.getD_eq_getElem?_getD, hk]
theorem setR_other {j : Nat} (hj : j < zs.length) (hj' : j < (setR zs k l).length) (h : j ≠ k) : (setR zs k l)[j]'hj' = zs[j] := by
  rw [setR_get, if_neg (Ne.symm h)]
theorem r1_map : ∀ zs : List At64.R1, zs.flatMap At64.r1 = zs.map (fun z => Value.slice z.2.1 z.1.length z.2.2)
  | [] => rfl
  | z :: zs => by rw [List.flatMap_cons, r1_map zs]; rfl
theorem setR_flat (hk : k < zs.length) (hl : l.length = zs[k].1.length) : (setR zs k l).flatMap At64.r1 = zs.flatMap At64.r1 := by
  rw [r1_map, r1_map]
  unfold setR
  rw [List.map_set]
  refine List.ext_getElem? fun i => ?_
  rw [List.getElem?_set]
  split
  · rename_i e
    subst e
    simp [List.getD_eq_getElem?_getD, hk, hl]
  · rfl
theorem ApartR.set (h : ApartR zs) : ApartR (setR zs k l) := fun i j hi hj hne g e => by
  have hi' : i < zs.length := by rw [← setR_len (k := k) (l := l)]; exact hi
  have hj' : j < zs.length := by rw [← setR_len (k := k) (l := l)]; exact hj
  rw [setR_snd i hi' hi] at e
  rw [setR_snd j hj' hj]
  exact h i j hi' hj' hne g e
theorem ApartR.snoc (h : ApartR zs) {g c : Nat} (hlt : ∀ z ∈ zs, ∀ g', z.2.1 = some ⟨g', 0, none⟩ → g' < g) : ApartR (zs ++ [(l, some ⟨g, 0, none⟩, c)]) := fun i j hi hj hne g' e => by
  rw [List.length_append, List.length_singleton] at hi hj
  by_cases ci : i < zs.length
  · rw [List.getElem_append_left ci] at e
    by_cases cj : j < zs.length
    · rw [List.getElem_append_left cj]
      exact h i j ci cj hne g' e
    · obtain rfl : j = zs.length := by omega
      have := hlt _ (List.getElem_mem ci) g' e
      rw [List.getElem_append_right (Nat.le_refl _)]
      intro e2
      simp at e2 <;> omega
  · obtain rfl : i = zs.length := by omega
    have cj : j < zs.length := by omega
    rw [List.getElem_append_right (Nat.le_refl _)] at e
    simp at e
    subst e
    rw [List.getElem_append_left cj]
    intro e2
    have := hlt _ (List.getElem_mem cj) g e2
    omega
theorem OwnR_store {w : World} {base cap : Nat} {A : Option Addr} (h : At64.OwnR w base A cap zs) (ha : ApartR zs) (hk : k < zs.length) {g : Nat} (hg : zs[k].2.1 = some ⟨g, 0, none⟩) (i : Nat) (x : Int) :
    At64.OwnR (w.setCell ⟨g, i, none⟩ (.int .i64 x)) base A cap (setR zs k (zs[k].1.set i x)) := by
  have hok := h.own _ (List.getElem_mem hk)
  rw [hg] at hok
  refine ⟨?_, fun z hz => ?_⟩
  · rw [setR_len, setR_flat hk (by rw [List.length_set])]
    refine World.ownsRow.kept h.row (grown_setCell w _ _) (.inr ?_)
    rcases h.form with ⟨rfl, e, _⟩ | ⟨gA, cs, rfl, h1, h2, h3⟩
    · subst e; simp at hk
    · have hb : Blk w gA 28 cs := h3
      have := At64.own_blk0 hok hb (by decide)
      intro e
      simp [Value.ownBlock] at e
      omega
  · obtain ⟨j, hj, rfl⟩ := List.getElem_of_mem hz
    have hj' : j < zs.length := by rw [← setR_len (k := k) (l := zs[k].1.set i x)]; exact hj
    by_cases e : j = k
    · subst e
      rw [setR_same hj' hj]
      show Own _ base zs[j].2.1 zs[j].2.2 (zs[j].1.set i x)
      rw [hg]
      exact hok.store i x
    · rw [setR_other hj' hj e]
      exact (h.own _ (List.getElem_mem hj')).far1 fun g' e' q => by
        subst q
        exact ha j k hj' hk e g' e' hg
end
end
section
open Go.RowKit

/-- All blocks from b1 on that stood are as they were; and so are those below b0. -/
structure Off (b0 b1 : Nat) (w w' : World) : Prop where
  low : Below b0 w w'
  high : ∀ k, b1 ≤ k → k < w.heap.size → w'.heap[k]? = w.heap[k]?
section
variable {w w' w2 : World} {b0 b1 : Nat}
theorem Off.of (h : Below w.heap.size w w') (hb : b0 ≤ w.heap.size) : Off b0 b1 w w' := ⟨h.mono hb, fun k _ hk => h.block k hk⟩
theorem Off.trans (h : Off b0 b1 w w') (h2 : Off b0 b1 w' w2) : Off b0 b1 w w2 := ⟨h.low.trans h2.low, fun k hk hl => (h2.high k hk (Nat.lt_of_lt_of_le hl h.low.size)).trans (h.high k hk hl)⟩
theorem Off.later (h : Off b0 b1 w w') (hb : b0 ≤ w'.heap.size) (h2 : Below w'.heap.size w' w2) : Off b0 b1 w w2 := h.trans (Off.of h2 hb)
theorem Off.size (h : Off b0 b1 w w') : w.heap.size ≤ w'.heap.size := h.low.size
end
theorem off_set {w : World} {b0 b1 g k : Nat} {v : Value} (h0 : b0 ≤ g) (h1 : g < b1) (hw : b0 ≤ w.heap.size) : Off b0 b1 w (w.setCell ⟨g, k, none⟩ v) :=
  ⟨below1 h0 hw, fun j hj _ => heap_setCell_other w ⟨g, k, none⟩ j v (fun q => by have q : j = g := q; omega)⟩
end
section

end
section

end
section

end
section
open Go.RowKit

/-- Nothing that stood is changed but blocks of type t. -/
structure OnlyT (t : TypeId) (w w' : World) : Prop where
  size : w.heap.size ≤ w'.heap.size
  block : ∀ (g : Nat) (cs : Array Value) (u : TypeId) (k : Nat × Nat), w.heap[g]? = some (Obj.cells cs u k) → u ≠ t → w'.heap[g]? = w.heap[g]?
section
variable {t u : TypeId} {w w' w2 : World} {g : Nat} {cs : Array Value}
theorem OnlyT.trans (h : OnlyT t w w') (k : OnlyT t w' w2) : OnlyT t w w2 :=
  ⟨Nat.le_trans h.size k.size, fun g cs u fr e ne => by
    have h1 := h.block g cs u fr e ne
    exact (k.block g cs u fr (h1.trans e) ne).trans h1⟩
theorem OnlyT.of_set (h : Blk w g t cs) (i : Nat) (v : Value) : OnlyT t w (w.setCell ⟨g, i, none⟩ v) :=
  ⟨by simp, fun g' cs' u fr e ne => heap_setCell_other w ⟨g, i, none⟩ g' v (fun q => by
    have q : g' = g := q
    subst q
    unfold Blk at h
    rw [h] at e
    injection e with e
    injection e with _ e
    exact ne e.symm)⟩
theorem OnlyT.of_below (t : TypeId) (hb : Below w.heap.size w w') : OnlyT t w w' :=
  ⟨hb.size, fun g _cs _u _fr e _ => hb.block g (Array.getElem?_eq_some_iff.1 e).1⟩
theorem OnlyT.of_grown {row : Option Nat} (hg : w.grownBy w' row) (hr : ∀ k, row = some k → ∃ cs, Blk w k t cs) : OnlyT t w w' :=
  ⟨hg.size, fun g cs u fr e ne => hg.block g (Array.getElem?_eq_some_iff.1 e).1 (fun q => by
    obtain ⟨cs', h⟩ := hr g q.symm
    unfold Blk at h
    rw [h] at e
    injection e with e
    injection e with _ e
    exact ne e.symm)⟩
theorem Blk.only (h : Blk w g u cs) (hO : OnlyT t w w') (ne : u ≠ t) : Blk w' g u cs := (hO.block g cs u (0, 0) h ne).trans h
theorem ownsRow_only {base : Nat} {e : TypeId} {size n : Nat} {v : Value} {xs : List Value} (h : w.ownsRow base e size v n xs) (hO : OnlyT t w w') (ne : e ≠ t) : w'.ownsRow base e size v n xs := by
  refine ⟨h.1, ?_⟩
  rcases h.2 with h1 | ⟨g, cap, cur, h1, h2, h3, h4⟩
  · exact .inl h1
  · exact .inr ⟨g, cap, cur, h1, h2, (hO.block g cur e (0, 0) h3 ne).trans h3, h4⟩
theorem Own.only {base cap : Nat} {A : Option Addr} {m : List Int} (h : Own w base A cap m) (hO : OnlyT t w w') (ne : 2 ≠ t) : Own w' base A cap m := ownsRow_only h hO ne
theorem OwnR_only {base cap : Nat} {A : Option Addr} {zs : List At64.R1} (h : At64.OwnR w base A cap zs) (hO : OnlyT t w w') (ne : 2 ≠ t) (ne2 : 28 ≠ t) : At64.OwnR w' base A cap zs :=
  ⟨ownsRow_only h.row hO ne2, fun z hz => (h.own z hz).only hO ne⟩
theorem LL.only {α : Type} {enc : α → List Value} {base F n : Nat} {T e : TypeId} {size : Nat} {f : Nat → Value} {ls : Nat → List α} (h : LL enc w base F n T e size f ls) (hO : OnlyT t w w') (neT : T ≠ t) (nee : e ≠ t) : LL enc w' base F n T e size f ls := by
  obtain ⟨c, hc, h2⟩ := h.row
  exact ⟨⟨c, (hO.block F c T (0, 0) hc neT).trans hc, h2⟩, h.ge, fun p hp => ownsRow_only (h.own p hp) hO nee, h.apart, h.ne⟩
theorem Own.blk {base cap gv : Nat} {m : List Int} (h : Own w base (some ⟨gv, 0, none⟩) cap m) : ∃ cs, Blk w gv 2 cs := by
  rcases h.2 with ⟨h1, _⟩ | ⟨g, cap', cur, h1, h2, h3, h4⟩
  · cases h1
  · injection h1 with h1
    injection h1 with h1
    injection h1 with h1
    subst h1
    exact ⟨cur, h3⟩
end

/-- Lists of edges from each point, variables, arrays. -/
structure MemR (w : World) (b0 F N : Nat) (f : Nat → Value) (es : List Edg) (V R : Option Addr) (vc rc : Nat) (xs : List Int) (zs : List At64.R1) : Prop where
  outs : LL enc1 w b0 F N 34 3 1 f (fun p => idxI es es.length p)
  vars : Own w b0 V vc xs
  rows : At64.OwnR w b0 R rc zs
  apart : ApartR zs
  va : ∀ z ∈ zs, ∀ g, z.2.1 = some ⟨g, 0, none⟩ → V ≠ some ⟨g, 0, none⟩
section
variable {t : TypeId} {w w' : World} {b0 F N : Nat} {f : Nat → Value} {es : List Edg} {V R : Option Addr} {vc rc : Nat} {xs : List Int} {zs : List At64.R1}
theorem MemR.only (h : MemR w b0 F N f es V R vc rc xs zs) (hO : OnlyT t w w') (n1 : 34 ≠ t) (n2 : 3 ≠ t) (n3 : 2 ≠ t) (n4 : 28 ≠ t) : MemR w' b0 F N f es V R vc rc xs zs :=
  ⟨h.outs.only hO n1 n2, h.vars.only hO n3, OwnR_only h.rows hO n3 n4, h.apart, h.va⟩
theorem MemR.up (h : MemR w b0 F N f es V R vc rc xs zs) (hb : Below w.heap.size w w') : MemR w' b0 F N f es V R vc rc xs zs :=
  ⟨h.outs.below hb, h.vars.below hb, h.rows.below hb, h.apart, h.va⟩
theorem MemR.storeV {gv : Nat} (h : MemR w b0 F N f es (some ⟨gv, 0, none⟩) R vc rc xs zs) (k : Nat) (x : Int) : MemR (w.setCell ⟨gv, k, none⟩ (.int .i64 x)) b0 F N f es (some ⟨gv, 0, none⟩) R vc rc (xs.set k x) zs := by
  obtain ⟨cs, hk⟩ := h.vars.blk
  have hO := OnlyT.of_set hk k (.int .i64 x)
  refine ⟨h.outs.only hO (by decide) (by decide), h.vars.store k x, ⟨ownsRow_only h.rows.row hO (by decide), fun z hz => ?_⟩, h.apart, h.va⟩
  exact (h.rows.own z hz).far1 fun g' e q => by
    subst q
    exact h.va z hz g' e rfl
theorem MemR.storeA {a g : Nat} (h : MemR w b0 F N f es V R vc rc xs zs) (ha : a < zs.length) (hg : zs[a].2.1 = some ⟨g, 0, none⟩) (k : Nat) (x : Int) : MemR (w.setCell ⟨g, k, none⟩ (.int .i64 x)) b0 F N f es V R vc rc xs (setR zs a (zs[a].1.set k x)) := by
  have hok := h.rows.own _ (List.getElem_mem ha)
  rw [hg] at hok
  obtain ⟨cs, hk⟩ := hok.blk
  have hO := OnlyT.of_set hk k (.int .i64 x)
  refine ⟨h.outs.only hO (by decide) (by decide), h.vars.far1 fun g' e q => ?_, OwnR_store h.rows h.apart ha hg k x, h.apart.set, fun z hz g' e => ?_⟩
  · subst q
    exact h.va _ (List.getElem_mem ha) _ hg e
  · obtain ⟨j, hj, rfl⟩ := List.getElem_of_mem hz
    have hj' : j < zs.length := by rw [← setR_len (k := a) (l := zs[a].1.set k x)]; exact hj
    rw [setR_snd j hj' hj] at e
    exact h.va _ (List.getElem_mem hj') g' e
theorem MemR.ge_v {gv : Nat} (h : MemR w b0 F N f es (some ⟨gv, 0, none⟩) R vc rc xs zs) : b0 ≤ gv := by
  rcases h.vars.form with ⟨e, _⟩ | ⟨g, e, hg, _⟩
  · cases e
  · injection e with e; injection e with e; omega
theorem MemR.ge_a {a g : Nat} (h : MemR w b0 F N f es V R vc rc xs zs) (ha : a < zs.length) (hg : zs[a].2.1 = some ⟨g, 0, none⟩) : b0 ≤ g := by
  have hok := h.rows.own _ (List.getElem_mem ha)
  rw [hg] at hok
  rcases hok.form with ⟨e, _⟩ | ⟨g', e, hg, _⟩
  · cases e
  · injection e with e; injection e with e; omega
end
end
section

end
section

end
end Go.Proofs.YtkncebcekhfnfaaGreat
