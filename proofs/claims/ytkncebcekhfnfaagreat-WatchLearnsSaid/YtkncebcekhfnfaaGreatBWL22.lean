/-
  gnomonref10.One: what it answers, of a graph that is one and values that fit it.
  Watched runs in plain words: a machine that runs a graph; how far it comes; the edge that it takes.
  What is seen of a run, and what is learnt of runs, in plain words.
-/
import Derived.Test.YtkncebcekhfnfaaGreatBWL20
import Derived.Test.YtkncebcekhfnfaaGreatFlowO
import Derived.Test.YtkncebcekhfnfaaGreatBWL07
namespace Go.Proofs.YtkncebcekhfnfaaGreat
open Go.RowKit
section
attribute [local go_sem ↓] Go.wp_at_zero Go.wp_at_succ

/-- The slice of slices of int64 at A reads as ls. -/
def RdR (w : World) (B : Nat) (A : Option Addr) (ls : List (List Int)) : Prop :=
  ∀ k, (h : k < ls.length) → ∃ b off Ak ck, A = some ⟨b, off, none⟩ ∧ b < B ∧ w.cell? ⟨b, off + k, none⟩ = some (.slice Ak ls[k].length ck) ∧ Rd w B Ak ls[k]
theorem RdR.up {w w' : World} {A : Option Addr} {ls : List (List Int)} (h : RdR w w.heap.size A ls) (hb : Below w.heap.size w w') : RdR w' w'.heap.size A ls := fun k hk => by
  obtain ⟨b, off, Ak, ck, h1, h2, h3, h4⟩ := h k hk
  exact ⟨b, off, Ak, ck, h1, Nat.lt_of_lt_of_le h2 hb.size, (hb.cell (p := ⟨b, _, none⟩) h2).trans h3, h4.up hb⟩

theorem taken_mem (es : List Edg) (xs : List Int) : ∀ (ix : List Nat), takenW es xs ix < 0 ∨ ∃ i ∈ ix, takenW es xs ix = (i : Int) ∧ goesB xs (eAt es i) = true
  | [] => .inl (by unfold takenW; omega)
  | i :: r => by
    rw [takenW_cons]
    by_cases h : goesB xs (eAt es i) = true
    · rw [if_pos h]; exact .inr ⟨i, by simp, rfl, h⟩
    · rw [if_neg h]
      rcases taken_mem es xs r with h | ⟨j, hj, h⟩
      · exact .inl h
      · exact .inr ⟨j, by simp [hj], h⟩
theorem chk_parts {g : Gr} (h : chk g = 0) : 0 ≤ g.tm ∧ g.tm ≤ 64 ∧ g.all ≤ 64 ∧ g.es.length ≤ 8192 ∧ g.sz.length ≤ 16 ∧ (∀ s ∈ g.sz, 1 ≤ s ∧ s ≤ 1024) ∧ (∀ e ∈ g.es, rightE g.all g.sz.length e = true) := by
  unfold chk at h
  by_cases h1 : varsBad g = true
  · rw [if_pos h1] at h; omega
  · rw [if_neg h1] at h
    by_cases h2 : ptsBad g = true
    · rw [if_pos h2] at h; omega
    · rw [if_neg h2] at h
      by_cases h3 : formOk g = true
      · unfold varsBad at h1
        unfold ptsBad at h2
        rw [decide_eq_true_eq] at h1 h2
        unfold formOk at h3
        simp only [Bool.and_eq_true, decide_eq_true_eq, List.all_eq_true] at h3
        obtain ⟨⟨⟨⟨h4, h5⟩, -⟩, h6⟩, -⟩ := h3
        refine ⟨by omega, by omega, by omega, by omega, h4, fun s hs => ?_, fun e he => ?_⟩
        · have := h5 s hs
          unfold arrOk at this
          rwa [decide_eq_true_eq] at this
        · have := h6 e he
          unfold edgeOk at this
          rw [Bool.and_eq_true] at this
          exact this.2
      · rw [if_neg h3] at h; omega
theorem taken_idx (p : Nat) {es : List Edg} {i : Nat} (h : i ∈ idxE es es.length p) : i < es.length := idx_lt h
theorem eAt_mem {es : List Edg} {i : Nat} (h : i < es.length) : eAt es i ∈ es := by rw [← eAt_eq h]; exact List.getElem_mem h
theorem gI_mem {sz : List Int} {k : Nat} (h : k < sz.length) : gI sz (k : Int) ∈ sz := by
  unfold gI; simp [h]
theorem StAt.put_row {w w4 : World} {b0 gs vc rc c3 : Nat} {V R A3 : Option Addr} {xs : List Int} {zs : List At64.R1} {z : At64.R1} (h : StAt w b0 gs V R vc rc xs zs) (hb : Below (gs + 1) w w4) (hv : Own w4 b0 V vc xs) (h3 : At64.OwnR w4 (gs + 1) A3 c3 (zs ++ [z])) :
    StAt (w4.setCell ⟨gs, 1, none⟩ (.slice A3 (zs ++ [z]).length c3)) b0 gs V A3 vc c3 xs (zs ++ [z]) := by
  have hk : Blk w4 gs 117 #[.slice V xs.length vc, .slice R zs.length rc] := h.blk.below hb (by omega)
  exact ⟨hk.set_ 1 _, h.le, hv.far1 (fun g e => by have := h.vlt g e; omega), h.vlt, h3.setFar (by show gs < gs + 1; omega) _⟩
end
section

theorem fit_rng (a : Int) : I64 (fit a).1 := by
  by_cases q : -9223372036854775808 ≤ a ∧ a ≤ 9223372036854775807
  · rw [fit_in q]; exact q
  · rw [fit_out (by omega)]; unfold I64; omega
theorem kindW_rng (kd : Int) {a b : Int} (ha : I64 a) : I64 (kindW kd a b).1 := by
  unfold kindW
  split
  · exact fit_rng _
  · split
    · exact fit_rng _
    · split
      · exact fit_rng _
      · split
        · exact fit_rng _
        · have hz : I64 0 := by unfold I64; omega
          have hne : divErr a b = 0 → b ≠ 0 ∧ (a == -9223372036854775808 && b == -1) = false := fun e => by
            unfold divErr at e
            by_cases h : b = 0
            · rw [if_pos h] at e; cases e
            · rw [if_neg h] at e
              refine ⟨h, ?_⟩
              rw [Bool.eq_false_iff]; intro q
              simp only [Bool.and_eq_true, beq_iff_eq] at q
              rw [if_pos q] at e; cases e
          split
          · unfold divW
            split
            · rename_i e; exact tdiv_in ha (hne e).1 (hne e).2
            · exact hz
          · unfold remW
            split
            · exact tmod_in ha
            · exact hz
theorem rng_set {xs : List Int} (h : I64s xs) (d : Nat) {u : Int} (hu : I64 u) : I64s (xs.set d u) := fun i => by
  rw [gI_set]
  split
  · exact hu
  · exact h i
theorem doesW_rng {ls : List (List Int)} {e : Edg} {xs : List Int} {input : Int} (hI : I64s xs) (ia : I64 e.an) (hin : I64 input) (hls : ∀ l ∈ ls, I64s l) : I64s (doesW ls e xs input).2 := by
  have ea := opdX_i64 hI ia (v := e.av)
  unfold doesW
  split
  · exact rng_set hI _ ea
  split
  · exact rng_set hI _ hin
  split
  · split
    · exact rng_set hI _ (kindW_rng _ ea)
    · exact hI
  split
  · split
    · rename_i q
      refine rng_set hI _ ?_
      unfold isPlace at q
      rw [decide_eq_true_eq] at q
      by_cases hl : e.arr.toNat < ls.length
      · rw [List.getD_eq_getElem?_getD, List.getElem?_eq_getElem hl] at q ⊢
        have := hls _ (List.getElem_mem hl) (opdX xs e.av e.an).toNat
        rw [Int.toNat_of_nonneg q.1] at this
        exact this
      · rw [List.getD_eq_getElem?_getD, List.getElem?_eq_none (by omega)] at q
        simp at q; omega
    · exact hI
  split
  · split
    · exact hI
    · exact hI
  split
  · exact hI
  · exact hI
theorem doesW_len (ls : List (List Int)) (e : Edg) (xs : List Int) (input : Int) : (doesW ls e xs input).2.length = xs.length := by
  unfold doesW
  repeat' split
  all_goals simp

/-- The arrays behind an edge. -/
def rowsW (ls : List (List Int)) (e : Edg) (xs : List Int) : List (List Int) :=
  if e.kd = 11 ∧ isPlace (ls.getD e.arr.toNat []).length (opdX xs e.av e.an) = true then ls.set e.arr.toNat ((ls.getD e.arr.toNat []).set (opdX xs e.av e.an).toNat (opdX xs e.bv e.bn)) else ls
theorem rowsW_not {ls : List (List Int)} {e : Edg} {xs : List Int} (h : e.kd ≠ 11) : rowsW ls e xs = ls := by unfold rowsW; rw [if_neg fun q => h q.1]
theorem rowsW_len (ls : List (List Int)) (e : Edg) (xs : List Int) : (rowsW ls e xs).length = ls.length := by unfold rowsW; split <;> simp
theorem rowsW_at (ls : List (List Int)) (e : Edg) (xs : List Int) (k : Nat) (h : k < ls.length) (h' : k < (rowsW ls e xs).length) : ((rowsW ls e xs)[k]).length = (ls[k]).length := by
  by_cases q : e.kd = 11 ∧ isPlace (ls.getD e.arr.toNat []).length (opdX xs e.av e.an) = true
  · have e1 : rowsW ls e xs = ls.set e.arr.toNat ((ls.getD e.arr.toNat []).set (opdX xs e.av e.an).toNat (opdX xs e.bv e.bn)) := by unfold rowsW; rw [if_pos q]
    have e2 : (rowsW ls e xs)[k]? = (ls.set e.arr.toNat ((ls.getD e.arr.toNat []).set (opdX xs e.av e.an).toNat (opdX xs e.bv e.bn)))[k]? := by rw [e1]
    rw [List.getElem?_eq_getElem h', List.getElem?_set] at e2
    split at e2
    · rename_i he
      subst he
      rw [if_pos h] at e2
      injection e2 with e2
      rw [e2, List.length_set, List.getD_eq_getElem?_getD, List.getElem?_eq_getElem h]; rfl
    · rw [List.getElem?_eq_getElem h] at e2
      injection e2 with e2
      rw [e2]
  · have e1 : rowsW ls e xs = ls := by unfold rowsW; rw [if_neg q]
    have e2 : (rowsW ls e xs)[k]? = ls[k]? := by rw [e1]
    rw [List.getElem?_eq_getElem h', List.getElem?_eq_getElem h] at e2
    injection e2 with e2
    rw [e2]
theorem rowsW_rng {ls : List (List Int)} {e : Edg} {xs : List Int} (hI : I64s xs) (ib : I64 e.bn) (hls : ∀ l ∈ ls, I64s l) : ∀ l ∈ rowsW ls e xs, I64s l := fun l h => by
  unfold rowsW at h
  split at h
  · rename_i q
    rcases List.mem_or_eq_of_mem_set h with h | rfl
    · exact hls _ h
    · refine rng_set ?_ _ (opdX_i64 hI ib)
      by_cases hl : e.arr.toNat < ls.length
      · rw [List.getD_eq_getElem?_getD, List.getElem?_eq_getElem hl]
        exact hls _ (List.getElem_mem hl)
      · rw [List.getD_eq_getElem?_getD, List.getElem?_eq_none (by omega)]
        intro i; simp [gI]
  · exact hls _ h

/-- A machine: the point, the variables, the arrays, the rest of the script. -/
structure Mach where
  p : Nat
  xs : List Int
  ls : List (List Int)
  inp : List Int
def nextW (g : Gr) (m : Mach) : Int := takenW g.es m.xs (idxE g.es g.es.length m.p)
def nextE (g : Gr) (m : Mach) : Edg := eAt g.es (nextW g m).toNat
def stopsW (g : Gr) (m : Mach) : Bool := decide (nextW g m < 0) || (decide ((nextE g m).kd = 9) && m.inp.isEmpty)
def inW (g : Gr) (m : Mach) : Int := if (nextE g m).kd = 9 then m.inp.headD 0 else 0
def wrongW (g : Gr) (m : Mach) : Int := (doesW m.ls (nextE g m) m.xs (inW g m)).1
def stepW (g : Gr) (m : Mach) : Mach := ⟨(nextE g m).te.toNat, (doesW m.ls (nextE g m) m.xs (inW g m)).2, rowsW m.ls (nextE g m) m.xs, if (nextE g m).kd = 9 then m.inp.tail else m.inp⟩
def okW (g : Gr) (m : Mach) : Bool := !stopsW g m && decide (wrongW g m = 0)
def mAt (g : Gr) (m : Mach) : Nat → Mach
  | 0 => m
  | n + 1 => stepW g (mAt g m n)
/-- How many steps a machine takes that don't go wrong, of k. -/
def lenW (g : Gr) (m : Mach) : Nat → Nat
  | 0 => 0
  | k + 1 => if lenW g m k = k ∧ okW g (mAt g m k) = true then k + 1 else lenW g m k
theorem lenW_le (g : Gr) (m : Mach) : ∀ k, lenW g m k ≤ k
  | 0 => Nat.le_refl _
  | k + 1 => by
    unfold lenW
    split
    · exact Nat.le_refl _
    · have := lenW_le g m k; omega
theorem lenW_ok (g : Gr) (m : Mach) : ∀ k n, n < lenW g m k → okW g (mAt g m n) = true
  | 0, n, h => by unfold lenW at h; omega
  | k + 1, n, h => by
    unfold lenW at h
    split at h
    · rename_i q
      by_cases e : n = k
      · rw [e]; exact q.2
      · exact lenW_ok g m k n (by omega)
    · exact lenW_ok g m k n h
theorem lenW_end (g : Gr) (m : Mach) : ∀ k, lenW g m k < k → okW g (mAt g m (lenW g m k)) = false
  | 0, h => by omega
  | k + 1, h => by
    unfold lenW at h ⊢
    split at h
    · omega
    · rename_i q
      rw [if_neg q]
      by_cases e : lenW g m k = k
      · rw [e]
        cases c : okW g (mAt g m k)
        · rfl
        · exact absurd ⟨e, c⟩ q
      · have := lenW_le g m k
        exact lenW_end g m k (by omega)
theorem lenW_is {g : Gr} {m : Mach} {k n : Nat} (hn : n ≤ k) (h : ∀ j, j < n → okW g (mAt g m j) = true) (he : n < k → okW g (mAt g m n) = false) : lenW g m k = n := by
  rcases Nat.lt_trichotomy (lenW g m k) n with q | q | q
  · have h1 := lenW_end g m k (by omega)
    rw [h _ q] at h1; cases h1
  · exact q
  · have h1 := lenW_ok g m k n q
    have := lenW_le g m k
    rw [he (by omega)] at h1; cases h1

/-- A machine that may be. -/
structure MOk (g : Gr) (m : Mach) : Prop where
  p : (m.p : Int) < g.pts
  xl : (m.xs.length : Int) = g.all
  xi : I64s m.xs
  ll : m.ls.length = g.sz.length
  lz : ∀ k (h : k < m.ls.length), (m.ls[k].length : Int) = gI g.sz k
  li : ∀ l ∈ m.ls, I64s l
  ii : I64s m.inp
theorem chk_in {g : Gr} (h : chk g = 0) : 1 ≤ g.pts ∧ g.pts ≤ 4096 ∧ (∀ e ∈ g.es, inE g.pts g.ex e = true) ∧ forksOk g g.pts.toNat = true := by
  unfold chk at h
  by_cases h1 : varsBad g = true
  · rw [if_pos h1] at h; omega
  · rw [if_neg h1] at h
    by_cases h2 : ptsBad g = true
    · rw [if_pos h2] at h; omega
    · rw [if_neg h2] at h
      by_cases h3 : formOk g = true
      · unfold ptsBad at h2
        rw [decide_eq_true_eq] at h2
        unfold formOk at h3
        simp only [Bool.and_eq_true, decide_eq_true_eq, List.all_eq_true] at h3
        obtain ⟨⟨-, h6⟩, h7⟩ := h3
        refine ⟨by omega, by omega, fun e he => ?_, h7⟩
        have := h6 e he
        unfold edgeOk at this
        rw [Bool.and_eq_true] at this
        exact this.1
      · rw [if_neg h3] at h; omega
theorem next_in {g : Gr} {m : Mach} (h : ¬ nextW g m < 0) : ∃ i : Nat, nextW g m = (i : Int) ∧ i < g.es.length ∧ i ∈ idxE g.es g.es.length m.p ∧ nextE g m = eAt g.es i := by
  rcases taken_mem g.es m.xs (idxE g.es g.es.length m.p) with q | ⟨i, hi, he, -⟩
  · exact absurd q h
  · exact ⟨i, he, taken_idx _ hi, hi, by unfold nextE nextW; rw [he, Int.toNat_natCast]⟩
theorem headD_rng {l : List Int} (h : I64s l) : I64 (l.headD 0) := by
  cases l with
  | nil => simp [I64]
  | cons a r => have := h 0; simpa [gI, I64] using this
theorem tail_rng {l : List Int} (h : I64s l) : I64s l.tail := by
  cases l with
  | nil => exact h
  | cons a r => intro i; have := h (i + 1); simpa [gI] using this
theorem inW_rng {g : Gr} {m : Mach} (h : I64s m.inp) : I64 (inW g m) := by
  unfold inW
  split
  · exact headD_rng h
  · unfold I64; omega
theorem MOk.step {g : Gr} {m : Mach} (hc : chk g = 0) (hi : ∀ e ∈ g.es, I64 e.an ∧ I64 e.bn) (h : MOk g m) (hs : ¬ nextW g m < 0) : MOk g (stepW g m) := by
  obtain ⟨i, -, hil, -, he⟩ := next_in hs
  have hmem : nextE g m ∈ g.es := by rw [he]; exact eAt_mem hil
  obtain ⟨-, -, hin, -⟩ := chk_in hc
  have h1 := hin _ hmem
  unfold inE at h1
  rw [decide_eq_true_eq] at h1
  obtain ⟨ia, ib⟩ := hi _ hmem
  refine ⟨?_, ?_, doesW_rng h.xi ia (inW_rng h.ii) h.li, ?_, fun k hk => ?_, rowsW_rng h.xi ib h.li, ?_⟩
  · show ((nextE g m).te.toNat : Int) < g.pts
    omega
  · show (((doesW m.ls (nextE g m) m.xs (inW g m)).2).length : Int) = g.all
    rw [doesW_len]; exact h.xl
  · show (rowsW m.ls (nextE g m) m.xs).length = _
    rw [rowsW_len]; exact h.ll
  · have hk' : k < m.ls.length := by rw [← rowsW_len m.ls (nextE g m) m.xs]; exact hk
    show (((rowsW m.ls (nextE g m) m.xs)[k]'hk).length : Int) = _
    rw [rowsW_at _ _ _ _ hk' hk]; exact h.lz k hk'
  · show I64s (if (nextE g m).kd = 9 then m.inp.tail else m.inp)
    split
    · exact tail_rng h.ii
    · exact h.ii
/-- Where a run begins. -/
def mZero (g : Gr) (inp : List Int) : Mach := ⟨0, List.replicate g.all.toNat 0, g.sz.map (fun s => List.replicate s.toNat 0), inp⟩
theorem zero_rng (n : Nat) : I64s (List.replicate n 0) := fun i => by
  unfold gI
  rw [List.getD_eq_getElem?_getD]
  by_cases h : i < n
  · simp [h]
  · simp [h]
theorem MOk.zero {g : Gr} {inp : List Int} (hc : chk g = 0) (hI : I64s inp) : MOk g (mZero g inp) := by
  obtain ⟨c0, c1, ca, -, -, cz, -⟩ := chk_parts hc
  obtain ⟨p1, -, -, -⟩ := chk_in hc
  have hall : g.all = g.nv + g.tm := rfl
  refine ⟨by show ((0 : Nat) : Int) < g.pts; omega, ?_, zero_rng _, ?_, fun k hk => ?_, fun l hl => ?_, hI⟩
  · show ((List.replicate g.all.toNat (0 : Int)).length : Int) = g.all
    rw [List.length_replicate]; omega
  · show (g.sz.map _).length = _
    rw [List.length_map]
  · have hk' : k < g.sz.length := by simpa [mZero] using hk
    have h2 := cz _ (gI_mem hk')
    have e : (mZero g inp).ls[k] = List.replicate (g.sz[k]).toNat 0 := by simp [mZero]
    rw [e, List.length_replicate]
    have e2 : gI g.sz (k : Int) = g.sz[k] := by unfold gI; simp [hk']
    rw [e2] at h2 ⊢
    omega
  · obtain ⟨s, -, rfl⟩ := List.mem_map.1 hl
    exact zero_rng _
theorem MOk.at {g : Gr} {m : Mach} (hc : chk g = 0) (hi : ∀ e ∈ g.es, I64 e.an ∧ I64 e.bn) (h : MOk g m) : ∀ n, (∀ j, j < n → ¬ nextW g (mAt g m j) < 0) → MOk g (mAt g m n)
  | 0, _ => h
  | n + 1, hs => (MOk.at hc hi h n fun j hj => hs j (by omega)).step hc hi (hs n (by omega))
theorem okW_next {g : Gr} {m : Mach} (h : okW g m = true) : ¬ nextW g m < 0 ∧ ((nextE g m).kd = 9 → m.inp ≠ []) ∧ wrongW g m = 0 := by
  unfold okW stopsW at h
  simp only [Bool.and_eq_true, Bool.not_eq_true', Bool.or_eq_false_iff, decide_eq_false_iff_not, decide_eq_true_eq, Bool.and_eq_false_iff] at h
  obtain ⟨⟨h1, h2⟩, h3⟩ := h
  refine ⟨h1, fun k9 e => ?_, h3⟩
  rcases h2 with h2 | h2
  · exact h2 k9
  · rw [e] at h2; simp at h2
end
section

/-- Has an octagon a point? -/
def letsB (c d : Int) : Bool := decide (c = 9223372036854775807) || decide (d ≤ c)
theorem letsB_iff {c d : Int} : letsB c d = true ↔ Lets c d := by unfold letsB Lets; simp
def hasB (o : O) (x : List Int) : Bool := !o.e && decide ((x.length : Int) = o.n) && (List.range (2 * o.n).toNat).all fun i => (List.range (2 * o.n).toNat).all fun j => letsB (G (2 * o.n).toNat o.m i j) (apartX x i j)
theorem hasB_iff {o : O} {x : List Int} : hasB o x = true ↔ HasO o x := by
  unfold hasB HasO HasM
  simp only [Bool.and_eq_true, Bool.not_eq_true', decide_eq_true_eq, List.all_eq_true, List.mem_range, letsB_iff]
  exact ⟨fun h => ⟨h.1.1, h.1.2, fun i j hi hj => h.2 i hi j hj⟩, fun h => ⟨⟨h.1, h.2.1⟩, fun i hi j hj => h.2.2 i j hi hj⟩⟩

/-- Are octagons those of a graph's points? -/
def fitsB (g : Gr) (os : List O) : Bool := decide ((os.length : Int) = g.pts) && os.all fun o => decide (o.n = g.all) && decide (check o = 0)
/-- The error of a script and a number of steps. -/
def fuelE (l : Nat) (k : Int) : Int := if k < 0 ∨ 65536 < k ∨ 65536 < (l : Int) then 80 else 0

/-- What is seen. -/
structure Sn where
  held : Bool
  step : Int
  point : Int
  vis : List Int
def snZero (g : Gr) : Sn := ⟨true, 0, 0, List.replicate g.pts.toNat 0⟩
def snStep (b : Bool) (n p : Nat) (s : Sn) : Sn :=
  ⟨s.held && b, if (s.held && !b) = true then (n : Int) else s.step, if (s.held && !b) = true then (p : Int) else s.point, s.vis.set p (gI s.vis (p : Int) + 1)⟩
def octAt (os : List O) (p : Nat) : O := os.getD p ⟨0, true, []⟩
def snAt (g : Gr) (os : List O) (m : Mach) : Nat → Sn
  | 0 => snZero g
  | n + 1 => snStep (hasB (octAt os (mAt g m n).p) (mAt g m n).xs) n (mAt g m n).p (snAt g os m n)
theorem snAt_len (g : Gr) (os : List O) (m : Mach) : ∀ n, (snAt g os m n).vis.length = g.pts.toNat
  | 0 => by simp [snAt, snZero]
  | n + 1 => by
    show ((snAt g os m n).vis.set _ _).length = _
    rw [List.length_set]; exact snAt_len g os m n
theorem gI_set2 {xs : List Int} {i : Nat} {v : Int} (j : Nat) : gI (xs.set i v) (j : Int) = if i = j ∧ i < xs.length then v else gI xs (j : Int) := by
  unfold gI
  rw [Int.toNat_natCast, List.getD_eq_getElem?_getD, List.getD_eq_getElem?_getD, List.getElem?_set]
  by_cases e : i = j
  · subst e
    by_cases h : i < xs.length
    · simp [h]
    · simp [h]
  · simp [e]
/-- No point has been come to more often than there were steps. -/
theorem snAt_vis (g : Gr) (os : List O) (m : Mach) : ∀ n (p : Nat), 0 ≤ gI (snAt g os m n).vis (p : Int) ∧ gI (snAt g os m n).vis (p : Int) ≤ (n : Int)
  | 0, p => by
    show 0 ≤ gI (List.replicate g.pts.toNat 0) (p : Int) ∧ gI (List.replicate g.pts.toNat 0) (p : Int) ≤ ((0 : Nat) : Int)
    unfold gI
    rw [Int.toNat_natCast, List.getD_eq_getElem?_getD, List.getElem?_replicate]
    split <;> simp
  | n + 1, p => by
    show 0 ≤ gI ((snAt g os m n).vis.set _ _) (p : Int) ∧ gI ((snAt g os m n).vis.set _ _) (p : Int) ≤ ((n + 1 : Nat) : Int)
    rw [gI_set2]
    have h1 := snAt_vis g os m n p
    have h2 := snAt_vis g os m n (mAt g m n).p
    split <;> omega

/-- What watching tells: an error, or what was seen of all steps that go right. -/
def runE (g : Gr) (os : List O) (l : Nat) (k : Int) : Int := if chk g ≠ 0 then chk g else if fitsB g os = false then 211 else fuelE l k
def seenW (g : Gr) (os : List O) (inp : List Int) (k : Int) : Sn := snAt g os (mZero g inp) (lenW g (mZero g inp) k.toNat + 1)

/-- A difference, as a bound. -/
def cellPt (a : Int) : Int := if 4611686018427387904 < a then 9223372036854775807 else max (-4611686018427387904) a
def ptC (N : Nat) (x : List Int) : List Int := (List.range (N * N)).map fun p => cellPt (apartX x (p / N) (p % N))
def onePt (d : Nat) (x : List Int) : O := ⟨d, false, ptC (2 * d) x⟩
def maxM (a b : List Int) : List Int := (List.range a.length).map fun k : Nat => max (gI a (k : Int)) (gI b (k : Int))
/-- One point more. -/
def moreO (o : O) (d : Nat) (x : List Int) : O := if o.e then onePt d x else ⟨o.n, o.e, maxM o.m (onePt d x).m⟩
def lnAt (g : Gr) (m : Mach) (os : List O) : Nat → List O
  | 0 => os
  | n + 1 => (lnAt g m os n).set (mAt g m n).p (moreO (octAt (lnAt g m os n) (mAt g m n).p) g.all.toNat (mAt g m n).xs)
def lnOne (g : Gr) (k : Int) (os : List O) (inp : List Int) : List O := lnAt g (mZero g inp) os (lenW g (mZero g inp) k.toNat + 1)
def lnZero (g : Gr) : List O := List.replicate g.pts.toNat ⟨g.all, true, []⟩
def learnO (g : Gr) (k : Int) (ss : List (List Int)) : List O := ss.foldl (lnOne g k) (lnZero g)
def fuelsE (k : Int) : List (List Int) → Int
  | [] => 0
  | s :: ss => if fuelE s.length k ≠ 0 then fuelE s.length k else fuelsE k ss
def learnE (g : Gr) (ss : List (List Int)) (k : Int) : Int :=
  if chk g ≠ 0 then chk g else if 64 < ss.length ∨ 4194304 < 4 * g.all * g.all * g.pts then 270 else fuelsE k ss
end
end Go.Proofs.YtkncebcekhfnfaaGreat
