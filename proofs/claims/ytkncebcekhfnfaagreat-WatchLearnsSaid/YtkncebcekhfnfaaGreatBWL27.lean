/-
  Rows of numbers of which no two share a block; a store into one of them.
  What a callee leaves as it was: all blocks but those in [b0, b1).
  Octagons that are learnt, in memory of one's own: one is made greater in place; one is put into the row.
  gnomonref27.more: one point more.
-/
import Derived.Test.YtkncebcekhfnfaaGreatBWL22
import Derived.Test.YtkncebcekhfnfaaGreatBWL05
import Derived.Test.YtkncebcekhfnfaaGreatDPoint
namespace Go.Proofs.YtkncebcekhfnfaaGreat
open Go.RowKit
section

/-- No two rows share a block. -/
def ApartR (zs : List At64.R1) : Prop := ∀ i j (hi : i < zs.length) (hj : j < zs.length), i ≠ j → ∀ g, zs[i].2.1 = some ⟨g, 0, none⟩ → zs[j].2.1 ≠ some ⟨g, 0, none⟩
/-- Row k's numbers made others. -/
def setR (zs : List At64.R1) (k : Nat) (l : List Int) : List At64.R1 := zs.set k (l, (zs.getD k ([], none, 0)).2)
section
variable {zs : List At64.R1} {k : Nat} {l : List Int}
theorem ApartR.nil : ApartR [] := fun i j hi => absurd hi (by simp)
theorem setR_len : (setR zs k l).length = zs.length := by unfold setR; rw [List.length_set]
theorem setR_map : (setR zs k l).map (·.1) = (zs.map (·.1)).set k l := by unfold setR; rw [List.map_set]
theorem setR_get (i : Nat) (hi' : i < (setR zs k l).length) : (setR zs k l)[i]'hi' = if k = i then (l, (zs.getD k ([], none, 0)).2) else zs[i]'(by rw [setR_len] at hi'; exact hi') := List.getElem_set hi'
theorem setR_snd (i : Nat) (hi : i < zs.length) (hi' : i < (setR zs k l).length) : ((setR zs k l)[i]'hi').2 = zs[i].2 := by
  rw [setR_get]
  split
  · rename_i e
    subst e
    simp [List.getD_eq_getElem?_getD, hi]
  · rfl
theorem setR_same (hk : k < zs.length) (hk' : k < (setR zs k l).length) : (setR zs k l)[k]'hk' = (l, zs[k].2) := by
  rw [setR_get, if_pos rfl]
  simp [List.getD_eq_getElem?_getD, hk]
theorem setR_other {j : Nat} (hj : j < zs.length) (hj' : j < (setR zs k l).length) (h : j ≠ k) : (setR zs k l)[j]'hj' = zs[j] := by
  rw [setR_get, if_neg (Ne.symm h)]
theorem r1_map : ∀ zs : List At64.R1, zs.flatMap At64.r1 = zs.map (fun z => Value.slice z.2.1 z.1.length z.2.2)
  | [] => rfl
  | z :: zs => by rw [List.flatMap_cons, r1_map zs]; rfl
theorem setR_flat (hk : k < zs.length) (hl : l.length = zs[k].1.length) : (setR zs k l).flatMap At64.r1 = zs.flatMap At64.r1 := by
  rw [r1_map, r1_map]
  unfold setR
  rw [List.map_set]
  refine List.ext_getElem? fun i => ?_
  rw [List.getElem?_set]
  split
  · rename_i e
    subst e
    simp [List.getD_eq_getElem?_getD, hk, hl]
  · rfl
theorem ApartR.set (h : ApartR zs) : ApartR (setR zs k l) := fun i j hi hj hne g e => by
  have hi' : i < zs.length := by rw [← setR_len (k := k) (l := l)]; exact hi
  have hj' : j < zs.length := by rw [← setR_len (k := k) (l := l)]; exact hj
  rw [setR_snd i hi' hi] at e
  rw [setR_snd j hj' hj]
  exact h i j hi' hj' hne g e
theorem ApartR.snoc (h : ApartR zs) {g c : Nat} (hlt : ∀ z ∈ zs, ∀ g', z.2.1 = some ⟨g', 0, none⟩ → g' < g) : ApartR (zs ++ [(l, some ⟨g, 0, none⟩, c)]) := fun i j hi hj hne g' e => by
  rw [List.length_append, List.length_singleton] at hi hj
  by_cases ci : i < zs.length
  · rw [List.getElem_append_left ci] at e
    by_cases cj : j < zs.length
    · rw [List.getElem_append_left cj]
      exact h i j ci cj hne g' e
    · obtain rfl : j = zs.length := by omega
      have := hlt _ (List.getElem_mem ci) g' e
      rw [List.getElem_append_right (Nat.le_refl _)]
      intro e2
      simp at e2 <;> omega
  · obtain rfl : i = zs.length := by omega
    have cj : j < zs.length := by omega
    rw [List.getElem_append_right (Nat.le_refl _)] at e
    simp at e
    subst e
    rw [List.getElem_append_left cj]
    intro e2
    have := hlt _ (List.getElem_mem cj) g e2
    omega
theorem OwnR_store {w : World} {base cap : Nat} {A : Option Addr} (h : At64.OwnR w base A cap zs) (ha : ApartR zs) (hk : k < zs.length) {g : Nat} (hg : zs[k].2.1 = some ⟨g, 0, none⟩) (i : Nat) (x : Int) :
    At64.OwnR (w.setCell ⟨g, i, none⟩ (.int .i64 x)) base A cap (setR zs k (zs[k].1.set i x)) := by
  have hok := h.own _ (List.getElem_mem hk)
  rw [hg] at hok
  refine ⟨?_, fun z hz => ?_⟩
  · rw [setR_len, setR_flat hk (by rw [List.length_set])]
    refine World.ownsRow.kept h.row (grown_setCell w _ _) (.inr ?_)
    rcases h.form with ⟨rfl, e, _⟩ | ⟨gA, cs, rfl, h1, h2, h3⟩
    · subst e; simp at hk
    · have hb : Blk w gA 28 cs := h3
      have := At64.own_blk0 hok hb (by decide)
      intro e
      simp [Value.ownBlock] at e
      omega
  · obtain ⟨j, hj, rfl⟩ := List.getElem_of_mem hz
    have hj' : j < zs.length := by rw [← setR_len (k := k) (l := zs[k].1.set i x)]; exact hj
    by_cases e : j = k
    · subst e
      rw [setR_same hj' hj]
      show Own _ base zs[j].2.1 zs[j].2.2 (zs[j].1.set i x)
      rw [hg]
      exact hok.store i x
    · rw [setR_other hj' hj e]
      exact (h.own _ (List.getElem_mem hj')).far1 fun g' e' q => by
        subst q
        exact ha j k hj' hk e g' e' hg
end
end
section

/-- All blocks from b1 on that stood are as they were; and so are those below b0. -/
structure Off (b0 b1 : Nat) (w w' : World) : Prop where
  low : Below b0 w w'
  high : ∀ k, b1 ≤ k → k < w.heap.size → w'.heap[k]? = w.heap[k]?
section
variable {w w' w2 : World} {b0 b1 : Nat}
theorem Off.of (h : Below w.heap.size w w') (hb : b0 ≤ w.heap.size) : Off b0 b1 w w' := ⟨h.mono hb, fun k _ hk => h.block k hk⟩
theorem Off.trans (h : Off b0 b1 w w') (h2 : Off b0 b1 w' w2) : Off b0 b1 w w2 := ⟨h.low.trans h2.low, fun k hk hl => (h2.high k hk (Nat.lt_of_lt_of_le hl h.low.size)).trans (h.high k hk hl)⟩
theorem Off.later (h : Off b0 b1 w w') (hb : b0 ≤ w'.heap.size) (h2 : Below w'.heap.size w' w2) : Off b0 b1 w w2 := h.trans (Off.of h2 hb)
theorem Off.size (h : Off b0 b1 w w') : w.heap.size ≤ w'.heap.size := h.low.size
theorem Off.row {base : Nat} {e : TypeId} {size n : Nat} {v : Value} {xs : List Value} (h : Off b0 b1 w w') (ho : w.ownsRow base e size v n xs) (hb : b1 ≤ base) : w'.ownsRow base e size v n xs := by
  refine ⟨ho.1, ?_⟩
  rcases ho.2 with h1 | ⟨g, cap, cur, h1, h2, h3, h4⟩
  · exact .inl h1
  · exact .inr ⟨g, cap, cur, h1, h2, (h.high g (Nat.le_trans hb h2) (Array.getElem?_eq_some_iff.1 h3).1).trans h3, h4⟩
end
theorem off_set {w : World} {b0 b1 g k : Nat} {v : Value} (h0 : b0 ≤ g) (h1 : g < b1) (hw : b0 ≤ w.heap.size) : Off b0 b1 w (w.setCell ⟨g, k, none⟩ v) :=
  ⟨below1 h0 hw, fun j hj _ => heap_setCell_other w ⟨g, k, none⟩ j v (fun q => by have q : j = g := q; omega)⟩
section
variable {w w' : World} {b0 b1 : Nat}
theorem Off.own {base cap : Nat} {A : Option Addr} {l : List Int} (h : Off b0 b1 w w') (ho : Own w base A cap l) (hb : b1 ≤ base) : Own w' base A cap l := h.row ho hb
end
/-- Rows of which no two share a block, below b1, as is block gs. -/
structure ApL (b1 gs : Nat) (zs : List At64.R1) : Prop where
  ap : ApartR zs
  g : gs < b1
  lt : ∀ z ∈ zs, ∀ g, z.2.1 = some ⟨g, 0, none⟩ → g < b1
theorem ApL.set {b1 gs k : Nat} {zs : List At64.R1} {l : List Int} (h : ApL b1 gs zs) (hk : k < zs.length) : ApL b1 gs (setR zs k l) :=
  ⟨h.ap.set, h.g, fun z hz g hg => by
    unfold setR at hz
    rcases List.mem_or_eq_of_mem_set hz with q | q
    · exact h.lt z q g hg
    · subst q
      rw [List.getD_eq_getElem?_getD, List.getElem?_eq_getElem hk] at hg
      exact h.lt _ (List.getElem_mem hk) g hg⟩
end
section

/-- No two octagons share a block. -/
def ApartZ (zs : List Z) : Prop := ∀ i j (hi : i < zs.length) (hj : j < zs.length), i ≠ j → ∀ g, zs[i].2.1 = some ⟨g, 0, none⟩ → zs[j].2.1 ≠ some ⟨g, 0, none⟩
section
variable {w w' : World} {base cap p : Nat} {A : Option Addr} {zs : List Z} {z : Z}
theorem ApartZ.nil : ApartZ [] := fun i j hi => absurd hi (by simp)
theorem o3_flat_set (_hp : p < zs.length) : (zs.set p z).flatMap o3 = (((zs.flatMap o3).set (p * 3) (.int .i64 z.1.n)).set (p * 3 + 1) (.bool z.1.e)).set (p * 3 + 2) (.slice z.2.1 z.1.m.length z.2.2) := by
  refine List.ext_getElem? fun i => ?_
  have hl : (zs.flatMap o3).length = zs.length * 3 := fmS_len o3 3 (fun _ => rfl) zs
  have hl2 : ((zs.set p z).flatMap o3).length = zs.length * 3 := by rw [fmS_len o3 3 (fun _ => rfl), List.length_set]
  by_cases hi : i < zs.length * 3
  · have h3 : i / 3 < zs.length := by omega
    have hr : i % 3 < 3 := Nat.mod_lt _ (by omega)
    have e : i = i / 3 * 3 + i % 3 := by omega
    have e1 := fmS_get o3 3 (fun _ => rfl) (zs.set p z) (i / 3) (i % 3) (by rw [List.length_set]; exact h3) hr
    have e2 := fmS_get o3 3 (fun _ => rfl) zs (i / 3) (i % 3) h3 hr
    rw [← e] at e1 e2
    rw [e1, List.getElem_set]
    by_cases hq : p = i / 3
    · rw [if_pos hq]
      have hr3 : i % 3 = 0 ∨ i % 3 = 1 ∨ i % 3 = 2 := by omega
      rcases hr3 with h | h | h
      · rw [List.getElem?_set_ne (by omega), List.getElem?_set_ne (by omega), show i = p * 3 by omega, List.getElem?_set_self (by rw [hl]; omega), show p * 3 % 3 = 0 by omega]; rfl
      · rw [List.getElem?_set_ne (by omega), show i = p * 3 + 1 by omega, List.getElem?_set_self (by rw [List.length_set, hl]; omega), show (p * 3 + 1) % 3 = 1 by omega]; rfl
      · rw [show i = p * 3 + 2 by omega, List.getElem?_set_self (by rw [List.length_set, List.length_set, hl]; omega), show (p * 3 + 2) % 3 = 2 by omega]; rfl
    · rw [if_neg hq, List.getElem?_set_ne (by omega), List.getElem?_set_ne (by omega), List.getElem?_set_ne (by omega), e2]
  · rw [List.getElem?_eq_none (by rw [hl2]; omega), List.getElem?_eq_none (by simp only [List.length_set]; rw [hl]; omega)]
theorem o3_flat_same (hp : p < zs.length) (h1 : z.1.n = zs[p].1.n) (h2 : z.1.e = zs[p].1.e) (h3 : z.1.m.length = zs[p].1.m.length) (h4 : z.2 = zs[p].2) : (zs.set p z).flatMap o3 = zs.flatMap o3 := by
  refine List.ext_getElem? fun i => ?_
  have hl2 : ((zs.set p z).flatMap o3).length = zs.length * 3 := by rw [fmS_len o3 3 (fun _ => rfl), List.length_set]
  have hl : (zs.flatMap o3).length = zs.length * 3 := fmS_len o3 3 (fun _ => rfl) zs
  by_cases hi : i < zs.length * 3
  · have h3' : i / 3 < zs.length := by omega
    have hr : i % 3 < 3 := Nat.mod_lt _ (by omega)
    have e : i = i / 3 * 3 + i % 3 := by omega
    have e1 := fmS_get o3 3 (fun _ => rfl) (zs.set p z) (i / 3) (i % 3) (by rw [List.length_set]; exact h3') hr
    have e2 := fmS_get o3 3 (fun _ => rfl) zs (i / 3) (i % 3) h3' hr
    rw [← e] at e1 e2
    rw [e1, e2, List.getElem_set]
    by_cases hq : p = i / 3
    · rw [if_pos hq]
      subst hq
      have : o3 z = o3 zs[i / 3] := by unfold o3; rw [h1, h2, h3, h4]
      rw [this]
    · rw [if_neg hq]
  · rw [List.getElem?_eq_none (by rw [hl2]; omega), List.getElem?_eq_none (by rw [hl]; omega)]
/-- What one octagon's cells are made leaves the others as they are. -/
theorem OwnZ.grow (h : OwnZ w base A cap zs) (ha : ApartZ zs) (hp : p < zs.length) {g : Nat} (hg : zs[p].2.1 = some ⟨g, 0, none⟩) (hgr : w.grownBy w' (some g)) {m : List Int} (hm : m.length = zs[p].1.m.length) (hn : Own w' base zs[p].2.1 zs[p].2.2 m) :
    OwnZ w' base A cap (zs.set p (⟨zs[p].1.n, zs[p].1.e, m⟩, zs[p].2)) := by
  have hok := h.own _ (List.getElem_mem hp)
  rw [hg] at hok
  refine ⟨?_, fun y hy => ?_, fun y hy => ?_⟩
  · rw [o3_flat_same (z := (⟨zs[p].1.n, zs[p].1.e, m⟩, zs[p].2)) hp rfl rfl hm rfl, List.length_set]
    refine World.ownsRow.kept h.row hgr ?_
    rcases h.form with ⟨rfl, e, _⟩ | ⟨gA, cs, rfl, h1, h2, h3⟩
    · subst e; simp at hp
    · refine .inr fun e => ?_
      simp [Value.ownBlock] at e
      subst e
      exact own_blk hok (show Blk w gA 53 cs from h3) (by decide) rfl
  · obtain ⟨j, hj, rfl⟩ := List.getElem_of_mem hy
    have hj' : j < zs.length := by rw [List.length_set] at hj; exact hj
    rw [List.getElem_set]
    by_cases e : p = j
    · subst e
      rw [if_pos rfl]
      exact hn
    · rw [if_neg e]
      refine (h.own _ (List.getElem_mem hj')).grown hgr ?_
      rcases (h.own _ (List.getElem_mem hj')).form with ⟨e1, _⟩ | ⟨g', e1, _⟩
      · rw [e1]; exact .inl rfl
      · refine .inr fun e2 => ?_
        rw [e1] at e2
        simp [Value.ownBlock] at e2
        subst e2
        exact ha p j hp hj' e _ hg e1
  · rcases List.mem_or_eq_of_mem_set hy with q | q
    · exact h.le y q
    · subst q
      show m.length ≤ _
      rw [hm]
      exact h.le _ (List.getElem_mem hp)
theorem ApartZ.grow (h : ApartZ zs) {o : O} (hp : p < zs.length) : ApartZ (zs.set p (o, zs[p].2)) := fun i j hi hj hne g e => by
  have hi' : i < zs.length := by rw [List.length_set] at hi; exact hi
  have hj' : j < zs.length := by rw [List.length_set] at hj; exact hj
  have e1 : (zs.set p (o, zs[p].2))[i].2 = zs[i].2 := by
    rw [List.getElem_set]; split
    · rename_i q; subst q; rfl
    · rfl
  have e2 : (zs.set p (o, zs[p].2))[j].2 = zs[j].2 := by
    rw [List.getElem_set]; split
    · rename_i q; subst q; rfl
    · rfl
  rw [e1] at e
  rw [e2]
  exact h i j hi' hj' hne g e
/-- Another octagon put into the row. -/
theorem OwnZ.put {gR : Nat} (h : OwnZ w base (some ⟨gR, 0, none⟩) cap zs) (hp : p < zs.length) (hz : Own w base z.2.1 z.2.2 z.1.m) (hl : z.1.m.length ≤ 17592186044416) :
    OwnZ (((w.setCell ⟨gR, p * 3, none⟩ (.int .i64 z.1.n)).setCell ⟨gR, p * 3 + 1, none⟩ (.bool z.1.e)).setCell ⟨gR, p * 3 + 2, none⟩ (.slice z.2.1 z.1.m.length z.2.2)) base (some ⟨gR, 0, none⟩) cap (zs.set p z) := by
  have hrow := h.row
  have s0 := World.ownsRow.stored (w := w) (xs := zs.flatMap o3) hrow (p * 3) (.int .i64 z.1.n)
  have s1 := World.ownsRow.stored s0.1 (p * 3 + 1) (.bool z.1.e)
  have s2 := World.ownsRow.stored s1.1 (p * 3 + 2) (.slice z.2.1 z.1.m.length z.2.2)
  have hgr := (s0.2.trans s1.2).trans s2.2
  rcases h.form with ⟨e, _⟩ | ⟨gA, cs, e, h1, h2, h3⟩
  · cases e
  injection e with e; injection e with e; subst e
  have keep : ∀ (X : Option Addr) (c : Nat) (m : List Int), Own w base X c m → Own (((w.setCell ⟨gR, p * 3, none⟩ (.int .i64 z.1.n)).setCell ⟨gR, p * 3 + 1, none⟩ (.bool z.1.e)).setCell ⟨gR, p * 3 + 2, none⟩ (.slice z.2.1 z.1.m.length z.2.2)) base X c m := fun X c m hX => by
    refine hX.grown hgr ?_
    rcases hX.form with ⟨e1, _⟩ | ⟨g', e1, _⟩
    · rw [e1]; exact .inl rfl
    · refine .inr fun e2 => ?_
      rw [e1] at e2 hX
      simp [Value.ownBlock] at e2
      exact own_blk hX (show Blk w gR 53 cs from h3) (by decide) (by simpa using e2)
  refine ⟨?_, fun y hy => ?_, fun y hy => ?_⟩
  · rw [o3_flat_set hp, List.length_set]
    exact s2.1
  · rcases List.mem_or_eq_of_mem_set hy with q | q
    · exact keep _ _ _ (h.own y q)
    · subst q
      exact keep _ _ _ hz
  · rcases List.mem_or_eq_of_mem_set hy with q | q
    · exact h.le y q
    · subst q; exact hl
theorem ApartZ.put (h : ApartZ zs) (_hp : p < zs.length) (hz : ∀ g, z.2.1 = some ⟨g, 0, none⟩ → ∀ j (hj : j < zs.length), j ≠ p → zs[j].2.1 ≠ some ⟨g, 0, none⟩) : ApartZ (zs.set p z) := fun i j hi hj hne g e => by
  have hi' : i < zs.length := by rw [List.length_set] at hi; exact hi
  have hj' : j < zs.length := by rw [List.length_set] at hj; exact hj
  rw [List.getElem_set] at e ⊢
  by_cases q : p = i
  · subst q
    rw [if_pos rfl] at e
    rw [if_neg hne]
    exact hz g e j hj' (Ne.symm hne)
  · rw [if_neg q] at e
    by_cases q2 : p = j
    · subst q2
      rw [if_pos rfl]
      intro e2
      exact hz g e2 i hi' hne e
    · rw [if_neg q2]
      exact h i j hi' hj' hne g e
end
theorem apart_self (xs : List Int) (i : Nat) : apartX xs i i = 0 := by unfold apartX; omega
theorem maxPO_one (d : Nat) (x : List Int) : maxPO (d : Int) [x] = onePt d x := by
  unfold maxPO onePt ptC
  rw [if_neg (by simp), show (2 * (d : Int)).toNat = 2 * d by omega]
  congr 1
  refine range_ext fun p hp => ?_
  by_cases g : p / (2 * d) = p % (2 * d)
  · rw [if_pos g, g, apart_self]; rfl
  · rw [if_neg g]
    unfold maxP
    have := cellPt_rng (apartX x (p / (2 * d)) (p % (2 * d)))
    show max (-4611686018427387904) (cellPt _) = _
    omega
end
section
attribute [local go_sem ↓] Go.wp_at_zero Go.wp_at_succ

def mxF (a b : List Int) (p _q : Nat) : Int := max (gI a (p : Int)) (gI b (p : Int))
theorem ptG_at {N : Nat} {f : Nat → Nat → Int} {m : List Int} {k : Nat} (hk : k < m.length) : gI (ptG N f m k) (k : Int) = gI m (k : Int) := by
  unfold ptG
  unfold gI
  rw [Int.toNat_natCast, List.getD_eq_getElem?_getD, List.getElem?_map, List.getElem?_range hk]
  simp
theorem maxM_ptG {a b : List Int} : maxM a b = ptG 1 (mxF a b) a a.length := by
  unfold maxM ptG
  refine range_ext fun p hp => ?_
  rw [if_pos hp, Nat.div_one]
  rfl
/-- A row's block, if it has one. -/
def blkOf (A : Option Addr) : Option Nat := (Value.slice A 0 0).ownBlock
/-- What 'more' answers: a new octagon; or the same one, greater. -/
def MoreRes (o : O) (d : Nat) (x : List Int) (base : Nat) (A : Option Addr) (cap : Nat) (w : World) (e : Ending) (w' : World) : Prop :=
  ∃ A' c', e = .returned (.agg #[.int .i64 (moreO o d x).n, .bool (moreO o d x).e, .slice A' (moreO o d x).m.length c']) ∧
    ((o.e = true ∧ Own w' w.heap.size A' c' (moreO o d x).m ∧ Below w.heap.size w w') ∨ (o.e = false ∧ A' = A ∧ c' = cap ∧ Own w' base A cap (moreO o d x).m ∧ w.grownBy w' (blkOf A)))
theorem rdr_one {w : World} {g : Nat} {t : TypeId} {X : Option Addr} {x : List Int} {xc : Nat} (h : Blk w g t #[.slice X x.length xc]) (hx : Rd w w.heap.size X x) : RdR w w.heap.size (some ⟨g, 0, none⟩) [x] := fun k hk => by
  obtain rfl : k = 0 := by simpa using hk
  exact ⟨g, 0, X, xc, rfl, h.lt, h.cell 0, hx⟩
theorem grow_more {w w' : World} {A : Option Addr} (h : w.grownBy w' (blkOf A)) {g : Nat} (hg : w.heap.size ≤ g) (v0 v1 v2 : Value) : w.grownBy (((w'.setCell ⟨g, 0, none⟩ v0).setCell ⟨g, 1, none⟩ v1).setCell ⟨g, 2, none⟩ v2) (blkOf A) := by
  have k := ((grown_setCell w' ⟨g, 0, none⟩ v0).trans (grown_setCell _ ⟨g, 1, none⟩ v1)).trans (grown_setCell _ ⟨g, 2, none⟩ v2)
  refine ⟨k.os.trans h.os, k.tape.trans h.tape, k.output.trans h.output, Nat.le_trans h.size k.size, fun i hi hne => ?_⟩
  exact (k.block i (Nat.lt_of_lt_of_le hi h.size) (fun e => by injection e with e; have e : i = g := e; omega)).trans (h.block i hi hne)
set_option maxRecDepth 8000 in
set_option maxHeartbeats 8000000 in
theorem rmore_ok (o : O) (d : Nat) (hd : d ≤ 64) (hm : o.e = false → o.m.length = 2 * d * (2 * d)) (x : List Int) (hxl : x.length = d) (hI : I64s x) (base cap xc : Nat) (A X : Option Addr) (w : World) (own : Own w base A cap o.m) (hx : Rd w w.heap.size X x) (hle : o.m.length ≤ 17592186044416) (_hbs : base ≤ w.heap.size) :
    Calls Tryz.prog 39 #[.agg #[.int .i64 o.n, .bool o.e, .slice A o.m.length cap], .int .i64 (d : Int), .slice X x.length xc] w (MoreRes o d x base A cap w) := by
  have HPT := hid (fun (P : Option Addr) (pc : Nat) W (h : RdR W W.heap.size P [x]) => (show Calls Tryz.prog 66 #[.int .i64 (d : Int), .slice P 1 pc] W (PtRes W (onePt d x)) from by
    have := rpointsA_ok d hd [x] (fun k hk => by (obtain rfl : k = 0 := by simpa using hk); exact hxl) (fun k hk i => by (obtain rfl : k = 0 := by simpa using hk); exact hI i) (by simp) P pc W h
    rw [maxPO_one] at this
    exact this))
  have HX0 := hid hx
  have HXL := hid hxl
  have p3 := Blk.new w 53 #[.int .i64 o.n, .bool o.e, .slice A o.m.length cap]
  have n3 := new1 w (.cells #[.int .i64 o.n, .bool o.e, .slice A o.m.length cap] 53)
  have p6 := Blk.new (w.alloc (.cells #[.int .i64 o.n, .bool o.e, .slice A o.m.length cap] 53)) 53 #[.int .i64 0, .bool false, .slice none 0 0]
  have n6 := new1 (w.alloc (.cells #[.int .i64 o.n, .bool o.e, .slice A o.m.length cap] 53)) (.cells #[.int .i64 0, .bool false, .slice none 0 0] 53)
  rw [show (w.alloc (.cells #[.int .i64 o.n, .bool o.e, .slice A o.m.length cap] 53)).heap.size = w.heap.size + 1 by simp] at p6
  replace p3 := p3.later n6
  have hb0 := bup n3 n6
  have HO := hid own
  clear hx n3 n6 own hxl
  go_enter Tryz.func39, Tryz.ntmps39
  go_upto_region 1 with fail
  generalize (w.alloc (.cells #[.int .i64 o.n, .bool o.e, .slice A o.m.length cap] 53)).alloc (.cells #[.int .i64 0, .bool false, .slice none 0 0] 53) = w1 at *
  have kx := Blk.new w1 28 #[.slice X x.length xc]
  have nx := new1 w1 (.cells #[.slice X x.length xc] 28)
  have HP := hid (HPT.out (some ⟨w1.heap.size, 0, none⟩) 1 _ (rdr_one kx (HX0.out.up (bup hb0 nx))))
  have p3' := p3.later nx
  have p6' := p6.later nx
  have hb1 := bup hb0 nx
  clear kx nx HPT p3 p6 hb0
  go_wp2_with fail
  (with_reducible refine HP.out.mono ?_)
  clear HP
  rintro e2 w2 ⟨A2, c2, rfl, own2, hb2⟩
  have hs1 := hb1.size
  have p3 := p3'.later hb2
  have p6 := p6'.later hb2
  have own3 := own2.less hs1
  have hb3 := bup hb1 hb2
  have hon : (onePt d x).n = (d : Int) := rfl
  have hoe : (onePt d x).e = false := rfl
  rw [hon, hoe]
  clear p3' p6' own2 hb2 hb1 hon hoe
  have HQM : Hid ((onePt d x).m.length = 2 * d * (2 * d)) := hid (by unfold onePt ptC; simp)
  have HMO : Hid (moreO o d x = if o.e = true then ⟨(d : Int), false, (onePt d x).m⟩ else ⟨o.n, o.e, maxM o.m (onePt d x).m⟩) := hid (by unfold moreO; cases o.e <;> rfl)
  generalize (onePt d x).m = q at *
  have hg7 : w.heap.size + 1 < w2.heap.size := p6.lt
  have n7 := new1 w2 (.cells #[.int .i64 (d : Int), .bool false, .slice A2 q.length c2] 53)
  have p7 := Blk.new w2 53 #[.int .i64 (d : Int), .bool false, .slice A2 q.length c2]
  replace p3 := p3.later n7
  replace p6 := p6.later n7
  have own4 := own3.below n7
  have hb4 := bup hb3 n7
  have hgs : w.heap.size ≤ w2.heap.size := hb3.size
  clear n7 own3 hb3
  go_upto_region 2 with fail
  have ownO := HO.out.below hb4
  generalize w2.alloc (.cells #[.int .i64 (d : Int), .bool false, .slice A2 q.length c2] 53) = w5 at *
  generalize w2.heap.size = g7 at *
  obtain ⟨on, oe, om⟩ := o
  dsimp only at *
  obtain ⟨x0, x1, x2, fx⟩ := octbox p3
  obtain ⟨y0, y1, y2, fy⟩ := octbox p6
  obtain ⟨z0, z1, z2, fz⟩ := octbox p7
  cases oe
  case true =>
    have q9 := hid (p6.set3 (v0 := .int .i64 (d : Int)) (v1 := .bool false) (v2 := .slice A2 q.length c2))
    have o9 := hid (own4.far3 (g := w.heap.size + 1) (v0 := .int .i64 (d : Int)) (v1 := .bool false) (v2 := .slice A2 q.length c2) (own_blk' own4 p6 (by decide)))
    have hb9 := hid (hb4.trans (below3 (W := w5) (g := w.heap.size + 1) (v0 := .int .i64 (d : Int)) (v1 := .bool false) (v2 := .slice A2 q.length c2) (by omega) hb4.size))
    clear own4 ownO p3 p6 p7 hb4
    go_wp2
    clear x0 x1 x2 fx y0 y1 y2 fy z0 z1 z2 fz
    obtain ⟨z0, z1, z2, fz⟩ := octbox q9.out
    refine bodyPost_ret (v := .agg #[.int .i64 (d : Int), .bool false, .slice A2 q.length c2]) (by simp [results, Tryz.results39, go_sem, z0, z1, z2]) rfl ?_
    exact ⟨A2, c2, by rw [HMO.out]; rfl, .inl ⟨rfl, by rw [HMO.out]; exact o9.out, hb9.out⟩⟩
  case false =>
    have hml := hm rfl
    have HLN := hid (hml.trans HQM.out.symm)
    have HMO2 : Hid (moreO ⟨on, false, om⟩ d x = ⟨on, false, ptG 1 (mxF om q) om om.length⟩) := hid (by rw [HMO.out]; rw [if_neg (by decide), maxM_ptG])
    have hG : w.grownBy w5 (blkOf A) := grown_of_below hb4 _
    have HAL : Hid (∀ g, A = some ⟨g, 0, none⟩ → g < w.heap.size) := hid fun g e => by
      rcases HO.out.form with ⟨h1, _⟩ | ⟨g', h1, _, h2⟩
      · rw [h1] at e; cases e
      · rw [h1] at e; injection e with e; injection e with e; omega
    clear hml hm HMO HQM HO hb4
    obtain ⟨L, hL⟩ : ∃ L, om.length = L := ⟨_, rfl⟩
    have HL := hid hL
    have hqL : q.length = L := by rw [← HLN.out]; exact hL
    have HQL := hid hqL
    have ownP : Own w5 base A cap (ptG 1 (mxF om q) om 0) := by rw [ptG_zero]; exact ownO
    rw [hL] at x2 p3 HMO2 hle
    rw [hqL] at z2 p7
    clear ownO hL hqL HLN
    go_wp2
    clear x0 x1 x2 fx y0 y1 y2 fy z0 z1 z2 fz
    go_loopw [9] (fun t wr => ∃ k : Nat, k ≤ L ∧ t = .int .i64 (k : Int) ∧ Own wr base A cap (ptG 1 (mxF om q) om k) ∧ Own wr w.heap.size A2 c2 q ∧ Blk wr w.heap.size 53 #[.int .i64 on, .bool false, .slice A L cap] ∧ Blk wr (w.heap.size + 1) 53 #[.int .i64 0, .bool false, .slice none 0 0] ∧ Blk wr g7 53 #[.int .i64 (d : Int), .bool false, .slice A2 L c2] ∧ w.grownBy wr (blkOf A)) (fun t _ => L - (Go.RowKit.intOf t).toNat)
    case atStart => exact ⟨0, by omega, rfl, ownP, own4, p3, p6, p7, hG⟩
    case round =>
      clear ownP own4 p3 p6 p7 hG
      obtain ⟨k, hk, rfl, ownP, own4, p3, p6, p7, hG⟩ := hrel
      obtain ⟨x0, x1, x2, fx⟩ := octbox p3
      obtain ⟨z0, z1, z2, fz⟩ := octbox p7
      by_cases hlt : k < L
      · have hlt' : (k : Int) < (L : Int) := by omega
        go_upto_region 7 with fail
        have hPl : (ptG 1 (mxF om q) om k).length = L := by rw [ptG_len]; exact HL.out
        have hAt : gI (ptG 1 (mxF om q) om k) (k : Int) = gI om (k : Int) := ptG_at (by rw [HL.out]; exact hlt)
        have HSET : Hid (ptG 1 (mxF om q) om (k + 1) = (ptG 1 (mxF om q) om k).set k (max (gI om (k : Int)) (gI q (k : Int)))) := hid (by
          rw [ptG_set, Nat.div_one]; rfl)
        obtain ⟨gA, rfl, hgA, hgB⟩ : ∃ g, A = some ⟨g, 0, none⟩ ∧ base ≤ g ∧ g < wr.heap.size := by
          rcases ownP.form with ⟨_, h, _⟩ | h
          · exfalso; rw [h] at hPl; simp at hPl; omega
          · exact h
        obtain ⟨g2, rfl, hg2, hg2B⟩ : ∃ g, A2 = some ⟨g, 0, none⟩ ∧ w.heap.size ≤ g ∧ g < wr.heap.size := by
          rcases own4.form with ⟨_, h, _⟩ | h
          · exfalso; have := HQL.out; rw [h] at this; simp at this; omega
          · exact h
        have hAlt := HAL.out gA rfl
        obtain ⟨_, _, eA, _, cA⟩ := ownP.rd k (by omega)
        injection eA with eA; injection eA with eA1 eA2; subst eA1; subst eA2
        obtain ⟨_, _, eB, _, cB⟩ := own4.rd k (by rw [HQL.out]; exact hlt)
        injection eB with eB; injection eB with eB1 eB2; subst eB1; subst eB2
        rw [Nat.zero_add, hAt] at cA
        rw [Nat.zero_add] at cB
        obtain ⟨a, hav⟩ : ∃ a, gI om (k : Int) = a := ⟨_, rfl⟩
        obtain ⟨b, hbv⟩ : ∃ b, gI q (k : Int) = b := ⟨_, rfl⟩
        rw [hav] at cA
        rw [hbv] at cB
        rw [hav, hbv] at HSET
        clear hav hbv hAt
        have HPL := hid hPl
        have l0 := later x2
        have l1 := later z2
        have l2 := later cA
        have l3 := later cB
        have ne3 := own_blk' ownP p3 (by decide) gA rfl
        have ne6 := own_blk' ownP p6 (by decide) gA rfl
        have ne7 := own_blk' ownP p7 (by decide) gA rfl
        have ne2 : gA ≠ g2 := by omega
        have HSV := hid (And.intro ownP (And.intro own4 (And.intro p3 (And.intro p6 (And.intro p7 hG)))))
        clear x0 x1 x2 fx z0 z1 z2 fz cA cB ownP own4 p3 p6 p7 hG hPl hk
        refine wp_region_flow 14 (fun W => Below wr.heap.size wr W) (by kernel_rfl) (by kernel_rfl) (Below.refl _ _).drew ?_
        (repeat (first | (refine Flow.skip (by rfl) ?_; simp only [Act.put, List.setIfInBounds_toArray, List.set_cons_zero, List.set_cons_succ]) | (refine' Flow.take _ (by rfl) (fun W hW R hR => ?_) ?_; rotate_left; (go_simp; (try go_bits); with_reducible exact hR); simp only [Act.put, List.setIfInBounds_toArray, List.set_cons_zero, List.set_cons_succ])))
        intro w9 hb9
        clear l0 l1 l2 l3
        obtain ⟨ownP, own4, p3, p6, p7, hG⟩ := HSV.out
        have hfr := (ownP.below hb9).frozen k
        obtain ⟨_, _, eA, _, cA⟩ := (ownP.below hb9).rd k (by rw [HPL.out]; exact hlt)
        injection eA with eA; injection eA with eA1 eA2; subst eA1; subst eA2
        rw [Nat.zero_add] at cA
        obtain ⟨v, hv⟩ : ∃ v, max a b = v := ⟨_, rfl⟩
        have HV : Hid ((if a < b then b else a) = v) := hid (by rw [← hv]; split <;> omega)
        rw [hv] at HSET
        have HR := hid (And.intro ((ownP.below hb9).store k v) (And.intro ((own4.below hb9).far1 (g := gA) (i := k) (v := .int .i64 v) (fun kk e => by injection e with e; injection e with e; omega)) (And.intro ((p3.later hb9).far (p := ⟨gA, k, none⟩) ne3 (.int .i64 v)) (And.intro ((p6.later hb9).far (p := ⟨gA, k, none⟩) ne6 (.int .i64 v)) (And.intro ((p7.later hb9).far (p := ⟨gA, k, none⟩) ne7 (.int .i64 v)) ((hG.trans (grown_of_below hb9 _)).trans (grown_setCell w9 ⟨gA, k, none⟩ (.int .i64 v))))))))
        clear ownP own4 p3 p6 p7 hG hb9 HSV hv
        rw [HV.out]
        go_wp2
        go_roundw
        case rel =>
          obtain ⟨h1, h2, h3, h4, h5, h6⟩ := HR.out
          exact ⟨k + 1, by omega, by go_num, by rw [HSET.out]; exact h1, h2, h3, h4, h5, h6⟩
        case measure => simp [Go.RowKit.intOf]; omega
      · obtain rfl : k = L := by omega
        have HPL : Hid ((ptG 1 (mxF om q) om k).length = k) := hid (by rw [ptG_len]; exact HL.out)
        have HE : Hid (moreO ⟨on, false, om⟩ d x = ⟨on, false, ptG 1 (mxF om q) om k⟩) := hid HMO2.out
        obtain ⟨y0, y1, y2, fy⟩ := octbox p6
        generalize ptG 1 (mxF om q) om k = PM at *
        have q9 := hid (p6.set3 (v0 := .int .i64 on) (v1 := .bool false) (v2 := .slice A k cap))
        have o9 := hid (ownP.far3 (g := w.heap.size + 1) (v0 := .int .i64 on) (v1 := .bool false) (v2 := .slice A k cap) (own_blk' ownP p6 (by decide)))
        have hg9 := hid (grow_more (A := A) hG (g := w.heap.size + 1) (by omega) (.int .i64 on) (.bool false) (.slice A k cap))
        clear ownP own4 p3 p6 p7 hG
        go_wp2
        clear x0 x1 x2 fx y0 y1 y2 fy z0 z1 z2 fz
        obtain ⟨z0, z1, z2, fz⟩ := octbox q9.out
        refine bodyPost_ret (v := .agg #[.int .i64 on, .bool false, .slice A k cap]) (by simp [results, Tryz.results39, go_sem, z0, z1, z2]) rfl ?_
        exact ⟨A, cap, by rw [HE.out]; dsimp only; rw [HPL.out], .inr ⟨rfl, rfl, rfl, by rw [HE.out]; exact o9.out, hg9.out⟩⟩
end
end Go.Proofs.YtkncebcekhfnfaaGreat
