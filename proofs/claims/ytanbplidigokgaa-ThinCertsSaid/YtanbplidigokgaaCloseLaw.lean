/-
  What closing does to the cells: as many, all bounds, none raised.
-/
import Derived.Test.YtanbplidigokgaaClose
namespace Go.Proofs.Ytanbplidigokgaa
open Go.RowKit

theorem gI_set (xs : List Int) (k : Nat) (v : Int) (i : Nat) : gI (xs.set k v) i = if i = k ∧ k < xs.length then v else gI xs i := by
  unfold gI
  simp only [Int.toNat_natCast, List.getD, List.getElem?_set]
  by_cases h : k = i
  · subst h
    by_cases hk : k < xs.length
    · simp [hk]
    · simp [hk, List.getElem?_eq_none (show xs.length ≤ k by omega)]
  · rw [if_neg h, if_neg (fun e => h e.1.symm)]
theorem AllB.set' {xs : List Int} (h : AllB xs) {k : Nat} {v : Int} (hv : isBound v = true) : AllB (xs.set k v) := fun i => by
  rw [gI_set]
  split
  · exact hv
  · exact h i
/-- No cell is above. -/
def Le (ys xs : List Int) : Prop := ∀ i : Nat, gI ys i ≤ gI xs i
theorem Le.refl (xs : List Int) : Le xs xs := fun _ => Int.le_refl _
theorem Le.trans {a b c : List Int} (h : Le a b) (k : Le b c) : Le a c := fun i => Int.le_trans (h i) (k i)
theorem Le.set {xs : List Int} {k : Nat} {v : Int} (h : v ≤ gI xs k) : Le (xs.set k v) xs := fun i => by
  rw [gI_set]
  split
  · rename_i e; rw [e.1]; exact h
  · exact Int.le_refl _

/-- As many cells, all bounds, none above. -/
structure Low (ys xs : List Int) : Prop where
  len : ys.length = xs.length
  all : AllB xs → AllB ys
  le : AllB xs → Le ys xs
theorem Low.refl (xs : List Int) : Low xs xs := ⟨rfl, id, fun _ => Le.refl xs⟩
theorem Low.trans {a b c : List Int} (h : Low a b) (k : Low b c) : Low a c := ⟨h.len.trans k.len, fun x => h.all (k.all x), fun x => (h.le (k.all x)).trans (k.le x)⟩
theorem Low.rep {f : Nat → List Int → List Int} (h : ∀ i x, Low (f i x) x) : ∀ (t : Nat) (x : List Int), Low (rep f t x) x
  | 0, x => Low.refl x
  | t + 1, x => (h t _).trans (Low.rep h t x)
theorem Low.set {xs : List Int} {k : Nat} {v : Int} (h : AllB xs → isBound v = true ∧ v ≤ gI xs k) : Low (xs.set k v) xs :=
  ⟨List.length_set, fun x => x.set' (h x).1, fun x => Le.set (h x).2⟩

theorem pStep_low (N k i j : Nat) (xs : List Int) : Low (pStep N k i j xs) xs :=
  Low.set fun h => ⟨isBound_min (h _) (isBound_plus _ _), Int.min_le_left _ _⟩
theorem paths_low (N t : Nat) (xs : List Int) : Low (paths N t xs) xs :=
  Low.rep (fun k x => Low.rep (fun i x => Low.rep (fun j x => pStep_low N k i j x) N x) N x) t xs
theorem mStep_low (N i j : Nat) (xs : List Int) : Low (mStep N i j xs) xs := by
  unfold mStep
  refine ⟨by simp, fun h => (h.set' (isBound_min (h _) (h _))).set' (isBound_min (h _) (h _)), fun h => ?_⟩
  intro p
  rw [gI_set, gI_set]
  split
  · rename_i e; rw [e.1]; exact Int.min_le_right _ _
  · split
    · rename_i e; rw [e.1]; exact Int.min_le_left _ _
    · exact Int.le_refl _
theorem mirrors_low (N t : Nat) (xs : List Int) : Low (mirrors N t xs) xs := Low.rep (fun i x => Low.rep (fun j x => mStep_low N i j x) N x) t xs
theorem even_le {a : Int} (h : isBound a = true) : even a ≤ a := by
  have h1 := near_of h
  unfold even
  rw [h1]
  split <;> omega
theorem eStep_low (N i : Nat) (xs : List Int) : Low (eStep N i xs) xs := Low.set fun h => ⟨isBound_even _, even_le (h _)⟩
theorem evens_low (N t : Nat) (xs : List Int) : Low (evens N t xs) xs := Low.rep (fun i x => eStep_low N i x) t xs
theorem sStep_low (N i j : Nat) (xs : List Int) : Low (sStep N i j xs) xs := by
  unfold sStep
  split
  · exact Low.refl _
  · exact Low.set fun h => ⟨isBound_min (h _) (isBound_half _), Int.min_le_left _ _⟩
theorem strengthens_low (N t : Nat) (xs : List Int) : Low (strengthens N t xs) xs := Low.rep (fun i x => Low.rep (fun j x => sStep_low N i j x) N x) t xs
theorem closeM_low {N : Nat} {xs ys : List Int} (h : closeM N xs = some ys) : Low ys xs := by
  unfold closeM at h
  split at h
  · cases h
  · split at h
    · cases h
    · injection h with h
      subst h
      exact (strengthens_low _ _ _).trans ((evens_low _ _ _).trans ((mirrors_low _ _ _).trans (paths_low _ _ _)))
theorem closeO_n (o : O) : (closeO o).n = o.n := by
  unfold closeO; split
  · rfl
  · split <;> rfl
theorem closeO_e {o : O} (h : o.e = true) : closeO o = ⟨o.n, true, []⟩ := by unfold closeO; rw [if_pos h]
/-- Closed: empty without cells; or the cells of the closed matrix. -/
theorem closeO_cases (o : O) : closeO o = ⟨o.n, true, []⟩ ∨ (o.e = false ∧ ∃ ys, closeM (2 * o.n).toNat o.m = some ys ∧ closeO o = ⟨o.n, false, ys⟩) := by
  cases he : o.e with
  | true => exact .inl (closeO_e he)
  | false =>
    unfold closeO
    rw [if_neg (by simp [he])]
    cases h : closeM (2 * o.n).toNat o.m with
    | none => exact .inl rfl
    | some ys => exact .inr ⟨rfl, ys, rfl, rfl⟩
theorem closeO_len {o : O} (h : check o = 0) (he : (closeO o).e = false) : (closeO o).m.length = o.m.length ∧ o.e = false := by
  rcases closeO_cases o with h1 | ⟨h0, ys, h1, h2⟩
  · rw [h1] at he; cases he
  · rw [h2]; exact ⟨(closeM_low h1).len, h0⟩
theorem closeO_m_le {o : O} : (closeO o).m.length ≤ o.m.length := by
  rcases closeO_cases o with h1 | ⟨h0, ys, h1, h2⟩
  · rw [h1]; simp
  · rw [h2]; exact Nat.le_of_eq (closeM_low h1).len

/-- What closing hands back: an octagon closed, or nothing. -/
def closedO (o : O) : O := if check o = 0 then closeO o else ⟨0, false, []⟩
theorem closedO_ok {o : O} (h : check o = 0) : closedO o = closeO o := by unfold closedO; rw [if_pos h]
theorem closedO_m_le (o : O) : (closedO o).m.length ≤ o.m.length := by
  unfold closedO
  split
  · exact closeO_m_le
  · simp

/-- An octagon of the call's own memory. -/
def OctOwn (w : World) (o : O) (e : Ending) (w' : World) : Prop := ∃ A1 c1, e = .returned (.agg #[.int .i64 o.n, .bool o.e, .slice A1 o.m.length c1]) ∧ Own w' w.heap.size A1 c1 o.m ∧ Below w.heap.size w w'
theorem OctOwn.res {w w' : World} {o : O} {e : Ending} (h : OctOwn w o e w') : OctRes w o e w' := by
  obtain ⟨A1, c1, he, ho, hb⟩ := h
  exact ⟨A1, c1, he, ho.rd, hb⟩

theorem close_all (o : O) (A : Option Addr) (c : Nat) (w : World) (hx : Rd w w.heap.size A o.m) (hm : o.m.length ≤ 17592186044416) :
    Calls Try.prog 29 #[.agg #[.int .i64 o.n, .bool o.e, .slice A o.m.length c]] w (CloseRes w (closedO o) (check o)) := close_any o A c w hx hm

set_option maxHeartbeats 1000000 in
theorem oclosed_any (o : O) (A : Option Addr) (c : Nat) (w : World) (hx : Rd w w.heap.size A o.m) (hm : o.m.length ≤ 17592186044416) :
    Calls Try.prog 49 #[.agg #[.int .i64 o.n, .bool o.e, .slice A o.m.length c]] w (OctOwn w (closedO o)) := by
  have hb0 : Below w.heap.size w ((w.alloc (Obj.cells #[.int .i64 o.n, .bool o.e, .slice A o.m.length c] 24)).alloc (Obj.cells #[.int .i64 0, .bool false, .slice none 0 0] 24)) := ((Below.refl _ _).alloc (Nat.le_refl _) _).alloc (by simp) _
  obtain ⟨p0, p1⟩ := blk_two (w := w) (Below.refl _ ((w.alloc (Obj.cells #[.int .i64 o.n, .bool o.e, .slice A o.m.length c] 24)).alloc (Obj.cells #[.int .i64 0, .bool false, .slice none 0 0] 24)))
  have HC := hid (close_all o A c _ (hx.up hb0) hm)
  go_enter Try.func49, Try.ntmps49
  go_wp2_with fail
  refine HC.out.mono ?_
  clear HC
  generalize (w.alloc (Obj.cells #[.int .i64 o.n, .bool o.e, .slice A o.m.length c] 24)).alloc (Obj.cells #[.int .i64 0, .bool false, .slice none 0 0] 24) = w0 at *
  rintro e1 w1 ⟨A1, c1, s, rfl, own1, hb1⟩
  generalize closedO o = q at *
  have n3 := new1 w1 (.cells #[.int .i64 q.n, .bool q.e, .slice A1 q.m.length c1] 24)
  obtain ⟨y0, y1, y2, fy⟩ := octbox (p1.later hb1)
  have hb2 := bup (bup hb0 hb1) n3
  have hlt := (p1.later hb1).lt
  have hbb := (p1.lt)
  go_wp2
  have r3 := (p1.later hb1).set3 (v0 := .int .i64 q.n) (v1 := .bool q.e) (v2 := .slice A1 q.m.length c1)
  have own3 := ((own1.setFar (p := ⟨w.heap.size + 1, 0, none⟩) (by simpa using hbb) (.int .i64 q.n)).setFar (p := ⟨w.heap.size + 1, 1, none⟩) (by simpa using hbb) (.bool q.e)).setFar (p := ⟨w.heap.size + 1, 2, none⟩) (by simpa using hbb) (.slice A1 q.m.length c1)
  have hb3 : Below w.heap.size w (((w1.setCell ⟨w.heap.size + 1, 0, none⟩ (.int .i64 q.n)).setCell ⟨w.heap.size + 1, 1, none⟩ (.bool q.e)).setCell ⟨w.heap.size + 1, 2, none⟩ (.slice A1 q.m.length c1)) := (bup hb0 hb1).trans (below3 (by omega) (bup hb0 hb1).size)
  clear y0 y1 y2 fy n3 hb2
  generalize ((w1.setCell ⟨w.heap.size + 1, 0, none⟩ (.int .i64 q.n)).setCell ⟨w.heap.size + 1, 1, none⟩ (.bool q.e)).setCell ⟨w.heap.size + 1, 2, none⟩ (.slice A1 q.m.length c1) = w3 at *
  have n4 := new1 w3 (.cells #[.int .i64 q.n, .bool q.e, .slice A1 q.m.length c1] 24)
  have hr3 := r3.lt
  obtain ⟨z0, z1, z2, fz⟩ := octbox r3
  obtain ⟨u0, u1, u2, fu⟩ := octbox (r3.later n4)
  refine bodyPost_ret (v := .agg #[.int .i64 q.n, .bool q.e, .slice A1 q.m.length c1]) (by simp [results, Try.results49, go_sem, u0, u1, u2]) rfl ⟨A1, c1, rfl, ?_, ?_⟩
  · exact (own3.below n4).less hb0.size
  · exact bup hb3 n4

set_option maxHeartbeats 1000000 in
theorem thclosed_any (o : O) (A : Option Addr) (c : Nat) (w : World) (hx : Rd w w.heap.size A o.m) (hm : o.m.length ≤ 17592186044416) :
    Calls Try.prog 58 #[.agg #[.int .i64 o.n, .bool o.e, .slice A o.m.length c]] w (OctOwn w (closedO o)) := by
  have hb0 : Below w.heap.size w ((w.alloc (Obj.cells #[.int .i64 o.n, .bool o.e, .slice A o.m.length c] 24)).alloc (Obj.cells #[.int .i64 0, .bool false, .slice none 0 0] 24)) := ((Below.refl _ _).alloc (Nat.le_refl _) _).alloc (by simp) _
  obtain ⟨p0, p1⟩ := blk_two (w := w) (Below.refl _ ((w.alloc (Obj.cells #[.int .i64 o.n, .bool o.e, .slice A o.m.length c] 24)).alloc (Obj.cells #[.int .i64 0, .bool false, .slice none 0 0] 24)))
  have HC := hid (close_all o A c _ (hx.up hb0) hm)
  go_enter Try.func58, Try.ntmps58
  go_wp2_with fail
  refine HC.out.mono ?_
  clear HC
  generalize (w.alloc (Obj.cells #[.int .i64 o.n, .bool o.e, .slice A o.m.length c] 24)).alloc (Obj.cells #[.int .i64 0, .bool false, .slice none 0 0] 24) = w0 at *
  rintro e1 w1 ⟨A1, c1, s, rfl, own1, hb1⟩
  generalize closedO o = q at *
  have n3 := new1 w1 (.cells #[.int .i64 q.n, .bool q.e, .slice A1 q.m.length c1] 24)
  obtain ⟨y0, y1, y2, fy⟩ := octbox (p1.later hb1)
  have hb2 := bup (bup hb0 hb1) n3
  have hlt := (p1.later hb1).lt
  have hbb := (p1.lt)
  go_wp2
  have r3 := (p1.later hb1).set3 (v0 := .int .i64 q.n) (v1 := .bool q.e) (v2 := .slice A1 q.m.length c1)
  have own3 := ((own1.setFar (p := ⟨w.heap.size + 1, 0, none⟩) (by simpa using hbb) (.int .i64 q.n)).setFar (p := ⟨w.heap.size + 1, 1, none⟩) (by simpa using hbb) (.bool q.e)).setFar (p := ⟨w.heap.size + 1, 2, none⟩) (by simpa using hbb) (.slice A1 q.m.length c1)
  have hb3 : Below w.heap.size w (((w1.setCell ⟨w.heap.size + 1, 0, none⟩ (.int .i64 q.n)).setCell ⟨w.heap.size + 1, 1, none⟩ (.bool q.e)).setCell ⟨w.heap.size + 1, 2, none⟩ (.slice A1 q.m.length c1)) := (bup hb0 hb1).trans (below3 (by omega) (bup hb0 hb1).size)
  clear y0 y1 y2 fy n3 hb2
  generalize ((w1.setCell ⟨w.heap.size + 1, 0, none⟩ (.int .i64 q.n)).setCell ⟨w.heap.size + 1, 1, none⟩ (.bool q.e)).setCell ⟨w.heap.size + 1, 2, none⟩ (.slice A1 q.m.length c1) = w3 at *
  have n4 := new1 w3 (.cells #[.int .i64 q.n, .bool q.e, .slice A1 q.m.length c1] 24)
  have hr3 := r3.lt
  obtain ⟨z0, z1, z2, fz⟩ := octbox r3
  obtain ⟨u0, u1, u2, fu⟩ := octbox (r3.later n4)
  refine bodyPost_ret (v := .agg #[.int .i64 q.n, .bool q.e, .slice A1 q.m.length c1]) (by simp [results, Try.results58, go_sem, u0, u1, u2]) rfl ⟨A1, c1, rfl, ?_, ?_⟩
  · exact (own3.below n4).less hb0.size
  · exact bup hb3 n4

end Go.Proofs.Ytanbplidigokgaa
