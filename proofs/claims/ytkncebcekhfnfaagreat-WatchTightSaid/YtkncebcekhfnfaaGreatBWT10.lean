/-
  What closing does to the cells: as many, all bounds, none raised.
  order.Entails: what it answers.
  What an octagon is narrowed to may be, and is entailed by what entails it: plain.
  An octagon that may be, closed, may be: plain.
  Ranges, and what an octagon tells of them, in plain words.
  gnomonref13: a matrix being closed; plus; Across.
-/
import Derived.Test.YtkncebcekhfnfaaGreatBWT09
import Derived.Test.YtkncebcekhfnfaaGreatBWT03
namespace Go.Proofs.YtkncebcekhfnfaaGreat
section
open Go.RowKit

theorem gI_set (xs : List Int) (k : Nat) (v : Int) (i : Nat) : gI (xs.set k v) i = if i = k ∧ k < xs.length then v else gI xs i := by
  unfold gI
  simp only [Int.toNat_natCast, List.getD, List.getElem?_set]
  by_cases h : k = i
  · subst h
    by_cases hk : k < xs.length
    · simp [hk]
    · simp [hk]
  · rw [if_neg h, if_neg (fun e => h e.1.symm)]
theorem AllB.set' {xs : List Int} (h : AllB xs) {k : Nat} {v : Int} (hv : isBound v = true) : AllB (xs.set k v) := fun i => by
  rw [gI_set]
  split
  · exact hv
  · exact h i
/-- No cell is above. -/
def Le (ys xs : List Int) : Prop := ∀ i : Nat, gI ys i ≤ gI xs i
theorem Le.refl (xs : List Int) : Le xs xs := fun _ => Int.le_refl _
theorem Le.trans {a b c : List Int} (h : Le a b) (k : Le b c) : Le a c := fun i => Int.le_trans (h i) (k i)
theorem Le.set {xs : List Int} {k : Nat} {v : Int} (h : v ≤ gI xs k) : Le (xs.set k v) xs := fun i => by
  rw [gI_set]
  split
  · rename_i e; rw [e.1]; exact h
  · exact Int.le_refl _

/-- As many cells, all bounds, none above. -/
structure Low (ys xs : List Int) : Prop where
  len : ys.length = xs.length
  all : AllB xs → AllB ys
  le : AllB xs → Le ys xs
theorem Low.refl (xs : List Int) : Low xs xs := ⟨rfl, id, fun _ => Le.refl xs⟩
theorem Low.trans {a b c : List Int} (h : Low a b) (k : Low b c) : Low a c := ⟨h.len.trans k.len, fun x => h.all (k.all x), fun x => (h.le (k.all x)).trans (k.le x)⟩
theorem Low.rep {f : Nat → List Int → List Int} (h : ∀ i x, Low (f i x) x) : ∀ (t : Nat) (x : List Int), Low (rep f t x) x
  | 0, x => Low.refl x
  | t + 1, x => (h t _).trans (Low.rep h t x)
theorem Low.set {xs : List Int} {k : Nat} {v : Int} (h : AllB xs → isBound v = true ∧ v ≤ gI xs k) : Low (xs.set k v) xs :=
  ⟨List.length_set, fun x => x.set' (h x).1, fun x => Le.set (h x).2⟩

theorem pStep_low (N k i j : Nat) (xs : List Int) : Low (pStep N k i j xs) xs :=
  Low.set fun h => ⟨isBound_min (h _) (isBound_plus _ _), Int.min_le_left _ _⟩
theorem paths_low (N t : Nat) (xs : List Int) : Low (paths N t xs) xs :=
  Low.rep (fun k x => Low.rep (fun i x => Low.rep (fun j x => pStep_low N k i j x) N x) N x) t xs
theorem mStep_low (N i j : Nat) (xs : List Int) : Low (mStep N i j xs) xs := by
  unfold mStep
  refine ⟨by simp, fun h => (h.set' (isBound_min (h _) (h _))).set' (isBound_min (h _) (h _)), fun h => ?_⟩
  intro p
  rw [gI_set, gI_set]
  split
  · rename_i e; rw [e.1]; exact Int.min_le_right _ _
  · split
    · rename_i e; rw [e.1]; exact Int.min_le_left _ _
    · exact Int.le_refl _
theorem mirrors_low (N t : Nat) (xs : List Int) : Low (mirrors N t xs) xs := Low.rep (fun i x => Low.rep (fun j x => mStep_low N i j x) N x) t xs
theorem even_le {a : Int} (h : isBound a = true) : even a ≤ a := by
  have h1 := near_of h
  unfold even
  rw [h1]
  split <;> omega
theorem eStep_low (N i : Nat) (xs : List Int) : Low (eStep N i xs) xs := Low.set fun h => ⟨isBound_even _, even_le (h _)⟩
theorem evens_low (N t : Nat) (xs : List Int) : Low (evens N t xs) xs := Low.rep (fun i x => eStep_low N i x) t xs
theorem sStep_low (N i j : Nat) (xs : List Int) : Low (sStep N i j xs) xs := by
  unfold sStep
  split
  · exact Low.refl _
  · exact Low.set fun h => ⟨isBound_min (h _) (isBound_half _), Int.min_le_left _ _⟩
theorem strengthens_low (N t : Nat) (xs : List Int) : Low (strengthens N t xs) xs := Low.rep (fun i x => Low.rep (fun j x => sStep_low N i j x) N x) t xs
theorem closeM_low {N : Nat} {xs ys : List Int} (h : closeM N xs = some ys) : Low ys xs := by
  unfold closeM at h
  split at h
  · cases h
  · split at h
    · cases h
    · injection h with h
      subst h
      exact (strengthens_low _ _ _).trans ((evens_low _ _ _).trans ((mirrors_low _ _ _).trans (paths_low _ _ _)))
theorem closeO_e {o : O} (h : o.e = true) : closeO o = ⟨o.n, true, []⟩ := by unfold closeO; rw [if_pos h]
/-- Closed: empty without cells; or the cells of the closed matrix. -/
theorem closeO_cases (o : O) : closeO o = ⟨o.n, true, []⟩ ∨ (o.e = false ∧ ∃ ys, closeM (2 * o.n).toNat o.m = some ys ∧ closeO o = ⟨o.n, false, ys⟩) := by
  cases he : o.e with
  | true => exact .inl (closeO_e he)
  | false =>
    unfold closeO
    rw [if_neg (by simp [he])]
    cases h : closeM (2 * o.n).toNat o.m with
    | none => exact .inl rfl
    | some ys => exact .inr ⟨rfl, ys, rfl, rfl⟩
theorem closeO_len {o : O} (_h : check o = 0) (he : (closeO o).e = false) : (closeO o).m.length = o.m.length ∧ o.e = false := by
  rcases closeO_cases o with h1 | ⟨h0, ys, h1, h2⟩
  · rw [h1] at he; cases he
  · rw [h2]; exact ⟨(closeM_low h1).len, h0⟩
theorem closeO_m_le {o : O} : (closeO o).m.length ≤ o.m.length := by
  rcases closeO_cases o with h1 | ⟨h0, ys, h1, h2⟩
  · rw [h1]; simp
  · rw [h2]; exact Nat.le_of_eq (closeM_low h1).len

/-- What closing hands back: an octagon closed, or nothing. -/
def closedO (o : O) : O := if check o = 0 then closeO o else ⟨0, false, []⟩
theorem closedO_ok {o : O} (h : check o = 0) : closedO o = closeO o := by unfold closedO; rw [if_pos h]
/-- An octagon of the call's own memory. -/
def OctOwn (w : World) (o : O) (e : Ending) (w' : World) : Prop := ∃ A1 c1, e = .returned (.agg #[.int .i64 o.n, .bool o.e, .slice A1 o.m.length c1]) ∧ Own w' w.heap.size A1 c1 o.m ∧ Below w.heap.size w w'
theorem close_all (o : O) (A : Option Addr) (c : Nat) (w : World) (hx : Rd w w.heap.size A o.m) (hm : o.m.length ≤ 17592186044416) :
    Calls Tryz.prog 71 #[.agg #[.int .i64 o.n, .bool o.e, .slice A o.m.length c]] w (CloseRes w (closedO o) (check o)) := close_any o A c w hx hm

set_option maxHeartbeats 1000000 in
theorem oclosed_any (o : O) (A : Option Addr) (c : Nat) (w : World) (hx : Rd w w.heap.size A o.m) (hm : o.m.length ≤ 17592186044416) :
    Calls Tryz.prog 42 #[.agg #[.int .i64 o.n, .bool o.e, .slice A o.m.length c]] w (OctOwn w (closedO o)) := by
  have hb0 : Below w.heap.size w ((w.alloc (Obj.cells #[.int .i64 o.n, .bool o.e, .slice A o.m.length c] 53)).alloc (Obj.cells #[.int .i64 0, .bool false, .slice none 0 0] 53)) := ((Below.refl _ _).alloc (Nat.le_refl _) _).alloc (by simp) _
  obtain ⟨p0, p1⟩ := blk_two (w := w) (Below.refl _ ((w.alloc (Obj.cells #[.int .i64 o.n, .bool o.e, .slice A o.m.length c] 53)).alloc (Obj.cells #[.int .i64 0, .bool false, .slice none 0 0] 53)))
  have HC := hid (close_all o A c _ (hx.up hb0) hm)
  go_enter Tryz.func42, Tryz.ntmps42
  go_wp2_with fail
  refine HC.out.mono ?_
  clear HC
  generalize (w.alloc (Obj.cells #[.int .i64 o.n, .bool o.e, .slice A o.m.length c] 53)).alloc (Obj.cells #[.int .i64 0, .bool false, .slice none 0 0] 53) = w0 at *
  rintro e1 w1 ⟨A1, c1, s, rfl, own1, hb1⟩
  generalize closedO o = q at *
  have n3 := new1 w1 (.cells #[.int .i64 q.n, .bool q.e, .slice A1 q.m.length c1] 53)
  obtain ⟨y0, y1, y2, fy⟩ := octbox (p1.later hb1)
  have hb2 := bup (bup hb0 hb1) n3
  have hlt := (p1.later hb1).lt
  have hbb := (p1.lt)
  go_wp2
  have r3 := (p1.later hb1).set3 (v0 := .int .i64 q.n) (v1 := .bool q.e) (v2 := .slice A1 q.m.length c1)
  have own3 := ((own1.setFar (p := ⟨w.heap.size + 1, 0, none⟩) (by simpa using hbb) (.int .i64 q.n)).setFar (p := ⟨w.heap.size + 1, 1, none⟩) (by simpa using hbb) (.bool q.e)).setFar (p := ⟨w.heap.size + 1, 2, none⟩) (by simpa using hbb) (.slice A1 q.m.length c1)
  have hb3 : Below w.heap.size w (((w1.setCell ⟨w.heap.size + 1, 0, none⟩ (.int .i64 q.n)).setCell ⟨w.heap.size + 1, 1, none⟩ (.bool q.e)).setCell ⟨w.heap.size + 1, 2, none⟩ (.slice A1 q.m.length c1)) := (bup hb0 hb1).trans (below3 (by omega) (bup hb0 hb1).size)
  clear y0 y1 y2 fy n3 hb2
  generalize ((w1.setCell ⟨w.heap.size + 1, 0, none⟩ (.int .i64 q.n)).setCell ⟨w.heap.size + 1, 1, none⟩ (.bool q.e)).setCell ⟨w.heap.size + 1, 2, none⟩ (.slice A1 q.m.length c1) = w3 at *
  have n4 := new1 w3 (.cells #[.int .i64 q.n, .bool q.e, .slice A1 q.m.length c1] 53)
  have hr3 := r3.lt
  obtain ⟨z0, z1, z2, fz⟩ := octbox r3
  obtain ⟨u0, u1, u2, fu⟩ := octbox (r3.later n4)
  refine bodyPost_ret (v := .agg #[.int .i64 q.n, .bool q.e, .slice A1 q.m.length c1]) (by simp [results, Tryz.results42, go_sem, u0, u1, u2]) rfl ⟨A1, c1, rfl, ?_, ?_⟩
  · exact (own3.below n4).less hb0.size
  · exact bup hb3 n4
end
section
open Go.RowKit

def aboveB (xs ys : List Int) (k : Nat) : Bool := (List.range k).all fun i => decide (gI xs i ≤ gI ys i)
theorem aboveB_succ (xs ys : List Int) (k : Nat) : aboveB xs ys (k + 1) = (aboveB xs ys k && decide (gI xs k ≤ gI ys k)) := by
  unfold aboveB; rw [List.range_succ, List.all_append]; simp
theorem aboveB_no {xs ys : List Int} {k n : Nat} (hk : k < n) (h : gI ys k < gI xs k) : aboveB xs ys n = false := by
  unfold aboveB
  rw [List.all_eq_false]
  exact ⟨k, List.mem_range.2 hk, by simpa using h⟩
theorem aboveB_iff {xs ys : List Int} {n : Nat} : aboveB xs ys n = true ↔ ∀ k : Nat, k < n → gI xs k ≤ gI ys k := by
  unfold aboveB
  rw [List.all_eq_true]
  exact ⟨fun h k hk => by simpa using h k (List.mem_range.2 hk), fun h k hk => by simpa using h k (List.mem_range.1 hk)⟩
/-- Of octagons that may be, of one size. -/
def entailsF (a b : O) : Bool := if (closeO a).e || b.e then (closeO a).e else aboveB (closeO a).m b.m (closeO a).m.length
def entAns (a b : O) : Bool × Int := if pairErr a b = 0 then (entailsF a b, 0) else (false, pairErr a b)

theorem cells_pair {a b : O} (h : pairErr a b = 0) (hc : (closeO a).e = false) (hb : b.e = false) : (closeO a).m.length = b.m.length := by
  obtain ⟨k1, k2, k3⟩ := pair_ok h
  obtain ⟨h1, h2⟩ := closeO_len k1 hc
  obtain ⟨_, _, _, l1⟩ := check_ok k1
  obtain ⟨_, _, _, l2⟩ := check_ok k2
  have := l1 h2
  have := l2 hb
  rw [k3] at *
  omega

set_option maxHeartbeats 2000000 in
theorem entails_any (a b : O) (A A' : Option Addr) (c c' : Nat) (w : World) (hx : Rd w w.heap.size A a.m) (hy : Rd w w.heap.size A' b.m) (hm : a.m.length ≤ 17592186044416) (hm' : b.m.length ≤ 17592186044416) :
    Calls Tryz.prog 18 #[.agg #[.int .i64 a.n, .bool a.e, .slice A a.m.length c], .agg #[.int .i64 b.n, .bool b.e, .slice A' b.m.length c']] w fun e w' => e = .returned (.tuple #[.bool (entAns a b).1, .int .i64 (entAns a b).2]) ∧ Below w.heap.size w w' := by
  have hb0 : Below w.heap.size w ((w.alloc (Obj.cells #[.int .i64 a.n, .bool a.e, .slice A a.m.length c] 53)).alloc (Obj.cells #[.int .i64 b.n, .bool b.e, .slice A' b.m.length c'] 53)) := ((Below.refl _ _).alloc (Nat.le_refl _) _).alloc (by simp) _
  obtain ⟨p0, p1⟩ := blk_two (w := w) (Below.refl _ ((w.alloc (Obj.cells #[.int .i64 a.n, .bool a.e, .slice A a.m.length c] 53)).alloc (Obj.cells #[.int .i64 b.n, .bool b.e, .slice A' b.m.length c'] 53)))
  have HR := hid (oright_any a b A A' c c' _ (hx.up hb0) (hy.up hb0) hm hm')
  have hx0 := hx.up hb0
  have hy0 := hy.up hb0
  by_cases hp : pairErr a b = 0
  · have HP := hid hp
    have hans : entAns a b = (entailsF a b, 0) := by unfold entAns; rw [if_pos hp]
    rw [hans]
    clear hans hp
    dsimp only
    have HE : Hid (entailsF a b = if (closeO a).e || b.e then (closeO a).e else aboveB (closeO a).m b.m (closeO a).m.length) := hid rfl
    generalize entailsF a b = R at *
    go_enter Tryz.func18, Tryz.ntmps18
    go_wp2_with fail
    refine HR.out.mono ?_
    clear HR
    generalize (w.alloc (Obj.cells #[.int .i64 a.n, .bool a.e, .slice A a.m.length c] 53)).alloc (Obj.cells #[.int .i64 b.n, .bool b.e, .slice A' b.m.length c'] 53) = w0 at *
    rintro e1 w1 ⟨rfl, hb1⟩
    replace p0 := p0.later hb1
    replace p1 := p1.later hb1
    replace hb0 := bup hb0 hb1
    have hx1 := hx0.up hb1
    have hy1 := hy0.up hb1
    clear hb1 hx0 hy0 hx hy
    rw [HP.out]
    obtain ⟨x0, x1, x2, fx⟩ := octbox p0
    have HC := hid (oclosed_any a A c w1 hx1 hm)
    go_wp2_with fail
    refine HC.out.mono ?_
    clear HC
    rw [closedO_ok (pair_ok HP.out).1]
    rintro e2 w2 ⟨A1, c1, rfl, own2, hb2⟩
    have HL : Hid ((closeO a).e = false → b.e = false → (closeO a).m.length = b.m.length) := hid (cells_pair HP.out)
    have HM : Hid ((closeO a).m.length ≤ a.m.length) := hid closeO_m_le
    generalize closeO a = q at *
    obtain ⟨qn, qe, qm⟩ := q
    dsimp only at *
    clear x0 x1 x2 fx
    have n3 := new1 w2 (.cells #[.int .i64 qn, .bool qe, .slice A1 qm.length c1] 53)
    have p3 := Blk.new w2 53 #[.int .i64 qn, .bool qe, .slice A1 qm.length c1]
    have hlt3 : w.heap.size + 1 < w2.heap.size := (p1.later hb2).lt
    replace p1 := (p1.later hb2).later n3
    replace hb0 := bup (bup hb0 hb2) n3
    replace own2 := own2.below n3
    have hy3 := (hy1.up hb2).up n3
    obtain ⟨x0, x1, x2, fx⟩ := octbox p1
    obtain ⟨y0, y1, y2, fy⟩ := octbox p3
    generalize hbe' : b.e = be at *
    have HBE := hid hbe'
    clear hb2 hbe' hy1 hx1
    cases qe with
    | true =>
      obtain rfl : R = true := by rw [HE.out]; rfl
      go_wp2
      go_ret2
      exact ⟨rfl, hb0⟩
    | false =>
      cases be with
      | true =>
        obtain rfl : R = false := by rw [HE.out]; rfl
        go_wp2
        go_ret2
        exact ⟨rfl, hb0⟩
      | false =>
        have hR : R = aboveB qm b.m qm.length := by rw [HE.out]; rfl
        have HRR := hid hR
        have hLL := HL.out rfl rfl
        have hq1 : qm.length ≤ 17592186044416 := by have := HM.out; omega
        have HLL := hid hLL
        clear hR hLL HE HL
        have hqr := own2.rd
        go_wp2
        go_loop [29] (fun t => ∃ k : Nat, k ≤ qm.length ∧ t = .int .i64 k ∧ Hid (aboveB qm b.m k = true)) (fun t => qm.length - (Go.RowKit.intOf t).toNat)
        case atStart => exact ⟨0, by omega, rfl, hid rfl⟩
        case round =>
          obtain ⟨k, hk, rfl, hu⟩ := hrel
          by_cases hkl : k < qm.length
          · obtain ⟨g1, o1, rfl, _, hc1⟩ := hqr k hkl
            obtain ⟨g2, o2, rfl, _, hc2⟩ := hy3 k (by rw [← HLL.out]; exact hkl)
            have hkl2 : k < b.m.length := by rw [← HLL.out]; exact hkl
            by_cases hv : gI b.m k < gI qm k
            · obtain rfl : R = false := by rw [HRR.out, aboveB_no hkl hv]
              go_wp2
              go_ret2
              exact ⟨rfl, hb0⟩
            · have hv2 : decide (gI qm k ≤ gI b.m k) = true := by simp; omega
              have HV := hid hv2
              clear hv2
              go_wp2
              go_round
              case rel => exact ⟨k + 1, by omega, by go_num, hid (by rw [aboveB_succ, hu.out, HV.out]; rfl)⟩
              case measure => simp [Go.RowKit.intOf]; omega
          · have hke : k = qm.length := by omega
            have hu2 := hu.out
            rw [hke] at hu2
            obtain rfl : R = true := by rw [HRR.out]; exact hu2
            clear hu2 hke hu
            go_wp2
            go_ret2
            exact ⟨rfl, hb0⟩
  · have hans : entAns a b = (false, pairErr a b) := by unfold entAns; rw [if_neg hp]
    rw [hans]
    dsimp only
    have tn : (pairErr a b != 0) = true := by simp [hp]
    clear hans hp
    generalize pairErr a b = er at *
    go_enter Tryz.func18, Tryz.ntmps18
    go_wp2_with fail
    refine HR.out.mono ?_
    clear HR
    generalize (w.alloc (Obj.cells #[.int .i64 a.n, .bool a.e, .slice A a.m.length c] 53)).alloc (Obj.cells #[.int .i64 b.n, .bool b.e, .slice A' b.m.length c'] 53) = w0 at *
    rintro e1 w1 ⟨rfl, hb1⟩
    go_wp2
    go_ret2
    exact ⟨rfl, bup hb0 hb1⟩
end
section
open Go.RowKit

theorem check_rows {n : Int} {m : List Int} (h : check ⟨n, false, m⟩ = 0) : rowsOk ⟨n, false, m⟩ (2 * n).toNat = true := by
  unfold check at h
  split at h
  · omega
  · rw [if_neg (by simp)] at h
    split at h
    · assumption
    · omega
theorem idxc_ok {n : Int} {N i j : Nat} (hN : (N : Int) = 2 * n) : 2 * n * (i : Int) + (j : Int) = ((i * N + j : Nat) : Int) := by
  rw [← hN, Int.natCast_add, Int.natCast_mul, Int.mul_comm]
theorem cellOk_nat {n : Int} {e : Bool} {m : List Int} {N : Nat} (hN : (N : Int) = 2 * n) (i j : Nat) :
    cellOk ⟨n, e, m⟩ (i : Int) (j : Int) = (isBound (gI m ((i * N + j : Nat) : Int)) && !(decide (i = j) && (gI m ((i * N + j : Nat) : Int) != 0)) && (gI m ((i * N + j : Nat) : Int) == gI m ((nx j * N + nx i : Nat) : Int))) := by
  unfold cellOk
  dsimp only
  rw [xor1_nx, xor1_nx, idxc_ok hN, idxc_ok hN]
  have e : decide ((i : Int) = (j : Int)) = decide (i = j) := by rw [decide_eq_decide]; omega
  rw [e]
/-- The cells of an octagon that may be. -/
structure Cells (N : Nat) (m : List Int) : Prop where
  len : m.length = N * N
  bd : ∀ i j : Nat, i < N → j < N → isBound (gI m ((i * N + j : Nat) : Int)) = true
  diag : ∀ i : Nat, i < N → gI m ((i * N + i : Nat) : Int) = 0
  mir : ∀ i j : Nat, i < N → j < N → gI m ((i * N + j : Nat) : Int) = gI m ((nx j * N + nx i : Nat) : Int)
theorem size_nat {n : Int} {N : Nat} (hN : (N : Int) = 2 * n) : 4 * n * n = ((N * N : Nat) : Int) := by
  rw [Int.natCast_mul, hN]; rw [show (4 : Int) = 2 * 2 from rfl]; simp only [Int.mul_assoc, Int.mul_left_comm]
theorem cells_of {n : Int} {m : List Int} {N : Nat} (hN : (N : Int) = 2 * n) (h : check ⟨n, false, m⟩ = 0) : Cells N m := by
  obtain ⟨h0, h1, _, h3⟩ := check_ok h
  have hl := h3 rfl
  dsimp only at h0 h1 hl
  have hr := check_rows h
  have hNt : (2 * n).toNat = N := by omega
  rw [hNt] at hr
  have key : ∀ i j : Nat, i < N → j < N → cellOk ⟨n, false, m⟩ (i : Int) (j : Int) = true := fun i j hi hj => by
    unfold rowsOk at hr
    have hrow := List.all_eq_true.1 hr i (List.mem_range.2 hi)
    unfold rowOk at hrow
    rw [hNt] at hrow
    exact List.all_eq_true.1 hrow j (List.mem_range.2 hj)
  refine ⟨by have := size_nat hN; omega, fun i j hi hj => ?_, fun i hi => ?_, fun i j hi hj => ?_⟩
  · have := key i j hi hj
    rw [cellOk_nat hN] at this
    simp only [Bool.and_eq_true] at this
    exact this.1.1
  · have := key i i hi hi
    rw [cellOk_nat hN] at this
    simp only [Bool.and_eq_true, Bool.not_eq_true', Bool.and_eq_false_imp, decide_eq_true_eq, forall_const, bne_eq_false_iff_eq] at this
    exact this.1.2
  · have := key i j hi hj
    rw [cellOk_nat hN] at this
    simp only [Bool.and_eq_true, beq_iff_eq] at this
    exact this.2
theorem check_of {n : Int} {m : List Int} {N : Nat} (hN : (N : Int) = 2 * n) (hn : N ≤ 128) (h : Cells N m) : check ⟨n, false, m⟩ = 0 := by
  have hNt : (2 * n).toNat = N := by omega
  refine check_good (by omega) (by omega) (by have := size_nat hN; have := h.len; omega) ?_
  unfold rowsOk
  rw [hNt]
  refine List.all_eq_true.2 fun i hi => ?_
  unfold rowOk
  refine List.all_eq_true.2 fun j hj => ?_
  have hi' := List.mem_range.1 hi
  have hj' := List.mem_range.1 hj
  rw [cellOk_nat hN]
  simp only [Bool.and_eq_true, Bool.not_eq_true', Bool.and_eq_false_imp, decide_eq_true_eq, bne_eq_false_iff_eq, beq_iff_eq]
  exact ⟨⟨h.bd i j hi' hj', fun e => by subst e; exact h.diag i hi'⟩, h.mir i j hi' hj'⟩

theorem lt_sq {N i j : Nat} (hi : i < N) (hj : j < N) : i * N + j < N * N := by
  have := Nat.mul_le_mul_right N (show i + 1 ≤ N from hi)
  rw [Nat.add_mul] at this; omega
end
section
open Go.RowKit

/-- The cell (i, j) of N rows. -/
def G (N : Nat) (xs : List Int) (i j : Nat) : Int := gI xs ((i * N + j : Nat) : Int)
theorem idx_inj {N i j a b : Nat} (hj : j < N) (hb : b < N) (h : i * N + j = a * N + b) : i = a ∧ j = b := by
  rcases Nat.lt_trichotomy i a with h1 | h1 | h1
  · exfalso
    have := Nat.mul_le_mul_right N (show i + 1 ≤ a from h1)
    rw [Nat.add_mul] at this; omega
  · subst h1; exact ⟨rfl, by omega⟩
  · exfalso
    have := Nat.mul_le_mul_right N (show a + 1 ≤ i from h1)
    rw [Nat.add_mul] at this; omega
theorem G_set {N : Nat} {xs : List Int} (hl : xs.length = N * N) {i j : Nat} (hi : i < N) (hj : j < N) (v : Int) {a b : Nat} (hb : b < N) :
    G N (xs.set (i * N + j) v) a b = if a = i ∧ b = j then v else G N xs a b := by
  unfold G
  rw [gI_set]
  have hlt : i * N + j < xs.length := by rw [hl]; exact lt_sq hi hj
  by_cases h : a = i ∧ b = j
  · rw [if_pos h, if_pos ⟨by rw [h.1, h.2], hlt⟩]
  · rw [if_neg h, if_neg (fun e => h ?_)]
    obtain ⟨e1, e2⟩ := idx_inj hb hj e.1
    exact ⟨e1, e2⟩
theorem nxl {N i : Nat} (hN : N % 2 = 0) (hi : i < N) : nx i < N := by
  unfold nx; split <;> omega
end
section

end
section
open Go.RowKit
attribute [local go_sem ↓] Go.wp_at_zero Go.wp_at_succ

def MC (B gx : Nat) (n : Int) (A : Option Addr) (cap : Nat) (xs : List Int) (W : World) : Prop :=
  B ≤ gx ∧ (∀ g, A = some ⟨g, 0, none⟩ → g ≠ gx) ∧ (∃ s, Blk W gx 130 #[.int .i64 n, .slice A xs.length cap, .bool s]) ∧ Own W B A cap xs
/-- What a region keeps: all but the matrix's own block; there only 'saturated' may turn. -/
def SC (w0 : World) (gx : Nat) (n : Int) (A : Option Addr) (L cap : Nat) (W : World) : Prop :=
  w0.grownBy W (some gx) ∧ ∃ s, Blk W gx 130 #[.int .i64 n, .slice A L cap, .bool s]
section
variable {B gx cap gm : Nat} {n : Int} {A : Option Addr} {xs : List Int} {W W' w0 : World}
theorem MC.base (h : MC B gx n A cap xs W) : B ≤ gx := h.1
theorem MC.sx (h : MC B gx n A cap xs W) : SC W gx n A xs.length cap W := ⟨World.grownBy.refl _ _, h.2.2.1⟩
theorem MC.go (h : MC B gx n A cap xs w0) (hs : SC w0 gx n A xs.length cap W) : MC B gx n A cap xs W := by
  refine ⟨h.1, h.2.1, hs.2, h.2.2.2.grown hs.1 ?_⟩
  rcases h.2.2.2.form with ⟨rfl, _⟩ | ⟨g, rfl, _⟩
  · exact .inl rfl
  · refine .inr fun e => h.2.1 g rfl ?_
    simpa [Value.ownBlock] using e
theorem SC.up {L : Nat} (h : SC w0 gx n A L cap W) (hb : Below W.heap.size W W') : SC w0 gx n A L cap W' :=
  ⟨h.1.trans (grown_of_below hb _), h.2.imp fun _ hk => hk.later hb⟩
theorem SC.drew {L : Nat} (h : SC w0 gx n A L cap W) : SC w0 gx n A L cap W.drew := h.up (Below.refl _ _).drew
theorem MC.up (h : MC B gx n A cap xs W) (hb : Below W.heap.size W W') : MC B gx n A cap xs W' := h.go (h.sx.up hb)
theorem SC.bel {L : Nat} (h : SC w0 gx n A L cap W) (hB : B ≤ gx) (hB' : B ≤ w0.heap.size) : Below B w0 W := below_grown h.1 (fun k hk => by injection hk with hk; omega) hB'
theorem MC.some (h : MC B gx n A cap xs W) (hl : 0 < xs.length) : ∃ gm, A = .some ⟨gm, 0, none⟩ ∧ B ≤ gm ∧ gm < W.heap.size ∧ gm ≠ gx := by
  rcases h.2.2.2.form with ⟨_, h0, _⟩ | ⟨g, h1, h2, h3⟩
  · rw [h0] at hl; simp at hl
  · exact ⟨g, h1, h2, h3, h.2.1 g h1⟩
theorem MC.m_ (h : MC B gx n A cap xs W) : W.cell? ⟨gx, 1, none⟩ = Option.some (.slice A xs.length cap) := by obtain ⟨s, hk⟩ := h.2.2.1; exact hk.cell 1
theorem MC.c_ (h : MC B gx n (.some ⟨gm, 0, none⟩) cap xs W) {k : Nat} (hk : k < xs.length) : W.cell? ⟨gm, k, none⟩ = Option.some (.int .i64 (gI xs k)) := by
  obtain ⟨b, off, hA, _, hc⟩ := h.2.2.2.rd k hk
  simp only [Option.some.injEq, Addr.mk.injEq] at hA
  obtain ⟨rfl, rfl, _⟩ := hA
  simpa using hc
theorem MC.f_ (h : MC B gx n (.some ⟨gm, 0, none⟩) cap xs W) (k : Nat) : W.frozen? ⟨gm, k, none⟩ = false := h.2.2.2.frozen k
theorem MC.set (h : MC B gx n (.some ⟨gm, 0, none⟩) cap xs W) (k : Nat) (v : Int) : MC B gx n (.some ⟨gm, 0, none⟩) cap (xs.set k v) (W.setCell ⟨gm, k, none⟩ (.int .i64 v)) := by
  refine ⟨h.1, h.2.1, ?_, h.2.2.2.store k v⟩
  obtain ⟨s, hk⟩ := h.2.2.1
  rw [List.length_set]
  exact ⟨s, hk.far (p := ⟨gm, k, none⟩) (h.2.1 gm rfl) _⟩
end


theorem MC.some_lt {B gx cap gm : Nat} {n : Int} {xs : List Int} {W : World} (h : MC B gx n (Option.some ⟨gm, 0, none⟩) cap xs W) : gm < W.heap.size := by
  rcases h.2.2.2.form with ⟨h0, _⟩ | ⟨g, h1, _, h3⟩
  · cases h0
  · injection h1 with h1; injection h1 with h1; omega
theorem idxr_ok {n : Int} {N i j : Nat} (hN : (N : Int) = 2 * n) (hi : i < N) (hj : j < N) (hn : N ≤ 128) :
    0 ≤ (i : Int) * (2 * n) ∧ (i : Int) * (2 * n) ≤ 16384 ∧ ((i : Int) * (2 * n) + (j : Int)).toNat = i * N + j ∧ i * N + j < N * N ∧ 0 ≤ (i : Int) * (2 * n) + (j : Int) ∧ (i : Int) * (2 * n) + (j : Int) < ((N * N : Nat) : Int) := by
  have h := idx_ok hN hi hj hn
  rw [Int.mul_comm (2 * n) (i : Int)] at h
  exact h

theorem across_nx (i : Nat) (w : World) (h : i ≤ 1000) :
    Calls Tryz.prog 68 #[.int .i64 (i : Int)] w fun e w' => e = .returned (.int .i64 ((nx i : Nat) : Int)) ∧ w = w' := by
  rw [← xor1_nx]
  exact across_any _ _ (by omega) (by omega)

set_option maxHeartbeats 1000000 in
theorem mc_plus {B gx cap : Nat} {n : Int} {A : Option Addr} {xs : List Int} {W : World} (a b : Int) (h : MC B gx n A cap xs W) :
    Calls Tryz.prog 67 #[.pointer (some ⟨gx, 0, none⟩), .int .i64 a, .int .i64 b] W fun e' W' => e' = .returned (.int .i64 (plus a b)) ∧ SC W gx n A xs.length cap W' := by
  obtain ⟨s, hk⟩ := h.2.2.1
  have c2 := hk.cell 2
  have f2 := hk.fr 2
  have k2 := hk.set_ 2 (.bool true)
  cases hs : sat a b
  all_goals
    have HS := hid hs
    clear hs
    go_enter Tryz.func67, Tryz.ntmps67
    go_wp2_with fail
    refine (rsat_any a b _).mono ?_
    rw [HS.out]
    rintro e1 w1 ⟨rfl, rfl⟩
    go_wp2_with fail
    refine (rplus_any a b _).mono ?_
    rintro e1 w1 ⟨rfl, rfl⟩
    go_wp2
    go_ret
  · exact ⟨rfl, World.grownBy.refl _ _, s, hk⟩
  · exact ⟨rfl, grown_setCell _ ⟨gx, 2, none⟩ _, _, k2⟩
end
end Go.Proofs.YtkncebcekhfnfaaGreat
