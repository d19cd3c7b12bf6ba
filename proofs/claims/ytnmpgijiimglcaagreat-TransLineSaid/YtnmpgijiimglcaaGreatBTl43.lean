import Derived.Test.YtnmpgijiimglcaaGreatBTl42
import Derived.Test.YtnmpgijiimglcaaGreatBTl22
import Derived.Test.YtnmpgijiimglcaaGreatBTl01
import Derived.Test.YtnmpgijiimglcaaGreatBTl00
namespace Go.Proofs.YtnmpgijiimglcaaGreat
section
open Go.RowKit
set_option maxRecDepth 100000
set_option maxHeartbeats 8000000
theorem near_leM {a b : Int} (h : a ≤ b) : near a ≤ near b := by
  unfold near
  split <;> split <;> (try split) <;> (try split) <;> omega
theorem near_most (a : Int) : near a ≤ 9223372036854775807 := by
  unfold near
  split
  · omega
  · split <;> omega
theorem plus_le {a b c d : Int} (h : a ≤ b) (k : c ≤ d) : plus a c ≤ plus b d := by
  have h1 := near_leM h
  have h2 := near_leM k
  have h3 := near_most b
  have h4 := near_most d
  unfold plus
  by_cases e : near b = 9223372036854775807 ∨ near d = 9223372036854775807
  · rw [if_pos e]
    split
    · exact Int.le_refl _
    · exact near_most _
  · rw [if_neg e, if_neg (by omega)]
    exact near_leM (by omega)
theorem low_through {f : Nat → List Int → List Int} (h : ∀ i x, Low (f i x) x) (x : List Int) (j : Nat) : ∀ t, j < t → Low (rep f t x) (f j (rep f j x))
  | t + 1, ht => by
    by_cases e : j = t
    · subst e; exact Low.refl _
    · exact (h t _).trans (low_through h x j t (by omega))
theorem closeM_neg {N : Nat} {m : List Int} (hl : m.length = N * N) (hb : AllB m) {i j : Nat} (hi : i < N) (hj : j < N) (h : plus (G N m i j) (G N m j i) < 0) : closeM N m = none := by
  have lrow : ∀ k i t x, Low (pRow N k i t x) x := fun k i t x => Low.rep (fun j x => pStep_low N k i j x) t x
  have lmat : ∀ k t x, Low (pMat N k t x) x := fun k t x => Low.rep (fun i x => lrow k i N x) t x
  have t1 : Low (paths N N m) (pMat N j N (paths N j m)) := low_through (f := fun k => pMat N k N) (fun k x => lmat k N x) m j N hj
  have t2 : Low (pMat N j N (paths N j m)) (pRow N j i N (pMat N j i (paths N j m))) := low_through (f := fun i => pRow N j i N) (fun i x => lrow j i N x) _ i N hi
  have t3 : Low (pRow N j i N (pMat N j i (paths N j m))) (pStep N j i i (pRow N j i i (pMat N j i (paths N j m)))) := low_through (f := fun q => pStep N j i q) (fun q x => pStep_low N j i q x) _ i N hi
  have t0 : Low (pRow N j i i (pMat N j i (paths N j m))) m := (lrow j i i _).trans ((lmat j i _).trans (paths_low N j m))
  generalize hz : pRow N j i i (pMat N j i (paths N j m)) = z at *
  have lz := t0.len.trans hl
  have bz := t0.all hb
  have e1 : G N (pStep N j i i z) i i ≤ plus (G N z i j) (G N z j i) := by
    unfold pStep
    rw [G_set lz hi hi _ hi, if_pos ⟨rfl, rfl⟩]
    exact Int.min_le_right _ _
  have e2 : plus (G N z i j) (G N z j i) ≤ plus (G N m i j) (G N m j i) := plus_le (t0.le hb (i * N + j)) (t0.le hb (j * N + i))
  have bs := (pStep_low N j i i z).all bz
  have t := (t1.trans (t2.trans t3))
  have e3 := t.le bs (i * N + i)
  have lm := mirrors_low N N (paths N N m)
  have e4 := lm.le (t.all bs) (i * N + i)
  have a1 : negs N (mirrors N N (paths N N m)) N = true := by
    have hd : decide (gI (mirrors N N (paths N N m)) ((i * N + i : Nat) : Int) < 0) = true := by
      rw [decide_eq_true_eq]
      unfold G at *; omega
    have key : ∀ t, i < t → negs N (mirrors N N (paths N N m)) t = true := by
      intro t
      induction t with
      | zero => intro h; omega
      | succ t ih =>
        intro h
        unfold negs
        by_cases e : i = t
        · subst e; rw [hd]; simp
        · rw [ih (by omega)]; rfl
    exact key N hi
  unfold closeM
  rw [if_pos a1]
def BadO (n : Int) (o : O) : Prop := o = emptyO n ∨ ∃ (N : Nat) (m : List Int) (i j : Nat), (N : Int) = 2 * n ∧ N ≤ 128 ∧ o = ⟨n, false, m⟩ ∧ Cells N m ∧ i < N ∧ j < N ∧ plus (G N m i j) (G N m j i) < 0
theorem BadO.close {n : Int} {o : O} (h : BadO n o) : closeO o = emptyO n := by
  rcases h with rfl | ⟨N, m, i, j, hN, hn, rfl, hc, hi, hj, hs⟩
  · exact closeO_e rfl
  · refine closeO_none ?_
    rw [show (2 * n).toNat = N by omega]
    exact closeM_neg hc.len (cells_all hN hn hc) hi hj hs
theorem BadO.with_ {n : Int} {o : O} (h : BadO n o) {i j : Nat} (hi : (i : Int) < 2 * n) (hj : (j : Int) < 2 * n) (c : Int) : BadO n (withO o i j c) := by
  rcases h with rfl | ⟨N, m, a, b, hN, hn, rfl, hc, ha, hb, hs⟩
  · exact .inl rfl
  · unfold withO
    rw [if_neg (by simp)]
    split
    · split
      · exact .inl rfl
      · exact .inr ⟨N, m, a, b, hN, hn, rfl, hc, ha, hb, hs⟩
    · rename_i q
      dsimp only
      rw [show (2 * n).toNat = N by omega]
      refine .inr ⟨N, _, a, b, hN, hn, rfl, boundM_cells (by omega) hc (by omega) (by omega) q c, ha, hb, Int.lt_of_le_of_lt (plus_le ?_ ?_) hs⟩
      · rw [boundM_G (by omega) hc.len (by omega) (by omega) c ha hb]
        split
        · rename_i e
          rcases e with ⟨rfl, rfl⟩ | ⟨rfl, rfl⟩
          · exact Int.min_le_left _ _
          · rw [← hc.sym i j (by omega) (by omega)]; exact Int.min_le_left _ _
        · exact Int.le_refl _
      · rw [boundM_G (by omega) hc.len (by omega) (by omega) c hb ha]
        split
        · rename_i e
          rcases e with ⟨rfl, rfl⟩ | ⟨rfl, rfl⟩
          · exact Int.min_le_left _ _
          · rw [← hc.sym i j (by omega) (by omega)]; exact Int.min_le_left _ _
        · exact Int.le_refl _
theorem BadO.hi_ {n : Int} {o : O} (h : BadO n o) {v : Nat} (hv : (v : Int) < n) (r : Rg) : BadO n (hiO o v r) := by
  unfold hiO
  split
  · exact h.with_ (by omega) (by omega) _
  · exact h
theorem BadO.ranged {n : Int} {o : O} (h : BadO n o) {v : Nat} (hv : (v : Int) < n) (r : Rg) : BadO n (rangedO o v r) := by
  unfold rangedO
  split
  · exact (h.hi_ hv r).with_ (by omega) (by omega) _
  · exact h.hi_ hv r
theorem BadO.n_ {n : Int} {o : O} (h : BadO n o) : o.n = n := by rcases h with rfl | ⟨N, m, i, j, hN, hn, rfl, _⟩ <;> rfl
theorem BadO.atMost {n : Int} {o : O} (h : BadO n o) {av an bv bn : Int} {s : Bool} (ha : av < n) (hb : bv < n) (hab : 0 ≤ av ∨ 0 ≤ bv) : BadO n (atMostO o av an bv bn s) := by
  unfold atMostO
  rw [h.n_]
  split
  · split
    · split
      · split
        · exact .inl rfl
        · exact h
      · exact h.with_ (by omega) (by omega) _
    · split
      · exact .inl rfl
      · exact h.ranged (by omega) _
  · split
    · exact .inl rfl
    · exact h.ranged (by omega) _
section
variable {n : Int} {N : Nat} {x : List Int} (hN : (N : Int) = 2 * n) (hn : N ≤ 128)
include hN hn
theorem pt_break (hy : SmallX x) {i j : Nat} (hi : (i : Int) < 2 * n) (hj : (j : Int) < 2 * n) (hij : i ≠ j) {c : Int} (hc : near c < apartX x i j) : BadO n (withO (ptO n x) i j c) := by
  have hNN : (2 * n).toNat = N := by omega
  have e0 : (ptO n x).e = false := rfl
  unfold withO
  rw [e0, if_neg (by simp), if_neg hij]
  unfold ptO
  dsimp only
  rw [hNN]
  have cs := ptM_cells (N := N) (by omega) hy
  have g1 : G N (boundM N i j c (ptM N x)) i j ≤ near c := by
    rw [boundM_G (by omega) (ptM_len _ _) (by omega) (by omega) c (by omega) (by omega), if_pos (.inl ⟨rfl, rfl⟩)]
    exact Int.min_le_right _ _
  have g2 : G N (boundM N i j c (ptM N x)) j i ≤ apartX x j i := by
    rw [boundM_G (by omega) (ptM_len _ _) (by omega) (by omega) c (by omega) (by omega), ptM_G x (by omega) (by omega), ptM_G x (by omega) (by omega)]
    split
    · rename_i e
      rcases e with ⟨e1, e2⟩ | ⟨e1, e2⟩
      · exact absurd e2 hij
      · have e3 : j = nx j := e1
        exact absurd e3.symm (nx_ne j)
    · exact Int.le_refl _
  have hs := apart_small hy i j
  have e : apartX x j i = -apartX x i j := by unfold apartX; omega
  refine .inr ⟨N, _, i, j, hN, hn, rfl, boundM_cells (by omega) cs (by omega) (by omega) hij c, by omega, by omega, Int.lt_of_le_of_lt (plus_le g1 g2) ?_⟩
  have n0 : near (near c) = near c := near_near c
  have c0 := near_cases c
  have n1 : near (apartX x j i) = apartX x j i := by unfold near; rw [if_neg (by omega), if_neg (by omega)]
  rw [plus_fin (by rw [n0]; omega) (by rw [n1]; omega), n0, n1]
  unfold near at *
  repeat' split
  all_goals omega
theorem pt_break_hi (hy : SmallX x) {v : Nat} (hv : (v : Int) < n) {hi : Int} (h : hi < gI x (v : Int)) (r : Rg) (e1 : r.hi = hi) (e2 : r.hh = true) : BadO n (rangedO (ptO n x) v r) := by
  have hs := hy (2 * v)
  rw [sideX_even] at hs
  have e : apartX x (2 * v) (2 * v + 1) = 2 * gI x (v : Int) := by unfold apartX; rw [sideX_even, sideX_odd]; omega
  have h1 : BadO n (hiO (ptO n x) v r) := by
    unfold hiO
    rw [if_pos e2]
    refine pt_break hN hn hy (by omega) (by omega) (by omega) ?_
    rw [e, e1]
    unfold twiceB near
    repeat' split
    all_goals omega
  unfold rangedO
  split
  · exact h1.with_ (by omega) (by omega) _
  · exact h1
theorem pt_break_lo (hy : SmallX x) {v : Nat} (hv : (v : Int) < n) {lo : Int} (h : gI x (v : Int) < lo) (h2 : lo ≤ 9223372036854775807) : BadO n (rangedO (ptO n x) v ⟨lo, 0, true, false⟩) := by
  have hs := hy (2 * v)
  rw [sideX_even] at hs
  have e : apartX x (2 * v + 1) (2 * v) = -(2 * gI x (v : Int)) := by unfold apartX; rw [sideX_even, sideX_odd]; omega
  unfold rangedO hiO
  rw [if_pos rfl, if_neg (by simp)]
  refine pt_break hN hn hy (by omega) (by omega) (by omega) ?_
  show near (twiceB (negB lo)) < _
  rw [e]
  unfold negB twiceB near
  repeat' split
  all_goals omega
theorem pt_atMost (hy : SmallX x) {av an bv bn : Int} {s : Bool} (ha : av < n) (hb : bv < n) (hab : 0 ≤ av ∨ 0 ≤ bv) (ia : -9223372036854775808 ≤ opdX x av an ∧ opdX x av an ≤ 9223372036854775807) (ib : -9223372036854775808 ≤ opdX x bv bn ∧ opdX x bv bn ≤ 9223372036854775807)
    (hc : opdX x av an ≤ opdX x bv bn + lessD s) : atMostO (ptO n x) av an bv bn s = ptO n x := by
  unfold opdX lessD at *
  unfold atMostO lessD
  by_cases h1 : 0 ≤ av
  · rw [if_pos h1] at *
    by_cases h2 : 0 ≤ bv
    · rw [if_pos h2] at *
      split
      · rename_i e
        subst e
        cases s with
        | true => simp at hc; omega
        | false => rfl
      · refine pt_with hN hn hy (by omega) (by omega) ?_
        have e : apartX x (2 * av.toNat) (2 * bv.toNat) = gI x av - gI x bv := by unfold apartX; rw [sideX_even, sideX_even, Int.toNat_of_nonneg h1, Int.toNat_of_nonneg h2]
        rw [e]
        exact lets_near (by omega)
    · rw [if_neg h2] at *
      cases s with
      | true =>
        simp only [if_true, Bool.true_and] at *
        rw [if_neg (by rw [decide_eq_true_eq]; omega)]
        refine pt_ranged hN hn hy (by omega) ⟨fun q => (by cases q), fun _ => ?_⟩
        rw [Int.toNat_of_nonneg h1]; exact hc
      | false =>
        simp only [Bool.false_and, Bool.false_eq_true, if_false] at *
        refine pt_ranged hN hn hy (by omega) ⟨fun q => (by cases q), fun _ => ?_⟩
        rw [Int.toNat_of_nonneg h1]; exact hc
  · have h2 : 0 ≤ bv := by omega
    rw [if_neg h1] at *
    rw [if_pos h2] at *
    cases s with
    | true =>
      simp only [if_true, Bool.true_and] at *
      rw [if_neg (by rw [decide_eq_true_eq]; omega)]
      refine pt_ranged hN hn hy (by omega) ⟨fun _ => ?_, fun q => (by cases q)⟩
      rw [Int.toNat_of_nonneg h2]; show an - -1 ≤ _; omega
    | false =>
      simp only [Bool.false_and, Bool.false_eq_true, if_false] at *
      refine pt_ranged hN hn hy (by omega) ⟨fun _ => ?_, fun q => (by cases q)⟩
      rw [Int.toNat_of_nonneg h2]; show an - 0 ≤ _; omega
theorem pt_atMost_not (hy : SmallX x) {av an bv bn : Int} {s : Bool} (ha : av < n) (hb : bv < n) (hab : 0 ≤ av ∨ 0 ≤ bv) (ia : -9223372036854775808 ≤ opdX x av an ∧ opdX x av an ≤ 9223372036854775807) (_ib : -9223372036854775808 ≤ opdX x bv bn ∧ opdX x bv bn ≤ 9223372036854775807)
    (hc : opdX x bv bn + lessD s < opdX x av an) : BadO n (atMostO (ptO n x) av an bv bn s) := by
  unfold opdX lessD at *
  unfold atMostO lessD
  by_cases h1 : 0 ≤ av
  · rw [if_pos h1] at *
    by_cases h2 : 0 ≤ bv
    · rw [if_pos h2] at *
      split
      · rename_i e
        subst e
        cases s with
        | true => exact .inl rfl
        | false => simp at hc
      · rename_i hne
        refine pt_break hN hn hy (by omega) (by omega) (by omega) ?_
        have e : apartX x (2 * av.toNat) (2 * bv.toNat) = gI x av - gI x bv := by unfold apartX; rw [sideX_even, sideX_even, Int.toNat_of_nonneg h1, Int.toNat_of_nonneg h2]
        rw [e]
        cases s with
        | true => simp at hc ⊢; have : near (-1) = -1 := by decide
                  omega
        | false => simp at hc ⊢; have : near 0 = 0 := by decide
                   omega
    · rw [if_neg h2] at *
      split
      · exact .inl rfl
      · refine pt_break_hi hN hn hy (v := av.toNat) (by omega) ?_ _ rfl rfl
        rw [Int.toNat_of_nonneg h1]; exact hc
  · have h2 : 0 ≤ bv := by omega
    rw [if_neg h1] at *
    rw [if_pos h2] at *
    cases s with
    | true =>
      simp only [if_true, Bool.true_and] at *
      split
      · exact .inl rfl
      · rename_i q
        rw [decide_eq_true_eq] at q
        refine pt_break_lo hN hn hy (v := bv.toNat) (by omega) ?_ (by show an - -1 ≤ _; omega)
        rw [Int.toNat_of_nonneg h2]; show _ < an - -1; omega
    | false =>
      simp only [Bool.false_and, Bool.false_eq_true, if_false] at *
      refine pt_break_lo hN hn hy (v := bv.toNat) (by omega) ?_ (by show an - 0 ≤ _; omega)
      rw [Int.toNat_of_nonneg h2]; show _ < an - 0; omega
theorem pt_assumes (hy : SmallX x) {op av an bv bn : Int} (hop : 1 ≤ op ∧ op ≤ 6) (h4 : op = 4 → av < 0 ∧ bv < 0) (ha : av < n) (hb : bv < n) (ia : -9223372036854775808 ≤ opdX x av an ∧ opdX x av an ≤ 9223372036854775807) (ib : -9223372036854775808 ≤ opdX x bv bn ∧ opdX x bv bn ≤ 9223372036854775807) :
    assumesO (ptO n x) op av an bv bn = if cmpB op (opdX x av an) (opdX x bv bn) then ptO n x else emptyO n := by
  have a0 := pt_close hN hn hy
  unfold assumesO
  by_cases hn' : av < 0 ∧ bv < 0
  · rw [if_pos hn']
    have e1 : opdX x av an = an := by unfold opdX; rw [if_neg (by omega)]
    have e2 : opdX x bv bn = bn := by unfold opdX; rw [if_neg (by omega)]
    rw [e1, e2]; rfl
  · rw [if_neg hn']
    have hab : 0 ≤ av ∨ 0 ≤ bv := by omega
    have d0 : lessD false = 0 := rfl
    have d1 : lessD true = -1 := rfl
    have Y := fun s h => pt_atMost hN hn hy (an := an) (bn := bn) (s := s) ha hb hab ia ib h
    have X := fun s h => pt_atMost_not hN hn hy (an := an) (bn := bn) (s := s) ha hb hab ia ib h
    have Y' := fun s h => pt_atMost hN hn hy (an := bn) (bn := an) (s := s) hb ha hab.symm ib ia h
    have X' := fun s h => pt_atMost_not hN hn hy (an := bn) (bn := an) (s := s) hb ha hab.symm ib ia h
    generalize opdX x av an = A at *
    generalize opdX x bv bn = B at *
    unfold cmpB
    by_cases o3 : op = 3
    · subst o3
      rw [if_pos rfl]
      simp only [show (3 : Int) = 1 ↔ False by decide, show (3 : Int) = 2 ↔ False by decide, if_false, if_true]
      by_cases c : A = B
      · rw [Y false (by omega), Y' false (by omega), a0, if_pos (by simpa using c)]
      · rw [if_neg (by simpa using c)]
        by_cases c2 : A ≤ B
        · rw [Y false (by omega)]
          exact (X' false (by omega)).close
        · exact ((X false (by omega)).atMost hb ha hab.symm).close
    · rw [if_neg o3]
      by_cases o4 : op = 4
      · exact absurd (h4 o4) hn'
      · rw [if_neg o4]
        by_cases o5 : op = 5
        · subst o5
          rw [if_pos rfl]
          simp only [show (5 : Int) = 1 ↔ False by decide, show (5 : Int) = 2 ↔ False by decide, show (5 : Int) = 3 ↔ False by decide, show (5 : Int) = 4 ↔ False by decide, if_false, if_true]
          by_cases c : B < A
          · rw [Y' true (by omega), a0, if_pos (by simpa using c)]
          · rw [if_neg (by simpa using c)]; exact (X' true (by omega)).close
        · rw [if_neg o5]
          by_cases o1 : op = 1
          · subst o1
            rw [if_pos rfl]
            simp only [if_true]
            by_cases c : A < B
            · rw [Y true (by omega), a0, if_pos (by simpa using c)]
            · rw [if_neg (by simpa using c)]; exact (X true (by omega)).close
          · rw [if_neg o1]
            by_cases o6 : op = 6
            · subst o6
              rw [if_pos rfl]
              simp only [show (6 : Int) = 1 ↔ False by decide, show (6 : Int) = 2 ↔ False by decide, show (6 : Int) = 3 ↔ False by decide, show (6 : Int) = 4 ↔ False by decide, show (6 : Int) = 5 ↔ False by decide, if_false, if_true]
              by_cases c : B ≤ A
              · rw [Y' false (by omega), a0, if_pos (by simpa using c)]
              · rw [if_neg (by simpa using c)]; exact (X' false (by omega)).close
            · rw [if_neg o6]
              have : op = 2 := by omega
              subst this
              simp only [show (2 : Int) = 1 ↔ False by decide, if_false, if_true]
              by_cases c : A ≤ B
              · rw [Y false (by omega), a0, if_pos (by simpa using c)]
              · rw [if_neg (by simpa using c)]; exact (X false (by omega)).close
end
end
section
open Go.RowKit
set_option maxRecDepth 100000
set_option maxHeartbeats 8000000
section
variable {n : Int} {N : Nat} {x y : List Int} (hN : (N : Int) = 2 * n) (hn : N ≤ 128)
include hN hn
theorem pt_shifts (hy : SmallX x) (hl : (x.length : Int) = n) {d u : Nat} (hd : (d : Int) < n) (hu : (u : Int) < n) {k : Int} (hk : -2305843009213693952 ≤ k ∧ k ≤ 2305843009213693952) (hs : SmallX (x.set d (gI x (u : Int) + k))) : shiftO (ptO n x) d u k = ptO n (x.set d (gI x (u : Int) + k)) := by
 unfold shiftO
 rw [if_neg (by omega)]
 split
 ·rename_i hne
  have := pt_link hN hn hy hl (d := d) (j := 2 * u) hd (by omega) (by omega) (k := k) (by rw [sideX_even]; exact hs)
  rw [sideX_even] at this
  exact this
 ·rename_i hne
  obtain rfl : u = d := by omega
  have := pt_shift hN hn hy hl hd hs
  unfold ptO
  dsimp only
  rw [show (2 * n).toNat = N by omega]
  unfold ptO at this
  rw [show (2 * n).toNat = N by omega] at this
  exact this
theorem pt_edge {e : Edg} (hx : SmallX x) (hl : (x.length : Int) = n) (hys : SmallX y) (hr : rightT n e = true) (hex : exactE e = true) (k9 : e.kd ≠ 9) (k10 : e.kd ≠ 10) (hi : I64s x) (hea : -9223372036854775808 ≤ e.an ∧ e.an ≤ 9223372036854775807) (heb : -9223372036854775808 ≤ e.bn ∧ e.bn ≤ 9223372036854775807) (hB : Behind e x y) : edgeO (ptO n x) e = ptO n y := by
 have ha := right_a hr
 have hb := right_b hr
 have hd := fun hk => right_dst hr hk
 have hn0 : 0 ≤ n := by omega
 dsimp only at ha hb hd
 obtain ⟨y1, y2, y3⟩ := hB
 have a0 : e.kd = 12 → 1 ≤ e.op ∧ e.op ≤ 6 := fun k12 => by
  unfold rightT rightE wOp at hr
  simp only [Bool.and_eq_true] at hr
  have := hr.1.1.2
  rw [decide_eq_true k12] at this
  simpa using this
 have hkd : 1 ≤ e.kd ∧ e.kd ≤ 14 := by
  unfold rightT rightE at hr
  simp only [Bool.and_eq_true, decide_eq_true_eq] at hr
  omega
 unfold exactE at hex
 simp only [Bool.and_eq_true, Bool.or_eq_true, decide_eq_true_eq, bne_iff_ne, ne_eq, decide_eq_decide] at hex
 obtain ⟨⟨m1, m2⟩, hex⟩ := hex
 unfold nearT at m1 m2
 simp only [Bool.or_eq_true, decide_eq_true_eq] at m1 m2
 unfold edgeO
 rw [if_neg y1]
 rw [if_neg (by omega)] at y3 ⊢
 by_cases k12 : e.kd = 12
 ·rw [if_pos k12]
  rw [if_neg (by omega), if_neg (by omega)] at y3
  subst y3
  rw [pt_assumes hN hn hx (a0 k12) (by omega) (by omega) (by omega) (opdX_i64 hi hea) (opdX_i64 hi heb), if_pos (y2 k12)]
 ·rw [if_neg k12]
  by_cases k2 : e.kd = 2
  ·rw [if_pos k2] at *
   have := hd (by omega)
   subst y3
   split
   ·rename_i q
    rw [kind_num q] at *
    exact pt_give hN hn hx hl (by omega) hys
   ·split
    ·rename_i q1 q
     rw [kind_var (by omega), q]
     rw [set_same]
    ·rename_i q1 q
     have := pt_link hN hn hx hl (d := e.dst.toNat) (j := 2 * e.av.toNat) (by omega) (by omega) (by omega) (k := 0) (by rw [sideX_even, Int.add_zero, ← kind_var (x := x) (k := e.an) (by omega)]; exact hys)
     rw [sideX_even, Int.add_zero] at this
     rw [kind_var (by omega)]
     exact this
  ·rw [if_neg k2] at *
   by_cases k3 : e.kd = 3
   ·rw [if_pos (by omega)] at y3
    obtain ⟨y3, rfl⟩ := y3
    rw [if_pos k3]
    have := hd (by omega)
    have e1 : (kindW e.kd (opdX x e.av e.an) (opdX x e.bv e.bn)) = negW (opdX x e.av e.an) := by unfold kindW; rw [if_pos k3]
    split
    ·rename_i q
     rw [k3, kind_num q] at *
     have e4 : kindW 3 e.an (opdX x e.bv e.bn) = kindW 3 e.an e.bn := rfl
     rw [e4] at y3 hys ⊢
     unfold numberO
     rw [if_pos y3]
     exact pt_give hN hn hx hl (by omega) hys
    ·rename_i q
     rw [e1] at y3 hys ⊢
     rw [show (negW (opdX x e.av e.an)).1 = -opdX x e.av e.an from (fit_ok y3).1] at hys ⊢
     split
     ·rename_i q2
      rw [kind_var (by omega), q2]
      exact pt_turns hN hn hx hl (by omega)
     ·rename_i q2
      have := pt_link hN hn hx hl (d := e.dst.toNat) (j := 2 * e.av.toNat + 1) (by omega) (by omega) (by omega) (k := 0) (by rw [sideX_odd, Int.add_zero, ← kind_var (x := x) (k := e.an) (by omega)]; exact hys)
      rw [sideX_odd, Int.add_zero] at this
      rw [kind_var (by omega)]
      exact this
   ·rw [if_neg k3]
    by_cases k4 : e.kd = 4 ∨ e.kd = 5
    ·rw [if_pos (by omega)] at y3
     obtain ⟨y3, rfl⟩ := y3
     rw [if_pos k4]
     have := hd (by omega)
     rw [if_neg (by omega)]
     unfold addsO
     rcases k4 with k | k
     ·rw [k] at y3 hys ⊢
      have e1 : kindW 4 (opdX x e.av e.an) (opdX x e.bv e.bn) = fit (opdX x e.av e.an + opdX x e.bv e.bn) := rfl
      rw [e1] at y3 hys ⊢
      rw [(fit_ok y3).1] at hys ⊢
      rw [show decide ((4 : Int) = 5) = false from rfl]
      by_cases h0 : 0 ≤ e.av
      ·rw [if_pos h0, if_neg (by omega), if_neg (by simp)]
       rw [kind_var h0, kind_num (by omega)] at hys ⊢
       exact pt_shifts hN hn hx hl (by omega) (by omega) (by omega) hys
      ·rw [if_neg h0, if_neg (by simp)]
       rw [kind_num (by omega), kind_var (v := e.bv) (by omega), Int.add_comm] at hys ⊢
       exact pt_shifts hN hn hx hl (by omega) (by omega) (by omega) hys
     ·rw [k] at y3 hys ⊢
      have e1 : kindW 5 (opdX x e.av e.an) (opdX x e.bv e.bn) = fit (opdX x e.av e.an - opdX x e.bv e.bn) := rfl
      rw [e1] at y3 hys ⊢
      rw [(fit_ok y3).1] at hys ⊢
      rw [show decide ((5 : Int) = 5) = true from rfl]
      have h0 : 0 ≤ e.av := by omega
      rw [if_pos h0, if_neg (by omega), if_pos rfl]
      have a1 : (negW e.bn).2 = 0 := by
       unfold negW fit inI
       rw [if_pos (by rw [decide_eq_true_eq]; omega)]
      rw [if_pos a1]
      rw [kind_var h0, kind_num (by omega), show gI x ((e.av.toNat : Nat) : Int) - e.bn = gI x ((e.av.toNat : Nat) : Int) + -e.bn by omega] at hys ⊢
      exact pt_shifts hN hn hx hl (by omega) (by omega) (by omega) hys
    ·rw [if_neg k4, if_neg (by omega)]
     rw [if_neg (by omega)] at y3
     subst y3; rfl
theorem pt_edge_not {e : Edg} (hx : SmallX x) (hr : rightT n e = true) (hex : exactE e = true) (k12 : e.kd = 12) (hi : I64s x) (hea : -9223372036854775808 ≤ e.an ∧ e.an ≤ 9223372036854775807) (heb : -9223372036854775808 ≤ e.bn ∧ e.bn ≤ 9223372036854775807) (hB : cmpB e.op (opdX x e.av e.an) (opdX x e.bv e.bn) = false) : edgeO (ptO n x) e = emptyO n := by
 have ha := right_a hr
 have hb := right_b hr
 have hn0 : 0 ≤ n := by omega
 dsimp only at ha hb
 have a0 : 1 ≤ e.op ∧ e.op ≤ 6 := by
  unfold rightT rightE wOp at hr
  simp only [Bool.and_eq_true] at hr
  have := hr.1.1.2
  rw [decide_eq_true k12] at this
  simpa using this
 unfold exactE at hex
 simp only [Bool.and_eq_true, Bool.or_eq_true, decide_eq_true_eq, bne_iff_ne, ne_eq, decide_eq_decide] at hex
 obtain ⟨⟨m1, m2⟩, hex⟩ := hex
 unfold edgeO
 rw [if_neg (by omega), if_neg (by omega), if_pos k12, pt_assumes hN hn hx a0 (by omega) (by omega) (by omega) (opdX_i64 hi hea) (opdX_i64 hi heb), hB, if_neg (by simp)]
end
end
section
open Go.RowKit
set_option maxRecDepth 100000
set_option maxHeartbeats 8000000
attribute [local go_sem ↓] Go.wp_at_zero Go.wp_at_succ
def NearV (v : Int) : Prop := -1099511627776 ≤ v ∧ v ≤ 1099511627776
theorem halves (v : Int) : ∃ q r : Int, Int.tdiv v 2 = q ∧ Int.tmod v 2 = r ∧ 2 * q + r = v ∧ -1 ≤ r ∧ r ≤ 1 := by
 refine ⟨_, _, rfl, rfl, Int.mul_tdiv_add_tmod v 2, ?_, ?_⟩
 ·obtain ⟨n, rfl | rfl⟩ := Int.eq_nat_or_neg v
  ·rw [Int.tmod_eq_emod_of_nonneg (by omega)]; omega
  ·rw [Int.neg_tmod, Int.tmod_eq_emod_of_nonneg (by omega)]; omega
 ·obtain ⟨n, rfl | rfl⟩ := Int.eq_nat_or_neg v
  ·rw [Int.tmod_eq_emod_of_nonneg (by omega)]; omega
  ·rw [Int.neg_tmod, Int.tmod_eq_emod_of_nonneg (by omega)]; omega
def HalfRes (u : Int) (w : World) (e : Ending) (w' : World) : Prop := ∃ h r, e = .returned (.tuple #[.int .i64 h, .int .i64 r]) ∧ 2 * h + r = u ∧ 0 ≤ r ∧ r ≤ 1 ∧ Below w.heap.size w w'
theorem half_ok (v : Int) (hv : NearV v) (b : Bool) (w : World) : Calls Tryz.prog 128 #[v, b] w (HalfRes (if b then -v else v) w) := by
 unfold NearV at hv
 obtain ⟨q, r, hq, hr, hs, h1, h2⟩ := halves v
 have q0 : -9223372036854775808 ≤ q - 1 := by omega
 have q1 : q + 1 ≤ 9223372036854775807 := by omega
 have q2 : -9223372036854775808 ≤ -q - 1 := by omega
 cases b with
 | false =>
  by_cases hr0 : r < 0
  ·have HX : Hid (∃ h r', 2 * h + r' = v ∧ 0 ≤ r' ∧ r' ≤ 1 ∧ h = q - 1 ∧ r' = 1) := hid ⟨q - 1, 1, by omega, by omega, by omega, rfl, rfl⟩
   have t1 : decide (r < 0) = true := by rw [decide_eq_true_eq]; exact hr0
   clear hr0
   go_enter Tryz.func128, Tryz.ntmps128
   go_wp2
   refine bodyPost_ret (v := .tuple #[.int .i64 (q - 1), .int .i64 1]) (by simp [results, Tryz.results128, go_sem]) rfl ?_
   obtain ⟨h, r', a, b, c, rfl, rfl⟩ := HX.out
   exact ⟨_, _, rfl, a, b, c, Below.refl _ _⟩
  ·have t1 : decide (r < 0) = false := by rw [decide_eq_false_iff_not]; exact hr0
   have HX : Hid (2 * q + r = v ∧ 0 ≤ r ∧ r ≤ 1) := hid ⟨by omega, by omega, by omega⟩
   clear hr0
   go_enter Tryz.func128, Tryz.ntmps128
   go_wp2
   refine bodyPost_ret (v := .tuple #[q, r]) (by simp [results, Tryz.results128, go_sem]) rfl ?_
   exact ⟨_, _, rfl, HX.out.1, HX.out.2.1, HX.out.2.2, Below.refl _ _⟩
 | true =>
  by_cases hr0 : -r < 0
  ·have HX : Hid (∃ h r', 2 * h + r' = -v ∧ 0 ≤ r' ∧ r' ≤ 1 ∧ h = -q - 1 ∧ r' = 1) := hid ⟨-q - 1, 1, by omega, by omega, by omega, rfl, rfl⟩
   have t1 : decide (-r < 0) = true := by rw [decide_eq_true_eq]; exact hr0
   have t2 : decide (0 < r) = true := by rw [decide_eq_true_eq]; omega
   clear hr0
   go_enter Tryz.func128, Tryz.ntmps128
   go_wp2
   refine bodyPost_ret (v := .tuple #[.int .i64 (-q - 1), .int .i64 1]) (by simp [results, Tryz.results128, go_sem]) rfl ?_
   obtain ⟨h, r', a, b, c, rfl, rfl⟩ := HX.out
   exact ⟨_, _, rfl, a, b, c, Below.refl _ _⟩
  ·have t1 : decide (-r < 0) = false := by rw [decide_eq_false_iff_not]; exact hr0
   have t2 : decide (0 < r) = false := by rw [decide_eq_false_iff_not]; omega
   have HX : Hid (2 * (-q) + -r = -v ∧ 0 ≤ -r ∧ -r ≤ 1) := hid ⟨by omega, by omega, by omega⟩
   clear hr0
   go_enter Tryz.func128, Tryz.ntmps128
   go_wp2
   refine bodyPost_ret (v := .tuple #[.int .i64 (-q), .int .i64 (-r)]) (by simp [results, Tryz.results128, go_sem]) rfl ?_
   exact ⟨_, _, rfl, HX.out.1, HX.out.2.1, HX.out.2.2, Below.refl _ _⟩
theorem rdiffp_ok (xs : List Int) (hn : ∀ k : Nat, NearV (gI xs (k : Int))) (i j : Nat) (hi : i / 2 < xs.length) (hj : j / 2 < xs.length) (hm : i ≤ 1000 ∧ j ≤ 1000) (X : Option Addr) (xc : Nat) (w : World) (hx : Rd w w.heap.size X xs) :
  Calls Tryz.prog 66 #[.slice X xs.length xc, (i : Int), (j : Int)] w fun e w' => e = .returned (.tuple #[.int .i64 (apartX xs i j), .int .i64 0]) ∧ Below w.heap.size w w' := by
 obtain ⟨xi, a3⟩ : ∃ v, v = gI xs ((i / 2 : Nat) : Int) := ⟨_, rfl⟩
 obtain ⟨xj, a4⟩ : ∃ v, v = gI xs ((j / 2 : Nat) : Int) := ⟨_, rfl⟩
 obtain ⟨i2, hi2⟩ : ∃ v, v = i / 2 := ⟨_, rfl⟩
 obtain ⟨j2, hj2⟩ : ∃ v, v = j / 2 := ⟨_, rfl⟩
 obtain ⟨bi, a5⟩ : ∃ b : Bool, ((((i % 2 : Nat)) : Int) == 1) = b := ⟨_, rfl⟩
 obtain ⟨bj, a6⟩ : ∃ b : Bool, ((((j % 2 : Nat)) : Int) == 0) = b := ⟨_, rfl⟩
 have HR : Hid (apartX xs i j = (if bi then -xi else xi) + (if bj then -xj else xj)) := hid (by
  unfold apartX sideX
  rw [← a3, ← a4]
  have ei : (i % 2 = 0 ∧ bi = false) ∨ (i % 2 = 1 ∧ bi = true) := by
   rcases Nat.mod_two_eq_zero_or_one i with h | h
   ·left; exact ⟨h, by rw [← a5, h]; rfl⟩
   ·right; exact ⟨h, by rw [← a5, h]; rfl⟩
  have ej : (j % 2 = 0 ∧ bj = true) ∨ (j % 2 = 1 ∧ bj = false) := by
   rcases Nat.mod_two_eq_zero_or_one j with h | h
   ·left; exact ⟨h, by rw [← a6, h]; rfl⟩
   ·right; exact ⟨h, by rw [← a6, h]; rfl⟩
  rcases ei with ⟨e1, e2⟩ | ⟨e1, e2⟩ <;> rcases ej with ⟨e3, e4⟩ | ⟨e3, e4⟩ <;> rw [e2, e4] <;> simp [e1, e3] <;> omega)
 generalize apartX xs i j = R at *
 have ni : NearV xi := a3 ▸ hn _
 have nj : NearV xj := a4 ▸ hn _
 rw [← hi2] at hi a3
 rw [← hj2] at hj a4
 obtain ⟨g1, o1, rfl, hg1, ci⟩ := hx i2 hi
 obtain ⟨_, _, e1, -, cj⟩ := hx j2 hj
 injection e1 with e1; injection e1 with e1 e2; subst e1; subst e2
 rw [← a3] at ci
 rw [← a4] at cj
 have hi' : (i2 : Int) < (xs.length : Int) := by omega
 have hj' : (j2 : Int) < (xs.length : Int) := by omega
 have di1 : Int.tdiv (i : Int) 2 = (i2 : Int) := by rw [Int.tdiv_eq_ediv_of_nonneg (by omega)]; omega
 have di2 : (i : Int) / 2 = (i2 : Int) := by omega
 have dj1 : Int.tdiv (j : Int) 2 = (j2 : Int) := by rw [Int.tdiv_eq_ediv_of_nonneg (by omega)]; omega
 have dj2 : (j : Int) / 2 = (j2 : Int) := by omega
 have mi1 : Int.tmod (i : Int) 2 = ((i % 2 : Nat) : Int) := by rw [Int.tmod_eq_emod_of_nonneg (by omega)]; omega
 have mi2 : (i : Int) % 2 = ((i % 2 : Nat) : Int) := by omega
 have mj1 : Int.tmod (j : Int) 2 = ((j % 2 : Nat) : Int) := by rw [Int.tmod_eq_emod_of_nonneg (by omega)]; omega
 have mj2 : (j : Int) % 2 = ((j % 2 : Nat) : Int) := by omega
 clear hi2 hj2 a3 a4 hn hi hj hx
 have hi3 : i % 2 ≤ 1 := by omega
 have hj3 : j % 2 ≤ 1 := by omega
 generalize i % 2 = ri at *
 generalize j % 2 = rj at *
 have Hi := hid (half_ok xi ni bi)
 have Hj := hid (half_ok xj nj bj)
 have NI := hid ni
 have NJ := hid nj
 clear ni nj
 go_enter Tryz.func66, Tryz.ntmps66
 go_upto_region 1 with fail
 have fi := later ci
 have fj := later cj
 clear ci cj
 refine wp_region_flow 11 (fun X => Below w.heap.size w X) (by kernel_rfl) (by kernel_rfl) (Below.refl _ _).drew ?_
 (repeat (first | refine fl_s ?_ | refine fl_t ?_))
 intro w3 a2
 clear fi fj
 go_wp2_with fail
 (with_reducible refine (Hi.out w3).mono ?_)
 rintro e4 w4 ⟨a, ra, rfl, ha, ra0, ra1, hb4⟩
 replace a2 := bup a2 hb4
 clear hb4
 go_wp2_with fail
 (with_reducible refine (Hj.out w4).mono ?_)
 rintro e5 w5 ⟨b, rb, rfl, hb, rb0, rb1, hb5⟩
 replace a2 := bup a2 hb5
 clear hb5 Hi Hj
 have ba : -1099511627777 ≤ a ∧ a ≤ 1099511627777 := by
  have := NI.out; unfold NearV at this
  cases bi <;> simp at ha <;> omega
 have bb : -1099511627777 ≤ b ∧ b ≤ 1099511627777 := by
  have := NJ.out; unfold NearV at this
  cases bj <;> simp at hb <;> omega
 rw [← ha, ← hb] at HR
 obtain ⟨a0, a1⟩ := ba
 obtain ⟨b0, b1⟩ := bb
 clear ha hb
 have t1 : decide (2305843009213693952 - b < a) = false := by rw [decide_eq_false_iff_not]; omega
 have t2 : decide (a < -2305843009213693953 - b) = false := by rw [decide_eq_false_iff_not]; omega
 have e1 : ra = 0 ∨ ra = 1 := by omega
 have e2 : rb = 0 ∨ rb = 1 := by omega
 clear ra0 ra1 rb0 rb1 mi1 mi2 mj1 mj2 a5 a6 di1 di2 dj1 dj2
 rcases e1 with rfl | rfl <;> rcases e2 with rfl | rfl
 all_goals go_wp2
 all_goals (first
  | (exfalso; omega)
  | (refine bodyPost_ret (v := .tuple #[R, .int .i64 0]) (by simp [results, Tryz.results66, go_sem]; have := HR.out; omega) rfl ?_; exact ⟨rfl, a2⟩)
  | (refine bodyPost_ret (v := .tuple #[R, .int .i64 0]) (by have := HR.out; simp [results, Tryz.results66, go_sem, this]; try omega) rfl ?_; exact ⟨rfl, a2⟩))
end
end Go.Proofs.YtnmpgijiimglcaaGreat
