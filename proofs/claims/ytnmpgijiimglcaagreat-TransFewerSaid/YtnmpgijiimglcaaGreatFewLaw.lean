/-
  What is known where a comparison holds is within what was known; of a comparison and its contrary each point is in one: plain law.
-/
import Derived.Test.YtnmpgijiimglcaaGreatTransSound
namespace Go.Proofs.YtnmpgijiimglcaaGreat
open Go.RowKit

/-- Each point of p is one of o. -/
def Within (p o : O) : Prop := ∀ x, HasO p x → HasO o x
theorem Within.refl (o : O) : Within o o := fun _ h => h
theorem Within.trans {a b c : O} (h : Within a b) (k : Within b c) : Within a c := fun x hx => k x (h x hx)
section
variable {n : Int} {o : O}
theorem within_empty (k : Int) (o : O) : Within (emptyO k) o := fun x h => by have := h.1; simp [emptyO] at this
theorem within_le {N : Nat} {p m : List Int} (hN : (N : Int) = 2 * n) (hm : Cells N m) (h : ∀ a b : Nat, a < N → b < N → G N p a b ≤ G N m a b) : Within ⟨n, false, p⟩ ⟨n, false, m⟩ := fun x ⟨_, hl, hx⟩ => ⟨rfl, hl, by
  dsimp only at hx ⊢
  rw [show (2 * n).toNat = N by omega] at hx ⊢
  intro i j hi hj
  refine lets_le (hx i j hi hj) (h i j hi hj) ?_
  have e : isBound (G N m i j) = true := hm.bd i j hi hj
  rcases bndS e with e | e <;> omega⟩
theorem within_close (ok : OkO n o) : Within (closeO o) o := by
  rcases ok.form with rfl | ⟨N, m, hN, hn, rfl, hc⟩
  · rw [closeO_e rfl]; exact Within.refl _
  · rcases closeO_cases ⟨n, false, m⟩ with e | ⟨_, ys, hy, e⟩
    · rw [e]; exact within_empty n _
    · rw [e]
      exact within_le hN hc fun a b _ _ => (closeM_low hy).le (check_bounds ok.ok) _
theorem within_with (ok : OkO n o) {i j : Nat} (hi : (i : Int) < 2 * n) (hj : (j : Int) < 2 * n) (c : Int) : Within (withO o i j c) o := by
  rcases ok.form with rfl | ⟨N, m, hN, hn, rfl, hc⟩
  · exact Within.refl _
  · unfold withO
    rw [if_neg (by simp)]
    split
    · split
      · exact within_empty _ _
      · exact Within.refl _
    · dsimp only
      rw [show (2 * n).toNat = N by omega]
      refine within_le hN hc fun a b ha hb => ?_
      rw [boundM_G (by omega) hc.len (by omega) (by omega) c ha hb]
      split
      · rename_i e
        rcases e with ⟨rfl, rfl⟩ | ⟨rfl, rfl⟩
        · omega
        · have e : G N m i j = G N m (nx j) (nx i) := hc.mir i j (by omega) (by omega)
          omega
      · omega
theorem within_hi (ok : OkO n o) {v : Nat} (hv : (v : Int) < n) (r : Rg) : Within (hiO o v r) o := by
  unfold hiO
  split
  · exact within_with ok (by omega) (by omega) _
  · exact Within.refl _
theorem within_ranged (ok : OkO n o) {v : Nat} (hv : (v : Int) < n) (r : Rg) : Within (rangedO o v r) o := by
  unfold rangedO
  split
  · exact (within_with (ok.hi_ hv r) (by omega) (by omega) _).trans (within_hi ok hv r)
  · exact within_hi ok hv r
theorem within_atMost (ok : OkO n o) {av an bv bn : Int} {s : Bool} (ha : av < n) (hb : bv < n) (hab : 0 ≤ av ∨ 0 ≤ bv) : Within (atMostO o av an bv bn s) o := by
  unfold atMostO
  split
  · split
    · split
      · split
        · exact within_empty _ _
        · exact Within.refl _
      · exact within_with ok (by omega) (by omega) _
    · split
      · exact within_empty _ _
      · exact within_ranged ok (by omega) _
  · split
    · exact within_empty _ _
    · exact within_ranged ok (by omega) _
theorem within_unlikeVars (ok : OkO n o) {av an bv bn : Int} (h0 : 0 ≤ av) (h1 : 0 ≤ bv) (ha : av < n) (hb : bv < n) : Within (unlikeVarsO o av an bv bn) o := by
  unfold unlikeVarsO
  split
  · exact within_empty _ _
  · dsimp only
    have h2 : OkO n (if G (2 * o.n).toNat o.m (2 * av.toNat) (2 * bv.toNat) = 0 then atMostO o av an bv bn true else o) ∧ Within (if G (2 * o.n).toNat o.m (2 * av.toNat) (2 * bv.toNat) = 0 then atMostO o av an bv bn true else o) o := by
      split
      · exact ⟨ok.atMost ha hb (.inl h0), within_atMost ok ha hb (.inl h0)⟩
      · exact ⟨ok, Within.refl _⟩
    split
    · exact (within_atMost h2.1 hb ha (.inl h1)).trans h2.2
    · exact h2.2
theorem within_unlikeNum (ok : OkO n o) {av an bv bn : Int} (h0 : 0 ≤ av) (ha : av < n) (hb : bv < n) : Within (unlikeNumO o av an bv bn) o := by
  unfold unlikeNumO
  dsimp only
  have h2 : OkO n (if (varR (2 * o.n).toNat o.m av.toNat).hh && decide ((varR (2 * o.n).toNat o.m av.toNat).hi = bn) then atMostO o av an bv bn true else o) ∧ Within (if (varR (2 * o.n).toNat o.m av.toNat).hh && decide ((varR (2 * o.n).toNat o.m av.toNat).hi = bn) then atMostO o av an bv bn true else o) o := by
    split
    · exact ⟨ok.atMost ha hb (.inl h0), within_atMost ok ha hb (.inl h0)⟩
    · exact ⟨ok, Within.refl _⟩
  split
  · exact (within_atMost h2.1 hb ha (.inr h0)).trans h2.2
  · exact h2.2
theorem within_unlike (ok : OkO n o) {av an bv bn : Int} (ha : av < n) (hb : bv < n) (hab : 0 ≤ av ∨ 0 ≤ bv) : Within (unlikeO o av an bv bn) o := by
  unfold unlikeO
  split
  · rw [if_neg (by omega)]
    exact within_unlikeNum ok (by omega) hb ha
  · split
    · exact within_unlikeVars ok (by omega) (by omega) ha hb
    · exact within_unlikeNum ok (by omega) ha hb
theorem within_assumes (ok : OkO n o) {op av an bv bn : Int} (ha : av < n) (hb : bv < n) : Within (assumesO o op av an bv bn) o := by
  unfold assumesO
  split
  · split
    · exact Within.refl _
    · exact within_empty _ _
  · split
    · exact (within_close ((ok.atMost ha hb (by omega)).atMost hb ha (by omega))).trans ((within_atMost (ok.atMost ha hb (by omega)) hb ha (by omega)).trans (within_atMost ok ha hb (by omega)))
    · split
      · exact (within_close (ok.unlike ha hb (by omega))).trans (within_unlike ok ha hb (by omega))
      · split
        · exact (within_close (ok.atMost hb ha (by omega))).trans (within_atMost ok hb ha (by omega))
        · split
          · exact (within_close (ok.atMost ha hb (by omega))).trans (within_atMost ok ha hb (by omega))
          · split
            · exact (within_close (ok.atMost hb ha (by omega))).trans (within_atMost ok hb ha (by omega))
            · exact (within_close (ok.atMost ha hb (by omega))).trans (within_atMost ok ha hb (by omega))
end
theorem cmp_not {op : Int} (h : 1 ≤ op ∧ op ≤ 6) (a b : Int) : cmpB (notOp op) a b = !cmpB op a b := by
  have : op = 1 ∨ op = 2 ∨ op = 3 ∨ op = 4 ∨ op = 5 ∨ op = 6 := by omega
  unfold notOp cmpB
  rcases this with rfl | rfl | rfl | rfl | rfl | rfl <;> simp <;> rw [← decide_not] <;> congr 1 <;> apply propext <;> omega
theorem assume_within {o : O} (hk : check o = 0) {op av an bv bn : Int} (ha : av < o.n) (hb : bv < o.n) : Within (assumeO o op av an bv bn) o := by
  have ok : OkO o.n o := ⟨rfl, hk⟩
  unfold assumeO
  split
  · exact within_close ok
  · exact (within_assumes ok.close ha hb).trans (within_close ok)
theorem assume_keeps {o : O} (hk : check o = 0) {op av an bv bn : Int} {x : List Int} (h : HasO o x) (hop : 1 ≤ op ∧ op ≤ 6) (ha : av < o.n) (hb : bv < o.n) (ia : -9223372036854775808 ≤ opdX x av an ∧ opdX x av an ≤ 9223372036854775807) (ib : -9223372036854775808 ≤ opdX x bv bn ∧ opdX x bv bn ≤ 9223372036854775807)
    (hc : cmpB op (opdX x av an) (opdX x bv bn) = true) : HasO (assumeO o op av an bv bn) x := by
  have ok : OkO o.n o := ⟨rfl, hk⟩
  unfold assumeO
  split
  · exact h.close_ ok
  · exact (h.close_ ok).assumes ok.close hop ha hb ia ib hc
/-- TransFewer's answer. -/
theorem fewer_law {o : O} (hk : check o = 0) {op av an bv bn : Int} {x : List Int} (hop : 1 ≤ op ∧ op ≤ 6) (ha : av < o.n) (hb : bv < o.n) (ia : -9223372036854775808 ≤ opdX x av an ∧ opdX x av an ≤ 9223372036854775807) (ib : -9223372036854775808 ≤ opdX x bv bn ∧ opdX x bv bn ≤ 9223372036854775807) :
    (HasO (assumeO o op av an bv bn) x → HasO o x) ∧ (HasO (assumeO o (notOp op) av an bv bn) x → HasO o x) ∧ (HasO o x → HasO (assumeO o op av an bv bn) x ∨ HasO (assumeO o (notOp op) av an bv bn) x) := by
  refine ⟨assume_within hk ha hb x, assume_within hk ha hb x, fun h => ?_⟩
  cases hc : cmpB op (opdX x av an) (opdX x bv bn)
  · refine .inr (assume_keeps hk h ?_ ha hb ia ib (by rw [cmp_not hop, hc]; rfl))
    unfold notOp
    have : op = 1 ∨ op = 2 ∨ op = 3 ∨ op = 4 ∨ op = 5 ∨ op = 6 := by omega
    rcases this with rfl | rfl | rfl | rfl | rfl | rfl <;> decide
  · exact .inl (assume_keeps hk h hop ha hb ia ib hc)
end Go.Proofs.YtnmpgijiimglcaaGreat
