/-
  A row of slices, each of which has a row of its own (a slice of slices that grow by append): generic in the element.
-/
import Derived.Test.YtjmmegnonlbdnaaOwn
import Derived.Deep.OwnRows
namespace Go.Proofs.Ytjmmegnonlbdnaa
open Go.RowKit

/-- Block F holds n slices 'f p'; slice p has the elements 'ls p', in a row of its own; no two share one. -/
structure LL {α : Type} (enc : α → List Value) (w : World) (base F n : Nat) (T e : TypeId) (size : Nat) (f : Nat → Value) (ls : Nat → List α) : Prop where
  row : w.rowIs F T n f
  ge : base ≤ F
  own : ∀ p, p < n → w.ownsRow base e size (f p) (ls p).length ((ls p).flatMap enc)
  apart : ∀ p q k, p < n → q < n → p ≠ q → (f p).ownBlock = some k → (f q).ownBlock ≠ some k
  ne : ∀ p, p < n → (f p).ownBlock ≠ some F

section
variable {α : Type} {enc : α → List Value} {w w' w1 : World} {base F n : Nat} {T e : TypeId} {size : Nat} {f : Nat → Value} {ls : Nat → List α}
theorem LL.below (h : LL enc w base F n T e size f ls) (hb : Below w.heap.size w w') : LL enc w' base F n T e size f ls :=
  ⟨h.row.of_block (hb.block _ h.row.lt), h.ge, fun p hp => World.ownsRow.kept (h.own p hp) (grown_of_below hb none) (by cases h' : (f p).ownBlock <;> simp), h.apart, h.ne⟩
/-- One append onto slice x, stored back. -/
theorem LL.put (h : LL enc w base F n T e size f ls) {x : Nat} (hx : x < n) {v : Value} {y : α} (hg : w.grownBy w1 (f x).ownBlock)
    (ho : w1.ownsRow base e size v ((ls x).length + 1) ((ls x).flatMap enc ++ enc y)) (hv : v.ownBlock = (f x).ownBlock ∨ v.ownBlock = some w.heap.size) :
    LL enc (w1.setCell ⟨F, x, none⟩ v) base F n T e size (fun j => if j = x then v else f j) (fun j => if j = x then ls x ++ [y] else ls j) := by
  have hFw := h.row.lt
  have hF1 : w1.heap[F]? = w.heap[F]? := hg.block F hFw (fun e => h.ne x hx e.symm)
  have hvF : v.ownBlock ≠ some F := by
    rcases hv with e | e <;> rw [e]
    · exact h.ne x hx
    · intro e; simp at e; omega
  have hlt : ∀ p, p < n → ∀ k, (f p).ownBlock = some k → k < w.heap.size := fun p hp k hk => ((h.own p hp).lt k hk).2
  refine ⟨(h.row.of_block hF1).set x v, h.ge, fun p hp => ?_, fun p q k hp hq hpq => ?_, fun p hp => ?_⟩
  · by_cases e : p = x
    · subst e
      simp only [if_pos]
      have : (ls p ++ [y]).length = (ls p).length + 1 := by simp
      rw [this, List.flatMap_append]
      have : [y].flatMap enc = enc y := by simp
      rw [this]
      exact World.ownsRow.kept ho (grown_setCell w1 ⟨F, p, none⟩ v) (.inr hvF)
    · simp only [if_neg e]
      refine World.ownsRow.kept (World.ownsRow.kept (h.own p hp) hg ?_) (grown_setCell w1 ⟨F, x, none⟩ v) (.inr (h.ne p hp))
      cases hk : (f p).ownBlock
      · exact .inl rfl
      · rename_i k
        exact .inr (fun e' => h.apart p x k hp hx e hk e'.symm)
  · by_cases e : p = x
    · subst e
      simp only [if_pos, if_neg (Ne.symm hpq)]
      intro hk hk'
      rcases hv with e | e
      · exact h.apart p q k hp hq hpq (e ▸ hk) hk'
      · rw [e] at hk; simp at hk; have := hlt q hq k hk'; omega
    · by_cases e' : q = x
      · subst e'
        simp only [if_pos, if_neg e]
        intro hk hk'
        rcases hv with e2 | e2
        · exact h.apart p q k hp hq hpq hk (e2 ▸ hk')
        · rw [e2] at hk'; simp at hk'; have := hlt p hp k hk; omega
      · simp only [if_neg e, if_neg e']
        exact h.apart p q k hp hq hpq
  · by_cases e : p = x
    · subst e; simp only [if_pos]; exact hvF
    · simp only [if_neg e]; exact h.ne p hp
theorem LL.put_below {B : Nat} (h : LL enc w base F n T e size f ls) (hB : B ≤ base) (hBw : B ≤ w.heap.size) {x : Nat} (hx : x < n) {v : Value} (hg : w.grownBy w1 (f x).ownBlock) : Below B w (w1.setCell ⟨F, x, none⟩ v) := by
  have h1 : Below B w w1 := below_grown hg (fun k hk => by have := ((h.own x hx).lt k hk).1; omega) hBw
  exact h1.setCell (by have := h.ge; simp; omega) _
theorem LL.congr {ls' : Nat → List α} (h : LL enc w base F n T e size f ls) (hl : ∀ p, p < n → ls p = ls' p) : LL enc w base F n T e size f ls' :=
  ⟨h.row, h.ge, fun p hp => hl p hp ▸ h.own p hp, h.apart, h.ne⟩
theorem LL.start {w : World} {base n : Nat} {T e : TypeId} {size : Nat} (hb : base ≤ w.heap.size) :
    LL enc (w.alloc (.cells (madeCells #[.slice none 0 0] n) T)) base w.heap.size n T e size (fun _ => .slice none 0 0) (fun _ => []) :=
  ⟨World.rowIs_made _ _ _ _, hb, fun p _ => World.ownsRow_nil _ _ _ _, fun p q k _ _ _ h => by simp [Value.ownBlock] at h, fun p _ h => by simp [Value.ownBlock] at h⟩
/-- Slice p as it stands: nil, or a row of its own. -/
theorem LL.slice (h : LL enc w base F n T e size f ls) {p : Nat} (hp : p < n) : (f p = .slice none 0 0 ∧ ls p = []) ∨ ∃ g cap, f p = .slice (some ⟨g, 0, none⟩) (ls p).length cap ∧ base ≤ g ∧ g < w.heap.size ∧ g ≠ F ∧ (ls p).length ≤ cap ∧ cap ≤ maxLen := by
  rcases (h.own p hp).2 with ⟨h1, h0⟩ | ⟨g, cap, cur, h1, hb, hg, hc, hm, _⟩
  · exact .inl ⟨h1, List.eq_nil_of_length_eq_zero h0⟩
  · refine .inr ⟨g, cap, h1, hb, (Array.getElem?_eq_some_iff.1 hg).1, fun e => h.ne p hp (by rw [h1, e]; rfl), hc, hm⟩
theorem LL.cell (h : LL enc w base F n T e size f ls) {p : Nat} (hp : p < n) {g cap : Nat} (hf : f p = .slice (some ⟨g, 0, none⟩) (ls p).length cap) {j : Nat} (hj : j < (ls p).length * size) : w.cell? ⟨g, j, none⟩ = ((ls p).flatMap enc)[j]? := by
  have := h.own p hp
  rw [hf] at this
  exact this.cellAt j hj
end

theorem fmS_get {α : Type} (enc : α → List Value) (s : Nat) (hs : ∀ x, (enc x).length = s) : ∀ (xs : List α) (k r : Nat) (h : k < xs.length), r < s → (xs.flatMap enc)[k * s + r]? = (enc xs[k])[r]?
  | [], k, r, h, _ => absurd h (by simp)
  | x :: xs, 0, r, _, hr => by
    rw [List.flatMap_cons, List.getElem?_append_left (by rw [hs]; omega)]; simp
  | x :: xs, k + 1, r, h, hr => by
    rw [List.flatMap_cons, List.getElem?_append_right (by rw [hs, Nat.succ_mul]; omega), hs, show (k + 1) * s + r - s = k * s + r by rw [Nat.succ_mul]; omega]
    exact fmS_get enc s hs xs k r (by simpa using h) hr
/-- Ints as elements. -/
def enc1 (x : Int) : List Value := [.int .i64 x]
theorem fm1 (xs : List Int) : xs.flatMap enc1 = i64s xs := by
  induction xs with
  | nil => rfl
  | cons x xs ih => rw [List.flatMap_cons, ih]; rfl
end Go.Proofs.Ytjmmegnonlbdnaa
