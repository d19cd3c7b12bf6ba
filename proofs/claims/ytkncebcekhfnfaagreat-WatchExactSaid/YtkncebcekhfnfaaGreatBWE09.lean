/-
  Three stores into an octagon's block.
  close.Close: what it answers.
  What closing does to the cells: as many, all bounds, none raised.
  order.Entails: what it answers.
  What an octagon is narrowed to may be, and is entailed by what entails it: plain.
  An octagon that may be, closed, may be: plain.
  Ranges, and what an octagon tells of them, in plain words.
  gnomonref13: a matrix being closed; plus; Across.
  gnomonref13.Of, Close: what they answer, of octagons that may be.
  gnomonref12.Top, gnomonref12.Bound: what they answer.
  What trans and the document's transfer tell, in plain words.
  What trans makes of octagons that may be may be. Plain.
  A row of slices, each of which has a row of its own (a slice of slices that grow by append): generic in the element.
-/
import Derived.Test.YtkncebcekhfnfaaGreatBWE08
import Derived.Test.YtkncebcekhfnfaaGreatBWE03
import Derived.Test.YtkncebcekhfnfaaGreatBWE02
import Derived.Deep.OwnRows
namespace Go.Proofs.YtkncebcekhfnfaaGreat
section
open Go.RowKit

section
variable {W : World} {g k : Nat} {t : TypeId} {cs : Array Value} {a0 a1 a2 v0 v1 v2 : Value} {base cap B : Nat} {A : Option Addr} {m : List Int}
theorem Own.far1 {i : Nat} {v : Value} (h : Own W base A cap m) (hn : ∀ k, A = some ⟨k, 0, none⟩ → k ≠ g) : Own (W.setCell ⟨g, i, none⟩ v) base A cap m := by
  refine h.grown (grown_setCell W ⟨g, i, none⟩ v) ?_
  rcases h.form with ⟨rfl, _⟩ | ⟨g', rfl, _⟩
  · exact .inl rfl
  · refine .inr fun e => hn g' rfl ?_
    simpa [Value.ownBlock] using e
theorem below1 {i : Nat} {v : Value} (hg : B ≤ g) (hB : B ≤ W.heap.size) : Below B W (W.setCell ⟨g, i, none⟩ v) :=
  below_grown (grown_setCell W ⟨g, i, none⟩ v) (fun k hk => by injection hk with hk; subst hk; exact hg) hB
end

theorem own_blk {w : World} {base cap g k : Nat} {xs : List Int} {t : TypeId} {cs : Array Value} (h : Own w base (some ⟨g, 0, none⟩) cap xs) (hk : Blk w k t cs) (ht : t ≠ 2) : g ≠ k := by
  rintro rfl
  rcases h.2 with ⟨h0, _⟩ | ⟨g', cap', cur, h1, _, h3, _⟩
  · cases h0
  · simp only [Value.slice.injEq, Option.some.injEq, Addr.mk.injEq] at h1
    obtain ⟨⟨rfl, _⟩, _⟩ := h1
    unfold Blk at hk
    rw [h3] at hk
    injection hk with hk
    injection hk with _ hk
    exact ht hk.symm
/-- A region that stores three cells into block g: before (false), and behind (true). -/
def SB (w0 : World) (g : Nat) (v0 v1 v2 : Value) : Bool → World → Prop
  | false => fun W => Below w0.heap.size w0 W
  | true => fun W => ∃ W0, Below w0.heap.size w0 W0 ∧ W = ((W0.setCell ⟨g, 0, none⟩ v0).setCell ⟨g, 1, none⟩ v1).setCell ⟨g, 2, none⟩ v2
end
section

end
section
open Go.RowKit

theorem gI_set (xs : List Int) (k : Nat) (v : Int) (i : Nat) : gI (xs.set k v) i = if i = k ∧ k < xs.length then v else gI xs i := by
  unfold gI
  simp only [Int.toNat_natCast, List.getD, List.getElem?_set]
  by_cases h : k = i
  · subst h
    by_cases hk : k < xs.length
    · simp [hk]
    · simp [hk]
  · rw [if_neg h, if_neg (fun e => h e.1.symm)]
end
section

end
section
open Go.RowKit

theorem check_rows {n : Int} {m : List Int} (h : check ⟨n, false, m⟩ = 0) : rowsOk ⟨n, false, m⟩ (2 * n).toNat = true := by
  unfold check at h
  split at h
  · omega
  · rw [if_neg (by simp)] at h
    split at h
    · assumption
    · omega
theorem idxc_ok {n : Int} {N i j : Nat} (hN : (N : Int) = 2 * n) : 2 * n * (i : Int) + (j : Int) = ((i * N + j : Nat) : Int) := by
  rw [← hN, Int.natCast_add, Int.natCast_mul, Int.mul_comm]
theorem cellOk_nat {n : Int} {e : Bool} {m : List Int} {N : Nat} (hN : (N : Int) = 2 * n) (i j : Nat) :
    cellOk ⟨n, e, m⟩ (i : Int) (j : Int) = (isBound (gI m ((i * N + j : Nat) : Int)) && !(decide (i = j) && (gI m ((i * N + j : Nat) : Int) != 0)) && (gI m ((i * N + j : Nat) : Int) == gI m ((nx j * N + nx i : Nat) : Int))) := by
  unfold cellOk
  dsimp only
  rw [xor1_nx, xor1_nx, idxc_ok hN, idxc_ok hN]
  have e : decide ((i : Int) = (j : Int)) = decide (i = j) := by rw [decide_eq_decide]; omega
  rw [e]
/-- The cells of an octagon that may be. -/
structure Cells (N : Nat) (m : List Int) : Prop where
  len : m.length = N * N
  bd : ∀ i j : Nat, i < N → j < N → isBound (gI m ((i * N + j : Nat) : Int)) = true
  diag : ∀ i : Nat, i < N → gI m ((i * N + i : Nat) : Int) = 0
  mir : ∀ i j : Nat, i < N → j < N → gI m ((i * N + j : Nat) : Int) = gI m ((nx j * N + nx i : Nat) : Int)
theorem size_nat {n : Int} {N : Nat} (hN : (N : Int) = 2 * n) : 4 * n * n = ((N * N : Nat) : Int) := by
  rw [Int.natCast_mul, hN]; rw [show (4 : Int) = 2 * 2 from rfl]; simp only [Int.mul_assoc, Int.mul_left_comm]
theorem cells_of {n : Int} {m : List Int} {N : Nat} (hN : (N : Int) = 2 * n) (h : check ⟨n, false, m⟩ = 0) : Cells N m := by
  obtain ⟨h0, h1, _, h3⟩ := check_ok h
  have hl := h3 rfl
  dsimp only at h0 h1 hl
  have hr := check_rows h
  have hNt : (2 * n).toNat = N := by omega
  rw [hNt] at hr
  have key : ∀ i j : Nat, i < N → j < N → cellOk ⟨n, false, m⟩ (i : Int) (j : Int) = true := fun i j hi hj => by
    unfold rowsOk at hr
    have hrow := List.all_eq_true.1 hr i (List.mem_range.2 hi)
    unfold rowOk at hrow
    rw [hNt] at hrow
    exact List.all_eq_true.1 hrow j (List.mem_range.2 hj)
  refine ⟨by have := size_nat hN; omega, fun i j hi hj => ?_, fun i hi => ?_, fun i j hi hj => ?_⟩
  · have := key i j hi hj
    rw [cellOk_nat hN] at this
    simp only [Bool.and_eq_true] at this
    exact this.1.1
  · have := key i i hi hi
    rw [cellOk_nat hN] at this
    simp only [Bool.and_eq_true, Bool.not_eq_true', Bool.and_eq_false_imp, decide_eq_true_eq, forall_const, bne_eq_false_iff_eq] at this
    exact this.1.2
  · have := key i j hi hj
    rw [cellOk_nat hN] at this
    simp only [Bool.and_eq_true, beq_iff_eq] at this
    exact this.2
theorem lt_sq {N i j : Nat} (hi : i < N) (hj : j < N) : i * N + j < N * N := by
  have := Nat.mul_le_mul_right N (show i + 1 ≤ N from hi)
  rw [Nat.add_mul] at this; omega
end
section
open Go.RowKit

/-- The cell (i, j) of N rows. -/
def G (N : Nat) (xs : List Int) (i j : Nat) : Int := gI xs ((i * N + j : Nat) : Int)
end
section

end
section
open Go.RowKit
attribute [local go_sem ↓] Go.wp_at_zero Go.wp_at_succ

theorem idxr_ok {n : Int} {N i j : Nat} (hN : (N : Int) = 2 * n) (hi : i < N) (hj : j < N) (hn : N ≤ 128) :
    0 ≤ (i : Int) * (2 * n) ∧ (i : Int) * (2 * n) ≤ 16384 ∧ ((i : Int) * (2 * n) + (j : Int)).toNat = i * N + j ∧ i * N + j < N * N ∧ 0 ≤ (i : Int) * (2 * n) + (j : Int) ∧ (i : Int) * (2 * n) + (j : Int) < ((N * N : Nat) : Int) := by
  have h := idx_ok hN hi hj hn
  rw [Int.mul_comm (2 * n) (i : Int)] at h
  exact h
end
section

end
section

end
section
open Go.RowKit

/-- Of two numbers what a kind of edge makes. -/
def kindW (kd a b : Int) : Int × Int := if kd = 3 then negW a else if kd = 4 then addW a b else if kd = 5 then subW a b else if kd = 6 then mulW a b else if kd = 7 then divW a b else remW a b
end
section
open Go.RowKit

theorem at_div {N a b : Nat} (hb : b < N) : (a * N + b) / N = a := by
  rw [Nat.add_comm, Nat.add_mul_div_right _ _ (by omega), Nat.div_eq_of_lt hb, Nat.zero_add]
end
section
open Go.RowKit

/-- Block F holds n slices 'f p'; slice p has the elements 'ls p', in a row of its own; no two share one. -/
structure LL {α : Type} (enc : α → List Value) (w : World) (base F n : Nat) (T e : TypeId) (size : Nat) (f : Nat → Value) (ls : Nat → List α) : Prop where
  row : w.rowIs F T n f
  ge : base ≤ F
  own : ∀ p, p < n → w.ownsRow base e size (f p) (ls p).length ((ls p).flatMap enc)
  apart : ∀ p q k, p < n → q < n → p ≠ q → (f p).ownBlock = some k → (f q).ownBlock ≠ some k
  ne : ∀ p, p < n → (f p).ownBlock ≠ some F

section
variable {α : Type} {enc : α → List Value} {w w' w1 : World} {base F n : Nat} {T e : TypeId} {size : Nat} {f : Nat → Value} {ls : Nat → List α}
theorem LL.below (h : LL enc w base F n T e size f ls) (hb : Below w.heap.size w w') : LL enc w' base F n T e size f ls :=
  ⟨h.row.of_block (hb.block _ h.row.lt), h.ge, fun p hp => World.ownsRow.kept (h.own p hp) (grown_of_below hb none) (by cases h' : (f p).ownBlock <;> simp), h.apart, h.ne⟩
/-- One append onto slice x, stored back. -/
theorem LL.put (h : LL enc w base F n T e size f ls) {x : Nat} (hx : x < n) {v : Value} {y : α} (hg : w.grownBy w1 (f x).ownBlock)
    (ho : w1.ownsRow base e size v ((ls x).length + 1) ((ls x).flatMap enc ++ enc y)) (hv : v.ownBlock = (f x).ownBlock ∨ v.ownBlock = some w.heap.size) :
    LL enc (w1.setCell ⟨F, x, none⟩ v) base F n T e size (fun j => if j = x then v else f j) (fun j => if j = x then ls x ++ [y] else ls j) := by
  have hFw := h.row.lt
  have hF1 : w1.heap[F]? = w.heap[F]? := hg.block F hFw (fun e => h.ne x hx e.symm)
  have hvF : v.ownBlock ≠ some F := by
    rcases hv with e | e <;> rw [e]
    · exact h.ne x hx
    · intro e; simp at e; omega
  have hlt : ∀ p, p < n → ∀ k, (f p).ownBlock = some k → k < w.heap.size := fun p hp k hk => ((h.own p hp).lt k hk).2
  refine ⟨(h.row.of_block hF1).set x v, h.ge, fun p hp => ?_, fun p q k hp hq hpq => ?_, fun p hp => ?_⟩
  · by_cases e : p = x
    · subst e
      simp only [if_pos]
      have : (ls p ++ [y]).length = (ls p).length + 1 := by simp
      rw [this, List.flatMap_append]
      have : [y].flatMap enc = enc y := by simp
      rw [this]
      exact World.ownsRow.kept ho (grown_setCell w1 ⟨F, p, none⟩ v) (.inr hvF)
    · simp only [if_neg e]
      refine World.ownsRow.kept (World.ownsRow.kept (h.own p hp) hg ?_) (grown_setCell w1 ⟨F, x, none⟩ v) (.inr (h.ne p hp))
      cases hk : (f p).ownBlock
      · exact .inl rfl
      · rename_i k
        exact .inr (fun e' => h.apart p x k hp hx e hk e'.symm)
  · by_cases e : p = x
    · subst e
      simp only [if_pos, if_neg (Ne.symm hpq)]
      intro hk hk'
      rcases hv with e | e
      · exact h.apart p q k hp hq hpq (e ▸ hk) hk'
      · rw [e] at hk; simp at hk; have := hlt q hq k hk'; omega
    · by_cases e' : q = x
      · subst e'
        simp only [if_pos, if_neg e]
        intro hk hk'
        rcases hv with e2 | e2
        · exact h.apart p q k hp hq hpq hk (e2 ▸ hk')
        · rw [e2] at hk'; simp at hk'; have := hlt p hp k hk; omega
      · simp only [if_neg e, if_neg e']
        exact h.apart p q k hp hq hpq
  · by_cases e : p = x
    · subst e; simp only [if_pos]; exact hvF
    · simp only [if_neg e]; exact h.ne p hp
theorem LL.put_below {B : Nat} (h : LL enc w base F n T e size f ls) (hB : B ≤ base) (hBw : B ≤ w.heap.size) {x : Nat} (hx : x < n) {v : Value} (hg : w.grownBy w1 (f x).ownBlock) : Below B w (w1.setCell ⟨F, x, none⟩ v) := by
  have h1 : Below B w w1 := below_grown hg (fun k hk => by have := ((h.own x hx).lt k hk).1; omega) hBw
  exact h1.setCell (by have := h.ge; simp; omega) _
theorem LL.congr {ls' : Nat → List α} (h : LL enc w base F n T e size f ls) (hl : ∀ p, p < n → ls p = ls' p) : LL enc w base F n T e size f ls' :=
  ⟨h.row, h.ge, fun p hp => hl p hp ▸ h.own p hp, h.apart, h.ne⟩
theorem LL.less {b2 : Nat} (h : LL enc w base F n T e size f ls) (hb : b2 ≤ base) : LL enc w b2 F n T e size f ls :=
  ⟨h.row, by have := h.ge; omega, fun p hp => by
    refine ⟨(h.own p hp).1, ?_⟩
    rcases (h.own p hp).2 with h1 | ⟨g, cap', cur, h1, h2, h3⟩
    · exact .inl h1
    · exact .inr ⟨g, cap', cur, h1, by omega, h3⟩, h.apart, h.ne⟩
theorem LL.start {w : World} {base n : Nat} {T e : TypeId} {size : Nat} (hb : base ≤ w.heap.size) :
    LL enc (w.alloc (.cells (madeCells #[.slice none 0 0] n) T)) base w.heap.size n T e size (fun _ => .slice none 0 0) (fun _ => []) :=
  ⟨World.rowIs_made _ _ _ _, hb, fun p _ => World.ownsRow_nil _ _ _ _, fun p q k _ _ _ h => by simp [Value.ownBlock] at h, fun p _ h => by simp [Value.ownBlock] at h⟩
/-- Slice p as it stands: nil, or a row of its own. -/
theorem LL.slice (h : LL enc w base F n T e size f ls) {p : Nat} (hp : p < n) : (f p = .slice none 0 0 ∧ ls p = []) ∨ ∃ g cap, f p = .slice (some ⟨g, 0, none⟩) (ls p).length cap ∧ base ≤ g ∧ g < w.heap.size ∧ g ≠ F ∧ (ls p).length ≤ cap ∧ cap ≤ maxLen := by
  rcases (h.own p hp).2 with ⟨h1, h0⟩ | ⟨g, cap, cur, h1, hb, hg, hc, hm, _⟩
  · exact .inl ⟨h1, List.eq_nil_of_length_eq_zero h0⟩
  · refine .inr ⟨g, cap, h1, hb, (Array.getElem?_eq_some_iff.1 hg).1, fun e => h.ne p hp (by rw [h1, e]; rfl), hc, hm⟩
theorem LL.cell (h : LL enc w base F n T e size f ls) {p : Nat} (hp : p < n) {g cap : Nat} (hf : f p = .slice (some ⟨g, 0, none⟩) (ls p).length cap) {j : Nat} (hj : j < (ls p).length * size) : w.cell? ⟨g, j, none⟩ = ((ls p).flatMap enc)[j]? := by
  have := h.own p hp
  rw [hf] at this
  exact this.cellAt j hj
end

theorem fmS_get {α : Type} (enc : α → List Value) (s : Nat) (hs : ∀ x, (enc x).length = s) : ∀ (xs : List α) (k r : Nat) (h : k < xs.length), r < s → (xs.flatMap enc)[k * s + r]? = (enc xs[k])[r]?
  | [], k, r, h, _ => absurd h (by simp)
  | x :: xs, 0, r, _, hr => by
    rw [List.flatMap_cons, List.getElem?_append_left (by rw [hs]; omega)]; simp
  | x :: xs, k + 1, r, h, hr => by
    rw [List.flatMap_cons, List.getElem?_append_right (by rw [hs, Nat.succ_mul]; omega), hs, show (k + 1) * s + r - s = k * s + r by rw [Nat.succ_mul]; omega]
    exact fmS_get enc s hs xs k r (by simpa using h) hr
/-- Ints as elements. -/
def enc1 (x : Int) : List Value := [.int .i64 x]
theorem fm1 (xs : List Int) : xs.flatMap enc1 = i64s xs := by
  induction xs with
  | nil => rfl
  | cons x xs ih => rw [List.flatMap_cons, ih]; rfl
end
end Go.Proofs.YtkncebcekhfnfaaGreat
