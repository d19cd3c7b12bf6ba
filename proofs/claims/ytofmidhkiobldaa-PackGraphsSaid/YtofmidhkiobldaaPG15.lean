/-
  gnomonref22.step, Widen, Narrow; gnomonref12.Empty; gnomonref14.Pair: what each call answers: the same as widen tells.
  gnomonref22.Widen, gnomonref22.Narrow: what each call answers, of octagons that may be.
  gnomonref22.Widen: what a call answers, of octagons that may be.
-/
import Derived.Test.YtofmidhkiobldaaPG13
import Derived.Test.YtofmidhkiobldaaRefCheck
namespace Go.Proofs.Ytofmidhkiobldaa
section
open Go.RowKit
attribute [local go_sem ↓] Go.wp_at_zero Go.wp_at_succ

theorem fOf_t (s : Int) : fOf true s = plus (near s) (near s) := by unfold fOf; rw [if_pos rfl, plus_near]
theorem fOf_f (s : Int) : fOf false s = near s := by unfold fOf; rw [if_neg (by simp)]

set_option maxHeartbeats 400000 in
theorem rempty_any (n : Int) (w : World) :
    Calls Try.prog 63 #[.int .i64 n] w fun e w' => e = .returned (.agg #[.int .i64 n, .bool true, .slice none 0 0]) ∧ Below w.heap.size w w' := by
  go_enter Try.func63, Try.ntmps63
  go_wp2
  refine bodyPost_ret (v := .agg #[.int .i64 n, .bool true, .slice none 0 0]) (by simp [results, Try.results63, go_sem]) rfl ⟨rfl, ?_⟩
  exact (Below.refl _ _).alloc (Nat.le_refl _) _

theorem pairErr_1 {o p : O} (h : ¬ check o = 0) : pairErr o p = check o := by unfold pairErr; rw [if_pos h]
theorem pairErr_2 {o p : O} (h : check o = 0) (h' : ¬ check p = 0) : pairErr o p = check p := by unfold pairErr; rw [if_neg (by simpa using h), if_pos h']
theorem pairErr_3 {o p : O} (h : check o = 0) (h' : check p = 0) (h3 : ¬ o.n = p.n) : pairErr o p = 140 := by unfold pairErr; rw [if_neg (by simpa using h), if_neg (by simpa using h'), if_pos h3]
theorem pairErr_0 {o p : O} (h : check o = 0) (h' : check p = 0) (h3 : o.n = p.n) : pairErr o p = 0 := by unfold pairErr; rw [if_neg (by simpa using h), if_neg (by simpa using h'), if_neg (by simpa using h3)]
end
section
open Go.RowKit
attribute [local go_sem ↓] Go.wp_at_zero Go.wp_at_succ

/-- The first p cells are those put together, the others the old ones. -/
def part (ys xs : List Int) (p : Nat) : List Int := ys.take p ++ xs.drop p
theorem part_len {ys xs : List Int} (h : ys.length = xs.length) (p : Nat) : (part ys xs p).length = xs.length := by unfold part; simp; omega
theorem part_zero (ys xs : List Int) : part ys xs 0 = xs := by simp [part]
theorem part_all {ys xs : List Int} (h : ys.length = xs.length) : part ys xs xs.length = ys := by unfold part; rw [← h]; simp; omega
theorem part_get {ys xs : List Int} (h : ys.length = xs.length) {p : Nat} (hp : p < xs.length) : gI (part ys xs p) p = gI xs p := by
  unfold gI part
  have : min p ys.length = p := by omega
  simp [List.getElem?_append_right, this]
theorem part_set {ys xs : List Int} (h : ys.length = xs.length) {p : Nat} (hp : p < xs.length) : (part ys xs p).set p (gI ys p) = part ys xs (p + 1) := by
  unfold part
  rw [List.set_append_right _ _ (by simp; omega)]
  have : p - (ys.take p).length = 0 := by simp; omega
  rw [this, List.drop_eq_getElem_cons hp, List.set_cons_zero, List.take_succ_eq_append_getElem (by omega), List.append_assoc]
  congr 2
  unfold gI; simp [h, hp]
theorem part_same {ys xs : List Int} (h : ys.length = xs.length) {p : Nat} (hp : p < xs.length) (he : gI ys p = gI xs p) : part ys xs p = part ys xs (p + 1) := by
  rw [← part_set h hp, he, ← part_get h hp]
  apply List.ext_getElem?
  intro i
  by_cases hi : p = i
  · subst hi
    have hq : p < (part ys xs p).length := by rw [part_len h]; exact hp
    rw [List.getElem?_set_self hq, List.getElem?_eq_getElem hq]; unfold gI; simp [List.getElem?_eq_getElem hq]
  · rw [List.getElem?_set_ne hi]
theorem cellsF_get (F : Int → Int → Bool → Int) (n : Int) (xs ys : List Int) {p : Nat} (h : p < xs.length) : gI (cellsF F n xs ys) p = F (gI xs p) (gI ys p) (single n p) := by
  have : gI (cellsF F n xs ys) (p : Int) = (cellsF F n xs ys).getD p 0 := rfl
  rw [this]; unfold cellsF; simp [h]

def OctRes (w : World) (o : O) (e : Ending) (w' : World) : Prop := ∃ A1 c1, e = .returned (.agg #[.int .i64 o.n, .bool o.e, .slice A1 o.m.length c1]) ∧ Rd w' w'.heap.size A1 o.m ∧ Below w.heap.size w w'
theorem octRes {w w' : World} {o : O} {e : Ending} (A1 : Option Addr) (c1 : Nat) (he : e = .returned (.agg #[.int .i64 o.n, .bool o.e, .slice A1 o.m.length c1])) (hr : Rd w' w'.heap.size A1 o.m) (hb : Below w.heap.size w w') : OctRes w o e w' := ⟨A1, c1, he, hr, hb⟩

theorem div_row {n k l : Int} (hn : 0 < n) (h0 : 0 ≤ l) (h1 : l < 2 * n) : (k * (2 * n) + l) / (2 * n) = k ∧ (k * (2 * n) + l) % (2 * n) = l := by
  constructor
  · rw [Int.add_comm, Int.add_mul_ediv_right _ _ (by omega), Int.ediv_eq_zero_of_lt h0 h1]; omega
  · rw [Int.add_comm, Int.add_mul_emod_self_right, Int.emod_eq_of_lt h0 h1]
theorem single_row {n k l : Int} (hn : 0 < n) (_hk : 0 ≤ k) (h0 : 0 ≤ l) (h1 : l < 2 * n) : single n (k * (2 * n) + l) = (l == xor1 k) := by
  unfold single
  rw [(div_row hn h0 h1).1, (div_row hn h0 h1).2, Bool.eq_iff_iff, beq_iff_eq, beq_iff_eq]
  unfold xor1; split <;> split <;> omega
end
section
open Go.RowKit
attribute [local go_sem ↓] Go.wp_at_zero Go.wp_at_succ

theorem fOf_true : fOf true = fun s => plus s s := by funext s; unfold fOf; rw [if_pos rfl]
theorem fOf_false : fOf false = near := by funext s; unfold fOf; rw [if_neg (by simp)]
theorem widenF_gt {steps : List Int} {x y : Int} {s : Bool} (h : ¬ y ≤ x) : widenF steps x y s = aboveF (fOf s) steps y := by
  unfold widenF; rw [if_neg h]
  cases s
  · rw [if_neg (by simp), fOf_false]
  · rw [if_pos rfl, fOf_true]
theorem widenF_le {steps : List Int} {x y : Int} {s : Bool} (h : y ≤ x) : widenF steps x y s = x := by unfold widenF; rw [if_pos h]
end
end Go.Proofs.Ytofmidhkiobldaa
