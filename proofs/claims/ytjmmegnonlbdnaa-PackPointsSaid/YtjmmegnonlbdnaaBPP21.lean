/-
  pack.links: last, join: what each call answers; links as a function, roots as a function.
  order.Entails: what it answers.
  What an octagon is narrowed to may be, and is entailed by what entails it: plain.
-/
import Derived.Test.YtjmmegnonlbdnaaBPP20
import Derived.Test.YtjmmegnonlbdnaaCloseLaw
namespace Go.Proofs.Ytjmmegnonlbdnaa
section
open Go.RowKit
attribute [local go_sem ↓] Go.wp_at_zero Go.wp_at_succ

/-- From v the links lead to the root r, in k steps. -/
inductive Ends (f : Nat → Nat) : Nat → Nat → Nat → Prop
  | here {v : Nat} (h : f v = v) : Ends f 0 v v
  | step {k v r : Nat} (h : f v ≠ v) (h2 : Ends f k (f v) r) : Ends f (k + 1) v r
theorem Ends.parts {f : Nat → Nat} {k v r : Nat} (h : Ends f k v r) : (k = 0 ∧ v = r ∧ f v = v) ∨ ∃ k', k = k' + 1 ∧ f v ≠ v ∧ Ends f k' (f v) r := by
  cases h with
  | here h => exact .inl ⟨rfl, rfl, h⟩
  | step h h2 => exact .inr ⟨_, rfl, h, h2⟩
theorem Ends.root {f : Nat → Nat} {k v r : Nat} (h : Ends f k v r) : f r = r := by
  induction h with
  | here h => exact h
  | step _ _ ih => exact ih
theorem Ends.lt {f : Nat → Nat} {n : Nat} (hn : ∀ x, x < n → f x < n) {k v r : Nat} (h : Ends f k v r) : v < n → r < n := by
  induction h with
  | here _ => exact id
  | step _ _ ih => exact fun hv => ih (hn _ hv)
/-- The links, f, of n variables, have the roots R. -/
structure Links (n : Nat) (f R : Nat → Nat) : Prop where
  lt : ∀ x, x < n → f x < n
  root : ∀ x, x < n → ∃ k, Ends f k x (R x)
theorem Links.rlt {n : Nat} {f R : Nat → Nat} (h : Links n f R) {x : Nat} (hx : x < n) : R x < n := by
  obtain ⟨k, hk⟩ := h.root x hx
  exact hk.lt h.lt hx
theorem Links.rr {n : Nat} {f R : Nat → Nat} (h : Links n f R) {x : Nat} (hx : x < n) : f (R x) = R x := by
  obtain ⟨k, hk⟩ := h.root x hx
  exact hk.root
def joinR (R : Nat → Nat) (a b : Nat) : Nat → Nat := fun v => if R v = R a then R b else R v
theorem Ends.set {f : Nat → Nat} {ra rb : Nat} (hne : ra ≠ rb) (hra : f ra = ra) (hrb : f rb = rb) {k v r : Nat} (h : Ends f k v r) :
    ∃ k', Ends (fun j => if j = ra then rb else f j) k' v (if r = ra then rb else r) := by
  induction h with
  | @here v hv =>
    by_cases e : v = ra
    · subst e
      refine ⟨1, ?_⟩
      simp only [if_pos]
      refine .step (by simp; exact fun h => hne h.symm) ?_
      simp only [if_pos]
      exact .here (by rw [if_neg (fun h => hne h.symm)]; exact hrb)
    · refine ⟨0, ?_⟩
      rw [if_neg e]
      exact .here (by rw [if_neg e]; exact hv)
  | @step k v r hv _ ih =>
    obtain ⟨k', hk'⟩ := ih
    have e : v ≠ ra := fun e => hv (by rw [e]; exact hra)
    refine ⟨k' + 1, .step (by rw [if_neg e]; exact hv) ?_⟩
    rw [if_neg e]; exact hk'
theorem Links.join {n : Nat} {f R : Nat → Nat} (h : Links n f R) {a b : Nat} (ha : a < n) (hb : b < n) : Links n (fun j => if j = R a then R b else f j) (joinR R a b) := by
  refine ⟨fun x hx => ?_, fun x hx => ?_⟩
  · by_cases e : x = R a
    · rw [if_pos e]; exact h.rlt hb
    · rw [if_neg e]; exact h.lt x hx
  · obtain ⟨k, hk⟩ := h.root x hx
    by_cases e : R a = R b
    · refine ⟨k, ?_⟩
      have e1 : (fun j => if j = R a then R b else f j) = f := by
        funext j
        by_cases ej : j = R a
        · rw [if_pos ej, ej, h.rr ha, ← e]
        · rw [if_neg ej]
      have e2 : joinR R a b x = R x := by
        unfold joinR
        by_cases ex : R x = R a
        · rw [if_pos ex, ex, e]
        · rw [if_neg ex]
      rw [e1, e2]; exact hk
    · exact hk.set e (h.rr ha) (h.rr hb)

set_option maxRecDepth 8000 in
set_option maxHeartbeats 4000000 in
theorem last_any (L : Nat) (f : Nat → Nat) (k v r : Nat) (w : World) (hv : v < 64) (hlt : ∀ x, x < 64 → f x < 64) (hrow : w.rowIs L 59 64 (fun x => .int .i64 (f x))) (he : Ends f k v r) :
    Calls Try.prog 23 #[.pointer (some ⟨L, 0, none⟩), .int .i64 v] w fun e w' => e = .returned (.int .i64 r) ∧ w = w' := by
  have HE := hid he
  have HLT := hid hlt
  clear he hlt
  go_enter Try.func23, Try.ntmps23
  go_wp2
  go_loopg [1] k (fun gk s wr => ∃ u : Nat, s = .int .i64 u ∧ u < 64 ∧ Ends f gk u r ∧ w = wr)
  case atStart => exact ⟨v, rfl, hv, HE.out, rfl⟩
  case round =>
    obtain ⟨u, rfl, hu, hEu, rfl⟩ := hrel
    have hu' : (u : Int) < 64 := by omega
    have hcell := hrow.cell hu
    rcases hEu.parts with ⟨-, hr, h⟩ | ⟨k', hk', h, h2⟩
    · rw [h] at hcell
      have t : ((u : Int) != (u : Int)) = false := by simp
      have HR := hid hr
      clear hr h
      go_wp2
      go_ret
      exact ⟨ret64 (by rw [HR.out]), rfl⟩
    · have h3 := HLT.out u hu
      have H2 := hid h2
      have HK := hid hk'
      have t : ((f u : Int) != (u : Int)) = true := by rw [bne_iff_ne]; omega
      have t2 : (f u == u) = false := by rw [beq_eq_false_iff_ne]; exact h
      clear h h2 hk' hEu
      generalize f u = fu at *
      go_wp2
      go_roundg k'
      case rel => exact ⟨fu, rfl, h3, H2.out, rfl⟩
      case measure => have := HK.out; omega

set_option maxRecDepth 8000 in
set_option maxHeartbeats 4000000 in
theorem join_any (L n : Nat) (f R : Nat → Nat) (a b : Nat) (w : World) (hl : Links n f R) (ha : a < n) (hb : b < n) (hn : n ≤ 64) (hlt : ∀ x, x < 64 → f x < 64) (hrow : w.rowIs L 59 64 (fun x => .int .i64 (f x))) :
    Calls Try.prog 22 #[.pointer (some ⟨L, 0, none⟩), .int .i64 a, .int .i64 b] w fun e w' => e = .returned (.tuple #[]) ∧ w'.rowIs L 59 64 (fun x => .int .i64 ((fun j => if j = R a then R b else f j) x : Nat)) ∧ Below L w w' := by
  obtain ⟨ka, hka⟩ := hl.root a ha
  obtain ⟨kb, hkb⟩ := hl.root b hb
  have hra : R a < 64 := Nat.lt_of_lt_of_le (hl.rlt ha) hn
  have hrb : R b < 64 := Nat.lt_of_lt_of_le (hl.rlt hb) hn
  have H1 : Hid (∀ W, W = w.drew → Calls Try.prog 23 #[.pointer (some ⟨L, 0, none⟩), .int .i64 a] W fun e w' => e = .returned (.int .i64 (R a : Nat)) ∧ W = w') := hid fun W hW => last_any L f ka a (R a) W (by omega) hlt (by rw [hW]; exact hrow) hka
  have H2 : Hid (∀ W, W = w.drew → Calls Try.prog 23 #[.pointer (some ⟨L, 0, none⟩), .int .i64 b] W fun e w' => e = .returned (.int .i64 (R b : Nat)) ∧ W = w') := hid fun W hW => last_any L f kb b (R b) W (by omega) hlt (by rw [hW]; exact hrow) hkb
  clear hka hkb hl hlt
  generalize R a = ra at *
  generalize R b = rb at *
  have hra' : (ra : Int) < 64 := by omega
  have HROW := hid hrow
  have hcell := hrow.cell hra
  have hfr := hrow.frozen
  clear hrow
  go_enter Try.func22, Try.ntmps22
  go_upto_region 0 with fail
  refine wp_region_flow 8 (fun W => W = w.drew) (by kernel_rfl) (by kernel_rfl) rfl ?_
  (repeat (first | (refine Flow.skip (by rfl) ?_; simp only [Act.put, List.setIfInBounds_toArray, List.set_cons_zero, List.set_cons_succ]) | (refine' Flow.take _ (by rfl) (fun W hW R hR => ?_) ?_; rotate_left; (go_simp; (try go_bits); with_reducible exact hR); simp only [Act.put, List.setIfInBounds_toArray, List.set_cons_zero, List.set_cons_succ])))
  (refine Flow.call 23 #[.pointer (some ⟨L, 0, none⟩), .int .i64 a] (.int .i64 (ra : Nat)) (by rfl) (fun X hX => by go_simp) (fun X hX => (H1.out X hX).mono fun e w' ⟨he, hb⟩ => ⟨he, hb ▸ hX⟩) ?_; simp only [Act.put, List.setIfInBounds_toArray, List.set_cons_zero, List.set_cons_succ])
  (repeat (first | (refine Flow.skip (by rfl) ?_; simp only [Act.put, List.setIfInBounds_toArray, List.set_cons_zero, List.set_cons_succ]) | (refine' Flow.take _ (by rfl) (fun W hW R hR => ?_) ?_; rotate_left; (go_simp; (try go_bits); with_reducible exact hR); simp only [Act.put, List.setIfInBounds_toArray, List.set_cons_zero, List.set_cons_succ])))
  (refine Flow.call 23 #[.pointer (some ⟨L, 0, none⟩), .int .i64 b] (.int .i64 (rb : Nat)) (by rfl) (fun X hX => by go_simp) (fun X hX => (H2.out X hX).mono fun e w' ⟨he, hb⟩ => ⟨he, hb ▸ hX⟩) ?_; simp only [Act.put, List.setIfInBounds_toArray, List.set_cons_zero, List.set_cons_succ])
  (repeat (first | (refine Flow.skip (by rfl) ?_; simp only [Act.put, List.setIfInBounds_toArray, List.set_cons_zero, List.set_cons_succ]) | (refine' Flow.take _ (by rfl) (fun W hW R hR => ?_) ?_; rotate_left; (go_simp; (try go_bits); with_reducible exact hR); simp only [Act.put, List.setIfInBounds_toArray, List.set_cons_zero, List.set_cons_succ])))
  intro W hW
  subst hW
  go_wp2
  refine bodyPost_end (v := .tuple #[]) (by simp [results, Try.results22, go_sem]) rfl ⟨rfl, ?_, ((Below.refl _ _).setCell (by simp) _).drew⟩
  refine World.rowIs.congr (HROW.out.set ra (.int .i64 (rb : Nat))) ?_
  intro i hi
  by_cases e : i = ra
  · simp [e]
  · simp [e]
end
section

end
section
open Go.RowKit

theorem check_rows {n : Int} {m : List Int} (h : check ⟨n, false, m⟩ = 0) : rowsOk ⟨n, false, m⟩ (2 * n).toNat = true := by
  unfold check at h
  split at h
  · omega
  · rw [if_neg (by simp)] at h
    split at h
    · assumption
    · omega
theorem idxc_ok {n : Int} {N i j : Nat} (hN : (N : Int) = 2 * n) : 2 * n * (i : Int) + (j : Int) = ((i * N + j : Nat) : Int) := by
  rw [← hN, Int.natCast_add, Int.natCast_mul, Int.mul_comm]
theorem cellOk_nat {n : Int} {e : Bool} {m : List Int} {N : Nat} (hN : (N : Int) = 2 * n) (i j : Nat) :
    cellOk ⟨n, e, m⟩ (i : Int) (j : Int) = (isBound (gI m ((i * N + j : Nat) : Int)) && !(decide (i = j) && (gI m ((i * N + j : Nat) : Int) != 0)) && (gI m ((i * N + j : Nat) : Int) == gI m ((nx j * N + nx i : Nat) : Int))) := by
  unfold cellOk
  dsimp only
  rw [xor1_nx, xor1_nx, idxc_ok hN, idxc_ok hN]
  have e : decide ((i : Int) = (j : Int)) = decide (i = j) := by rw [decide_eq_decide]; omega
  rw [e]
/-- The cells of an octagon that may be. -/
structure Cells (N : Nat) (m : List Int) : Prop where
  len : m.length = N * N
  bd : ∀ i j : Nat, i < N → j < N → isBound (gI m ((i * N + j : Nat) : Int)) = true
  diag : ∀ i : Nat, i < N → gI m ((i * N + i : Nat) : Int) = 0
  mir : ∀ i j : Nat, i < N → j < N → gI m ((i * N + j : Nat) : Int) = gI m ((nx j * N + nx i : Nat) : Int)
theorem size_nat {n : Int} {N : Nat} (hN : (N : Int) = 2 * n) : 4 * n * n = ((N * N : Nat) : Int) := by
  rw [Int.natCast_mul, hN]; rw [show (4 : Int) = 2 * 2 from rfl]; simp only [Int.mul_assoc, Int.mul_left_comm]
theorem cells_of {n : Int} {m : List Int} {N : Nat} (hN : (N : Int) = 2 * n) (h : check ⟨n, false, m⟩ = 0) : Cells N m := by
  obtain ⟨h0, h1, _, h3⟩ := check_ok h
  have hl := h3 rfl
  dsimp only at h0 h1 hl
  have hr := check_rows h
  have hNt : (2 * n).toNat = N := by omega
  rw [hNt] at hr
  have key : ∀ i j : Nat, i < N → j < N → cellOk ⟨n, false, m⟩ (i : Int) (j : Int) = true := fun i j hi hj => by
    unfold rowsOk at hr
    have hrow := List.all_eq_true.1 hr i (List.mem_range.2 hi)
    unfold rowOk at hrow
    rw [hNt] at hrow
    exact List.all_eq_true.1 hrow j (List.mem_range.2 hj)
  refine ⟨by have := size_nat hN; omega, fun i j hi hj => ?_, fun i hi => ?_, fun i j hi hj => ?_⟩
  · have := key i j hi hj
    rw [cellOk_nat hN] at this
    simp only [Bool.and_eq_true] at this
    exact this.1.1
  · have := key i i hi hi
    rw [cellOk_nat hN] at this
    simp only [Bool.and_eq_true, Bool.not_eq_true', Bool.and_eq_false_imp, decide_eq_true_eq, forall_const, bne_eq_false_iff_eq] at this
    exact this.1.2
  · have := key i j hi hj
    rw [cellOk_nat hN] at this
    simp only [Bool.and_eq_true, beq_iff_eq] at this
    exact this.2
theorem check_of {n : Int} {m : List Int} {N : Nat} (hN : (N : Int) = 2 * n) (hn : N ≤ 128) (h : Cells N m) : check ⟨n, false, m⟩ = 0 := by
  have hNt : (2 * n).toNat = N := by omega
  refine check_good (by omega) (by omega) (by have := size_nat hN; have := h.len; omega) ?_
  unfold rowsOk
  rw [hNt]
  refine List.all_eq_true.2 fun i hi => ?_
  unfold rowOk
  refine List.all_eq_true.2 fun j hj => ?_
  have hi' := List.mem_range.1 hi
  have hj' := List.mem_range.1 hj
  rw [cellOk_nat hN]
  simp only [Bool.and_eq_true, Bool.not_eq_true', Bool.and_eq_false_imp, decide_eq_true_eq, bne_eq_false_iff_eq, beq_iff_eq]
  exact ⟨⟨h.bd i j hi' hj', fun e => by subst e; exact h.diag i hi'⟩, h.mir i j hi' hj'⟩

theorem lt_sq {N i j : Nat} (hi : i < N) (hj : j < N) : i * N + j < N * N := by
  have := Nat.mul_le_mul_right N (show i + 1 ≤ N from hi)
  rw [Nat.add_mul] at this; omega
end
end Go.Proofs.Ytjmmegnonlbdnaa
