/-
  Closing where no sum saturates: what comes out is tight (no cell is above the sum of two that meet); what is tight stays as it is when it is closed. Plain.
  A point that takes an edge is one of what is known behind it: sums, products, the edge. Plain.
  The octagon of one point, behind edges. Plain.
  Letting a variable go, cell by cell as the program does it: plain law.
-/
import Derived.Test.YtnmpgijiimglcaaGreatBTG14
import Derived.Test.YtnmpgijiimglcaaGreatBTG39
namespace Go.Proofs.YtnmpgijiimglcaaGreat
section
open Go.RowKit

/-- c is at most the sum of a and b, where neither is without end. -/
def LeS (c a b : Int) : Prop := a = 9223372036854775807 ∨ b = 9223372036854775807 ∨ (c ≤ a + b ∧ c ≠ 9223372036854775807)
theorem LeS.le {c c' a b : Int} (h : LeS c a b) (k : c' ≤ c) (hc : c ≤ 9223372036854775807) : LeS c' a b := by unfold LeS at *; omega
theorem bnd {a : Int} (h : isBound a = true) : a = 9223372036854775807 ∨ (-4611686018427387904 ≤ a ∧ a ≤ 4611686018427387904) := by
  unfold isBound at h; exact of_decide_eq_true h
theorem leS_plus {q q1 q2 a1 a2 : Int} (hq : isBound q = true) (h1 : isBound a1 = true) (h2 : isBound a2 = true) (h : LeS q q1 q2) (k1 : q1 ≤ a1) (k2 : q2 ≤ a2) : q ≤ plus a1 a2 := by
  have e1 := near_of h1
  have e2 := near_of h2
  have bq := bnd hq
  have b1 := bnd h1
  have b2 := bnd h2
  unfold plus
  rw [e1, e2]
  unfold LeS at h
  split
  · omega
  · unfold near
    split
    · omega
    · split <;> omega

def Tri (N : Nat) (xs : List Int) : Prop := ∀ i j k : Nat, i < N → j < N → k < N → LeS (G N xs i j) (G N xs i k) (G N xs k j)
/-- The cells of an octagon, as tight as they are. -/
structure Tight (N : Nat) (xs : List Int) : Prop where
  cells : Cells N xs
  tri : Tri N xs
  ev : ∀ i : Nat, i < N → even (G N xs i (nx i)) = G N xs i (nx i)
  str : ∀ i j : Nat, i < N → j < N → i ≠ j → G N xs i j ≤ half (plus (G N xs i (nx i)) (G N xs (nx j) j))

theorem set_same (xs : List Int) (k : Nat) : xs.set k (gI xs (k : Int)) = xs := by
  refine List.ext_getElem (by simp) fun i h1 h2 => ?_
  rw [List.getElem_set]
  split
  · rename_i e; subst e; unfold gI; simp [h2]
  · rfl
theorem rep_id {α : Type} {f : Nat → α → α} {x : α} : ∀ (t : Nat), (∀ i, i < t → f i x = x) → rep f t x = x
  | 0, _ => rfl
  | t + 1, h => by
    show f t (rep f t x) = x
    rw [rep_id t (fun i hi => h i (by omega)), h t (by omega)]

section
variable {N : Nat} {xs : List Int}
theorem mirrors_id (_hN : N % 2 = 0) (h : Sym N xs) : mirrors N N xs = xs :=
  rep_id N fun i hi => rep_id N fun j hj => by
    unfold mStep
    have e : gI xs ((nx j * N + nx i : Nat) : Int) = gI xs ((i * N + j : Nat) : Int) := (h i j hi hj).symm
    rw [e, Int.min_self, set_same, ← e, set_same]
theorem negs_of (h : ∀ i, i < N → G N xs i i = 0) : ∀ t, t ≤ N → negs N xs t = false
  | 0, _ => rfl
  | t + 1, ht => by
    unfold negs
    rw [negs_of h t (by omega), Bool.false_or, decide_eq_false_iff_not]
    have : gI xs ((t * N + t : Nat) : Int) = 0 := h t (by omega)
    omega
theorem sideNegs_of (h : ∀ i, i < N → 0 ≤ plus (G N xs i (nx i)) (G N xs (nx i) i)) : ∀ t, t ≤ N → sideNegs N xs t = false
  | 0, _ => rfl
  | t + 1, ht => by
    unfold sideNegs
    rw [sideNegs_of h t (by omega), Bool.or_false, decide_eq_false_iff_not]
    have : 0 ≤ plus (gI xs ((t * N + nx t : Nat) : Int)) (gI xs ((nx t * N + t : Nat) : Int)) := h t (by omega)
    omega
theorem Cells.b (h : Cells N xs) {i j : Nat} (hi : i < N) (hj : j < N) : isBound (G N xs i j) = true := h.bd i j hi hj
theorem Cells.sym (h : Cells N xs) : Sym N xs := fun i j hi hj => h.mir i j hi hj
theorem Cells.d (h : Cells N xs) {i : Nat} (hi : i < N) : G N xs i i = 0 := h.diag i hi

/-- What is tight is closed. -/
theorem Tight.close (hN : N % 2 = 0) (h : Tight N xs) : closeM N xs = some xs := by
  have c := h.cells
  have hp : paths N N xs = xs := rep_id N fun k hk => rep_id N fun i hi => rep_id N fun j hj => by
    unfold pStep
    have hle : G N xs i j ≤ plus (G N xs i k) (G N xs k j) := leS_plus (c.b hi hj) (c.b hi hk) (c.b hk hj) (h.tri i j k hi hj hk) (Int.le_refl _) (Int.le_refl _)
    rw [show min (gI xs ((i * N + j : Nat) : Int)) (plus (gI xs ((i * N + k : Nat) : Int)) (gI xs ((k * N + j : Nat) : Int))) = gI xs ((i * N + j : Nat) : Int) from Int.min_eq_left hle, set_same]
  have hm := mirrors_id hN c.sym
  have he : evens N N xs = xs := rep_id N fun i hi => by
    unfold eStep
    have := h.ev i hi
    unfold G at this
    rw [this, set_same]
  have hs : strengthens N N xs = xs := rep_id N fun i hi => rep_id N fun j hj => by
    unfold sStep
    split
    · rfl
    · rename_i hij
      have := h.str i j hi hj hij
      rw [show min (gI xs ((i * N + j : Nat) : Int)) (half (plus (gI xs ((i * N + nx i : Nat) : Int)) (gI xs ((nx j * N + j : Nat) : Int)))) = gI xs ((i * N + j : Nat) : Int) from Int.min_eq_left this, set_same]
  unfold closeM
  rw [hp, hm, negs_of (fun i hi => c.d hi) N (Nat.le_refl _), he, sideNegs_of (fun i hi => ?_) N (Nat.le_refl _), hs]
  · rfl
  · have ht := h.tri i i (nx i) hi hi (nxl hN hi)
    rw [c.d hi] at ht
    exact leS_plus (by decide) (c.b hi (nxl hN hi)) (c.b (nxl hN hi) hi) ht (Int.le_refl _) (Int.le_refl _)
end

/-! ### One round of paths. -/
section
variable {N k : Nat} {xs : List Int}
end

section
variable {N : Nat} {xs : List Int} (h : Cells N xs) (hb : AllB xs) (hd : ∀ i, i < N → 0 ≤ G N (paths N N xs) i i)
include h hb hd
end
end
section
open Go.RowKit

section
variable {n : Int} {o : O} {x : List Int}
theorem HasO.turns (h : HasO o x) (ok : OkO n o) {d : Nat} (hd : (d : Int) < n) : HasO (turnsO o d) (x.set d (-gI x (d : Int))) := by
  obtain ⟨N, m, hN, hn, rfl, hm, hx, hl⟩ := h.form ok
  unfold turnsO
  dsimp only
  rw [show (2 * n).toNat = N by omega]
  refine HasO.close_ (n := n) (HasO.mk_ hN (fun a b ha hb => ?_) (by rw [List.length_set]; exact hl)) (OkO.of_cells hN hn (turnM_cells (by omega) hm))
  rw [turnM_G hm.len ha hb]
  have e : ∀ a, sideX (x.set d (-gI x (d : Int))) a = sideX x (otherV d a) := fun a => by
    unfold otherV
    by_cases e : a / 2 = d
    · rw [if_pos e, sideX_nx]
      subst e
      unfold sideX
      rw [gI_at _ _ _ (by omega)]
      split <;> omega
    · rw [if_neg e, sideX_far _ _ _ e]
  have := hx (otherV d a) (otherV d b) (otherV_lt (by omega) ha) (otherV_lt (by omega) hb)
  unfold apartX at *
  rw [e, e]; exact this
section
variable {N : Nat} {m : List Int} (hm : Cells N m) (hx : HasM N m x)
include hm hx
end
end
/-- Where a point goes behind an edge that it takes. -/
def Behind (e : Edg) (x y : List Int) : Prop :=
  e.kd ≠ 14 ∧ (e.kd = 12 → cmpB e.op (opdX x e.av e.an) (opdX x e.bv e.bn) = true) ∧
  (if e.kd = 9 ∨ e.kd = 10 then ∃ v, y = x.set e.dst.toNat v
   else if e.kd = 2 then y = x.set e.dst.toNat (opdX x e.av e.an)
   else if 3 ≤ e.kd ∧ e.kd ≤ 8 then (kindW e.kd (opdX x e.av e.an) (opdX x e.bv e.bn)).2 = 0 ∧ y = x.set e.dst.toNat (kindW e.kd (opdX x e.av e.an) (opdX x e.bv e.bn)).1
   else y = x)
theorem HasO.number {n : Int} {o : O} {x : List Int} (h : HasO o x) (ok : OkO n o) {d : Nat} (hd : (d : Int) < n) {kd a b : Int} (hk : (kindW kd a b).2 = 0) : HasO (numberO o kd d a b) (x.set d (kindW kd a b).1) := by
  unfold numberO
  rw [if_pos hk]
  exact h.give ok hd ⟨fun _ => Int.le_refl _, fun _ => Int.le_refl _⟩
end
section
open Go.RowKit

/-- Each cell is without end, or just how far the point's sides are apart. -/
def ExactM (N : Nat) (m y : List Int) : Prop := ∀ a b : Nat, a < N → b < N → G N m a b = 9223372036854775807 ∨ G N m a b = apartX y a b
def SmallX (y : List Int) : Prop := ∀ a : Nat, -1152921504606846976 ≤ sideX y a ∧ sideX y a ≤ 1152921504606846976
section
variable {N : Nat} {y : List Int} (hy : SmallX y)
include hy
/-- A step that keeps size, and exactness. -/
def KeepX (N : Nat) (y xs ys : List Int) : Prop := xs.length = N * N → ExactM N xs y → ys.length = N * N ∧ ExactM N ys y
omit hy in
theorem KeepX.rep {f : Nat → List Int → List Int} : ∀ (t : Nat) (_ : ∀ i zs, i < t → KeepX N y zs (f i zs)) (zs : List Int), KeepX N y zs (rep f t zs)
  | 0, _, _, hl, hx => ⟨hl, hx⟩
  | t + 1, hf, zs, hl, hx => by
    obtain ⟨h1, h3⟩ := KeepX.rep t (fun i zs hi => hf i zs (by omega)) zs hl hx
    exact hf t _ (by omega) h1 h3
omit hy in
theorem ExactM.set {xs : List Int} (hl : xs.length = N * N) (h : ExactM N xs y) {i j : Nat} (hi : i < N) (hj : j < N) {v : Int} (hv : v = 9223372036854775807 ∨ v = apartX y i j) : ExactM N (xs.set (i * N + j) v) y := fun a b ha hb => by
  rw [G_set hl hi hj v hb]
  split
  · rename_i e; rw [e.1, e.2]; exact hv
  · exact h a b ha hb
end
theorem G_ext {N : Nat} {xs ys : List Int} (h1 : xs.length = N * N) (h2 : ys.length = N * N) (h : ∀ a b : Nat, a < N → b < N → G N xs a b = G N ys a b) : xs = ys := by
  refine List.ext_getElem (by rw [h1, h2]) fun i q1 q2 => ?_
  have hN : 0 < N := by
    rcases Nat.eq_zero_or_pos N with e | e
    · subst e; simp at h1; subst h1; simp at q1
    · exact e
  have hi : i < N * N := by omega
  have := h (i / N) (i % N) (Nat.div_lt_of_lt_mul hi) (Nat.mod_lt _ hN)
  unfold G gI at this
  rw [Nat.div_add_mod' i N, Int.toNat_natCast] at this
  simpa [List.getD, q1, q2] using this
end
section
open Go.RowKit

def fStep (N i j : Nat) (m : List Int) : List Int := if i = j then m else (m.set (i * N + j) 9223372036854775807).set (j * N + i) 9223372036854775807
def fRow (N v i : Nat) (m : List Int) : List Int := fStep N i (2 * v + 1) (fStep N i (2 * v) m)
def fAll (N v : Nat) : Nat → List Int → List Int
  | 0, m => m
  | k + 1, m => fRow N v k (fAll N v k m)
theorem fStep_len (N i j : Nat) (m : List Int) : (fStep N i j m).length = m.length := by unfold fStep; split <;> simp
theorem fRow_len (N v i : Nat) (m : List Int) : (fRow N v i m).length = m.length := by unfold fRow; rw [fStep_len, fStep_len]
theorem fAll_len (N v : Nat) (m : List Int) : ∀ k, (fAll N v k m).length = m.length
  | 0 => rfl
  | k + 1 => by unfold fAll; rw [fRow_len, fAll_len N v m k]
theorem pos_eq {N a b i j : Nat} (hb : b < N) (hj : j < N) : a * N + b = i * N + j ↔ a = i ∧ b = j := by
  constructor
  · intro h
    have h1 := congrArg (· / N) h
    have h2 := congrArg (· % N) h
    simp only [at_div hb, at_div hj, at_mod hb, at_mod hj] at h1 h2
    exact ⟨h1, h2⟩
  · rintro ⟨rfl, rfl⟩; rfl
theorem pos_lt {N i j : Nat} (hi : i < N) (hj : j < N) : i * N + j < N * N := by
  have : (i + 1) * N ≤ N * N := Nat.mul_le_mul_right _ hi
  rw [Nat.succ_mul] at this; omega
theorem fset_G {N : Nat} {m : List Int} (hl : m.length = N * N) {i j a b : Nat} (hi : i < N) (hj : j < N) (hb : b < N) (x : Int) : G N (m.set (i * N + j) x) a b = if a = i ∧ b = j then x else G N m a b := by
  unfold G
  rw [gI_set]
  have := pos_lt hi hj
  by_cases h : a = i ∧ b = j
  · rw [if_pos h, if_pos ⟨(pos_eq hb hj).2 h, by omega⟩]
  · rw [if_neg h, if_neg (fun k => h ((pos_eq hb hj).1 k.1))]
theorem fStep_G {N : Nat} {m : List Int} (hl : m.length = N * N) {i j a b : Nat} (hi : i < N) (hj : j < N) (_ha : a < N) (hb : b < N) : G N (fStep N i j m) a b = if i ≠ j ∧ ((a = i ∧ b = j) ∨ (a = j ∧ b = i)) then 9223372036854775807 else G N m a b := by
  unfold fStep
  by_cases h : i = j
  · rw [if_pos h, if_neg (fun k => k.1 h)]
  · rw [if_neg h, fset_G (by simpa using hl) hj hi hb, fset_G hl hi hj hb]
    by_cases h1 : a = j ∧ b = i
    · rw [if_pos h1, if_pos ⟨h, .inr h1⟩]
    · rw [if_neg h1]
      by_cases h2 : a = i ∧ b = j
      · rw [if_pos h2, if_pos ⟨h, .inl h2⟩]
      · rw [if_neg h2, if_neg (fun k => k.2.elim h2 h1)]
theorem fAll_G {N v : Nat} {m : List Int} (hl : m.length = N * N) (hv : 2 * v + 1 < N) {a b : Nat} (ha : a < N) (hb : b < N) : ∀ k, k ≤ N → G N (fAll N v k m) a b = if a ≠ b ∧ ((b / 2 = v ∧ a < k) ∨ (a / 2 = v ∧ b < k)) then 9223372036854775807 else G N m a b
  | 0, _ => by rw [if_neg (by omega)]; rfl
  | k + 1, hk => by
    unfold fAll fRow
    rw [fStep_G (by rw [fStep_len, fAll_len]; exact hl) (by omega) hv ha hb, fStep_G (by rw [fAll_len]; exact hl) (by omega) (by omega) ha hb, fAll_G hl hv ha hb k (by omega)]
    by_cases h : a ≠ b ∧ ((b / 2 = v ∧ a < k + 1) ∨ (a / 2 = v ∧ b < k + 1))
    · rw [if_pos h]
      by_cases h0 : a ≠ b ∧ ((b / 2 = v ∧ a < k) ∨ (a / 2 = v ∧ b < k))
      · simp [h0]
      · rw [if_neg h0]
        by_cases h1 : k ≠ 2 * v + 1 ∧ ((a = k ∧ b = 2 * v + 1) ∨ (a = 2 * v + 1 ∧ b = k))
        · rw [if_pos h1]
        · rw [if_neg h1, if_pos (by omega)]
    · rw [if_neg h, if_neg (by omega), if_neg (by omega), if_neg (by omega)]
theorem fAll_forget {N v : Nat} {m : List Int} (hl : m.length = N * N) (hv : 2 * v + 1 < N) : fAll N v N m = forgetM N v m := by
  refine G_ext (by rw [fAll_len]; exact hl) (by rw [forgetM_len]; exact hl) fun a b ha hb => ?_
  rw [fAll_G hl hv ha hb N (Nat.le_refl _), forgetM_G hl ha hb]
  by_cases h : a ≠ b ∧ (a / 2 = v ∨ b / 2 = v)
  · rw [if_pos h, if_pos (by omega)]
  · rw [if_neg h, if_neg (by omega)]
/-- What has been done of a row's two sides. -/
def fPart (N v i : Nat) : Nat → List Int → List Int
  | 0, m => m
  | 1, m => fStep N i (2 * v) m
  | _, m => fRow N v i m
theorem fPart_len (N v i k : Nat) (m : List Int) : (fPart N v i k m).length = m.length := by
  unfold fPart; split
  · rfl
  · rw [fStep_len]
  · rw [fRow_len]
end
end Go.Proofs.YtnmpgijiimglcaaGreat
