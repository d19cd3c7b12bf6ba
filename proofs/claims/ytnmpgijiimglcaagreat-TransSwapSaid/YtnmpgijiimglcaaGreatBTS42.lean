/-
  The octagon of one point, behind edges. Plain.
  Letting a variable go, cell by cell as the program does it: plain law.
  What a range over a function wants to be told of memory that stays.
-/
import Derived.Test.YtnmpgijiimglcaaGreatTransSound2
import Derived.Test.YtnmpgijiimglcaaGreatTight
import Derived.Test.YtnmpgijiimglcaaGreatBTS36
import Derived.Test.YtnmpgijiimglcaaGreatBox3
import Derived.RangeFuncNested
import Derived.RangeFuncKeeps
import Derived.WalkMore
import Derived.Laws.EntriesVeiled
namespace Go.Proofs.YtnmpgijiimglcaaGreat
section
open Go.RowKit

/-- Each cell is without end, or just how far the point's sides are apart. -/
def ExactM (N : Nat) (m y : List Int) : Prop := ∀ a b : Nat, a < N → b < N → G N m a b = 9223372036854775807 ∨ G N m a b = apartX y a b
def SmallX (y : List Int) : Prop := ∀ a : Nat, -1152921504606846976 ≤ sideX y a ∧ sideX y a ≤ 1152921504606846976
theorem plus_exact {a b p q : Int} (ha : a = 9223372036854775807 ∨ a = p) (hb : b = 9223372036854775807 ∨ b = q) (hp : -4611686018427387904 ≤ p ∧ p ≤ 4611686018427387904) (hq : -4611686018427387904 ≤ q ∧ q ≤ 4611686018427387904) (hs : -4611686018427387904 ≤ p + q ∧ p + q ≤ 4611686018427387904) :
    (plus a b = 9223372036854775807 ∨ plus a b = p + q) ∧ sat a b = false := by
  have n1 : near 9223372036854775807 = 9223372036854775807 := by decide
  have n2 : ∀ z : Int, -4611686018427387904 ≤ z ∧ z ≤ 4611686018427387904 → near z = z := fun z hz => by unfold near; rw [if_neg (by omega), if_neg (by omega)]
  rcases ha with rfl | rfl
  · exact ⟨.inl (plus_l n1), by unfold sat; rw [n1]; simp⟩
  · rcases hb with rfl | rfl
    · exact ⟨.inl (plus_r n1), by unfold sat; rw [n1]; simp⟩
    · refine ⟨.inr ?_, ?_⟩
      · rw [plus_fin (by rw [n2 _ hp]; omega) (by rw [n2 _ hq]; omega), n2 _ hp, n2 _ hq, n2 _ hs]
      · unfold sat
        rw [n2 _ hp, n2 _ hq]
        simp only [Bool.and_eq_false_iff, decide_eq_false_iff_not]
        right; omega
section
variable {N : Nat} {y : List Int} (hy : SmallX y)
include hy
theorem apart_small (a b : Nat) : -2305843009213693952 ≤ apartX y a b ∧ apartX y a b ≤ 2305843009213693952 := by
  have h1 := hy a
  have h2 := hy b
  unfold apartX; omega
/-- A step that keeps size, and exactness. -/
def KeepX (N : Nat) (y xs ys : List Int) : Prop := xs.length = N * N → ExactM N xs y → ys.length = N * N ∧ ExactM N ys y
omit hy in
theorem KeepX.rep {f : Nat → List Int → List Int} : ∀ (t : Nat) (_ : ∀ i zs, i < t → KeepX N y zs (f i zs)) (zs : List Int), KeepX N y zs (rep f t zs)
  | 0, _, _, hl, hx => ⟨hl, hx⟩
  | t + 1, hf, zs, hl, hx => by
    obtain ⟨h1, h3⟩ := KeepX.rep t (fun i zs hi => hf i zs (by omega)) zs hl hx
    exact hf t _ (by omega) h1 h3
omit hy in
theorem ExactM.set {xs : List Int} (hl : xs.length = N * N) (h : ExactM N xs y) {i j : Nat} (hi : i < N) (hj : j < N) {v : Int} (hv : v = 9223372036854775807 ∨ v = apartX y i j) : ExactM N (xs.set (i * N + j) v) y := fun a b ha hb => by
  rw [G_set hl hi hj v hb]
  split
  · rename_i e; rw [e.1, e.2]; exact hv
  · exact h a b ha hb
theorem x_plus {xs : List Int} (h : ExactM N xs y) {i j k l : Nat} (hi : i < N) (hj : j < N) (hk : k < N) (hl : l < N) : (plus (G N xs i j) (G N xs k l) = 9223372036854775807 ∨ plus (G N xs i j) (G N xs k l) = apartX y i j + apartX y k l) ∧ sat (G N xs i j) (G N xs k l) = false := by
  have h1 := apart_small hy i j
  have h2 := apart_small hy k l
  exact plus_exact (h i j hi hj) (h k l hk hl) (by omega) (by omega) (by omega)
theorem pStep_x {k i j : Nat} (hk : k < N) (hi : i < N) (hj : j < N) (zs : List Int) : KeepX N y zs (pStep N k i j zs) := fun hl hx => by
  refine ⟨(pStep_low N k i j zs).len.trans hl, hx.set hl hi hj ?_⟩
  have h1 := hx i j hi hj
  have h2 := (x_plus hy hx hi hk hk hj).1
  have e : apartX y i k + apartX y k j = apartX y i j := by unfold apartX; omega
  have hb := apart_small hy i j
  rw [e] at h2
  unfold G at *
  omega
theorem paths_x (t : Nat) (ht : t ≤ N) (zs : List Int) : KeepX N y zs (paths N t zs) :=
  KeepX.rep t (fun k zs hk => KeepX.rep N (fun i zs hi => KeepX.rep N (fun j zs hj => pStep_x hy (by omega) hi hj zs) zs) zs) zs
theorem mirrors_x (hN : N % 2 = 0) (zs : List Int) : KeepX N y zs (mirrors N N zs) :=
  KeepX.rep N (fun i zs hi => KeepX.rep N (fun j zs hj => fun hl hx => by
    have k1 := hx i j hi hj
    have k2 := hx (nx j) (nx i) (nxl hN hj) (nxl hN hi)
    rw [apartX_nx] at k2
    have hb := apart_small hy i j
    have k3 : min (gI zs ((i * N + j : Nat) : Int)) (gI zs ((nx j * N + nx i : Nat) : Int)) = 9223372036854775807 ∨ min (gI zs ((i * N + j : Nat) : Int)) (gI zs ((nx j * N + nx i : Nat) : Int)) = apartX y i j := by
      unfold G at *; omega
    exact ⟨(mStep_low N i j zs).len.trans hl, (hx.set hl hi hj k3).set (by rw [List.length_set]; exact hl) (nxl hN hj) (nxl hN hi) (by rw [apartX_nx]; exact k3)⟩) zs) zs
theorem evens_x (hN : N % 2 = 0) (zs : List Int) : KeepX N y zs (evens N N zs) :=
  KeepX.rep N (fun i zs hi => fun hl hx => by
    have k1 := hx i (nx i) hi (nxl hN hi)
    rw [apartX_two] at k1
    refine ⟨(eStep_low N i zs).len.trans hl, hx.set hl hi (nxl hN hi) ?_⟩
    rw [apartX_two]
    have h1 := hy i
    rcases k1 with k | k
    · left; unfold G at k; rw [k]; decide
    · right
      unfold G at k
      rw [k]
      have n2 : near (2 * sideX y i) = 2 * sideX y i := by unfold near; rw [if_neg (by omega), if_neg (by omega)]
      unfold even
      rw [n2, if_neg (by omega)]
      omega) zs
/-- What closing makes of it. -/
theorem exact_close {m : List Int} (hN : N % 2 = 0) (hc : Cells N m) (hb : AllB m) (hx : ExactM N m y) : ∃ ys, closeM N m = some ys ∧ Tight N ys ∧ HasM N ys y ∧ Le ys m := by
  have hM : HasM N m y := fun a b ha hb => (hx a b ha hb).imp id (fun e => Int.le_of_eq e.symm)
  obtain ⟨ys, h1, h2⟩ := closeM_has hN hc.len hb hM
  refine ⟨ys, h1, closeM_tight hN hc hb h1 ?_, h2, (closeM_low h1).le hb⟩
  have p1 := fun k hk => paths_x hy (N := N) k hk m hc.len hx
  obtain ⟨l1, x1⟩ := p1 N (Nat.le_refl _)
  obtain ⟨l2, x2⟩ := mirrors_x hy hN _ l1 x1
  obtain ⟨l3, x3⟩ := evens_x hy hN _ l2 x2
  exact ⟨fun k i j hk hi hj => (x_plus hy (p1 k (by omega)).2 hi hk hk hj).2, fun i j hi hj _ => (x_plus hy x3 hi (nxl hN hi) (nxl hN hj) hj).2, fun i hi => (x_plus hy x3 hi (nxl hN hi) (nxl hN hi) hi).2⟩
end
theorem G_ext {N : Nat} {xs ys : List Int} (h1 : xs.length = N * N) (h2 : ys.length = N * N) (h : ∀ a b : Nat, a < N → b < N → G N xs a b = G N ys a b) : xs = ys := by
  refine List.ext_getElem (by rw [h1, h2]) fun i q1 q2 => ?_
  have hN : 0 < N := by
    rcases Nat.eq_zero_or_pos N with e | e
    · subst e; simp at h1; subst h1; simp at q1
    · exact e
  have hi : i < N * N := by omega
  have := h (i / N) (i % N) (Nat.div_lt_of_lt_mul hi) (Nat.mod_lt _ hN)
  unfold G gI at this
  rw [Nat.div_add_mod' i N, Int.toNat_natCast] at this
  simpa [List.getD, q1, q2] using this
/-- The matrix of one point. -/
def ptM (N : Nat) (y : List Int) : List Int := (List.range (N * N)).map fun p => apartX y (p / N) (p % N)
theorem ptM_len (N : Nat) (y : List Int) : (ptM N y).length = N * N := by simp [ptM]
theorem ptM_G {N : Nat} (y : List Int) {a b : Nat} (ha : a < N) (hb : b < N) : G N (ptM N y) a b = apartX y a b := by
  unfold ptM
  rw [G_range rfl _ ha hb, at_div hb, at_mod hb]
theorem bound_small {z : Int} (h : -4611686018427387904 ≤ z ∧ z ≤ 4611686018427387904) : isBound z = true := by unfold isBound; rw [decide_eq_true_eq]; exact .inr h
theorem ptM_cells {N : Nat} (hN : N % 2 = 0) {y : List Int} (hy : SmallX y) : Cells N (ptM N y) := by
  refine ⟨ptM_len _ _, fun a b ha hb => ?_, fun a ha => ?_, fun a b ha hb => ?_⟩
  · show isBound (G N _ a b) = true
    rw [ptM_G y ha hb]
    have := apart_small hy a b
    exact bound_small (by omega)
  · show G N _ a a = 0
    rw [ptM_G y ha ha]; unfold apartX; omega
  · show G N _ a b = G N _ (nx b) (nx a)
    rw [ptM_G y ha hb, ptM_G y (nxl hN hb) (nxl hN ha), apartX_nx]
theorem cells_all {n : Int} {N : Nat} {m : List Int} (hN : (N : Int) = 2 * n) (hn : N ≤ 128) (h : Cells N m) : AllB m := by
  have := check_bounds (check_of hN hn h)
  exact this
/-- A matrix that is exact closes to the point's, if the closed one is all there. -/
theorem close_pt {n : Int} {N : Nat} {m y : List Int} (hN : (N : Int) = 2 * n) (hn : N ≤ 128) (hy : SmallX y) (hc : Cells N m) (hx : ExactM N m y)
    (hall : ∀ ys, Tight N ys → ExactM N ys y → (∀ a b : Nat, a < N → b < N → G N m a b ≠ 9223372036854775807 → G N ys a b ≠ 9223372036854775807) → ∀ a b : Nat, a < N → b < N → G N ys a b ≠ 9223372036854775807) : closeO ⟨n, false, m⟩ = ⟨n, false, ptM N y⟩ := by
  have hN2 : N % 2 = 0 := by omega
  have hb := cells_all hN hn hc
  obtain ⟨ys, h1, h2, h3, h4⟩ := exact_close hy hN2 hc hb hx
  rw [closeO_some (by rw [show (2 * n).toNat = N by omega]; exact h1)]
  have p1 := paths_x hy (N := N) N (Nat.le_refl _) m hc.len hx
  obtain ⟨l2, x2⟩ := mirrors_x hy hN2 _ p1.1 p1.2
  obtain ⟨l3, x3⟩ := evens_x hy hN2 _ l2 x2
  have hb3 : AllB (evens N N (mirrors N N (paths N N m))) := (evens_low _ _ _).all ((mirrors_low _ _ _).all ((paths_low _ _ _).all hb))
  have key : ∀ a b : Nat, a < N → b < N → G N ys a b = 9223372036854775807 ∨ G N ys a b = apartX y a b := fun a b ha hb' => by
    have e := strengthens_G hN2 l3 hb3 a b ha hb'
    have e2 : ys = strengthens N N (evens N N (mirrors N N (paths N N m))) := by
      unfold closeM at h1
      split at h1
      · cases h1
      · split at h1
        · cases h1
        · injection h1 with h1; exact h1.symm
    rw [e2, e]
    unfold strong
    split
    · exact x3 a b ha hb'
    · have k1 := x3 a b ha hb'
      have k2 := (x_plus hy x3 ha (nxl hN2 ha) (nxl hN2 hb') hb').1
      have e3 : apartX y a (nx a) + apartX y (nx b) b = 2 * apartX y a b := by unfold apartX; rw [sideX_nx, sideX_nx]; omega
      rw [e3] at k2
      have hs := apart_small hy a b
      have k3 : half (plus (G N (evens N N (mirrors N N (paths N N m))) a (nx a)) (G N (evens N N (mirrors N N (paths N N m))) (nx b) b)) = 9223372036854775807 ∨ half (plus (G N (evens N N (mirrors N N (paths N N m))) a (nx a)) (G N (evens N N (mirrors N N (paths N N m))) (nx b) b)) = apartX y a b := by
        rcases k2 with k | k
        · left; rw [k]; decide
        · right
          rw [k]
          have n2 : near (2 * apartX y a b) = 2 * apartX y a b := by unfold near; rw [if_neg (by omega), if_neg (by omega)]
          unfold half
          rw [n2, if_neg (by omega)]
          omega
      omega
  have hall' := hall ys h2 key (fun a b ha hb' q => by
    have := h4 (a * N + b)
    have := bnd (hb (a * N + b))
    unfold G at *; omega)
  congr 1
  refine G_ext h2.cells.len (ptM_len _ _) fun a b ha hb' => ?_
  rw [ptM_G y ha hb']
  exact (key a b ha hb').resolve_left (hall' a b ha hb')
end
section
open Go.RowKit

def fStep (N i j : Nat) (m : List Int) : List Int := if i = j then m else (m.set (i * N + j) 9223372036854775807).set (j * N + i) 9223372036854775807
def fRow (N v i : Nat) (m : List Int) : List Int := fStep N i (2 * v + 1) (fStep N i (2 * v) m)
def fAll (N v : Nat) : Nat → List Int → List Int
  | 0, m => m
  | k + 1, m => fRow N v k (fAll N v k m)
theorem fStep_len (N i j : Nat) (m : List Int) : (fStep N i j m).length = m.length := by unfold fStep; split <;> simp
theorem fRow_len (N v i : Nat) (m : List Int) : (fRow N v i m).length = m.length := by unfold fRow; rw [fStep_len, fStep_len]
theorem fAll_len (N v : Nat) (m : List Int) : ∀ k, (fAll N v k m).length = m.length
  | 0 => rfl
  | k + 1 => by unfold fAll; rw [fRow_len, fAll_len N v m k]
theorem pos_eq {N a b i j : Nat} (hb : b < N) (hj : j < N) : a * N + b = i * N + j ↔ a = i ∧ b = j := by
  constructor
  · intro h
    have h1 := congrArg (· / N) h
    have h2 := congrArg (· % N) h
    simp only [at_div hb, at_div hj, at_mod hb, at_mod hj] at h1 h2
    exact ⟨h1, h2⟩
  · rintro ⟨rfl, rfl⟩; rfl
theorem pos_lt {N i j : Nat} (hi : i < N) (hj : j < N) : i * N + j < N * N := by
  have : (i + 1) * N ≤ N * N := Nat.mul_le_mul_right _ hi
  rw [Nat.succ_mul] at this; omega
theorem fset_G {N : Nat} {m : List Int} (hl : m.length = N * N) {i j a b : Nat} (hi : i < N) (hj : j < N) (hb : b < N) (x : Int) : G N (m.set (i * N + j) x) a b = if a = i ∧ b = j then x else G N m a b := by
  unfold G
  rw [gI_set]
  have := pos_lt hi hj
  by_cases h : a = i ∧ b = j
  · rw [if_pos h, if_pos ⟨(pos_eq hb hj).2 h, by omega⟩]
  · rw [if_neg h, if_neg (fun k => h ((pos_eq hb hj).1 k.1))]
theorem fStep_G {N : Nat} {m : List Int} (hl : m.length = N * N) {i j a b : Nat} (hi : i < N) (hj : j < N) (_ha : a < N) (hb : b < N) : G N (fStep N i j m) a b = if i ≠ j ∧ ((a = i ∧ b = j) ∨ (a = j ∧ b = i)) then 9223372036854775807 else G N m a b := by
  unfold fStep
  by_cases h : i = j
  · rw [if_pos h, if_neg (fun k => k.1 h)]
  · rw [if_neg h, fset_G (by simpa using hl) hj hi hb, fset_G hl hi hj hb]
    by_cases h1 : a = j ∧ b = i
    · rw [if_pos h1, if_pos ⟨h, .inr h1⟩]
    · rw [if_neg h1]
      by_cases h2 : a = i ∧ b = j
      · rw [if_pos h2, if_pos ⟨h, .inl h2⟩]
      · rw [if_neg h2, if_neg (fun k => k.2.elim h2 h1)]
theorem fAll_G {N v : Nat} {m : List Int} (hl : m.length = N * N) (hv : 2 * v + 1 < N) {a b : Nat} (ha : a < N) (hb : b < N) : ∀ k, k ≤ N → G N (fAll N v k m) a b = if a ≠ b ∧ ((b / 2 = v ∧ a < k) ∨ (a / 2 = v ∧ b < k)) then 9223372036854775807 else G N m a b
  | 0, _ => by rw [if_neg (by omega)]; rfl
  | k + 1, hk => by
    unfold fAll fRow
    rw [fStep_G (by rw [fStep_len, fAll_len]; exact hl) (by omega) hv ha hb, fStep_G (by rw [fAll_len]; exact hl) (by omega) (by omega) ha hb, fAll_G hl hv ha hb k (by omega)]
    by_cases h : a ≠ b ∧ ((b / 2 = v ∧ a < k + 1) ∨ (a / 2 = v ∧ b < k + 1))
    · rw [if_pos h]
      by_cases h0 : a ≠ b ∧ ((b / 2 = v ∧ a < k) ∨ (a / 2 = v ∧ b < k))
      · simp [h0]
      · rw [if_neg h0]
        by_cases h1 : k ≠ 2 * v + 1 ∧ ((a = k ∧ b = 2 * v + 1) ∨ (a = 2 * v + 1 ∧ b = k))
        · rw [if_pos h1]
        · rw [if_neg h1, if_pos (by omega)]
    · rw [if_neg h, if_neg (by omega), if_neg (by omega), if_neg (by omega)]
theorem fAll_forget {N v : Nat} {m : List Int} (hl : m.length = N * N) (hv : 2 * v + 1 < N) : fAll N v N m = forgetM N v m := by
  refine G_ext (by rw [fAll_len]; exact hl) (by rw [forgetM_len]; exact hl) fun a b ha hb => ?_
  rw [fAll_G hl hv ha hb N (Nat.le_refl _), forgetM_G hl ha hb]
  by_cases h : a ≠ b ∧ (a / 2 = v ∨ b / 2 = v)
  · rw [if_pos h, if_pos (by omega)]
  · rw [if_neg h, if_neg (by omega)]
/-- What has been done of a row's two sides. -/
def fPart (N v i : Nat) : Nat → List Int → List Int
  | 0, m => m
  | 1, m => fStep N i (2 * v) m
  | _, m => fRow N v i m
theorem fPart_len (N v i k : Nat) (m : List Int) : (fPart N v i k m).length = m.length := by
  unfold fPart; split
  · rfl
  · rw [fStep_len]
  · rw [fRow_len]
end
section
open Go.RowKit
attribute [local go_sem] Oper.semAt_some

theorem name_act {P : Program} {F : Fence} {n : Nat} {c : Code} {Q : Exit → Act → World → Prop} {a : Act} {w : World} (h : ∀ a0 : Act, a0 = a → c.wpIn F n P Q a0 w) : c.wpIn F n P Q a w := h a rfl
section
variable {W W' : World} {row : Option Nat} {g base cap : Nat} {t : TypeId} {cs : Array Value} {A : Option Addr} {m : List Int}
theorem blk_kept (h : Blk W g t cs) (hg : W.grownBy W' row) (hr : ∀ r, row = some r → ∃ o : Obj, W.heap[r]? = some o ∧ o.isCells = false) : Blk W' g t cs :=
  (hg.block g h.lt (fun e => by
    obtain ⟨o, ho, hc⟩ := hr g e.symm
    unfold Blk at h
    rw [h] at ho; injection ho with ho; subst ho; cases hc)).trans h
theorem own_kept (h : Own W base A cap m) (hg : W.grownBy W' row) (hr : ∀ r, row = some r → ∃ o : Obj, W.heap[r]? = some o ∧ o.isCells = false) : Own W' base A cap m := by
  refine h.grown hg ?_
  rcases h.2 with ⟨h0, _⟩ | ⟨g', cap', cur, h1, _, h3, _⟩
  · injection h0 with h0; subst h0; exact .inl rfl
  · injection h1 with h1; subst h1
    refine .inr fun e => ?_
    simp only [Value.ownBlock] at e
    obtain ⟨o, ho, hc⟩ := hr g' e.symm
    rw [h3] at ho; injection ho with ho; subst ho; cases hc
theorem keeps_of {B : Nat} (h : Below W.heap.size W W') : KeepsFrom B W W' := KeepsFrom.of_grownBy (grown_of_below h none) (fun j e => by cases e)
theorem heap3 {v0 v1 v2 : Value} {D : Nat} {o : Obj} (h : W.heap[D]? = some o) (hc : o.isCells = false) : (((W.setCell ⟨g, 0, none⟩ v0).setCell ⟨g, 1, none⟩ v1).setCell ⟨g, 2, none⟩ v2).heap[D]? = some o :=
  (((KeepsOthers.setCell W _ _).trans (KeepsOthers.setCell _ _ _)).trans (KeepsOthers.setCell _ _ _)).same D o h hc
end
theorem Blk.stay {W W' : World} {row : Option Nat} {g : Nat} {t : TypeId} {cs : Array Value} (h : Blk W g t cs) (hg : W.grownBy W' row) (hne : some g ≠ row) : Blk W' g t cs := (hg.block g h.lt hne).trans h
theorem own_cells {W : World} {base cap g : Nat} {m : List Int} (h : Own W base (some ⟨g, 0, none⟩) cap m) {o : Obj} (ho : W.heap[g]? = some o) : o.isWalk = false := by
  rcases h.2 with ⟨h0, _⟩ | ⟨g', cap', cur, h1, _, h3, _⟩
  · cases h0
  · injection h1 with h1
    injection h1 with h1
    injection h1 with h1
    subst h1
    rw [h3] at ho; injection ho with ho; subst ho; rfl
theorem own_not {W : World} {base cap b : Nat} {A : Option Addr} {m : List Int} (h : Own W base A cap m) (hb : ∀ g, A = some ⟨g, 0, none⟩ → g ≠ b) : (Value.slice A m.length cap).ownBlock = none ∨ (Value.slice A m.length cap).ownBlock ≠ some b := by
  rcases h.form with ⟨rfl, _⟩ | ⟨g, rfl, _⟩
  · exact .inl rfl
  · refine .inr fun e => hb g rfl ?_
    simpa [Value.ownBlock] using e
theorem fold1 (p1 : Nat) (v1 : Value) (T : Array Value) : ((#[p1] : Array Nat).zip #[v1]).foldl (fun t (x : Nat × Value) => t.setIfInBounds x.1 x.2) T = T.setIfInBounds p1 v1 := by
  rw [← Array.foldl_toList]; simp
end
end Go.Proofs.YtnmpgijiimglcaaGreat
