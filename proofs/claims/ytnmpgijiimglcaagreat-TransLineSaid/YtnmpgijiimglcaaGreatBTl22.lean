import Derived.Test.YtnmpgijiimglcaaGreatBTl12
import Derived.Test.YtnmpgijiimglcaaGreatBTl11
import Derived.Test.YtnmpgijiimglcaaGreatBTl21
import Derived.Test.YtnmpgijiimglcaaGreatBTl06
import Derived.RangeFuncNested
import Derived.RangeFuncKeeps
import Derived.WalkMore
import Derived.Laws.EntriesVeiled
import Derived.Test.YtnmpgijiimglcaaGreatBTl13
import Derived.RangeFuncFrom
namespace Go.Proofs.YtnmpgijiimglcaaGreat
section
open Go.RowKit
set_option maxRecDepth 100000
set_option maxHeartbeats 8000000
def ExactM (N : Nat) (m y : List Int) : Prop := ∀ a b : Nat, a < N → b < N → G N m a b = 9223372036854775807 ∨ G N m a b = apartX y a b
def SmallX (y : List Int) : Prop := ∀ a : Nat, -1152921504606846976 ≤ sideX y a ∧ sideX y a ≤ 1152921504606846976
theorem plus_exact {a b p q : Int} (ha : a = 9223372036854775807 ∨ a = p) (hb : b = 9223372036854775807 ∨ b = q) (hp : -4611686018427387904 ≤ p ∧ p ≤ 4611686018427387904) (hq : -4611686018427387904 ≤ q ∧ q ≤ 4611686018427387904) (hs : -4611686018427387904 ≤ p + q ∧ p + q ≤ 4611686018427387904) :
  (plus a b = 9223372036854775807 ∨ plus a b = p + q) ∧ sat a b = false := by
 have n1 : near 9223372036854775807 = 9223372036854775807 := by decide
 have n2 : ∀ z : Int, -4611686018427387904 ≤ z ∧ z ≤ 4611686018427387904 → near z = z := fun z hz => by unfold near; rw [if_neg (by omega), if_neg (by omega)]
 rcases ha with rfl | rfl
 ·exact ⟨.inl (plus_l n1), by unfold sat; rw [n1]; simp⟩
 ·rcases hb with rfl | rfl
  ·exact ⟨.inl (plus_r n1), by unfold sat; rw [n1]; simp⟩
  ·refine ⟨.inr ?_, ?_⟩
   ·rw [plus_fin (by rw [n2 _ hp]; omega) (by rw [n2 _ hq]; omega), n2 _ hp, n2 _ hq, n2 _ hs]
   ·unfold sat
    rw [n2 _ hp, n2 _ hq]
    simp only [Bool.and_eq_false_iff, decide_eq_false_iff_not]
    right; omega
section
variable {N : Nat} {y : List Int} (hy : SmallX y)
include hy
theorem apart_small (a b : Nat) : -2305843009213693952 ≤ apartX y a b ∧ apartX y a b ≤ 2305843009213693952 := by
 have h1 := hy a
 have h2 := hy b
 unfold apartX; omega
def KeepX (N : Nat) (y xs ys : List Int) : Prop := xs.length = N * N → ExactM N xs y → ys.length = N * N ∧ ExactM N ys y
omit hy in
theorem KeepX.rep {f : Nat → List Int → List Int} : ∀ (t : Nat) (_ : ∀ i zs, i < t → KeepX N y zs (f i zs)) (zs : List Int), KeepX N y zs (rep f t zs)
 | 0, _, _, hl, hx => ⟨hl, hx⟩
 | t + 1, hf, zs, hl, hx => by
  obtain ⟨h1, h3⟩ := KeepX.rep t (fun i zs hi => hf i zs (by omega)) zs hl hx
  exact hf t _ (by omega) h1 h3
omit hy in
theorem ExactM.set {xs : List Int} (hl : xs.length = N * N) (h : ExactM N xs y) {i j : Nat} (hi : i < N) (hj : j < N) {v : Int} (hv : v = 9223372036854775807 ∨ v = apartX y i j) : ExactM N (xs.set (i * N + j) v) y := fun a b ha hb => by
 rw [G_set hl hi hj v hb]
 split
 ·rename_i e; rw [e.1, e.2]; exact hv
 ·exact h a b ha hb
theorem x_plus {xs : List Int} (h : ExactM N xs y) {i j k l : Nat} (hi : i < N) (hj : j < N) (hk : k < N) (hl : l < N) : (plus (G N xs i j) (G N xs k l) = 9223372036854775807 ∨ plus (G N xs i j) (G N xs k l) = apartX y i j + apartX y k l) ∧ sat (G N xs i j) (G N xs k l) = false := by
 have h1 := apart_small hy i j
 have h2 := apart_small hy k l
 exact plus_exact (h i j hi hj) (h k l hk hl) (by omega) (by omega) (by omega)
theorem pStep_x {k i j : Nat} (hk : k < N) (hi : i < N) (hj : j < N) (zs : List Int) : KeepX N y zs (pStep N k i j zs) := fun hl hx => by
 refine ⟨(pStep_low N k i j zs).len.trans hl, hx.set hl hi hj ?_⟩
 have h1 := hx i j hi hj
 have h2 := (x_plus hy hx hi hk hk hj).1
 have e : apartX y i k + apartX y k j = apartX y i j := by unfold apartX; omega
 have hb := apart_small hy i j
 rw [e] at h2
 unfold G at *
 omega
theorem paths_x (t : Nat) (ht : t ≤ N) (zs : List Int) : KeepX N y zs (paths N t zs) :=
 KeepX.rep t (fun k zs hk => KeepX.rep N (fun i zs hi => KeepX.rep N (fun j zs hj => pStep_x hy (by omega) hi hj zs) zs) zs) zs
theorem mirrors_x (hN : N % 2 = 0) (zs : List Int) : KeepX N y zs (mirrors N N zs) :=
 KeepX.rep N (fun i zs hi => KeepX.rep N (fun j zs hj => fun hl hx => by
  have k1 := hx i j hi hj
  have k2 := hx (nx j) (nx i) (nxl hN hj) (nxl hN hi)
  rw [apartX_nx] at k2
  have hb := apart_small hy i j
  have k3 : min (gI zs ((i * N + j : Nat) : Int)) (gI zs ((nx j * N + nx i : Nat) : Int)) = 9223372036854775807 ∨ min (gI zs ((i * N + j : Nat) : Int)) (gI zs ((nx j * N + nx i : Nat) : Int)) = apartX y i j := by
   unfold G at *; omega
  exact ⟨(mStep_low N i j zs).len.trans hl, (hx.set hl hi hj k3).set (by rw [List.length_set]; exact hl) (nxl hN hj) (nxl hN hi) (by rw [apartX_nx]; exact k3)⟩) zs) zs
theorem evens_x (hN : N % 2 = 0) (zs : List Int) : KeepX N y zs (evens N N zs) :=
 KeepX.rep N (fun i zs hi => fun hl hx => by
  have k1 := hx i (nx i) hi (nxl hN hi)
  rw [apartX_two] at k1
  refine ⟨(eStep_low N i zs).len.trans hl, hx.set hl hi (nxl hN hi) ?_⟩
  rw [apartX_two]
  have h1 := hy i
  rcases k1 with k | k
  ·left; unfold G at k; rw [k]; decide
  ·right
   unfold G at k
   rw [k]
   have n2 : near (2 * sideX y i) = 2 * sideX y i := by unfold near; rw [if_neg (by omega), if_neg (by omega)]
   unfold even
   rw [n2, if_neg (by omega)]
   omega) zs
theorem exact_close {m : List Int} (hN : N % 2 = 0) (hc : Cells N m) (hb : AllB m) (hx : ExactM N m y) : ∃ ys, closeM N m = some ys ∧ Tight N ys ∧ HasM N ys y ∧ Le ys m := by
 have hM : HasM N m y := fun a b ha hb => (hx a b ha hb).imp id (fun e => Int.le_of_eq e.symm)
 obtain ⟨ys, h1, h2⟩ := closeM_has hN hc.len hb hM
 refine ⟨ys, h1, closeM_tight hN hc hb h1 ?_, h2, (closeM_low h1).le hb⟩
 have p1 := fun k hk => paths_x hy (N := N) k hk m hc.len hx
 obtain ⟨l1, x1⟩ := p1 N (Nat.le_refl _)
 obtain ⟨l2, x2⟩ := mirrors_x hy hN _ l1 x1
 obtain ⟨l3, x3⟩ := evens_x hy hN _ l2 x2
 exact ⟨fun k i j hk hi hj => (x_plus hy (p1 k (by omega)).2 hi hk hk hj).2, fun i j hi hj _ => (x_plus hy x3 hi (nxl hN hi) (nxl hN hj) hj).2, fun i hi => (x_plus hy x3 hi (nxl hN hi) (nxl hN hi) hi).2⟩
end
theorem G_ext {N : Nat} {xs ys : List Int} (h1 : xs.length = N * N) (h2 : ys.length = N * N) (h : ∀ a b : Nat, a < N → b < N → G N xs a b = G N ys a b) : xs = ys := by
 refine List.ext_getElem (by rw [h1, h2]) fun i q1 q2 => ?_
 have hN : 0 < N := by
  rcases Nat.eq_zero_or_pos N with e | e
  ·subst e; simp at h1; subst h1; simp at q1
  ·exact e
 have hi : i < N * N := by omega
 have := h (i / N) (i % N) (Nat.div_lt_of_lt_mul hi) (Nat.mod_lt _ hN)
 unfold G gI at this
 rw [Nat.div_add_mod' i N, Int.toNat_natCast] at this
 simpa [List.getD, q1, q2] using this
def ptM (N : Nat) (y : List Int) : List Int := (List.range (N * N)).map fun p => apartX y (p / N) (p % N)
theorem ptM_len (N : Nat) (y : List Int) : (ptM N y).length = N * N := by simp [ptM]
theorem ptM_G {N : Nat} (y : List Int) {a b : Nat} (ha : a < N) (hb : b < N) : G N (ptM N y) a b = apartX y a b := by
 unfold ptM
 rw [G_range rfl _ ha hb, at_div hb, at_mod hb]
theorem bound_small {z : Int} (h : -4611686018427387904 ≤ z ∧ z ≤ 4611686018427387904) : isBound z = true := by unfold isBound; rw [decide_eq_true_eq]; exact .inr h
theorem ptM_cells {N : Nat} (hN : N % 2 = 0) {y : List Int} (hy : SmallX y) : Cells N (ptM N y) := by
 refine ⟨ptM_len _ _, fun a b ha hb => ?_, fun a ha => ?_, fun a b ha hb => ?_⟩
 ·show isBound (G N _ a b) = true
  rw [ptM_G y ha hb]
  have := apart_small hy a b
  exact bound_small (by omega)
 ·show G N _ a a = 0
  rw [ptM_G y ha ha]; unfold apartX; omega
 ·show G N _ a b = G N _ (nx b) (nx a)
  rw [ptM_G y ha hb, ptM_G y (nxl hN hb) (nxl hN ha), apartX_nx]
theorem cells_all {n : Int} {N : Nat} {m : List Int} (hN : (N : Int) = 2 * n) (hn : N ≤ 128) (h : Cells N m) : AllB m := by
 have := check_bounds (check_of hN hn h)
 exact this
theorem close_pt {n : Int} {N : Nat} {m y : List Int} (hN : (N : Int) = 2 * n) (hn : N ≤ 128) (hy : SmallX y) (hc : Cells N m) (hx : ExactM N m y)
  (hall : ∀ ys, Tight N ys → ExactM N ys y → (∀ a b : Nat, a < N → b < N → G N m a b ≠ 9223372036854775807 → G N ys a b ≠ 9223372036854775807) → ∀ a b : Nat, a < N → b < N → G N ys a b ≠ 9223372036854775807) : closeO ⟨n, false, m⟩ = ⟨n, false, ptM N y⟩ := by
 have hN2 : N % 2 = 0 := by omega
 have hb := cells_all hN hn hc
 obtain ⟨ys, h1, h2, h3, h4⟩ := exact_close hy hN2 hc hb hx
 rw [closeO_some (by rw [show (2 * n).toNat = N by omega]; exact h1)]
 have p1 := paths_x hy (N := N) N (Nat.le_refl _) m hc.len hx
 obtain ⟨l2, x2⟩ := mirrors_x hy hN2 _ p1.1 p1.2
 obtain ⟨l3, x3⟩ := evens_x hy hN2 _ l2 x2
 have hb3 : AllB (evens N N (mirrors N N (paths N N m))) := (evens_low _ _ _).all ((mirrors_low _ _ _).all ((paths_low _ _ _).all hb))
 have key : ∀ a b : Nat, a < N → b < N → G N ys a b = 9223372036854775807 ∨ G N ys a b = apartX y a b := fun a b ha hb' => by
  have e := strengthens_G hN2 l3 hb3 a b ha hb'
  have e2 : ys = strengthens N N (evens N N (mirrors N N (paths N N m))) := by
   unfold closeM at h1
   split at h1
   ·cases h1
   ·split at h1
    ·cases h1
    ·injection h1 with h1; exact h1.symm
  rw [e2, e]
  unfold strong
  split
  ·exact x3 a b ha hb'
  ·have k1 := x3 a b ha hb'
   have k2 := (x_plus hy x3 ha (nxl hN2 ha) (nxl hN2 hb') hb').1
   have e3 : apartX y a (nx a) + apartX y (nx b) b = 2 * apartX y a b := by unfold apartX; rw [sideX_nx, sideX_nx]; omega
   rw [e3] at k2
   have hs := apart_small hy a b
   have k3 : half (plus (G N (evens N N (mirrors N N (paths N N m))) a (nx a)) (G N (evens N N (mirrors N N (paths N N m))) (nx b) b)) = 9223372036854775807 ∨ half (plus (G N (evens N N (mirrors N N (paths N N m))) a (nx a)) (G N (evens N N (mirrors N N (paths N N m))) (nx b) b)) = apartX y a b := by
    rcases k2 with k | k
    ·left; rw [k]; decide
    ·right
     rw [k]
     have n2 : near (2 * apartX y a b) = 2 * apartX y a b := by unfold near; rw [if_neg (by omega), if_neg (by omega)]
     unfold half
     rw [n2, if_neg (by omega)]
     omega
   omega
 have a0 := hall ys h2 key (fun a b ha hb' q => by
  have := h4 (a * N + b)
  have := bnd (hb (a * N + b))
  unfold G at *; omega)
 congr 1
 refine G_ext h2.cells.len (ptM_len _ _) fun a b ha hb' => ?_
 rw [ptM_G y ha hb']
 exact (key a b ha hb').resolve_left (a0 a b ha hb')
end
section
open Go.RowKit
set_option maxRecDepth 100000
set_option maxHeartbeats 8000000
def fStep (N i j : Nat) (m : List Int) : List Int := if i = j then m else (m.set (i * N + j) 9223372036854775807).set (j * N + i) 9223372036854775807
def fRow (N v i : Nat) (m : List Int) : List Int := fStep N i (2 * v + 1) (fStep N i (2 * v) m)
def fAll (N v : Nat) : Nat → List Int → List Int
 | 0, m => m
 | k + 1, m => fRow N v k (fAll N v k m)
theorem fStep_len (N i j : Nat) (m : List Int) : (fStep N i j m).length = m.length := by unfold fStep; split <;> simp
theorem fRow_len (N v i : Nat) (m : List Int) : (fRow N v i m).length = m.length := by unfold fRow; rw [fStep_len, fStep_len]
theorem fAll_len (N v : Nat) (m : List Int) : ∀ k, (fAll N v k m).length = m.length
 | 0 => rfl
 | k + 1 => by unfold fAll; rw [fRow_len, fAll_len N v m k]
theorem pos_eq {N a b i j : Nat} (hb : b < N) (hj : j < N) : a * N + b = i * N + j ↔ a = i ∧ b = j := by
 constructor
 ·intro h
  have h1 := congrArg (· / N) h
  have h2 := congrArg (· % N) h
  simp only [at_div hb, at_div hj, at_mod hb, at_mod hj] at h1 h2
  exact ⟨h1, h2⟩
 ·rintro ⟨rfl, rfl⟩; rfl
theorem pos_lt {N i j : Nat} (hi : i < N) (hj : j < N) : i * N + j < N * N := by
 have : (i + 1) * N ≤ N * N := Nat.mul_le_mul_right _ hi
 rw [Nat.succ_mul] at this; omega
theorem fset_G {N : Nat} {m : List Int} (hl : m.length = N * N) {i j a b : Nat} (hi : i < N) (hj : j < N) (hb : b < N) (x : Int) : G N (m.set (i * N + j) x) a b = if a = i ∧ b = j then x else G N m a b := by
 unfold G
 rw [gI_set]
 have := pos_lt hi hj
 by_cases h : a = i ∧ b = j
 ·rw [if_pos h, if_pos ⟨(pos_eq hb hj).2 h, by omega⟩]
 ·rw [if_neg h, if_neg (fun k => h ((pos_eq hb hj).1 k.1))]
theorem fStep_G {N : Nat} {m : List Int} (hl : m.length = N * N) {i j a b : Nat} (hi : i < N) (hj : j < N) (_ha : a < N) (hb : b < N) : G N (fStep N i j m) a b = if i ≠ j ∧ ((a = i ∧ b = j) ∨ (a = j ∧ b = i)) then 9223372036854775807 else G N m a b := by
 unfold fStep
 by_cases h : i = j
 ·rw [if_pos h, if_neg (fun k => k.1 h)]
 ·rw [if_neg h, fset_G (by simpa using hl) hj hi hb, fset_G hl hi hj hb]
  by_cases h1 : a = j ∧ b = i
  ·rw [if_pos h1, if_pos ⟨h, .inr h1⟩]
  ·rw [if_neg h1]
   by_cases h2 : a = i ∧ b = j
   ·rw [if_pos h2, if_pos ⟨h, .inl h2⟩]
   ·rw [if_neg h2, if_neg (fun k => k.2.elim h2 h1)]
theorem fAll_G {N v : Nat} {m : List Int} (hl : m.length = N * N) (hv : 2 * v + 1 < N) {a b : Nat} (ha : a < N) (hb : b < N) : ∀ k, k ≤ N → G N (fAll N v k m) a b = if a ≠ b ∧ ((b / 2 = v ∧ a < k) ∨ (a / 2 = v ∧ b < k)) then 9223372036854775807 else G N m a b
 | 0, _ => by rw [if_neg (by omega)]; rfl
 | k + 1, hk => by
  unfold fAll fRow
  rw [fStep_G (by rw [fStep_len, fAll_len]; exact hl) (by omega) hv ha hb, fStep_G (by rw [fAll_len]; exact hl) (by omega) (by omega) ha hb, fAll_G hl hv ha hb k (by omega)]
  by_cases h : a ≠ b ∧ ((b / 2 = v ∧ a < k + 1) ∨ (a / 2 = v ∧ b < k + 1))
  ·rw [if_pos h]
   by_cases h0 : a ≠ b ∧ ((b / 2 = v ∧ a < k) ∨ (a / 2 = v ∧ b < k))
   ·simp [h0]
   ·rw [if_neg h0]
    by_cases h1 : k ≠ 2 * v + 1 ∧ ((a = k ∧ b = 2 * v + 1) ∨ (a = 2 * v + 1 ∧ b = k))
    ·rw [if_pos h1]
    ·rw [if_neg h1, if_pos (by omega)]
  ·rw [if_neg h, if_neg (by omega), if_neg (by omega), if_neg (by omega)]
theorem fAll_forget {N v : Nat} {m : List Int} (hl : m.length = N * N) (hv : 2 * v + 1 < N) : fAll N v N m = forgetM N v m := by
 refine G_ext (by rw [fAll_len]; exact hl) (by rw [forgetM_len]; exact hl) fun a b ha hb => ?_
 rw [fAll_G hl hv ha hb N (Nat.le_refl _), forgetM_G hl ha hb]
 by_cases h : a ≠ b ∧ (a / 2 = v ∨ b / 2 = v)
 ·rw [if_pos h, if_pos (by omega)]
 ·rw [if_neg h, if_neg (by omega)]
def fPart (N v i : Nat) : Nat → List Int → List Int
 | 0, m => m
 | 1, m => fStep N i (2 * v) m
 | _, m => fRow N v i m
theorem fPart_len (N v i k : Nat) (m : List Int) : (fPart N v i k m).length = m.length := by
 unfold fPart; split
 ·rfl
 ·rw [fStep_len]
 ·rw [fRow_len]
end
section
open Go.RowKit
set_option maxRecDepth 100000
set_option maxHeartbeats 8000000
attribute [local go_sem] Oper.semAt_some
theorem name_act {P : Program} {F : Fence} {n : Nat} {c : Code} {Q : Exit → Act → World → Prop} {a : Act} {w : World} (h : ∀ a0 : Act, a0 = a → c.wpIn F n P Q a0 w) : c.wpIn F n P Q a w := h a rfl
section
variable {W W' : World} {row : Option Nat} {g base cap : Nat} {t : TypeId} {cs : Array Value} {A : Option Addr} {m : List Int}
theorem blk_kept (h : Blk W g t cs) (hg : W.grownBy W' row) (hr : ∀ r, row = some r → ∃ o : Obj, W.heap[r]? = some o ∧ o.isCells = false) : Blk W' g t cs :=
 (hg.block g h.lt (fun e => by
  obtain ⟨o, ho, hc⟩ := hr g e.symm
  unfold Blk at h
  rw [h] at ho; injection ho with ho; subst ho; cases hc)).trans h
theorem own_kept (h : Own W base A cap m) (hg : W.grownBy W' row) (hr : ∀ r, row = some r → ∃ o : Obj, W.heap[r]? = some o ∧ o.isCells = false) : Own W' base A cap m := by
 refine h.grown hg ?_
 rcases h.2 with ⟨h0, _⟩ | ⟨g', cap', cur, h1, _, h3, _⟩
 ·injection h0 with h0; subst h0; exact .inl rfl
 ·injection h1 with h1; subst h1
  refine .inr fun e => ?_
  simp only [Value.ownBlock] at e
  obtain ⟨o, ho, hc⟩ := hr g' e.symm
  rw [h3] at ho; injection ho with ho; subst ho; cases hc
theorem keeps_of {B : Nat} (h : Below W.heap.size W W') : KeepsFrom B W W' := KeepsFrom.of_grownBy (grown_of_below h none) (fun j e => by cases e)
theorem heap3 {v0 v1 v2 : Value} {D : Nat} {o : Obj} (h : W.heap[D]? = some o) (hc : o.isCells = false) : (((W.setCell ⟨g, 0, none⟩ v0).setCell ⟨g, 1, none⟩ v1).setCell ⟨g, 2, none⟩ v2).heap[D]? = some o :=
 (((KeepsOthers.setCell W _ _).trans (KeepsOthers.setCell _ _ _)).trans (KeepsOthers.setCell _ _ _)).same D o h hc
end
theorem Blk.stay {W W' : World} {row : Option Nat} {g : Nat} {t : TypeId} {cs : Array Value} (h : Blk W g t cs) (hg : W.grownBy W' row) (hne : some g ≠ row) : Blk W' g t cs := (hg.block g h.lt hne).trans h
theorem own_cells {W : World} {base cap g : Nat} {m : List Int} (h : Own W base (some ⟨g, 0, none⟩) cap m) {o : Obj} (ho : W.heap[g]? = some o) : o.isWalk = false := by
 rcases h.2 with ⟨h0, _⟩ | ⟨g', cap', cur, h1, _, h3, _⟩
 ·cases h0
 ·injection h1 with h1
  injection h1 with h1
  injection h1 with h1
  subst h1
  rw [h3] at ho; injection ho with ho; subst ho; rfl
theorem own_not {W : World} {base cap b : Nat} {A : Option Addr} {m : List Int} (h : Own W base A cap m) (hb : ∀ g, A = some ⟨g, 0, none⟩ → g ≠ b) : (Value.slice A m.length cap).ownBlock = none ∨ (Value.slice A m.length cap).ownBlock ≠ some b := by
 rcases h.form with ⟨rfl, _⟩ | ⟨g, rfl, _⟩
 ·exact .inl rfl
 ·refine .inr fun e => hb g rfl ?_
  simpa [Value.ownBlock] using e
theorem fold1 (p1 : Nat) (v1 : Value) (T : Array Value) : ((#[p1] : Array Nat).zip #[v1]).foldl (fun t (x : Nat × Value) => t.setIfInBounds x.1 x.2) T = T.setIfInBounds p1 v1 := by
 rw [← Array.foldl_toList]; simp
end
section
open Go.RowKit
set_option maxRecDepth 100000
set_option maxHeartbeats 8000000
attribute [local go_sem] Oper.semAt_some
attribute [local go_sem ↓] Go.wp_at_zero Go.wp_at_succ
theorem idx2i_0 (a b : Value) (W : World) : (Instr.index 114 (.agg #[a, b]) (.int .i64 0)).run Tryz.prog W = .ok a W := by
 simp [Instr.index, run_underlying Tryz.underlying114, asIntOf, go_sem]
theorem idx2i_1 (a b : Value) (W : World) : (Instr.index 114 (.agg #[a, b]) (.int .i64 1)).run Tryz.prog W = .ok b W := by
 simp [Instr.index, run_underlying Tryz.underlying114, asIntOf, go_sem]
def SW (w4 w5 : World) : Bool → World → Prop
 | false => fun W => W = w4
 | true => fun W => W = w5
theorem SW.any {w4 w5 W : World} (h : AnyB (SW w4 w5) W) : W = w4 ∨ W = w5 := by
 obtain ⟨b, h⟩ := h
 cases b
 ·exact .inl h
 ·exact .inr h
def InRes (base : Nat) (A : Option Addr) (cap : Nat) (n : Int) (L : Nat) (m' : List Int) (w : World) (e : Ending) (w' : World) : Prop := e = .returned (.agg #[n, false, .slice A L cap]) ∧ Own w' base A cap m' ∧ Below base w w'
theorem oforgets_in {H : Type} (n : Int) (m : List Int) (N : Nat) (hN : (N : Int) = 2 * n) (hn : N ≤ 128) (hc : Cells N m) (v : Nat) (hv : (v : Int) < n) (gA cap base b nn : Nat) (d : DataW H) {R : Value → Option (DataW H × List MemPlace)} (w : World) (own : Own w base (some ⟨gA, 0, none⟩) cap m) (hbase : base ≤ w.heap.size) (hmap : w.ownsMap Tryz.prog 3 R b nn (.map [(.int .i64 (v : Int), d)])) :
  CallsIn (wideAt none) 10 Tryz.prog 227 #[.agg #[n, false, .slice (some ⟨gA, 0, none⟩) m.length cap], .map (some b)] w (InRes base (some ⟨gA, 0, none⟩) cap n m.length (forgetM N v m) w) := by
 obtain ⟨p0, p1, b7, hsz⟩ := new_two w #[n, false, .slice (some ⟨gA, 0, none⟩) m.length cap] #[.int .i64 0, false, .slice none 0 0] 24 24
 have HFA := hid (fAll_forget hc.len (v := v) (by omega))
 have HL := hid hc.len
 have HN := hid hN
 have HV := hid hv
 have hgA : base ≤ gA ∧ gA < w.heap.size := by
  rcases own.form with ⟨h, _⟩ | ⟨g, h, h1, h2⟩
  ·cases h
  ·injection h with h; injection h with h; subst h; exact ⟨h1, h2⟩
 have hn0 : 0 ≤ 2 * n := by omega
 have hn1 : 2 * n ≤ 128 := by omega
 have hn2 : 0 ≤ n := by omega
 have hv2 : (v : Int) ≤ 64 := by omega
 replace own := own.below b7
 replace hmap := (hmap.alloc (Obj.cells #[n, false, .slice (some ⟨gA, 0, none⟩) m.length cap] 24)).alloc (Obj.cells #[.int .i64 0, false, .slice none 0 0] 24)
 clear hN hv hc
 have HG := hid hgA
 have HSZ := hid hsz
 clear hgA hsz
 refine callsIn_of_wp_marks Tryz.func227 rfl trivial ?_ rfl
 simp only [Tryz.ntmps227, List.size_toArray, List.length_cons, List.length_nil, Nat.reduceAdd, Nat.reduceSub, Array.replicate_succ, Array.replicate_zero, List.push_toArray, List.append_toArray, List.nil_append, List.cons_append]
 obtain ⟨x0, x1, x2, fx⟩ := octbox p0
 gi_wp2_with fail
 clear x0 x1 x2 fx
 generalize (w.alloc (Obj.cells #[n, false, .slice (some ⟨gA, 0, none⟩) m.length cap] 24)).alloc (Obj.cells #[.int .i64 0, false, .slice none 0 0] 24) = w0 at *
 refine (callsIn_at (mkeys_ok (some b) w0)).mono ?_
 rintro e1 w1 ⟨rfl, rfl⟩
 gi_wp2
 have nK := new1 w0 (.cells #[.map (some b)] 221)
 have kK := Blk.new w0 221 #[.map (some b)]
 replace own := own.below nK
 replace p0 := p0.later nK
 replace p1 := p1.later nK
 replace b7 := bup b7 nK
 replace hmap := hmap.alloc (.cells #[.map (some b)] 221)
 have hw1 : w.heap.size + 2 < (w0.alloc (.cells #[.map (some b)] 221)).heap.size := by have := HSZ.out; simp; omega
 clear nK
 generalize w0.alloc (.cells #[.map (some b)] 221) = w1 at *
 have hgK := kK.lt
 generalize w0.heap.size = gK at *
 have hbB : Below base w w1 := b7.mono hbase
 refine name_act (fun a0 ha0 => ?_)
 have b6 := hid ha0
 clear ha0
 refine wpIn_rangeFunc_ownH (F := wideAt none) rfl (by omega) (gf := 252) (lb := #[.pointer (some ⟨gK, 0, none⟩)]) (by rw [b6.out]; rfl) trivial (enters_of Tryz.func252 (by kernel_rfl) rfl)
  (keys_one (10 - 1) (by omega) gK b nn (v : Int) d w1 hgK (kK.cell 0) hmap) walksK_t walksK_b (Below.refl _ _) (fun _ => rfl)
  (fun pre W => ((Blk W w.heap.size 24 #[n, false, .slice (some ⟨gA, 0, none⟩) m.length cap] ∧ Own W base (some ⟨gA, 0, none⟩) cap (if pre.length = 0 then m else forgetM N v m) ∧ Blk W (w.heap.size + 1) 24 #[.int .i64 0, false, .slice none 0 0]) ∧ w1.heap.size ≤ W.heap.size) ∧ Below base w W)
  (fun _ _ _ => False)
  (OwnFrom.and (Own.from (fun pre X Y row ⟨⟨h1, h2, h3⟩, h7⟩ hg hr => ⟨⟨blk_kept h1 hg hr, own_kept h2 hg hr, blk_kept h3 hg hr⟩, Nat.le_trans h7 hg.size⟩) _) (ownFrom_below hbase (by omega)))
  (fun _ _ _ _ _ hs _ _ => hs)
  ⟨⟨⟨p0, own, p1⟩, Nat.le_refl _⟩, hbB⟩
  (fun _ a' _ => a' = { tmps := (((#[14] : Array Nat).zip #[Value.int .i64 (v : Int)]).foldl (fun t (p, v) => t.setIfInBounds p v) a0.tmps).setIfInBounds 5 (.int .i64 (v : Int)), defers := [] })
  (fun x a' _ X Y row h hg hr => h)
  ?assign ?body ?done ?stop
 case assign =>
  rintro l pre x W K ⟨⟨⟨h1, h2, h3⟩, h7⟩, b0⟩ hK
  obtain rfl := b6.out
  have hk := hK _ _ (keeps_of (Below.refl W.heap.size W)) (KeepsWalks.refl W) ⟨⟨⟨h1, h2, h3⟩, h7⟩, b0⟩ rfl
  simp only [fold1, List.setIfInBounds_toArray, List.set_cons_zero, List.set_cons_succ] at hk
  have HKK := hid hk
  simp only [fold1, List.setIfInBounds_toArray, List.set_cons_zero, List.set_cons_succ]
  clear hk hK h1 h2 h3
  gi_wp2
  exact HKK.out
 case body =>
  rintro l pre x a' W hl hrr ⟨⟨⟨h1, h2, h3⟩, h7⟩, b0⟩ rfl c3
  obtain rfl := b6.out
  obtain rfl : pre = [] := by cases pre with | nil => rfl | cons _ _ => simp at c3
  replace h2 : Own W base (some ⟨gA, 0, none⟩) cap m := h2
  simp only [fold1, List.setIfInBounds_toArray, List.set_cons_zero, List.set_cons_succ]
  obtain ⟨x0, x1, x2, fx⟩ := octbox h1
  gi_wp2
  clear x0 x1 x2 fx
  have h30 := h3
  have HSW := hid h7
  clear h3
  gi_loopw [18] (fun t wq => ∃ i : Nat, i ≤ N ∧ t = .int .i64 i ∧ Own wq base (some ⟨gA, 0, none⟩) cap (fAll N v i m) ∧ W.grownBy wq (some gA)) (fun t _ => N - (RowKit.intOf t).toNat)
  case atStart => exact ⟨0, by omega, rfl, h2, World.grownBy.refl _ _⟩
  case round =>
   obtain ⟨i, hi, rfl, a3, hg⟩ := hrel
   have q0 := h1.stay hg (by intro e; injection e with e; have := HG.out; omega)
   obtain ⟨x0, x1, x2, fx⟩ := octbox q0
   by_cases hlt : i < N
   ·have hlti : (i : Int) < 2 * n := by have := HN.out; omega
    gi_wp2
    clear x0 x1 x2 fx q0
    gi_loopw [27] (fun t wq => ∃ k : Nat, k ≤ 2 ∧ t = .int .i64 k ∧ Own wq base (some ⟨gA, 0, none⟩) cap (fPart N v i k (fAll N v i m)) ∧ W.grownBy wq (some gA)) (fun t _ => 2 - (RowKit.intOf t).toNat)
    case atStart => exact ⟨0, by omega, rfl, a3, hg⟩
    case round =>
     clear a3 hg
     obtain ⟨k, hk, rfl, a3, hg⟩ := hrel
     have q0 := h1.stay hg (by intro e; injection e with e; have := HG.out; omega)
     obtain ⟨x0, x1, x2, fx⟩ := octbox q0
     have hk3 : k = 0 ∨ k = 1 ∨ k = 2 := by omega
     rcases hk3 with rfl | rfl | rfl
     ·have a9 : Hid (fPart N v i 1 (fAll N v i m) = fStep N i (2 * v) (fPart N v i 0 (fAll N v i m))) := hid rfl
      have a8 := hid (show (fPart N v i 0 (fAll N v i m)).length = m.length by rw [fPart_len, fAll_len])
      generalize hcur : fPart N v i 0 (fAll N v i m) = cur at *
      obtain ⟨j, hj⟩ : ∃ j : Nat, j = (2 * v) := ⟨_, rfl⟩
      have c0 : 2 * (v : Int) = (j : Int) := by rw [hj]; simp
      have b1 : j < N := by have := HN.out; have := HV.out; omega
      rw [← hj] at a9
      have HJ := hid hj
      have ix := fun W => idx2i_0 (.int .i64 (2 * (v : Int))) (.int .i64 (2 * (v : Int) + 1)) W
      rw [c0] at ix
      clear hj hcur
      by_cases hij : i = j
      ·have t1 : ((i : Int) != (j : Int)) = false := by rw [hij]; simp
       have HE : Hid (fStep N i j cur = cur) := hid (by unfold fStep; rw [if_pos hij])
       clear hij x0 x1 x2 fx q0
       gi_wp2
       go_roundw
       case rel => exact ⟨1, by omega, by go_num, by rw [a9.out, HE.out]; exact a3, hg⟩
       case measure => decide
      ·have t1 : ((i : Int) != (j : Int)) = true := by simp; omega
       have HE : Hid (fStep N i j cur = (cur.set (i * N + j) 9223372036854775807).set (j * N + i) 9223372036854775807) := hid (by unfold fStep; rw [if_neg hij])
       have b5 := pos_lt hlt b1
       have b3 := pos_lt b1 hlt
       rw [← HL.out, ← a8.out] at b5 b3
       obtain ⟨r1, a7⟩ : ∃ r, r = i * N := ⟨_, rfl⟩
       obtain ⟨r2, a5⟩ : ∃ r, r = j * N := ⟨_, rfl⟩
       have hm1 : 2 * n * (i : Int) = (r1 : Int) := by rw [a7, ← HN.out, Int.natCast_mul, Int.mul_comm]
       have hm2 : 2 * n * (j : Int) = (r2 : Int) := by rw [a5, ← HN.out, Int.natCast_mul, Int.mul_comm]
       have hb1 : r1 ≤ 16384 := by rw [a7]; exact Nat.le_trans (Nat.mul_le_mul (Nat.le_of_lt hlt) (Nat.le_refl N)) (Nat.mul_le_mul hn hn)
       have hb2 : r2 ≤ 16384 := by rw [a5]; exact Nat.le_trans (Nat.mul_le_mul (Nat.le_of_lt b1) (Nat.le_refl N)) (Nat.mul_le_mul hn hn)
       have hs1 : (r1 : Int) + (j : Int) = ((i * N + j : Nat) : Int) := by rw [a7]; simp
       have hs2 : (r2 : Int) + (i : Int) = ((j * N + i : Nat) : Int) := by rw [a5]; simp
       clear a7 a5 hij
       generalize i * N + j = a1 at *
       generalize j * N + i = a2 at *
       have hI1 : (a1 : Int) < (m.length : Int) := by have := a8.out; omega
       have hI2 : (a2 : Int) < (m.length : Int) := by have := a8.out; omega
       have HP1 := hid (show (0 : Int) ≤ (a1 : Int) by omega)
       obtain ⟨_, _, eA, _, c1⟩ := a3.rd a1 b5
       injection eA with eA; injection eA with eA1 eA2; subst eA1; subst eA2
       rw [Nat.zero_add] at c1
       have fr1 := a3.frozen a1
       obtain ⟨w5, a6⟩ : ∃ w5, w5 = wr.drew.setCell ⟨gA, a1, none⟩ (.int .i64 9223372036854775807) := ⟨_, rfl⟩
       have a4 : Own w5 base (some ⟨gA, 0, none⟩) cap (cur.set a1 9223372036854775807) := by rw [a6]; exact (a3.below (Below.refl _ _).drew).store a1 _
       have b2 : W.grownBy w5 (some gA) := by rw [a6]; exact (hg.trans (grown_of_below (Below.refl _ _).drew _)).trans (grown_setCell _ _ _)
       have q5 := h1.stay b2 (by intro e; injection e with e; have := HG.out; omega)
       have f0 : ∀ X, AnyB (SW wr.drew w5) X → X.cell? ⟨w.heap.size, 0, none⟩ = some (.int .i64 n) := fun X h => by rcases SW.any h with rfl | rfl; exact x0; exact q5.cell 0
       have f2 : ∀ X, AnyB (SW wr.drew w5) X → X.cell? ⟨w.heap.size, 2, none⟩ = some (.slice (some ⟨gA, 0, none⟩) m.length cap) := fun X h => by rcases SW.any h with rfl | rfl; exact x2; exact q5.cell 2
       have b4 := hid a6
       clear a6 x0 x1 x2 fx q0 q5
       gi_wp2
       refine wpIn_region_flowMI (ro := some l) 20 19 (SW wr.drew w5) (by kernel_rfl) (by kernel_rfl) (by kernel_rfl) (by decide) rfl ?_
       (repeat (first | (refine FlowMI.skip (by rfl) (by rfl) ?_; simp only [Act.put, List.setIfInBounds_toArray, List.set_cons_zero, List.set_cons_succ]) | (refine' FlowMI.take _ (by rfl) (by rfl) (fun W hW R hR => ?_) ?_; rotate_left; (go_simp; (try go_bits); with_reducible exact hR); simp only [Act.put, List.setIfInBounds_toArray, List.set_cons_zero, List.set_cons_succ])))
       refine FlowMI.mark (by rfl) (by rfl) (by rfl) (fun X hX R hR => ?_) ?_
       ·obtain rfl : X = wr.drew := hX
        have c1d : wr.drew.cell? ⟨gA, a1, none⟩ = some (.int .i64 (gI cur (a1 : Int))) := c1
        have fr1d : wr.drew.frozen? ⟨gA, a1, none⟩ = false := fr1
        go_simp
        exact hR _ b4.out.symm
       intro X hX
       obtain rfl : X = w5 := hX
       have hp2' : a2 < (cur.set a1 9223372036854775807).length := by simpa using b3
       obtain ⟨_, _, eA, _, c2⟩ := a4.rd a2 hp2'
       injection eA with eA; injection eA with eA1 eA2; subst eA1; subst eA2
       rw [Nat.zero_add] at c2
       have fr2 := a4.frozen a2
       have b9 := hid (a4.store a2 9223372036854775807)
       have b8 := hid (b2.trans (grown_setCell X ⟨gA, a2, none⟩ (.int .i64 9223372036854775807)))
       have HP2 := hid (show (0 : Int) ≤ (a2 : Int) by omega)
       clear f0 f2 c1 fr1 hp2' a4 b2 b4 a3 hg
       gi_wp2
       go_roundw
       case rel => exact ⟨1, by omega, by go_num, by rw [a9.out, HE.out]; exact b9.out, b8.out⟩
       case measure => decide
     ·have a9 : Hid (fPart N v i 2 (fAll N v i m) = fStep N i (2 * v + 1) (fPart N v i 1 (fAll N v i m))) := hid rfl
      have a8 := hid (show (fPart N v i 1 (fAll N v i m)).length = m.length by rw [fPart_len, fAll_len])
      generalize hcur : fPart N v i 1 (fAll N v i m) = cur at *
      obtain ⟨j, hj⟩ : ∃ j : Nat, j = (2 * v + 1) := ⟨_, rfl⟩
      have c0 : 2 * (v : Int) + 1 = (j : Int) := by rw [hj]; simp
      have b1 : j < N := by have := HN.out; have := HV.out; omega
      rw [← hj] at a9
      have HJ := hid hj
      have ix := fun W => idx2i_1 (.int .i64 (2 * (v : Int))) (.int .i64 (2 * (v : Int) + 1)) W
      rw [c0] at ix
      clear hj hcur
      by_cases hij : i = j
      ·have t1 : ((i : Int) != (j : Int)) = false := by rw [hij]; simp
       have HE : Hid (fStep N i j cur = cur) := hid (by unfold fStep; rw [if_pos hij])
       clear hij x0 x1 x2 fx q0
       gi_wp2
       go_roundw
       case rel => exact ⟨2, by omega, by go_num, by rw [a9.out, HE.out]; exact a3, hg⟩
       case measure => decide
      ·have t1 : ((i : Int) != (j : Int)) = true := by simp; omega
       have HE : Hid (fStep N i j cur = (cur.set (i * N + j) 9223372036854775807).set (j * N + i) 9223372036854775807) := hid (by unfold fStep; rw [if_neg hij])
       have b5 := pos_lt hlt b1
       have b3 := pos_lt b1 hlt
       rw [← HL.out, ← a8.out] at b5 b3
       obtain ⟨r1, a7⟩ : ∃ r, r = i * N := ⟨_, rfl⟩
       obtain ⟨r2, a5⟩ : ∃ r, r = j * N := ⟨_, rfl⟩
       have hm1 : 2 * n * (i : Int) = (r1 : Int) := by rw [a7, ← HN.out, Int.natCast_mul, Int.mul_comm]
       have hm2 : 2 * n * (j : Int) = (r2 : Int) := by rw [a5, ← HN.out, Int.natCast_mul, Int.mul_comm]
       have hb1 : r1 ≤ 16384 := by rw [a7]; exact Nat.le_trans (Nat.mul_le_mul (Nat.le_of_lt hlt) (Nat.le_refl N)) (Nat.mul_le_mul hn hn)
       have hb2 : r2 ≤ 16384 := by rw [a5]; exact Nat.le_trans (Nat.mul_le_mul (Nat.le_of_lt b1) (Nat.le_refl N)) (Nat.mul_le_mul hn hn)
       have hs1 : (r1 : Int) + (j : Int) = ((i * N + j : Nat) : Int) := by rw [a7]; simp
       have hs2 : (r2 : Int) + (i : Int) = ((j * N + i : Nat) : Int) := by rw [a5]; simp
       clear a7 a5 hij
       generalize i * N + j = a1 at *
       generalize j * N + i = a2 at *
       have hI1 : (a1 : Int) < (m.length : Int) := by have := a8.out; omega
       have hI2 : (a2 : Int) < (m.length : Int) := by have := a8.out; omega
       have HP1 := hid (show (0 : Int) ≤ (a1 : Int) by omega)
       obtain ⟨_, _, eA, _, c1⟩ := a3.rd a1 b5
       injection eA with eA; injection eA with eA1 eA2; subst eA1; subst eA2
       rw [Nat.zero_add] at c1
       have fr1 := a3.frozen a1
       obtain ⟨w5, a6⟩ : ∃ w5, w5 = wr.drew.setCell ⟨gA, a1, none⟩ (.int .i64 9223372036854775807) := ⟨_, rfl⟩
       have a4 : Own w5 base (some ⟨gA, 0, none⟩) cap (cur.set a1 9223372036854775807) := by rw [a6]; exact (a3.below (Below.refl _ _).drew).store a1 _
       have b2 : W.grownBy w5 (some gA) := by rw [a6]; exact (hg.trans (grown_of_below (Below.refl _ _).drew _)).trans (grown_setCell _ _ _)
       have q5 := h1.stay b2 (by intro e; injection e with e; have := HG.out; omega)
       have f0 : ∀ X, AnyB (SW wr.drew w5) X → X.cell? ⟨w.heap.size, 0, none⟩ = some (.int .i64 n) := fun X h => by rcases SW.any h with rfl | rfl; exact x0; exact q5.cell 0
       have f2 : ∀ X, AnyB (SW wr.drew w5) X → X.cell? ⟨w.heap.size, 2, none⟩ = some (.slice (some ⟨gA, 0, none⟩) m.length cap) := fun X h => by rcases SW.any h with rfl | rfl; exact x2; exact q5.cell 2
       have b4 := hid a6
       clear a6 x0 x1 x2 fx q0 q5
       gi_wp2
       refine wpIn_region_flowMI (ro := some l) 20 19 (SW wr.drew w5) (by kernel_rfl) (by kernel_rfl) (by kernel_rfl) (by decide) rfl ?_
       (repeat (first | (refine FlowMI.skip (by rfl) (by rfl) ?_; simp only [Act.put, List.setIfInBounds_toArray, List.set_cons_zero, List.set_cons_succ]) | (refine' FlowMI.take _ (by rfl) (by rfl) (fun W hW R hR => ?_) ?_; rotate_left; (go_simp; (try go_bits); with_reducible exact hR); simp only [Act.put, List.setIfInBounds_toArray, List.set_cons_zero, List.set_cons_succ])))
       refine FlowMI.mark (by rfl) (by rfl) (by rfl) (fun X hX R hR => ?_) ?_
       ·obtain rfl : X = wr.drew := hX
        have c1d : wr.drew.cell? ⟨gA, a1, none⟩ = some (.int .i64 (gI cur (a1 : Int))) := c1
        have fr1d : wr.drew.frozen? ⟨gA, a1, none⟩ = false := fr1
        go_simp
        exact hR _ b4.out.symm
       intro X hX
       obtain rfl : X = w5 := hX
       have hp2' : a2 < (cur.set a1 9223372036854775807).length := by simpa using b3
       obtain ⟨_, _, eA, _, c2⟩ := a4.rd a2 hp2'
       injection eA with eA; injection eA with eA1 eA2; subst eA1; subst eA2
       rw [Nat.zero_add] at c2
       have fr2 := a4.frozen a2
       have b9 := hid (a4.store a2 9223372036854775807)
       have b8 := hid (b2.trans (grown_setCell X ⟨gA, a2, none⟩ (.int .i64 9223372036854775807)))
       have HP2 := hid (show (0 : Int) ≤ (a2 : Int) by omega)
       clear f0 f2 c1 fr1 hp2' a4 b2 b4 a3 hg
       gi_wp2
       go_roundw
       case rel => exact ⟨2, by omega, by go_num, by rw [a9.out, HE.out]; exact b9.out, b8.out⟩
       case measure => decide
     ·replace a3 : Own wr base (some ⟨gA, 0, none⟩) cap (fAll N v (i + 1) m) := a3
      clear x0 x1 x2 fx q0
      gi_wp2
      go_roundw
      case rel => exact ⟨i + 1, by omega, by go_num, a3, hg⟩
      case measure => simp [RowKit.intOf]; omega
   ·obtain rfl : i = N := by omega
    have hge : ¬ ((i : Int) < 2 * n) := by have := HN.out; omega
    gi_wp2
    clear x0 x1 x2 fx
    have hb9 : Below base W wr := below_grown hg (fun k e => by injection e with e; have := HG.out; omega) (Nat.le_trans hbase b0.size)
    refine ⟨KeepsFrom.of_grownBy hg (fun j e => by injection e with e; have := HG.out; omega), KeepsWalks.of_grownBy hg (fun j o e ho => ?_), ⟨⟨q0, ?_, ?_⟩, Nat.le_trans HSW.out hg.size⟩, b0.trans hb9⟩
    ·injection e with e
     subst e
     exact own_cells h2 ho
    ·show Own wr base (some ⟨gA, 0, none⟩) cap (forgetM i v m)
     rw [← HFA.out]; exact a3
    ·exact h30.stay hg (by intro e; injection e with e; have := HG.out; omega)
 case done =>
  rintro D xs W hD hxs ⟨⟨⟨h1, h2, h3⟩, h7⟩, b0⟩ hK
  obtain rfl := b6.out
  replace h2 : Own W base (some ⟨gA, 0, none⟩) cap (forgetM N v m) := by rw [if_neg (by omega)] at h2; exact h2
  have hne := own_blk' h2 h3 (by decide)
  obtain ⟨x0, x1, x2, fx⟩ := octbox h1
  obtain ⟨y0, y1, y2, fy⟩ := octbox h3
  dsimp only
  gi_wp2
  clear x0 x1 x2 fx y0 y1 y2 fy
  have hle := Nat.le_trans hbase b0.size
  have o7 := h2.far3 (g := w.heap.size + 1) (v0 := .int .i64 n) (v1 := .bool false) (v2 := .slice (some ⟨gA, 0, none⟩) m.length cap) hne
  have p3 := h3.set3 (v0 := .int .i64 n) (v1 := .bool false) (v2 := .slice (some ⟨gA, 0, none⟩) m.length cap)
  have hb3 := b0.trans (below3 (W := W) (g := w.heap.size + 1) (v0 := .int .i64 n) (v1 := .bool false) (v2 := .slice (some ⟨gA, 0, none⟩) m.length cap) (by omega) hle)
  have hK3 := heap3 (g := w.heap.size + 1) (v0 := .int .i64 n) (v1 := .bool false) (v2 := .slice (some ⟨gA, 0, none⟩) m.length cap) hK rfl
  clear hK hne
  generalize ((W.setCell ⟨w.heap.size + 1, 0, none⟩ (.int .i64 n)).setCell ⟨w.heap.size + 1, 1, none⟩ (.bool false)).setCell ⟨w.heap.size + 1, 2, none⟩ (.slice (some ⟨gA, 0, none⟩) m.length cap) = W3 at *
  have hKg := grownBy_putObj' W3 D (.deferred none)
  have p4 := blk_kept p3 hKg (fun r e => by cases e; exact ⟨_, hK3, rfl⟩)
  have o4 := own_kept o7 hKg (fun r e => by cases e; exact ⟨_, hK3, rfl⟩)
  have hb4 : Below base w _ := hb3.trans (below_grown hKg (fun k e => by injection e with e; omega) (Nat.le_trans hbase hb3.size))
  obtain ⟨z0, z1, z2, fz⟩ := octbox p4
  refine ⟨by simp, .inl ⟨_, _, rfl, run_takeDeferred hK3, ?_⟩⟩
  refine ⟨.agg #[n, false, .slice (some ⟨gA, 0, none⟩) m.length cap], by simp [results, Tryz.results227, go_sem, z0, z1, z2], rfl, o4, hb4⟩
 case stop =>
  rintro D c pre W _ _ h _
  exact h.elim
end
end Go.Proofs.YtnmpgijiimglcaaGreat
