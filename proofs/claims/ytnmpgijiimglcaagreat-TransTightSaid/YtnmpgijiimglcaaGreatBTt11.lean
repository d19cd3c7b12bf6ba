import Derived.Test.YtnmpgijiimglcaaGreatBTt10
import Derived.Test.YtnmpgijiimglcaaGreatBTt01
import Derived.Test.YtnmpgijiimglcaaGreatBTt08
import Derived.IntWalk
namespace Go.Proofs.YtnmpgijiimglcaaGreat
open Go.RowKit
set_option maxRecDepth 100000
set_option maxHeartbeats 8000000
section
def P4 (p : O) : Prop := p = emptyO 2 ∨ ∃ zs, p = ⟨2, false, zs⟩ ∧ Tight 4 zs ∧ Fin4 zs
def Tiny (ys : List Int) : Prop := ∀ i j : Nat, i < 4 → j < 4 → -10 ≤ G 4 ys i j ∧ G 4 ys i j ≤ 10
def Sm4 (ys : List Int) : Prop := ∀ i j : Nat, i < 4 → j < 4 → G 4 ys i j = 9223372036854775807 ∨ (-141836999983108 ≤ G 4 ys i j ∧ G 4 ys i j ≤ 141836999983108)
structure Raw (m : List Int) : Prop where
 cells : Cells 4 m
 sm : ∀ i j : Nat, i < 4 → j < 4 → G 4 m i j = 9223372036854775807 ∨ (-1000000 ≤ G 4 m i j ∧ G 4 m i j ≤ 1000000)
theorem four : (2 * (2 : Int)).toNat = 4 := rfl
theorem zfU {m : List Int} (_h : Cells 4 m) {p : Nat} (_hp : p < 16) : gI m (p : Int) = G 4 m (p / 4) (p % 4) := by
 unfold G
 rw [show p / 4 * 4 + p % 4 = p by omega]
theorem zfs {m : List Int} {p : Nat} (h : m.length ≤ p) : gI m (p : Int) = 0 := by
 unfold gI
 rw [Int.toNat_natCast, List.getD_eq_getElem?_getD, List.getElem?_eq_none h]; rfl
theorem Raw.small {m : List Int} (h : Raw m) : zgB m := fun p => by
 by_cases hp : p < 16
 ·rw [zfU h.cells hp]
  have := h.sm (p / 4) (p % 4) (by omega) (by omega)
  omega
 ·rw [zfs (by rw [h.cells.len]; omega)]; omega
theorem Raw.allB {m : List Int} (h : Raw m) : AllB m := fun p => by
 by_cases hp : p < 16
 ·rw [zfU h.cells hp]
  exact h.cells.b (by omega) (by omega)
 ·rw [zfs (by rw [h.cells.len]; omega)]; decide
theorem zjY {zs m x : List Int} (h : HasM 4 zs x) (hm : Cells 4 m) (hl : ∀ i j : Nat, i < 4 → j < 4 → G 4 zs i j ≤ G 4 m i j) : HasM 4 m x := fun i j hi hj =>
 zn4 (h i j hi hj) (hl i j hi hj) (zlk (hm.b hi hj))
theorem ziu {m : List Int} (h : Raw m) : closeO ⟨2, false, m⟩ = emptyO 2 ∨ ∃ zs, closeO ⟨2, false, m⟩ = ⟨2, false, zs⟩ ∧ Tight 4 zs ∧ Sm4 zs ∧ ∀ i j : Nat, i < 4 → j < 4 → G 4 zs i j ≤ G 4 m i j := by
 rcases zd9 ⟨2, false, m⟩ with e | ⟨_, ys, hc, e⟩
 ·exact .inl e
 ·refine .inr ⟨ys, e, ?_⟩
  have hc : za3 4 m = some ys := hc
  obtain ⟨ns, sm⟩ := zhJ (by decide) (by decide) h.cells h.allB h.small hc
  refine ⟨zgT (by decide) h.cells h.allB hc ns, sm, fun i j _ _ => ?_⟩
  exact (zfm hc).le h.allB (i * 4 + j)
theorem zbC {m x : List Int} (h : Raw m) (hx : HasO (closeO ⟨2, false, m⟩) x) : HasM 4 m x ∧ x.length = 2 := by
 obtain ⟨h1, h2, h3⟩ := hx
 rcases ziu h with e | ⟨zs, e, -, -, le⟩
 ·rw [e] at h1; cases h1
 ·rw [e] at h2 h3
  exact ⟨zjY h3 h.cells le, by dsimp only at h2; omega⟩
theorem zls {zs : List Int} (T : Tight 4 zs) (s : Sm4 zs) (hu : ∀ i, i < 4 → G 4 zs i (nx i) ≠ 9223372036854775807) : Fin4 zs := fun i j hi hj => by
 have h1 := s i j hi hj
 by_cases hij : i = j
 ·subst hij; rw [T.cells.d hi]; omega
 ·have h2 := T.str i j hi hj hij
  have a1 := s i (nx i) hi (nxl (by decide) hi)
  have a2 := s (nx j) j (nxl (by decide) hj) hj
  have a3 := hu i hi
  have a4 := hu (nx j) (nxl (by decide) hj)
  rw [zbv] at a4
  rw [zdY (by omega) (by omega)] at h2
  have h4 : near (G 4 zs i (nx i) + G 4 zs (nx j) j) = G 4 zs i (nx i) + G 4 zs (nx j) j := zeM (by omega) (by omega)
  unfold half at h2
  rw [h4, if_neg (by omega)] at h2
  omega
theorem zh7 {a b c : Int} (h : LeS c a b) (ha : a ≠ 9223372036854775807) (hb : b ≠ 9223372036854775807) : c ≠ 9223372036854775807 := by unfold LeS at h; omega
theorem zl8 {m : List Int} (h : Raw m) (hu : ∀ i, i < 4 → G 4 m i (nx i) ≠ 9223372036854775807) : P4 (closeO ⟨2, false, m⟩) := by
 rcases ziu h with e | ⟨zs, e, T, s, le⟩
 ·exact .inl e
 ·refine .inr ⟨zs, e, T, zls T s fun i hi => ?_⟩
  have h1 := le i (nx i) hi (nxl (by decide) hi)
  have h2 := h.sm i (nx i) hi (nxl (by decide) hi)
  have h3 := hu i hi
  omega
theorem bm_G {m : List Int} (h : Cells 4 m) {i j : Nat} (hi : i < 4) (hj : j < 4) (v : Int) {a b : Nat} (ha : a < 4) (hb : b < 4) :
  G 4 (boundM 4 i j v m) a b = if (a = i ∧ b = j) ∨ (a = nx j ∧ b = nx i) then min (G 4 m i j) (near v) else G 4 m a b := zf7 (by decide) h.len hi hj v ha hb
theorem zj4 {v : Int} (h : -1000000 ≤ v ∧ v ≤ 1000000) : near v = v := zeM (by omega) (by omega)
theorem Raw.bound {m : List Int} (h : Raw m) {i j : Nat} (hi : i < 4) (hj : j < 4) (hij : i ≠ j) {v : Int} (hv : -1000000 ≤ v ∧ v ≤ 1000000) :
  Raw (boundM 4 i j v m) ∧ (∀ a b : Nat, a < 4 → b < 4 → G 4 (boundM 4 i j v m) a b ≤ G 4 m a b) ∧ G 4 (boundM 4 i j v m) i j ≤ v := by
 have g := fun (a b : Nat) (ha : a < 4) (hb : b < 4) => bm_G h.cells hi hj v ha hb
 rw [zj4 hv] at g
 refine ⟨⟨zeb (by decide) h.cells hi hj hij v, fun a b ha hb => ?_⟩, fun a b ha hb => ?_, ?_⟩
 ·rw [g a b ha hb]
  have h1 := h.sm i j hi hj
  have h2 := h.sm a b ha hb
  split <;> omega
 ·rw [g a b ha hb]
  have h1 := h.cells.mir i j hi hj
  split
  ·rename_i e
   rcases e with ⟨rfl, rfl⟩ | ⟨rfl, rfl⟩
   ·omega
   ·have : G 4 m (nx j) (nx i) = G 4 m i j := h1.symm
    omega
  ·omega
 ·rw [g i j hi hj, if_pos (.inl ⟨rfl, rfl⟩)]; omega
theorem zcb {m x : List Int} (h : Raw m) {i j : Nat} (hi : i < 4) (hj : j < 4) (hij : i ≠ j) {v : Int} (hv : -1000000 ≤ v ∧ v ≤ 1000000) (hx : HasM 4 (boundM 4 i j v m) x) : HasM 4 m x ∧ apartX x i j ≤ v := by
 obtain ⟨_, h2, h3⟩ := h.bound hi hj hij hv
 refine ⟨zjY hx h.cells h2, ?_⟩
 have h4 := hx i j hi hj
 unfold Lets at h4
 omega
theorem zcy {m : List Int} {i j : Nat} (hij : i ≠ j) (v : Int) : withO ⟨2, false, m⟩ i j v = ⟨2, false, boundM 4 i j v m⟩ := by
 unfold withO
 rw [if_neg (by simp), if_neg hij]; rfl
theorem zcZ {v : Int} (h : -1000000 ≤ v ∧ v ≤ 1000000) : zaH v = 2 * v := by unfold zaH; rw [if_neg (by omega), if_neg (by omega)]
theorem ziw {v : Int} (h : -1000000 ≤ v ∧ v ≤ 1000000) : negB v = -v := by unfold negB; rw [if_neg (by omega)]
theorem len2 {x : List Int} (h : x.length = 2) : ∃ u v, x = [u, v] := by
 match x, h with
 | [u, v], _ => exact ⟨u, v, rfl⟩
theorem zf6 (x : List Int) (v : Nat) : apartX x (2 * v) (2 * v + 1) = 2 * gI x (v : Int) ∧ apartX x (2 * v + 1) (2 * v) = -(2 * gI x (v : Int)) := by
 unfold apartX
 rw [zaI, zcL]; omega
section
variable {ys : List Int} (T : Tight 4 ys) (t : Tiny ys)
include T t
omit T in
theorem zf3 : Fin4 ys := fun i j hi hj => by have := t i j hi hj; omega
theorem zmF : Raw ys := ⟨T.cells, fun i j hi hj => by have := t i j hi hj; omega⟩
omit t in
theorem zi7 : closeO ⟨2, false, ys⟩ = ⟨2, false, ys⟩ := zgQ (N := 4) (by decide) T
theorem zhM : P4 ⟨2, false, ys⟩ := .inr ⟨ys, rfl, T, zf3 t⟩
omit t in
theorem zh9 (d : Nat) : forgetO ⟨2, false, ys⟩ d = ⟨2, false, forgetM 4 d ys⟩ := by
 unfold forgetO
 rw [zi7 T, if_neg (by simp)]; rfl
theorem zfj (d : Nat) : Raw (forgetM 4 d ys) := ⟨zdK (by decide) T.cells, fun i j hi hj => by
 rw [zcH T.cells.len hi hj]
 have := t i j hi hj
 split <;> omega⟩
omit t in
theorem zdS {d a b : Nat} (ha : a < 4) (hb : b < 4) (h1 : a / 2 ≠ d) (h2 : b / 2 ≠ d) : G 4 (forgetM 4 d ys) a b = G 4 ys a b := by
 rw [zcH T.cells.len ha hb, if_neg (fun q => q.2.elim h1 h2)]
theorem zey {d : Nat} (hd : d < 2) {z : List Int} (hl : z.length = 2) (hz : HasM 4 (forgetM 4 d ys) z) : ∃ u, HasM 4 ys (z.set d u) := by
 obtain ⟨z0, z1, rfl⟩ := len2 hl
 have f := zf3 t
 have Q := zoN T f
 have g := fun (i j : Nat) (hi : i < 4) (hj : j < 4) (h1 : i / 2 ≠ d) (h2 : j / 2 ≠ d) => (show apartX [z0, z1] i j ≤ G 4 ys i j from by
  have h3 := hz i j hi hj
  rw [zdS T hi hj h1 h2] at h3
  have h4 := f i j hi hj
  unfold Lets at h3
  omega)
 have s0 : zaC [z0, z1] 0 = z0 := rfl
 have s1 : zaC [z0, z1] 1 = -z0 := rfl
 have s2 : zaC [z0, z1] 2 = z1 := rfl
 have s3 : zaC [z0, z1] 3 = -z1 := rfl
 unfold apartX at g
 obtain rfl | rfl : d = 0 ∨ d = 1 := by omega
 ·have g1 := g 2 3 (by decide) (by decide) (by decide) (by decide)
  have g2 := g 3 2 (by decide) (by decide) (by decide) (by decide)
  simp only [s2, s3] at g1 g2
  obtain ⟨u, k⟩ := Q.proj0 (z := z1) (by omega) (by omega)
  exact ⟨u, has8 T k⟩
 ·have g1 := g 0 1 (by decide) (by decide) (by decide) (by decide)
  have g2 := g 1 0 (by decide) (by decide) (by decide) (by decide)
  simp only [s0, s1] at g1 g2
  obtain ⟨u, k⟩ := Q.proj1 (z := z0) (by omega) (by omega)
  exact ⟨u, has8 T k⟩
omit T t in
theorem zmJ {x : List Int} (hx : HasM 4 ys x) (hl : x.length = 2) : HasO ⟨2, false, ys⟩ x := ⟨rfl, by dsimp only; omega, hx⟩
theorem zoJ {d : Nat} (hd : d < 2) {k : Int} (hk : -100000 ≤ k ∧ k ≤ 100000) : P4 (giveO ⟨2, false, ys⟩ d (oneR k)) ∧ ∀ z, HasO (giveO ⟨2, false, ys⟩ d (oneR k)) z → ∃ x, HasO ⟨2, false, ys⟩ x ∧ z = x.set d k := by
 have r0 := zfj T t d
 obtain ⟨r1, l1, c1⟩ := r0.bound (i := 2 * d) (j := 2 * d + 1) (by omega) (by omega) (by omega) (v := 2 * k) (by omega)
 obtain ⟨r2, l2, c2⟩ := r1.bound (i := 2 * d + 1) (j := 2 * d) (by omega) (by omega) (by omega) (v := 2 * -k) (by omega)
 have hg : giveO ⟨2, false, ys⟩ d (oneR k) = closeO ⟨2, false, boundM 4 (2 * d + 1) (2 * d) (2 * -k) (boundM 4 (2 * d) (2 * d + 1) (2 * k) (forgetM 4 d ys))⟩ := by
  unfold giveO rangedO hiO oneR
  rw [zh9 T, if_pos rfl, if_pos rfl]
  dsimp only
  rw [zcZ (by omega), ziw (by omega), zcZ (by omega), zcy (by omega), zcy (by omega)]
 rw [hg]
 refine ⟨zl8 r2 fun i hi => ?_, fun z hz => ?_⟩
 ·have h1 := l1 i (nx i) hi (nxl (by decide) hi)
  have h2 := l2 i (nx i) hi (nxl (by decide) hi)
  by_cases e : i / 2 = d
  ·have e2 : i = 2 * d ∨ i = 2 * d + 1 := by omega
   rcases e2 with rfl | rfl
   ·have : nx (2 * d) = 2 * d + 1 := by unfold nx; rw [if_pos (by omega)]
    rw [this] at h1 h2 ⊢
    omega
   ·have : nx (2 * d + 1) = 2 * d := by unfold nx; rw [if_neg (by omega)]; omega
    rw [this] at h1 h2 ⊢
    omega
  ·rw [zdS T hi (nxl (by decide) hi) e (by rw [zcu]; exact e)] at h1
   have := t i (nx i) hi (nxl (by decide) hi)
   omega
 ·obtain ⟨h1, hl⟩ := zbC r2 hz
  obtain ⟨h2, a2⟩ := zcb r1 (by omega) (by omega) (by omega) (by omega) h1
  obtain ⟨h3, a1⟩ := zcb r0 (by omega) (by omega) (by omega) (by omega) h2
  obtain ⟨b1, b2⟩ := zf6 z d
  obtain ⟨u, hu⟩ := zey T t hd hl h3
  refine ⟨z.set d u, zmJ hu (by simpa using hl), ?_⟩
  have e : gI z (d : Int) = k := by omega
  rw [List.set_set, ← e]
  exact (zbq z d).symm
theorem znC {d j : Nat} (hd : d < 2) (hj : j < 4) (hne : j / 2 ≠ d) {k : Int} (hk : -100000 ≤ k ∧ k ≤ 100000) : P4 (linkO ⟨2, false, ys⟩ (2 * d) j k) ∧ ∀ z, HasO (linkO ⟨2, false, ys⟩ (2 * d) j k) z → ∃ x, HasO ⟨2, false, ys⟩ x ∧ z = x.set d (zaC x j + k) := by
 have r0 := zfj T t d
 obtain ⟨r1, l1, c1⟩ := r0.bound (i := 2 * d) (j := j) (by omega) hj (by omega) (v := k) (by omega)
 obtain ⟨r2, l2, c2⟩ := r1.bound (i := j) (j := 2 * d) hj (by omega) (by omega) (v := -k) (by omega)
 have hg : linkO ⟨2, false, ys⟩ (2 * d) j k = closeO ⟨2, false, boundM 4 j (2 * d) (-k) (boundM 4 (2 * d) j k (forgetM 4 d ys))⟩ := by
  unfold linkO
  rw [show 2 * d / 2 = d by omega, zh9 T, zcy (by omega), zcy (by omega)]
 rw [hg]
 refine ⟨?_, fun z hz => ?_⟩
 ·rcases ziu r2 with e | ⟨zs, e, Tz, s, le⟩
  ·exact .inl e
  ·refine .inr ⟨zs, e, Tz, zls Tz s fun i hi => ?_⟩
   have a0 := nxl (N := 4) (by decide) hj
   have far : ∀ a b : Nat, a < 4 → b < 4 → a / 2 ≠ d → b / 2 ≠ d → G 4 zs a b ≠ 9223372036854775807 := fun a b ha hb ea eb => by
    have h1 := l1 a b ha hb
    have h2 := l2 a b ha hb
    have h3 := le a b ha hb
    rw [zdS T ha hb ea eb] at h1
    have := t a b ha hb
    omega
   have f1 : G 4 zs (2 * d) j ≠ 9223372036854775807 := by
    have h2 := l2 (2 * d) j (by omega) hj
    have h3 := le (2 * d) j (by omega) hj
    omega
   have f2 : G 4 zs j (2 * d) ≠ 9223372036854775807 := by
    have h3 := le j (2 * d) hj (by omega)
    omega
   have n2 : nx (2 * d) = 2 * d + 1 := by unfold nx; rw [if_pos (by omega)]
   have f3 : G 4 zs (nx j) (2 * d + 1) ≠ 9223372036854775807 := by
    have := Tz.cells.sym (2 * d) j (by omega) hj
    rw [n2] at this
    rw [← this]; exact f1
   have f4 : G 4 zs (2 * d + 1) (nx j) ≠ 9223372036854775807 := by
    have := Tz.cells.sym j (2 * d) hj (by omega)
    rw [n2] at this
    rw [← this]; exact f2
   by_cases e : i / 2 = d
   ·have e2 : i = 2 * d ∨ i = 2 * d + 1 := by omega
    rcases e2 with rfl | rfl
    ·rw [n2]
     have q1 := zh7 (Tz.tri j (2 * d + 1) (nx j) hj (by omega) a0) (far j (nx j) hj a0 hne (by rw [zcu]; exact hne)) f3
     exact zh7 (Tz.tri (2 * d) (2 * d + 1) j (by omega) (by omega) hj) f1 q1
    ·have n3 : nx (2 * d + 1) = 2 * d := by unfold nx; rw [if_neg (by omega)]; omega
     rw [n3]
     have q1 := zh7 (Tz.tri (nx j) (2 * d) j a0 (by omega) hj) (far (nx j) j a0 hj (by rw [zcu]; exact hne) hne) f2
     exact zh7 (Tz.tri (2 * d + 1) (2 * d) (nx j) (by omega) (by omega) a0) f4 q1
   ·exact far i (nx i) hi (nxl (by decide) hi) e (by rw [zcu]; exact e)
 ·obtain ⟨h1, hl⟩ := zbC r2 hz
  obtain ⟨h2, a2⟩ := zcb r1 hj (by omega) (by omega) (by omega) h1
  obtain ⟨h3, a1⟩ := zcb r0 (by omega) hj (by omega) (by omega) h2
  obtain ⟨u, hu⟩ := zey T t hd hl h3
  refine ⟨z.set d u, zmJ hu (by simpa using hl), ?_⟩
  rw [zbV _ _ _ hne, List.set_set]
  unfold apartX at a1 a2
  rw [zaI] at a1 a2
  rw [show zaC z j + k = gI z (d : Int) by omega]
  exact (zbq z d).symm
theorem zoD {d : Nat} (hd : d < 2) {k : Int} (hk : -100000 ≤ k ∧ k ≤ 100000) : P4 (closeO ⟨2, false, zbf 4 d k ys⟩) ∧ ∀ z, HasO (closeO ⟨2, false, zbf 4 d k ys⟩) z → ∃ x, HasO ⟨2, false, ys⟩ x ∧ z = x.set d (gI x (d : Int) + k) := by
 have sm : ∀ i j : Nat, i < 4 → j < 4 → G 4 ys i j = 9223372036854775807 ∨ (-141836999983108 ≤ G 4 ys i j ∧ G 4 ys i j ≤ 141836999983108) := fun i j hi hj => by have := t i j hi hj; omega
 have val := fun (a b : Nat) (ha : a < 4) (hb : b < 4) => (show G 4 (zbf 4 d k ys) a b = G 4 ys a b + byK d k a - byK d k b from by
  have h1 := t a b ha hb
  rcases zkO sm T.cells d (k := k) (by omega) ha hb with h | h
  ·omega
  ·exact h.2)
 have bk := fun a => (show -100000 ≤ byK d k a ∧ byK d k a ≤ 100000 from by unfold byK; split <;> (try split) <;> omega)
 have r : Raw (zbf 4 d k ys) := ⟨zb3 (by decide) T.cells, fun i j hi hj => by
  rw [val i j hi hj]
  have h1 := t i j hi hj
  have h2 := bk i
  have h3 := bk j
  omega⟩
 refine ⟨zl8 r fun i hi => ?_, fun z hz => ?_⟩
 ·rw [val i (nx i) hi (nxl (by decide) hi)]
  have h1 := t i (nx i) hi (nxl (by decide) hi)
  have h2 := bk i
  have h3 := bk (nx i)
  omega
 ·obtain ⟨h1, hl⟩ := zbC r hz
  have hx : (z.set d (gI z (d : Int) - k)).set d (gI (z.set d (gI z (d : Int) - k)) (d : Int) + k) = z := by
   rw [zhk _ _ _ (by omega), List.set_set, show gI z (d : Int) - k + k = gI z (d : Int) by omega]
   exact zbq z d
  refine ⟨z.set d (gI z (d : Int) - k), zmJ (fun i j hi hj => ?_) (by simpa using hl), hx.symm⟩
  have h2 := h1 i j hi hj
  rw [val i j hi hj, ← hx] at h2
  have e : ∀ a, zaC ((z.set d (gI z (d : Int) - k)).set d (gI (z.set d (gI z (d : Int) - k)) (d : Int) + k)) a = zaC (z.set d (gI z (d : Int) - k)) a + byK d k a := fun a => zgg k (by simpa using (by omega : d < z.length)) a
  unfold apartX at h2 ⊢
  rw [e, e] at h2
  have h3 := t i j hi hj
  have h4 := bk i
  have h5 := bk j
  unfold Lets at h2 ⊢
  omega
theorem zpo {d : Nat} (hd : d < 2) : P4 (zcF ⟨2, false, ys⟩ d) ∧ ∀ z, HasO (zcF ⟨2, false, ys⟩ d) z → ∃ x, HasO ⟨2, false, ys⟩ x ∧ z = x.set d (-gI x (d : Int)) := by
 have val := fun (a b : Nat) (ha : a < 4) (hb : b < 4) => zhA (v := d) T.cells.len (a := a) (b := b) ha hb
 have ol := fun (a : Nat) (ha : a < 4) => zbs (N := 4) (v := d) (by decide) ha
 have r : Raw (zdk 4 d ys) := ⟨zcr (by decide) T.cells, fun i j hi hj => by
  rw [val i j hi hj]
  have h1 := t _ _ (ol i hi) (ol j hj)
  omega⟩
 have hg : zcF ⟨2, false, ys⟩ d = closeO ⟨2, false, zdk 4 d ys⟩ := rfl
 rw [hg]
 have oo : ∀ a, otherV d (otherV d a) = a := fun a => by
  unfold otherV
  by_cases e : a / 2 = d
  ·rw [if_pos e, zcu, if_pos e, zbv]
  ·rw [if_neg e, if_neg e]
 refine ⟨zl8 r fun i hi => ?_, fun z hz => ?_⟩
 ·rw [val i (nx i) hi (nxl (by decide) hi)]
  have h1 := t _ _ (ol i hi) (ol (nx i) (nxl (by decide) hi))
  omega
 ·obtain ⟨h1, hl⟩ := zbC r hz
  have e : ∀ a, zaC (z.set d (-gI z (d : Int))) a = zaC z (otherV d a) := fun a => by
   unfold otherV
   by_cases e : a / 2 = d
   ·rw [if_pos e, zcq]
    subst e
    unfold zaC
    rw [zhk _ _ _ (by omega)]
    split <;> omega
   ·rw [if_neg e, zbV _ _ _ e]
  refine ⟨z.set d (-gI z (d : Int)), zmJ (fun i j hi hj => ?_) (by simpa using hl), ?_⟩
  ·have h2 := h1 _ _ (ol i hi) (ol j hj)
   rw [val _ _ (ol i hi) (ol j hj), oo, oo] at h2
   unfold apartX at h2 ⊢
   rw [e, e]
   exact h2
  ·rw [zhk _ _ _ (by omega), List.set_set, show - -gI z (d : Int) = gI z (d : Int) by omega]
   exact (zbq z d).symm
end
end
section
namespace At64
theorem row_info : (Tryz.prog.info? 22).map (fun i => (i.zero, i.size, i.bytes)) = some (some (.slice none 0 0), 1, 24) := by kernel_rfl
abbrev R1 := List Int × Option Addr × Nat
def r1 (z : R1) : List Value := [.slice z.2.1 z.1.length z.2.2]
theorem r1_get : ∀ (zs : List R1) (k : Nat) (h : k < zs.length), (zs.flatMap r1)[k]? = some (.slice zs[k].2.1 zs[k].1.length zs[k].2.2)
 | [], k, h => absurd h (by simp)
 | z :: zs, 0, _ => by simp [r1]
 | z :: zs, k + 1, h => by
  rw [List.flatMap_cons, List.getElem?_append_right (by simp [r1]), show k + 1 - (r1 z).length = k by simp [r1]]
  exact r1_get zs k (by simpa using h)
theorem own_blk0 {w : World} {base cap g k : Nat} {xs : List Int} {t : TypeId} {cs : Array Value} (h : Own w base (some ⟨g, 0, none⟩) cap xs) (hk : Blk w k t cs) (ht : t ≠ 2) : g ≠ k := by
 rintro rfl
 rcases h.2 with ⟨h0, _⟩ | ⟨g', cap', cur, h1, _, h3, _⟩
 ·cases h0
 ·simp only [Value.slice.injEq, Option.some.injEq, Addr.mk.injEq] at h1
  obtain ⟨⟨rfl, _⟩, _⟩ := h1
  unfold Blk at hk
  rw [h3] at hk
  injection hk with hk
  injection hk with _ hk
  exact ht hk.symm
structure OwnR (w : World) (base : Nat) (A : Option Addr) (cap : Nat) (zs : List R1) : Prop where
 row : w.ownsRow base 22 1 (.slice A zs.length cap) zs.length (zs.flatMap r1)
 own : ∀ z ∈ zs, Own w base z.2.1 z.2.2 z.1
section
variable {w w' : World} {base cap : Nat} {A : Option Addr} {zs : List R1}
theorem OwnR.nil (w : World) (base : Nat) : OwnR w base none 0 [] := ⟨World.ownsRow_nil _ _ _ _, fun _ h => absurd h (by simp)⟩
theorem OwnR.below (h : OwnR w base A cap zs) (hb : Below w.heap.size w w') : OwnR w' base A cap zs :=
 ⟨World.ownsRow.kept h.row (zar hb none) (by cases h' : (Value.slice A zs.length cap).ownBlock <;> simp), fun z hz => (h.own z hz).below hb⟩
theorem OwnR.form (h : OwnR w base A cap zs) : (A = none ∧ zs = [] ∧ cap = 0) ∨ ∃ g cs, A = some ⟨g, 0, none⟩ ∧ base ≤ g ∧ g < w.heap.size ∧ w.heap[g]? = some (.cells cs 22 (0, 0)) := by
 rcases h.row.2 with ⟨h1, h0⟩ | ⟨g, cap', cur, h1, hb, hg, _⟩
 ·injection h1 with h1 _ h3
  exact .inl ⟨h1, List.eq_nil_of_length_eq_zero h0, h3⟩
 ·injection h1 with h1
  exact .inr ⟨g, cur, h1, hb, (Array.getElem?_eq_some_iff.1 hg).1, hg⟩
theorem OwnR.setFar (h : OwnR w base A cap zs) {p : Addr} (hp : p.block < base) (u : Value) : OwnR (w.setCell p u) base A cap zs :=
 ⟨World.ownsRow.kept h.row (zal w p u) (by
  rcases h.form with ⟨rfl, _⟩ | ⟨g, cs, rfl, h1, _⟩
  ·exact .inl rfl
  ·exact .inr (fun e => by simp [Value.ownBlock] at e; omega)), fun z hz => (h.own z hz).setFar hp u⟩
theorem OwnR.cell (h : OwnR w base A cap zs) {k : Nat} (hk : k < zs.length) : ∃ g, A = some ⟨g, 0, none⟩ ∧ base ≤ g ∧ g < w.heap.size ∧ w.cell? ⟨g, k, none⟩ = some (.slice zs[k].2.1 zs[k].1.length zs[k].2.2) := by
 rcases h.form with ⟨_, rfl, _⟩ | ⟨g, cs, rfl, h1, h2, _⟩
 ·simp at hk
 ·exact ⟨g, rfl, h1, h2, (World.ownsRow.cellAt (w := w) (xs := zs.flatMap r1) h.row k (by omega)).trans (r1_get zs k hk)⟩
end
theorem run_append_row (w : World) (base : Nat) (ty : TypeId) (A : Option Addr) (c : Nat) (zs : List R1) (z : R1) (h : OwnR w base A c zs) (g : Nat)
  (hk : Blk w g 22 #[.slice z.2.1 z.1.length z.2.2]) (hz : Own w base z.2.1 z.2.2 z.1) (hl : zs.length + 1 ≤ 1000000) (hbase : base ≤ w.heap.size) :
  ∃ A' c' w', (Builtin.append_ #[40, 40] ty #[.slice A zs.length c, .slice (some ⟨g, 0, none⟩) 1 1]).run Tryz.prog w = .ok (.slice A' (zs ++ [z]).length c') w' ∧ OwnR w' base A' c' (zs ++ [z]) ∧ w.grownBy w' (Value.slice A zs.length c).ownBlock := by
 obtain ⟨i0, hi, hz0, hz1, hz2⟩ := info_parts row_info
 obtain ⟨v', w', a0, h2, h3, _, h5⟩ := run_append_own_at (P := Tryz.prog) w base 40 ty _ i0 _ 1 24 Tryz.underlying40 hi hz0 hz1 hz2 rfl (by omega) _ zs.length (zs.flatMap r1) h.row ⟨g, 0, none⟩ 1 1 (r1 z) rfl
  (fun j u hu => by rw [zfl, Nat.zero_add, hk.cell j]; simpa [r1] using hu) (fun u hu => by simp [r1] at hu; subst hu; rfl) (by unfold maxLen; omega) (by omega) hbase
 have hl2 : (zs ++ [z]).length = zs.length + 1 := by simp
 have hf2 : (zs ++ [z]).flatMap r1 = zs.flatMap r1 ++ r1 z := by simp
 have keep : ∀ y : R1, Own w base y.2.1 y.2.2 y.1 → Own w' base y.2.1 y.2.2 y.1 := fun y hy => by
  refine hy.grown h3 ?_
  rcases h.form with ⟨rfl, _⟩ | ⟨gr, cs, rfl, _, _, hgr⟩
  ·cases h' : (Value.slice y.2.1 y.1.length y.2.2).ownBlock <;> simp [Value.ownBlock]
  ·rcases hy.form with ⟨e, _⟩ | ⟨gy, e, _⟩
   ·rw [e]; exact .inl rfl
   ·rw [e]
    rw [e] at hy
    exact .inr (fun e' => own_blk0 hy (show Blk w gr 22 cs from hgr) (by decide) (by simpa [Value.ownBlock] using e'))
 rcases h2.2 with ⟨_, h0⟩ | ⟨g', cap', cur, rfl, h4⟩
 ·omega
 ·refine ⟨_, cap', w', by rw [hl2]; exact a0, ⟨by rw [hf2, hl2]; exact h2, fun y hy => ?_⟩, h3⟩
  rcases List.mem_append.1 hy with hy | hy
  ·exact keep y (h.own y hy)
  ·rw [List.mem_singleton] at hy; subst hy; exact keep y hz
theorem wpList_append_row {ops : Array Oper} {rest : List Oper} {o : Oper} {a : Act} {Q : Exit → Act → World → Prop} {w : World} (s x : Operand)
  (ho : o.op = .call { callee := .builtin .append, args := #[s, x], argTypes := #[40, 40] }) (hgd : o.guard = none)
  (base : Nat) (A0 : Option Addr) (c0 : Nat) (zs : List R1) (z : R1) (hs : a.eval s = .slice A0 zs.length c0) (hown : OwnR w base A0 c0 zs) (g : Nat)
  (hx : a.eval x = .slice (some ⟨g, 0, none⟩) 1 1) (hr : Blk w g 22 #[.slice z.2.1 z.1.length z.2.2]) (hz : Own w base z.2.1 z.2.2 z.1) (hl : zs.length + 1 ≤ 1000000) (hbase : base ≤ w.heap.size)
  (h : ∀ A' cap' w', OwnR w' base A' cap' (zs ++ [z]) → Below base w w' → wpList Tryz.prog ops Q rest (a.put o.dst (.slice A' (zs ++ [z]).length cap')) w') :
  wpList Tryz.prog ops Q (o :: rest) a w :=
 wpList_plain hgd fun K hK => by
  obtain ⟨A', c', w', a0, h2, h3⟩ := run_append_row w base o.type A0 c0 zs z hown g hr hz hl hbase
  unfold Oper.wp execOp
  simp only [ho, resolve, invoke, builtin, Sem.run_bind, Sem.run_pure, Result.andThen_ok, List.map_toArray, List.map_cons, List.map_nil, hs, hx, a0]
  exact hK _ _ (h A' c' w' h2 (zat h3 (fun k hk => by
   rcases hown.form with ⟨rfl, _⟩ | ⟨g', _, rfl, hg, _⟩
   ·simp [Value.ownBlock] at hk
   ·simp [Value.ownBlock] at hk; omega) hbase))
end At64
end
section
attribute [local go_sem ↓] Go.wp_at_zero Go.wp_at_succ
theorem ret2 {a b : Int} {p : Int × Int} (h : p = (a, b)) : Ending.returned (.tuple #[a, b]) = .returned (zdl p) := by rw [h]; rfl
def zaE (p : Int × Int) (w : World) (e : Ending) (w' : World) : Prop := e = .returned (zdl p) ∧ w = w'
def zdA (p : Int) (w : World) (e : Ending) (w' : World) : Prop := e = .returned (.int .i64 p) ∧ w = w'
def zdb (p : Bool) (w : World) (e : Ending) (w' : World) : Prop := e = .returned (.bool p) ∧ w = w'
def I64 (a : Int) : Prop := -9223372036854775808 ≤ a ∧ a ≤ 9223372036854775807
theorem prok {a b : Int} {w : World} {p : Int × Int} (h : p = (a, b)) : zaE p w (.returned (.tuple #[a, b])) w := ⟨ret2 h, rfl⟩
theorem zeG {a : Int} (h : -9223372036854775808 ≤ a ∧ a ≤ 9223372036854775807) : fit a = (a, 0) := by unfold fit inI; rw [if_pos (by rw [decide_eq_true_eq]; exact h)]
theorem zbB {a : Int} (h : a < -9223372036854775808 ∨ 9223372036854775807 < a) : fit a = (0, 1) := by unfold fit inI; rw [if_neg (by rw [decide_eq_true_eq]; omega)]
theorem zf9 {a b : Int} (ha : -9223372036854775808 ≤ a ∧ a ≤ 9223372036854775807) (hne : ¬ b = 0) (hov : (a == -9223372036854775808 && b == -1) = false) : -9223372036854775808 ≤ a.tdiv b ∧ a.tdiv b ≤ 9223372036854775807 := by
 have h : (a.tdiv b).natAbs = a.natAbs / b.natAbs := Int.natAbs_tdiv a b
 have h1 : a.natAbs / b.natAbs ≤ a.natAbs := Nat.div_le_self _ _
 by_cases e : a = -9223372036854775808
 ·subst e
  have hb : b ≠ -1 := by rintro rfl; simp at hov
  by_cases e1 : b = 1
  ·subst e1; simp
  ·have h2 : (-9223372036854775808 : Int).natAbs / b.natAbs ≤ (-9223372036854775808 : Int).natAbs / 2 := Nat.div_le_div_left (by omega) (by omega)
   have h3 : (-9223372036854775808 : Int).natAbs / 2 = 4611686018427387904 := by decide
   omega
 ·omega
theorem znE {a b : Int} (ha : -9223372036854775808 ≤ a ∧ a ≤ 9223372036854775807) (hne : ¬ b = 0) (hov : (a == -9223372036854775808 && b == -1) = false) : a.tdiv b = wrap64 (a.tdiv b) := (IntWalk.wrap64_in _ (zf9 ha hne hov)).symm
theorem zk8 {a b : Int} (ha : -9223372036854775808 ≤ a ∧ a ≤ 9223372036854775807) : -9223372036854775808 ≤ a.tmod b ∧ a.tmod b ≤ 9223372036854775807 := by
 have h : (a.tmod b).natAbs = a.natAbs % b.natAbs := Int.natAbs_tmod a b
 have h1 : a.natAbs % b.natAbs ≤ a.natAbs := Nat.mod_le _ _
 rcases Int.le_total 0 a with h0 | h0
 ·have := Int.tmod_nonneg b h0; omega
 ·have := Int.tmod_nonneg b (show 0 ≤ -a by omega)
  rw [Int.neg_tmod] at this
  omega
theorem zpi {a b : Int} (ha : -9223372036854775808 ≤ a ∧ a ≤ 9223372036854775807) (hne : ¬ b = 0) (hov : (a == -9223372036854775808 && b == -1) = false) : a.tmod b = wrap64 (a - wrap64 (wrap64 (a.tdiv b) * b)) := by
 have hm := zk8 (b := b) ha
 have e : a.tdiv b * b = a - a.tmod b := by have := Int.mul_tdiv_add_tmod a b; rw [Int.mul_comm] at this; omega
 rw [← znE ha hne hov, e, IntWalk.wrap64_in (a - a.tmod b) ?_, show a - (a - a.tmod b) = a.tmod b by omega, IntWalk.wrap64_in _ hm]
 rcases Int.le_total 0 a with h0 | h0
 ·have h1 := Int.tmod_nonneg b h0
  have h : (a.tmod b).natAbs = a.natAbs % b.natAbs := Int.natAbs_tmod a b
  have h2 : a.natAbs % b.natAbs ≤ a.natAbs := Nat.mod_le _ _
  omega
 ·have h1 := Int.tmod_nonneg b (show 0 ≤ -a by omega)
  rw [Int.neg_tmod] at h1
  have h : (a.tmod b).natAbs = a.natAbs % b.natAbs := Int.natAbs_tmod a b
  have h2 : a.natAbs % b.natAbs ≤ a.natAbs := Nat.mod_le _ _
  omega
theorem zcw {a : Int} (h : -9223372036854775808 ≤ a ∧ a ≤ 9223372036854775807) : fit a = (wrap64 a, 0) := by rw [IntWalk.wrap64_in a h]; exact zeG h
theorem zl4 (a b : Int) (w : World) (ha : I64 a) (hb : I64 b) : Calls Tryz.prog 101 #[a, b] w (zaE (addW a b) w) := by
 have HA := hid ha
 have HB := hid hb
 clear ha hb
 cases t1 : decide (a < 0) <;> cases t2 : decide (b < 0) <;> cases t3 : decide (wrap64 (a + b) < 0)
 all_goals
  go_enter Tryz.func101, Tryz.ntmps101
  go_wp2
  go_ret2
  have ha := HA.out
  have hb := HB.out
  unfold I64 at ha hb
  simp only [decide_eq_true_eq, decide_eq_false_iff_not] at t1 t2 t3
  unfold wrap64 at t3
  refine prok ?_
  unfold addW
  first | exact zcw (by omega) | exact zbB (by omega)
theorem zen (a b : Int) (w : World) (ha : I64 a) (hb : I64 b) : Calls Tryz.prog 102 #[a, b] w (zaE (subW a b) w) := by
 have HA := hid ha
 have HB := hid hb
 clear ha hb
 cases t1 : decide (a < 0) <;> cases t2 : decide (b < 0) <;> cases t3 : decide (wrap64 (a - b) < 0)
 all_goals
  go_enter Tryz.func102, Tryz.ntmps102
  go_wp2
  go_ret2
  have ha := HA.out
  have hb := HB.out
  unfold I64 at ha hb
  simp only [decide_eq_true_eq, decide_eq_false_iff_not] at t1 t2 t3
  unfold wrap64 at t3
  refine prok ?_
  unfold subW
  first | exact zcw (by omega) | exact zbB (by omega)
theorem zfN (a : Int) (w : World) (ha : I64 a) : Calls Tryz.prog 198 #[a] w (zaE (negW a) w) := by
 have HC := hid (zen 0 a w (by unfold I64; omega) ha)
 rw [show subW 0 a = negW a from by unfold subW negW; rw [Int.zero_sub]] at HC
 generalize negW a = p at *
 go_enter Tryz.func198, Tryz.ntmps198
 go_wp2_with fail
 refine HC.out.mono ?_
 rintro e w' ⟨rfl, rfl⟩
 obtain ⟨p, q⟩ := p
 unfold zdl
 go_wp2
 go_ret2
 exact prok rfl
theorem zed (a b : Int) (w : World) : Calls Tryz.prog 247 #[a, b] w (zdA (divErr a b) w) := by
 cases t1 : (b == 0) <;> cases t2 : (a == -9223372036854775808) <;> cases t3 : (b == -1)
 all_goals
  go_enter Tryz.func247, Tryz.ntmps247
  go_wp2
  go_ret
  simp only [beq_iff_eq, beq_eq_false_iff_ne] at t1 t2 t3
  unfold divErr
  first | (rw [if_pos t1]; exact ⟨rfl, rfl⟩) | (rw [if_neg t1, if_pos ⟨t2, t3⟩]; exact ⟨rfl, rfl⟩) | (rw [if_neg t1, if_neg (fun h => t2 h.1)]; exact ⟨rfl, rfl⟩) | (rw [if_neg t1, if_neg (fun h => t3 h.2)]; exact ⟨rfl, rfl⟩)
theorem zd7 (a b : Int) (w : World) : Calls Tryz.prog 183 #[a, b] w (zdA (divErr a b) w) := by
 cases t1 : (b == 0) <;> cases t2 : (a == -9223372036854775808) <;> cases t3 : (b == -1)
 all_goals
  go_enter Tryz.func183, Tryz.ntmps183
  go_wp2
  go_ret
  simp only [beq_iff_eq, beq_eq_false_iff_ne] at t1 t2 t3
  unfold divErr
  first | (rw [if_pos t1]; exact ⟨rfl, rfl⟩) | (rw [if_neg t1, if_pos ⟨t2, t3⟩]; exact ⟨rfl, rfl⟩) | (rw [if_neg t1, if_neg (fun h => t2 h.1)]; exact ⟨rfl, rfl⟩) | (rw [if_neg t1, if_neg (fun h => t3 h.2)]; exact ⟨rfl, rfl⟩)
theorem zh2 (a b : Int) (w : World) (ha : I64 a) (hb : I64 b) : Calls Tryz.prog 232 #[a, b] w (zaE (divW a b) w) := by
 have HD := hid (zed a b w)
 have HA := hid ha
 have HB := hid hb
 clear ha hb
 cases t : (divErr a b != 0)
 ·have e0 : divErr a b = 0 := by simpa using t
  have HW : Hid (divW a b = (a.tdiv b, 0)) := hid (by unfold divW; rw [if_pos e0])
  have a0 : (b == 0) = false := by
   rw [beq_eq_false_iff_ne]; intro h; subst h; unfold divErr at e0; simp at e0
  have hov : (a == -9223372036854775808 && b == -1) = false := by
   rw [Bool.eq_false_iff]; intro h
   simp only [Bool.and_eq_true, beq_iff_eq] at h
   unfold divErr at e0; rw [if_neg (by omega), if_pos h] at e0; cases e0
  rw [e0] at HD
  clear e0 t
  have hne : ¬ b = 0 := by simpa using a0
  go_enter Tryz.func232, Tryz.ntmps232
  go_wp2_with fail
  refine HD.out.mono ?_
  rintro e w' ⟨rfl, rfl⟩
  go_wp2
  go_ret2
  refine prok ?_
  exact HW.out.trans (congrArg (fun x => (x, (0 : Int))) (znE HA.out hne hov))
 ·have HW : Hid (divW a b = (0, divErr a b)) := hid (by unfold divW; rw [if_neg (by simpa using t)])
  generalize divErr a b = er at *
  go_enter Tryz.func232, Tryz.ntmps232
  go_wp2_with fail
  refine HD.out.mono ?_
  rintro e w' ⟨rfl, rfl⟩
  go_wp2
  go_ret2
  exact prok HW.out
theorem zlT (a b : Int) (w : World) (ha : I64 a) (hb : I64 b) : Calls Tryz.prog 234 #[a, b] w (zaE (remW a b) w) := by
 have HD := hid (zed a b w)
 have HA := hid ha
 have HB := hid hb
 clear ha hb
 cases t : (divErr a b != 0)
 ·have e0 : divErr a b = 0 := by simpa using t
  have HW : Hid (remW a b = (a.tmod b, 0)) := hid (by unfold remW; rw [if_pos e0])
  have a0 : (b == 0) = false := by
   rw [beq_eq_false_iff_ne]; intro h; subst h; unfold divErr at e0; simp at e0
  have hov : (a == -9223372036854775808 && b == -1) = false := by
   rw [Bool.eq_false_iff]; intro h
   simp only [Bool.and_eq_true, beq_iff_eq] at h
   unfold divErr at e0; rw [if_neg (by omega), if_pos h] at e0; cases e0
  rw [e0] at HD
  clear e0 t
  have hne : ¬ b = 0 := by simpa using a0
  go_enter Tryz.func234, Tryz.ntmps234
  go_wp2_with fail
  refine HD.out.mono ?_
  rintro e w' ⟨rfl, rfl⟩
  go_wp2
  go_ret2
  refine prok ?_
  exact HW.out
 ·have HW : Hid (remW a b = (0, divErr a b)) := hid (by unfold remW; rw [if_neg (by simpa using t)])
  generalize divErr a b = er at *
  go_enter Tryz.func234, Tryz.ntmps234
  go_wp2_with fail
  refine HD.out.mono ?_
  rintro e w' ⟨rfl, rfl⟩
  go_wp2
  go_ret2
  exact prok HW.out
theorem zlV (a b : Int) (w : World) (ha : I64 a) (hb : I64 b) : Calls Tryz.prog 111 #[a, b] w (zaE (divW a b) w) := by
 have HD := hid (zd7 a b w)
 have HA := hid ha
 have HB := hid hb
 clear ha hb
 cases t : (divErr a b != 0)
 ·have e0 : divErr a b = 0 := by simpa using t
  have HW : Hid (divW a b = (a.tdiv b, 0)) := hid (by unfold divW; rw [if_pos e0])
  have a0 : (b == 0) = false := by
   rw [beq_eq_false_iff_ne]; intro h; subst h; unfold divErr at e0; simp at e0
  have hov : (a == -9223372036854775808 && b == -1) = false := by
   rw [Bool.eq_false_iff]; intro h
   simp only [Bool.and_eq_true, beq_iff_eq] at h
   unfold divErr at e0; rw [if_neg (by omega), if_pos h] at e0; cases e0
  rw [e0] at HD
  clear e0 t
  have hne : ¬ b = 0 := by simpa using a0
  go_enter Tryz.func111, Tryz.ntmps111
  go_wp2_with fail
  refine HD.out.mono ?_
  rintro e w' ⟨rfl, rfl⟩
  go_wp2
  go_ret2
  refine prok ?_
  exact HW.out.trans (congrArg (fun x => (x, (0 : Int))) (znE HA.out hne hov))
 ·have HW : Hid (divW a b = (0, divErr a b)) := hid (by unfold divW; rw [if_neg (by simpa using t)])
  generalize divErr a b = er at *
  go_enter Tryz.func111, Tryz.ntmps111
  go_wp2_with fail
  refine HD.out.mono ?_
  rintro e w' ⟨rfl, rfl⟩
  go_wp2
  go_ret2
  exact prok HW.out
theorem zmL (a b : Int) (w : World) (ha : I64 a) (hb : I64 b) : Calls Tryz.prog 112 #[a, b] w (zaE (remW a b) w) := by
 have HD := hid (zd7 a b w)
 have HA := hid ha
 have HB := hid hb
 clear ha hb
 cases t : (divErr a b != 0)
 ·have e0 : divErr a b = 0 := by simpa using t
  have HW : Hid (remW a b = (a.tmod b, 0)) := hid (by unfold remW; rw [if_pos e0])
  have a0 : (b == 0) = false := by
   rw [beq_eq_false_iff_ne]; intro h; subst h; unfold divErr at e0; simp at e0
  have hov : (a == -9223372036854775808 && b == -1) = false := by
   rw [Bool.eq_false_iff]; intro h
   simp only [Bool.and_eq_true, beq_iff_eq] at h
   unfold divErr at e0; rw [if_neg (by omega), if_pos h] at e0; cases e0
  rw [e0] at HD
  clear e0 t
  have hne : ¬ b = 0 := by simpa using a0
  go_enter Tryz.func112, Tryz.ntmps112
  go_wp2_with fail
  refine HD.out.mono ?_
  rintro e w' ⟨rfl, rfl⟩
  go_wp2
  go_ret2
  refine prok ?_
  exact HW.out.trans (congrArg (fun x => (x, (0 : Int))) (zpi HA.out hne hov))
 ·have HW : Hid (remW a b = (0, divErr a b)) := hid (by unfold remW; rw [if_neg (by simpa using t)])
  generalize divErr a b = er at *
  go_enter Tryz.func112, Tryz.ntmps112
  go_wp2_with fail
  refine HD.out.mono ?_
  rintro e w' ⟨rfl, rfl⟩
  go_wp2
  go_ret2
  exact prok HW.out
end
end Go.Proofs.YtnmpgijiimglcaaGreat
