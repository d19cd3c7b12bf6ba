import Derived.Test.YtnmpgijiimglcaaGreatBTt05
namespace Go.Proofs.YtnmpgijiimglcaaGreat
set_option maxRecDepth 100000
set_option maxHeartbeats 8000000
section
open Go.RowKit
theorem zc7 (xs : List Int) (k : Nat) (v : Int) (i : Nat) : gI (xs.set k v) i = if i = k ∧ k < xs.length then v else gI xs i := by
 unfold gI
 simp only [Int.toNat_natCast, List.getD, List.getElem?_set]
 by_cases h : k = i
 ·subst h
  by_cases hk : k < xs.length
  ·simp [hk]
  ·simp [hk]
 ·rw [if_neg h, if_neg (fun e => h e.1.symm)]
theorem AllB.set' {xs : List Int} (h : AllB xs) {k : Nat} {v : Int} (hv : zag v = true) : AllB (xs.set k v) := fun i => by
 rw [zc7]
 split
 ·exact hv
 ·exact h i
def Le (ys xs : List Int) : Prop := ∀ i : Nat, gI ys i ≤ gI xs i
theorem Le.refl (xs : List Int) : Le xs xs := fun _ => Int.le_refl _
theorem Le.trans {a b c : List Int} (h : Le a b) (k : Le b c) : Le a c := fun i => Int.le_trans (h i) (k i)
theorem Le.set {xs : List Int} {k : Nat} {v : Int} (h : v ≤ gI xs k) : Le (xs.set k v) xs := fun i => by
 rw [zc7]
 split
 ·rename_i e; rw [e.1]; exact h
 ·exact Int.le_refl _
structure Low (ys xs : List Int) : Prop where
 len : ys.length = xs.length
 all : AllB xs → AllB ys
 le : AllB xs → Le ys xs
theorem Low.refl (xs : List Int) : Low xs xs := ⟨rfl, id, fun _ => Le.refl xs⟩
theorem Low.trans {a b c : List Int} (h : Low a b) (k : Low b c) : Low a c := ⟨h.len.trans k.len, fun x => h.all (k.all x), fun x => (h.le (k.all x)).trans (k.le x)⟩
theorem Low.rep {f : Nat → List Int → List Int} (h : ∀ i x, Low (f i x) x) : ∀ (t : Nat) (x : List Int), Low (rep f t x) x
 | 0, x => Low.refl x
 | t + 1, x => (h t _).trans (Low.rep h t x)
theorem Low.set {xs : List Int} {k : Nat} {v : Int} (h : AllB xs → zag v = true ∧ v ≤ gI xs k) : Low (xs.set k v) xs :=
 ⟨List.length_set, fun x => x.set' (h x).1, fun x => Le.set (h x).2⟩
theorem zeW (N k i j : Nat) (xs : List Int) : Low (zhe N k i j xs) xs :=
 Low.set fun h => ⟨zaY (h _) (zbi _ _), Int.min_le_left _ _⟩
theorem zaK (N t : Nat) (xs : List Int) : Low (paths N t xs) xs :=
 Low.rep (fun k x => Low.rep (fun i x => Low.rep (fun j x => zeW N k i j x) N x) N x) t xs
theorem zgv (N i j : Nat) (xs : List Int) : Low (zgY N i j xs) xs := by
 unfold zgY
 refine ⟨by simp, fun h => (h.set' (zaY (h _) (h _))).set' (zaY (h _) (h _)), fun h => ?_⟩
 intro p
 rw [zc7, zc7]
 split
 ·rename_i e; rw [e.1]; exact Int.min_le_right _ _
 ·split
  ·rename_i e; rw [e.1]; exact Int.min_le_left _ _
  ·exact Int.le_refl _
theorem zcx (N t : Nat) (xs : List Int) : Low (zaB N t xs) xs := Low.rep (fun i x => Low.rep (fun j x => zgv N i j x) N x) t xs
theorem zob {a : Int} (h : zag a = true) : even a ≤ a := by
 have h1 := zbe h
 unfold even
 rw [h1]
 split <;> omega
theorem zgF (N i : Nat) (xs : List Int) : Low (zdm N i xs) xs := Low.set fun h => ⟨zd6 _, zob (h _)⟩
theorem zdx (N t : Nat) (xs : List Int) : Low (zaU N t xs) xs := Low.rep (fun i x => zgF N i x) t xs
theorem zgj (N i j : Nat) (xs : List Int) : Low (zdi N i j xs) xs := by
 unfold zdi
 split
 ·exact Low.refl _
 ·exact Low.set fun h => ⟨zaY (h _) (za6 _), Int.min_le_left _ _⟩
theorem zeQ (N t : Nat) (xs : List Int) : Low (zaV N t xs) xs := Low.rep (fun i x => Low.rep (fun j x => zgj N i j x) N x) t xs
theorem zfm {N : Nat} {xs ys : List Int} (h : za3 N xs = some ys) : Low ys xs := by
 unfold za3 at h
 split at h
 ·cases h
 ·split at h
  ·cases h
  ·injection h with h
   subst h
   exact (zeQ _ _ _).trans ((zdx _ _ _).trans ((zcx _ _ _).trans (zaK _ _ _)))
theorem zme (o : O) : (closeO o).n = o.n := by
 unfold closeO; split
 ·rfl
 ·split <;> rfl
theorem zh1 {o : O} (h : o.e = true) : closeO o = ⟨o.n, true, []⟩ := by unfold closeO; rw [if_pos h]
theorem zd9 (o : O) : closeO o = ⟨o.n, true, []⟩ ∨ (o.e = false ∧ ∃ ys, za3 (2 * o.n).toNat o.m = some ys ∧ closeO o = ⟨o.n, false, ys⟩) := by
 cases he : o.e with
 | true => exact .inl (zh1 he)
 | false =>
  unfold closeO
  rw [if_neg (by simp [he])]
  cases h : za3 (2 * o.n).toNat o.m with
  | none => exact .inl rfl
  | some ys => exact .inr ⟨rfl, ys, rfl, rfl⟩
def zaX (w : World) (o : O) (e : Ending) (w' : World) : Prop := ∃ A1 c1, e = .returned (.agg #[o.n, o.e, .slice A1 o.m.length c1]) ∧ Own w' w.heap.size A1 c1 o.m ∧ Below w.heap.size w w'
end
section

end
section
open Go.RowKit
theorem ziP {n : Int} {m : List Int} (h : check ⟨n, false, m⟩ = 0) : zbM ⟨n, false, m⟩ (2 * n).toNat = true := by
 unfold check at h
 split at h
 ·omega
 ·rw [if_neg (by simp)] at h
  split at h
  ·assumption
  ·omega
theorem zlw {n : Int} {N i j : Nat} (hN : (N : Int) = 2 * n) : 2 * n * (i : Int) + (j : Int) = ((i * N + j : Nat) : Int) := by
 rw [← hN, Int.natCast_add, Int.natCast_mul, Int.mul_comm]
theorem zc0 {n : Int} {e : Bool} {m : List Int} {N : Nat} (hN : (N : Int) = 2 * n) (i j : Nat) :
  zbo ⟨n, e, m⟩ (i : Int) (j : Int) = (zag (gI m ((i * N + j : Nat) : Int)) && !(decide (i = j) && (gI m ((i * N + j : Nat) : Int) != 0)) && (gI m ((i * N + j : Nat) : Int) == gI m ((nx j * N + nx i : Nat) : Int))) := by
 unfold zbo
 dsimp only
 rw [zeI, zeI, zlw hN, zlw hN]
 have e : decide ((i : Int) = (j : Int)) = decide (i = j) := by rw [decide_eq_decide]; omega
 rw [e]
structure Cells (N : Nat) (m : List Int) : Prop where
 len : m.length = N * N
 bd : ∀ i j : Nat, i < N → j < N → zag (gI m ((i * N + j : Nat) : Int)) = true
 diag : ∀ i : Nat, i < N → gI m ((i * N + i : Nat) : Int) = 0
 mir : ∀ i j : Nat, i < N → j < N → gI m ((i * N + j : Nat) : Int) = gI m ((nx j * N + nx i : Nat) : Int)
theorem zir {n : Int} {N : Nat} (hN : (N : Int) = 2 * n) : 4 * n * n = ((N * N : Nat) : Int) := by
 rw [Int.natCast_mul, hN]; rw [show (4 : Int) = 2 * 2 from rfl]; simp only [Int.mul_assoc, Int.mul_left_comm]
theorem zdM {n : Int} {m : List Int} {N : Nat} (hN : (N : Int) = 2 * n) (h : check ⟨n, false, m⟩ = 0) : Cells N m := by
 obtain ⟨h0, h1, _, h3⟩ := zbD h
 have hl := h3 rfl
 dsimp only at h0 h1 hl
 have hr := ziP h
 have hNt : (2 * n).toNat = N := by omega
 rw [hNt] at hr
 have key : ∀ i j : Nat, i < N → j < N → zbo ⟨n, false, m⟩ (i : Int) (j : Int) = true := fun i j hi hj => by
  unfold zbM at hr
  have a0 := List.all_eq_true.1 hr i (List.mem_range.2 hi)
  unfold zdG at a0
  rw [hNt] at a0
  exact List.all_eq_true.1 a0 j (List.mem_range.2 hj)
 refine ⟨by have := zir hN; omega, fun i j hi hj => ?_, fun i hi => ?_, fun i j hi hj => ?_⟩
 ·have := key i j hi hj
  rw [zc0 hN] at this
  simp only [Bool.and_eq_true] at this
  exact this.1.1
 ·have := key i i hi hi
  rw [zc0 hN] at this
  simp only [Bool.and_eq_true, Bool.not_eq_true', Bool.and_eq_false_imp, decide_eq_true_eq, forall_const, bne_eq_false_iff_eq] at this
  exact this.1.2
 ·have := key i j hi hj
  rw [zc0 hN] at this
  simp only [Bool.and_eq_true, beq_iff_eq] at this
  exact this.2
theorem zdB {n : Int} {m : List Int} {N : Nat} (hN : (N : Int) = 2 * n) (hn : N ≤ 128) (h : Cells N m) : check ⟨n, false, m⟩ = 0 := by
 have hNt : (2 * n).toNat = N := by omega
 refine zdZ (by omega) (by omega) (by have := zir hN; have := h.len; omega) ?_
 unfold zbM
 rw [hNt]
 refine List.all_eq_true.2 fun i hi => ?_
 unfold zdG
 refine List.all_eq_true.2 fun j hj => ?_
 have a1 := List.mem_range.1 hi
 have hj' := List.mem_range.1 hj
 rw [zc0 hN]
 simp only [Bool.and_eq_true, Bool.not_eq_true', Bool.and_eq_false_imp, decide_eq_true_eq, bne_eq_false_iff_eq, beq_iff_eq]
 exact ⟨⟨h.bd i j a1 hj', fun e => by subst e; exact h.diag i a1⟩, h.mir i j a1 hj'⟩
theorem zlC {N i j : Nat} (hi : i < N) (hj : j < N) : i * N + j < N * N := by
 have := Nat.mul_le_mul_right N (show i + 1 ≤ N from hi)
 rw [Nat.add_mul] at this; omega
end
section
open Go.RowKit
def G (N : Nat) (xs : List Int) (i j : Nat) : Int := gI xs ((i * N + j : Nat) : Int)
theorem zkb {N i j a b : Nat} (hj : j < N) (hb : b < N) (h : i * N + j = a * N + b) : i = a ∧ j = b := by
 rcases Nat.lt_trichotomy i a with h1 | h1 | h1
 ·exfalso
  have := Nat.mul_le_mul_right N (show i + 1 ≤ a from h1)
  rw [Nat.add_mul] at this; omega
 ·subst h1; exact ⟨rfl, by omega⟩
 ·exfalso
  have := Nat.mul_le_mul_right N (show a + 1 ≤ i from h1)
  rw [Nat.add_mul] at this; omega
theorem zdX {N : Nat} {xs : List Int} (hl : xs.length = N * N) {i j : Nat} (hi : i < N) (hj : j < N) (v : Int) {a b : Nat} (hb : b < N) :
  G N (xs.set (i * N + j) v) a b = if a = i ∧ b = j then v else G N xs a b := by
 unfold G
 rw [zc7]
 have hlt : i * N + j < xs.length := by rw [hl]; exact zlC hi hj
 by_cases h : a = i ∧ b = j
 ·rw [if_pos h, if_pos ⟨by rw [h.1, h.2], hlt⟩]
 ·rw [if_neg h, if_neg (fun e => h ?_)]
  obtain ⟨e1, e2⟩ := zkb hb hj e.1
  exact ⟨e1, e2⟩
theorem zbv (i : Nat) : nx (nx i) = i := by
 unfold nx
 split <;> split <;> omega
theorem zkN (i : Nat) : nx i ≠ i := by
 unfold nx
 split <;> omega
theorem zdL {i j : Nat} (h : nx i = nx j) : i = j := by rw [← zbv i, h, zbv]
theorem nxl {N i : Nat} (hN : N % 2 = 0) (hi : i < N) : nx i < N := by
 unfold nx; split <;> omega
theorem zb7 {α : Type} {f : Nat → α → α} {P : Nat → α → Prop} : ∀ (t : Nat) (x : α), P 0 x → (∀ i x, i < t → P i x → P (i + 1) (f i x)) → P t (rep f t x)
 | 0, _, h, _ => h
 | t + 1, x, h, hs => hs t _ (by omega) (zb7 t x h (fun i x hi => hs i x (by omega)))
def Sym (N : Nat) (xs : List Int) : Prop := ∀ i j : Nat, i < N → j < N → G N xs i j = G N xs (nx j) (nx i)
theorem zhP {N : Nat} (hN : N % 2 = 0) {xs : List Int} (hl : xs.length = N * N) : Sym N (zaB N N xs) := by
 have key := zb7 (f := fun i => mRow N i N) (P := fun i ys => ys.length = N * N ∧ ∀ a b : Nat, a < N → b < N → a < i → G N ys a b = G N ys (nx b) (nx a)) N xs ⟨hl, fun a b _ _ h => by omega⟩ ?_
 ·intro i j hi hj
  exact key.2 i j hi hj hi
 ·intro i ys hi ⟨a5, hq⟩
  have row := zb7 (f := fun j => zgY N i j) (P := fun j zs => zs.length = N * N ∧ ∀ a b : Nat, a < N → b < N → (a < i ∨ (a = i ∧ b < j)) → G N zs a b = G N zs (nx b) (nx a)) N ys ⟨a5, fun a b ha hb h => hq a b ha hb (by omega)⟩ ?_
  ·exact ⟨row.1, fun a b ha hb h => row.2 a b ha hb (by omega)⟩
  ·intro j zs hj ⟨a1, hz⟩
   have a2 := nxl hN hi
   have a3 := nxl hN hj
   refine ⟨by unfold zgY; rw [List.length_set, List.length_set]; exact a1, fun a b ha hb h => ?_⟩
   have a4 := nxl hN ha
   have hnb := nxl hN hb
   unfold zgY
   rw [zdX (by rw [List.length_set]; exact a1) a3 a2 _ hb, zdX a1 hi hj _ hb, zdX (by rw [List.length_set]; exact a1) a3 a2 _ a4, zdX a1 hi hj _ a4]
   by_cases e1 : a = nx j ∧ b = nx i
   ·obtain ⟨rfl, rfl⟩ := e1
    rw [if_pos ⟨rfl, rfl⟩, zbv, zbv]
    split
    ·rfl
    ·rw [if_pos ⟨rfl, rfl⟩]
   ·rw [if_neg e1]
    by_cases e2 : a = i ∧ b = j
    ·obtain ⟨rfl, rfl⟩ := e2
     rw [if_pos ⟨rfl, rfl⟩, if_pos ⟨rfl, rfl⟩]
    ·rw [if_neg e2, if_neg (fun e => e2 ⟨zdL e.2, zdL e.1⟩), if_neg (fun e => e1 ⟨by rw [← e.2, zbv], by rw [← e.1, zbv]⟩)]
     exact hz a b ha hb (by omega)
theorem zkf {N : Nat} (hN : N % 2 = 0) {xs : List Int} (hl : xs.length = N * N) {i : Nat} (hi : i < N) (h : Sym N xs) : Sym N (zdm N i xs) := by
 intro a b ha hb
 have a4 := nxl hN ha
 have hnb := nxl hN hb
 have a2 := nxl hN hi
 unfold zdm
 rw [zdX hl hi a2 _ hb, zdX hl hi a2 _ a4]
 by_cases e : a = i ∧ b = nx i
 ·rw [if_pos e, if_pos ⟨by rw [e.2, zbv], by rw [e.1]⟩]
 ·rw [if_neg e, if_neg (fun k => e ⟨zdL k.2, by rw [← k.1, zbv]⟩)]
  exact h a b ha hb
theorem zlp {N : Nat} (hN : N % 2 = 0) {xs : List Int} (hl : xs.length = N * N) (h : Sym N xs) : Sym N (zaU N N xs) :=
 (zb7 (f := fun i => zdm N i) (P := fun _ ys => ys.length = N * N ∧ Sym N ys) N xs ⟨hl, h⟩ fun i ys hi hy => ⟨by unfold zdm; rw [List.length_set]; exact hy.1, zkf hN hy.1 hi hy.2⟩).2
theorem zje {N : Nat} (hN : N % 2 = 0) {xs : List Int} (hl : xs.length = N * N) (h : ∀ i, i < N → G N xs i i = 0) : ∀ i, i < N → G N (zaU N N xs) i i = 0 :=
 (zb7 (f := fun i => zdm N i) (P := fun _ ys => ys.length = N * N ∧ ∀ i, i < N → G N ys i i = 0) N xs ⟨hl, h⟩ fun i ys hi hy => ⟨by unfold zdm; rw [List.length_set]; exact hy.1, fun a ha => by
  unfold zdm
  rw [zdX hy.1 hi (nxl hN hi) _ ha, if_neg (fun e => zkN i (by rw [← e.2, e.1]))]
  exact hy.2 a ha⟩).2
theorem zgE (a b : Int) : plus a b = plus b a := by
 unfold plus
 rw [Int.add_comm (near a) (near b)]
 by_cases h : near a = 9223372036854775807 ∨ near b = 9223372036854775807
 ·rw [if_pos h, if_pos h.symm]
 ·rw [if_neg h, if_neg (fun e => h e.symm)]
theorem zfQ {x : Int} (h : zag x = true) : x ≤ half (plus x x) := by
 have hx := zbe h
 unfold zag at h
 rw [decide_eq_true_eq] at h
 by_cases hi : x = 9223372036854775807
 ·subst hi; decide
 ·rw [zek (by rw [hx]; exact hi) (by rw [hx]; exact hi), hx]
  unfold half
  rw [zlc]
  unfold near
  (repeat' split) <;> omega
def zbZ (N : Nat) (xs : List Int) (a b : Nat) : Int := if a = b then G N xs a b else min (G N xs a b) (half (plus (G N xs a (nx a)) (G N xs (nx b) b)))
theorem zcI {N : Nat} {xs : List Int} (h : AllB xs) (a : Nat) : zbZ N xs a (nx a) = G N xs a (nx a) := by
 unfold zbZ
 rw [if_neg (fun e => zkN a e.symm), zbv]
 exact Int.min_eq_left (zfQ (h _))
theorem zcz {N : Nat} (hN : N % 2 = 0) {xs : List Int} (hl : xs.length = N * N) (hb : AllB xs) : ∀ a b : Nat, a < N → b < N → G N (zaV N N xs) a b = zbZ N xs a b := by
 have key := zb7 (f := fun i => sRow N i N) (P := fun i ys => ys.length = N * N ∧ ∀ a b : Nat, a < N → b < N → G N ys a b = if a < i then zbZ N xs a b else G N xs a b) N xs ⟨hl, fun a b _ _ => by rw [if_neg (by omega)]⟩ ?_
 ·intro a b ha a0
  exact (key.2 a b ha a0).trans (by rw [if_pos ha])
 ·intro i ys hi ⟨a5, hq⟩
  have row := zb7 (f := fun j => zdi N i j) (P := fun j zs => zs.length = N * N ∧ ∀ a b : Nat, a < N → b < N → G N zs a b = if a < i ∨ (a = i ∧ b < j) then zbZ N xs a b else G N xs a b) N ys ⟨a5, fun a b ha a0 => by
   rw [hq a b ha a0]
   by_cases h : a < i
   ·rw [if_pos h, if_pos (.inl h)]
   ·rw [if_neg h, if_neg (by omega)]⟩ ?_
  ·refine ⟨row.1, fun a b ha a0 => ?_⟩
   refine (row.2 a b ha a0).trans ?_
   by_cases h : a < i + 1
   ·rw [if_pos h, if_pos (by omega)]
   ·rw [if_neg h, if_neg (by omega)]
  ·intro j zs hj ⟨a1, hz⟩
   have a2 := nxl hN hi
   have a3 := nxl hN hj
   have u : ∀ a : Nat, a < N → G N zs a (nx a) = G N xs a (nx a) := fun a ha => by
    rw [hz a (nx a) ha (nxl hN ha)]
    split
    ·exact zcI hb a
    ·rfl
   refine ⟨by unfold zdi; split; exact a1; rw [List.length_set]; exact a1, fun a b ha a0 => ?_⟩
   unfold zdi
   by_cases hij : i = j
   ·rw [if_pos hij, hz a b ha a0]
    by_cases h : a < i ∨ (a = i ∧ b < j)
    ·rw [if_pos h, if_pos (by omega)]
    ·rw [if_neg h]
     by_cases h2 : a = i ∧ b = j
     ·rw [if_pos (by omega)]
      unfold zbZ
      rw [if_pos (by omega)]
     ·rw [if_neg (by omega)]
   ·rw [if_neg hij, zdX a1 hi hj _ a0]
    by_cases h2 : a = i ∧ b = j
    ·obtain ⟨rfl, rfl⟩ := h2
     rw [if_pos ⟨rfl, rfl⟩, if_pos (by omega)]
     unfold zbZ
     rw [if_neg hij]
     show min (G N zs a b) (half (plus (G N zs a (nx a)) (G N zs (nx b) b))) = _
     rw [hz a b ha a0, if_neg (by omega), u a ha]
     have := u (nx b) a3
     rw [zbv] at this
     rw [this]
    ·rw [if_neg h2, hz a b ha a0]
     by_cases h : a < i ∨ (a = i ∧ b < j)
     ·rw [if_pos h, if_pos (by omega)]
     ·rw [if_neg h, if_neg (by omega)]
theorem ziX {N : Nat} (_hN : N % 2 = 0) {xs : List Int} (h : Sym N xs) {a b : Nat} (ha : a < N) (hb : b < N) : zbZ N xs a b = zbZ N xs (nx b) (nx a) := by
 unfold zbZ
 by_cases e : a = b
 ·subst e
  rw [if_pos rfl, if_pos rfl]
  exact h a a ha ha
 ·rw [if_neg e, if_neg (fun k => e (zdL k).symm), zbv, zbv, h a b ha hb, zgE]
theorem zfZ {N : Nat} {xs : List Int} : ∀ {t : Nat}, negs N xs t = false → ∀ i, i < t → 0 ≤ G N xs i i
 | t + 1, h, i, hi => by
  unfold negs at h
  rw [Bool.or_eq_false_iff] at h
  by_cases e : i = t
  ·subst e
   exact Int.not_lt.1 (of_decide_eq_false h.2)
  ·exact zfZ h.1 i (by omega)
theorem zea {N : Nat} (hN : N % 2 = 0) {xs ys : List Int} (h : Cells N xs) (hb : AllB xs) (hc : za3 N xs = some ys) : Cells N ys := by
 have low := zfm hc
 have a0 := low.all hb
 have a6 : ys.length = N * N := low.len.trans h.len
 unfold za3 at hc
 split at hc
 ·cases hc
 ·rename_i hneg
  split at hc
  ·cases hc
  ·injection hc with hc
   have lp := zaK N N xs
   have lm := zcx N N (paths N N xs)
   have le := zdx N N (zaB N N (paths N N xs))
   have l1 := lp.len.trans h.len
   have l2 := lm.len.trans l1
   have l3 := le.len.trans l2
   have b3 := le.all (lm.all (lp.all hb))
   have s2 := zhP hN l1
   have s3 := zlp hN l2 s2
   have d2 : ∀ i, i < N → G N (zaB N N (paths N N xs)) i i = 0 := fun i hi => by
    have g1 := zfZ (by simpa using hneg) i hi
    have g2 := (lm.trans lp).le hb (i * N + i)
    have g3 := h.diag i hi
    rw [g3] at g2
    exact Int.le_antisymm g2 g1
   have d3 := zje hN l2 d2
   have f := zcz hN l3 b3
   subst hc
   refine ⟨a6, fun i j _ _ => a0 _, fun i hi => ?_, fun i j hi hj => ?_⟩
   ·have e := f i i hi hi
    unfold zbZ at e
    rw [if_pos rfl, d3 i hi] at e
    exact e
   ·have e1 := f i j hi hj
    have e2 := f (nx j) (nx i) (nxl hN hj) (nxl hN hi)
    rw [ziX hN s3 hi hj, ← e2] at e1
    exact e1
theorem zgI {o : O} (h : check o = 0) : check (closeO o) = 0 := by
 obtain ⟨h0, h1, _, _⟩ := zbD h
 rcases zd9 o with e | ⟨he, ys, e1, e2⟩
 ·rw [e]; exact zex ⟨h0, h1⟩
 ·rw [e2]
  obtain ⟨n, e, m⟩ := o
  dsimp only at *
  subst he
  obtain ⟨N, hN⟩ : ∃ N : Nat, (N : Int) = 2 * n := ⟨(2 * n).toNat, by omega⟩
  have hNt : (2 * n).toNat = N := by omega
  rw [hNt] at e1
  exact zdB hN (by omega) (zea (by omega) (zdM hN h) (zcK h) e1)
end
end Go.Proofs.YtnmpgijiimglcaaGreat
