import Derived.Test.YtnmpgijiimglcaaGreatBSe07
import Derived.Test.YtnmpgijiimglcaaGreatBSe00
namespace Go.Proofs.YtnmpgijiimglcaaGreat
set_option maxRecDepth 100000
set_option maxHeartbeats 8000000
section
open Go.RowKit
theorem zdI (xs : List Int) (k : Nat) (v : Int) (i : Nat) : gI (xs.set k v) i = if i = k ∧ k < xs.length then v else gI xs i := by
 unfold gI
 simp only [Int.toNat_natCast, List.getD, List.getElem?_set]
 by_cases h : k = i
 ·subst h
  by_cases hk : k < xs.length
  ·simp [hk]
  ·simp [hk]
 ·rw [if_neg h, if_neg (fun e => h e.1.symm)]
theorem AllB.set' {xs : List Int} (h : AllB xs) {k : Nat} {v : Int} (hv : zaq v = true) : AllB (xs.set k v) := fun i => by
 rw [zdI]
 split
 ·exact hv
 ·exact h i
def Le (ys xs : List Int) : Prop := ∀ i : Nat, gI ys i ≤ gI xs i
theorem Le.refl (xs : List Int) : Le xs xs := fun _ => Int.le_refl _
theorem Le.trans {a b c : List Int} (h : Le a b) (k : Le b c) : Le a c := fun i => Int.le_trans (h i) (k i)
theorem Le.set {xs : List Int} {k : Nat} {v : Int} (h : v ≤ gI xs k) : Le (xs.set k v) xs := fun i => by
 rw [zdI]
 split
 ·rename_i e; rw [e.1]; exact h
 ·exact Int.le_refl _
structure Low (ys xs : List Int) : Prop where
 len : ys.length = xs.length
 all : AllB xs → AllB ys
 le : AllB xs → Le ys xs
theorem Low.refl (xs : List Int) : Low xs xs := ⟨rfl, id, fun _ => Le.refl xs⟩
theorem Low.trans {a b c : List Int} (h : Low a b) (k : Low b c) : Low a c := ⟨h.len.trans k.len, fun x => h.all (k.all x), fun x => (h.le (k.all x)).trans (k.le x)⟩
theorem Low.rep {f : Nat → List Int → List Int} (h : ∀ i x, Low (f i x) x) : ∀ (t : Nat) (x : List Int), Low (rep f t x) x
 | 0, x => Low.refl x
 | t + 1, x => (h t _).trans (Low.rep h t x)
theorem Low.set {xs : List Int} {k : Nat} {v : Int} (h : AllB xs → zaq v = true ∧ v ≤ gI xs k) : Low (xs.set k v) xs :=
 ⟨List.length_set, fun x => x.set' (h x).1, fun x => Le.set (h x).2⟩
theorem zhy (N k i j : Nat) (xs : List Int) : Low (zlH N k i j xs) xs :=
 Low.set fun h => ⟨zaF (h _) (zbz _ _), Int.min_le_left _ _⟩
theorem zfk (N t : Nat) (xs : List Int) : Low (zbR N t xs) xs :=
 Low.rep (fun k x => Low.rep (fun i x => Low.rep (fun j x => zhy N k i j x) N x) N x) t xs
theorem zhD (N i j : Nat) (xs : List Int) : Low (zgG N i j xs) xs := by
 unfold zgG
 refine ⟨by simp, fun h => (h.set' (zaF (h _) (h _))).set' (zaF (h _) (h _)), fun h => ?_⟩
 intro p
 rw [zdI, zdI]
 split
 ·rename_i e; rw [e.1]; exact Int.min_le_right _ _
 ·split
  ·rename_i e; rw [e.1]; exact Int.min_le_left _ _
  ·exact Int.le_refl _
theorem zdz (N t : Nat) (xs : List Int) : Low (zaR N t xs) xs := Low.rep (fun i x => Low.rep (fun j x => zhD N i j x) N x) t xs
theorem zku {a : Int} (h : zaq a = true) : even a ≤ a := by
 have h1 := zc5 h
 unfold even
 rw [h1]
 split <;> omega
theorem zg3 (N i : Nat) (xs : List Int) : Low (zeA N i xs) xs := Low.set fun h => ⟨zcb _, zku (h _)⟩
theorem zfd (N t : Nat) (xs : List Int) : Low (zcr N t xs) xs := Low.rep (fun i x => zg3 N i x) t xs
theorem zh6 (N i j : Nat) (xs : List Int) : Low (zb9 N i j xs) xs := by
 unfold zb9
 split
 ·exact Low.refl _
 ·exact Low.set fun h => ⟨zaF (h _) (za8 _), Int.min_le_left _ _⟩
theorem zdB (N t : Nat) (xs : List Int) : Low (zaU N t xs) xs := Low.rep (fun i x => Low.rep (fun j x => zh6 N i j x) N x) t xs
theorem zgq {N : Nat} {xs ys : List Int} (h : zbn N xs = some ys) : Low ys xs := by
 unfold zbn at h
 split at h
 ·cases h
 ·split at h
  ·cases h
  ·injection h with h
   subst h
   exact (zdB _ _ _).trans ((zfd _ _ _).trans ((zdz _ _ _).trans (zfk _ _ _)))
theorem zj0 (o : O) : (closeO o).n = o.n := by
 unfold closeO; split
 ·rfl
 ·split <;> rfl
theorem zgl {o : O} (h : o.e = true) : closeO o = ⟨o.n, true, []⟩ := by unfold closeO; rw [if_pos h]
theorem zfj (o : O) : closeO o = ⟨o.n, true, []⟩ ∨ (o.e = false ∧ ∃ ys, zbn (2 * o.n).toNat o.m = some ys ∧ closeO o = ⟨o.n, false, ys⟩) := by
 cases he : o.e with
 | true => exact .inl (zgl he)
 | false =>
  unfold closeO
  rw [if_neg (by simp [he])]
  cases h : zbn (2 * o.n).toNat o.m with
  | none => exact .inl rfl
  | some ys => exact .inr ⟨rfl, ys, rfl, rfl⟩
def zbQ (o : O) : O := if check o = 0 then closeO o else ⟨0, false, []⟩
def zbh (w : World) (o : O) (e : Ending) (w' : World) : Prop := ∃ A1 c1, e = .returned (.agg #[o.n, o.e, .slice A1 o.m.length c1]) ∧ Own w' w.heap.size A1 c1 o.m ∧ Below w.heap.size w w'
theorem zbp (o : O) (A : Option Addr) (c : Nat) (w : World) (hx : Rd w w.heap.size A o.m) (hm : o.m.length ≤ 17592186044416) :
  Calls Tryz.prog 89 #[.agg #[o.n, o.e, .slice A o.m.length c]] w (zbo w (zbQ o) (check o)) := zdP o A c w hx hm
end
section

end
section
open Go.RowKit
theorem zgX {n : Int} {m : List Int} (h : check ⟨n, false, m⟩ = 0) : zbB ⟨n, false, m⟩ (2 * n).toNat = true := by
 unfold check at h
 split at h
 ·omega
 ·rw [if_neg (by simp)] at h
  split at h
  ·assumption
  ·omega
theorem zhU {n : Int} {N i j : Nat} (hN : (N : Int) = 2 * n) : 2 * n * (i : Int) + (j : Int) = ((i * N + j : Nat) : Int) := by
 rw [← hN, Int.natCast_add, Int.natCast_mul, Int.mul_comm]
theorem zcj {n : Int} {e : Bool} {m : List Int} {N : Nat} (hN : (N : Int) = 2 * n) (i j : Nat) :
  zbr ⟨n, e, m⟩ (i : Int) (j : Int) = (zaq (gI m ((i * N + j : Nat) : Int)) && !(decide (i = j) && (gI m ((i * N + j : Nat) : Int) != 0)) && (gI m ((i * N + j : Nat) : Int) == gI m ((nx j * N + nx i : Nat) : Int))) := by
 unfold zbr
 dsimp only
 rw [zd0, zd0, zhU hN, zhU hN]
 have e : decide ((i : Int) = (j : Int)) = decide (i = j) := by rw [decide_eq_decide]; omega
 rw [e]
structure Cells (N : Nat) (m : List Int) : Prop where
 len : m.length = N * N
 bd : ∀ i j : Nat, i < N → j < N → zaq (gI m ((i * N + j : Nat) : Int)) = true
 diag : ∀ i : Nat, i < N → gI m ((i * N + i : Nat) : Int) = 0
 mir : ∀ i j : Nat, i < N → j < N → gI m ((i * N + j : Nat) : Int) = gI m ((nx j * N + nx i : Nat) : Int)
theorem zgb {n : Int} {N : Nat} (hN : (N : Int) = 2 * n) : 4 * n * n = ((N * N : Nat) : Int) := by
 rw [Int.natCast_mul, hN]; rw [show (4 : Int) = 2 * 2 from rfl]; simp only [Int.mul_assoc, Int.mul_left_comm]
theorem zaz {n : Int} {m : List Int} {N : Nat} (hN : (N : Int) = 2 * n) (h : check ⟨n, false, m⟩ = 0) : Cells N m := by
 obtain ⟨h0, h1, _, h3⟩ := zas h
 have hl := h3 rfl
 dsimp only at h0 h1 hl
 have hr := zgX h
 have hNt : (2 * n).toNat = N := by omega
 rw [hNt] at hr
 have key : ∀ i j : Nat, i < N → j < N → zbr ⟨n, false, m⟩ (i : Int) (j : Int) = true := fun i j hi hj => by
  unfold zbB at hr
  have a0 := List.all_eq_true.1 hr i (List.mem_range.2 hi)
  unfold zcT at a0
  rw [hNt] at a0
  exact List.all_eq_true.1 a0 j (List.mem_range.2 hj)
 refine ⟨by have := zgb hN; omega, fun i j hi hj => ?_, fun i hi => ?_, fun i j hi hj => ?_⟩
 ·have := key i j hi hj
  rw [zcj hN] at this
  simp only [Bool.and_eq_true] at this
  exact this.1.1
 ·have := key i i hi hi
  rw [zcj hN] at this
  simp only [Bool.and_eq_true, Bool.not_eq_true', Bool.and_eq_false_imp, decide_eq_true_eq, forall_const, bne_eq_false_iff_eq] at this
  exact this.1.2
 ·have := key i j hi hj
  rw [zcj hN] at this
  simp only [Bool.and_eq_true, beq_iff_eq] at this
  exact this.2
theorem zdv {n : Int} {m : List Int} {N : Nat} (hN : (N : Int) = 2 * n) (hn : N ≤ 128) (h : Cells N m) : check ⟨n, false, m⟩ = 0 := by
 have hNt : (2 * n).toNat = N := by omega
 refine zc9 (by omega) (by omega) (by have := zgb hN; have := h.len; omega) ?_
 unfold zbB
 rw [hNt]
 refine List.all_eq_true.2 fun i hi => ?_
 unfold zcT
 refine List.all_eq_true.2 fun j hj => ?_
 have a1 := List.mem_range.1 hi
 have hj' := List.mem_range.1 hj
 rw [zcj hN]
 simp only [Bool.and_eq_true, Bool.not_eq_true', Bool.and_eq_false_imp, decide_eq_true_eq, bne_eq_false_iff_eq, beq_iff_eq]
 exact ⟨⟨h.bd i j a1 hj', fun e => by subst e; exact h.diag i a1⟩, h.mir i j a1 hj'⟩
theorem zko {N i j : Nat} (hi : i < N) (hj : j < N) : i * N + j < N * N := by
 have := Nat.mul_le_mul_right N (show i + 1 ≤ N from hi)
 rw [Nat.add_mul] at this; omega
end
section
open Go.RowKit
def G (N : Nat) (xs : List Int) (i j : Nat) : Int := gI xs ((i * N + j : Nat) : Int)
theorem zkv {N i j a b : Nat} (hj : j < N) (hb : b < N) (h : i * N + j = a * N + b) : i = a ∧ j = b := by
 rcases Nat.lt_trichotomy i a with h1 | h1 | h1
 ·exfalso
  have := Nat.mul_le_mul_right N (show i + 1 ≤ a from h1)
  rw [Nat.add_mul] at this; omega
 ·subst h1; exact ⟨rfl, by omega⟩
 ·exfalso
  have := Nat.mul_le_mul_right N (show a + 1 ≤ i from h1)
  rw [Nat.add_mul] at this; omega
theorem zd3 {N : Nat} {xs : List Int} (hl : xs.length = N * N) {i j : Nat} (hi : i < N) (hj : j < N) (v : Int) {a b : Nat} (hb : b < N) :
  G N (xs.set (i * N + j) v) a b = if a = i ∧ b = j then v else G N xs a b := by
 unfold G
 rw [zdI]
 have hlt : i * N + j < xs.length := by rw [hl]; exact zko hi hj
 by_cases h : a = i ∧ b = j
 ·rw [if_pos h, if_pos ⟨by rw [h.1, h.2], hlt⟩]
 ·rw [if_neg h, if_neg (fun e => h ?_)]
  obtain ⟨e1, e2⟩ := zkv hb hj e.1
  exact ⟨e1, e2⟩
theorem zcs (i : Nat) : nx (nx i) = i := by
 unfold nx
 split <;> split <;> omega
theorem zk4 (i : Nat) : nx i ≠ i := by
 unfold nx
 split <;> omega
theorem zcK {i j : Nat} (h : nx i = nx j) : i = j := by rw [← zcs i, h, zcs]
theorem nxl {N i : Nat} (hN : N % 2 = 0) (hi : i < N) : nx i < N := by
 unfold nx; split <;> omega
theorem zcD {α : Type} {f : Nat → α → α} {P : Nat → α → Prop} : ∀ (t : Nat) (x : α), P 0 x → (∀ i x, i < t → P i x → P (i + 1) (f i x)) → P t (rep f t x)
 | 0, _, h, _ => h
 | t + 1, x, h, hs => hs t _ (by omega) (zcD t x h (fun i x hi => hs i x (by omega)))
def Sym (N : Nat) (xs : List Int) : Prop := ∀ i j : Nat, i < N → j < N → G N xs i j = G N xs (nx j) (nx i)
theorem zfz {N : Nat} (hN : N % 2 = 0) {xs : List Int} (hl : xs.length = N * N) : Sym N (zaR N N xs) := by
 have key := zcD (f := fun i => mRow N i N) (P := fun i ys => ys.length = N * N ∧ ∀ a b : Nat, a < N → b < N → a < i → G N ys a b = G N ys (nx b) (nx a)) N xs ⟨hl, fun a b _ _ h => by omega⟩ ?_
 ·intro i j hi hj
  exact key.2 i j hi hj hi
 ·intro i ys hi ⟨a5, hq⟩
  have row := zcD (f := fun j => zgG N i j) (P := fun j zs => zs.length = N * N ∧ ∀ a b : Nat, a < N → b < N → (a < i ∨ (a = i ∧ b < j)) → G N zs a b = G N zs (nx b) (nx a)) N ys ⟨a5, fun a b ha hb h => hq a b ha hb (by omega)⟩ ?_
  ·exact ⟨row.1, fun a b ha hb h => row.2 a b ha hb (by omega)⟩
  ·intro j zs hj ⟨a1, hz⟩
   have a2 := nxl hN hi
   have a4 := nxl hN hj
   refine ⟨by unfold zgG; rw [List.length_set, List.length_set]; exact a1, fun a b ha hb h => ?_⟩
   have a3 := nxl hN ha
   have hnb := nxl hN hb
   unfold zgG
   rw [zd3 (by rw [List.length_set]; exact a1) a4 a2 _ hb, zd3 a1 hi hj _ hb, zd3 (by rw [List.length_set]; exact a1) a4 a2 _ a3, zd3 a1 hi hj _ a3]
   by_cases e1 : a = nx j ∧ b = nx i
   ·obtain ⟨rfl, rfl⟩ := e1
    rw [if_pos ⟨rfl, rfl⟩, zcs, zcs]
    split
    ·rfl
    ·rw [if_pos ⟨rfl, rfl⟩]
   ·rw [if_neg e1]
    by_cases e2 : a = i ∧ b = j
    ·obtain ⟨rfl, rfl⟩ := e2
     rw [if_pos ⟨rfl, rfl⟩, if_pos ⟨rfl, rfl⟩]
    ·rw [if_neg e2, if_neg (fun e => e2 ⟨zcK e.2, zcK e.1⟩), if_neg (fun e => e1 ⟨by rw [← e.2, zcs], by rw [← e.1, zcs]⟩)]
     exact hz a b ha hb (by omega)
theorem ziF {N : Nat} (hN : N % 2 = 0) {xs : List Int} (hl : xs.length = N * N) {i : Nat} (hi : i < N) (h : Sym N xs) : Sym N (zeA N i xs) := by
 intro a b ha hb
 have a3 := nxl hN ha
 have hnb := nxl hN hb
 have a2 := nxl hN hi
 unfold zeA
 rw [zd3 hl hi a2 _ hb, zd3 hl hi a2 _ a3]
 by_cases e : a = i ∧ b = nx i
 ·rw [if_pos e, if_pos ⟨by rw [e.2, zcs], by rw [e.1]⟩]
 ·rw [if_neg e, if_neg (fun k => e ⟨zcK k.2, by rw [← k.1, zcs]⟩)]
  exact h a b ha hb
theorem zhC {N : Nat} (hN : N % 2 = 0) {xs : List Int} (hl : xs.length = N * N) (h : Sym N xs) : Sym N (zcr N N xs) :=
 (zcD (f := fun i => zeA N i) (P := fun _ ys => ys.length = N * N ∧ Sym N ys) N xs ⟨hl, h⟩ fun i ys hi hy => ⟨by unfold zeA; rw [List.length_set]; exact hy.1, ziF hN hy.1 hi hy.2⟩).2
theorem zgF {N : Nat} (hN : N % 2 = 0) {xs : List Int} (hl : xs.length = N * N) (h : ∀ i, i < N → G N xs i i = 0) : ∀ i, i < N → G N (zcr N N xs) i i = 0 :=
 (zcD (f := fun i => zeA N i) (P := fun _ ys => ys.length = N * N ∧ ∀ i, i < N → G N ys i i = 0) N xs ⟨hl, h⟩ fun i ys hi hy => ⟨by unfold zeA; rw [List.length_set]; exact hy.1, fun a ha => by
  unfold zeA
  rw [zd3 hy.1 hi (nxl hN hi) _ ha, if_neg (fun e => zk4 i (by rw [← e.2, e.1]))]
  exact hy.2 a ha⟩).2
theorem ziJ (a b : Int) : plus a b = plus b a := by
 unfold plus
 rw [Int.add_comm (near a) (near b)]
 by_cases h : near a = 9223372036854775807 ∨ near b = 9223372036854775807
 ·rw [if_pos h, if_pos h.symm]
 ·rw [if_neg h, if_neg (fun e => h e.symm)]
theorem zeF {x : Int} (h : zaq x = true) : x ≤ half (plus x x) := by
 have hx := zc5 h
 unfold zaq at h
 rw [decide_eq_true_eq] at h
 by_cases hi : x = 9223372036854775807
 ·subst hi; decide
 ·rw [zb5 (by rw [hx]; exact hi) (by rw [hx]; exact hi), hx]
  unfold half
  rw [zeZ]
  unfold near
  (repeat' split) <;> omega
def zcd (N : Nat) (xs : List Int) (a b : Nat) : Int := if a = b then G N xs a b else min (G N xs a b) (half (plus (G N xs a (nx a)) (G N xs (nx b) b)))
theorem zh3 {N : Nat} {xs : List Int} (h : AllB xs) (a : Nat) : zcd N xs a (nx a) = G N xs a (nx a) := by
 unfold zcd
 rw [if_neg (fun e => zk4 a e.symm), zcs]
 exact Int.min_eq_left (zeF (h _))
theorem zel {N : Nat} (hN : N % 2 = 0) {xs : List Int} (hl : xs.length = N * N) (hb : AllB xs) : ∀ a b : Nat, a < N → b < N → G N (zaU N N xs) a b = zcd N xs a b := by
 have key := zcD (f := fun i => sRow N i N) (P := fun i ys => ys.length = N * N ∧ ∀ a b : Nat, a < N → b < N → G N ys a b = if a < i then zcd N xs a b else G N xs a b) N xs ⟨hl, fun a b _ _ => by rw [if_neg (by omega)]⟩ ?_
 ·intro a b ha a0
  exact (key.2 a b ha a0).trans (by rw [if_pos ha])
 ·intro i ys hi ⟨a5, hq⟩
  have row := zcD (f := fun j => zb9 N i j) (P := fun j zs => zs.length = N * N ∧ ∀ a b : Nat, a < N → b < N → G N zs a b = if a < i ∨ (a = i ∧ b < j) then zcd N xs a b else G N xs a b) N ys ⟨a5, fun a b ha a0 => by
   rw [hq a b ha a0]
   by_cases h : a < i
   ·rw [if_pos h, if_pos (.inl h)]
   ·rw [if_neg h, if_neg (by omega)]⟩ ?_
  ·refine ⟨row.1, fun a b ha a0 => ?_⟩
   refine (row.2 a b ha a0).trans ?_
   by_cases h : a < i + 1
   ·rw [if_pos h, if_pos (by omega)]
   ·rw [if_neg h, if_neg (by omega)]
  ·intro j zs hj ⟨a1, hz⟩
   have a2 := nxl hN hi
   have a4 := nxl hN hj
   have u : ∀ a : Nat, a < N → G N zs a (nx a) = G N xs a (nx a) := fun a ha => by
    rw [hz a (nx a) ha (nxl hN ha)]
    split
    ·exact zh3 hb a
    ·rfl
   refine ⟨by unfold zb9; split; exact a1; rw [List.length_set]; exact a1, fun a b ha a0 => ?_⟩
   unfold zb9
   by_cases hij : i = j
   ·rw [if_pos hij, hz a b ha a0]
    by_cases h : a < i ∨ (a = i ∧ b < j)
    ·rw [if_pos h, if_pos (by omega)]
    ·rw [if_neg h]
     by_cases h2 : a = i ∧ b = j
     ·rw [if_pos (by omega)]
      unfold zcd
      rw [if_pos (by omega)]
     ·rw [if_neg (by omega)]
   ·rw [if_neg hij, zd3 a1 hi hj _ a0]
    by_cases h2 : a = i ∧ b = j
    ·obtain ⟨rfl, rfl⟩ := h2
     rw [if_pos ⟨rfl, rfl⟩, if_pos (by omega)]
     unfold zcd
     rw [if_neg hij]
     show min (G N zs a b) (half (plus (G N zs a (nx a)) (G N zs (nx b) b))) = _
     rw [hz a b ha a0, if_neg (by omega), u a ha]
     have := u (nx b) a4
     rw [zcs] at this
     rw [this]
    ·rw [if_neg h2, hz a b ha a0]
     by_cases h : a < i ∨ (a = i ∧ b < j)
     ·rw [if_pos h, if_pos (by omega)]
     ·rw [if_neg h, if_neg (by omega)]
theorem zgw {N : Nat} (_hN : N % 2 = 0) {xs : List Int} (h : Sym N xs) {a b : Nat} (ha : a < N) (hb : b < N) : zcd N xs a b = zcd N xs (nx b) (nx a) := by
 unfold zcd
 by_cases e : a = b
 ·subst e
  rw [if_pos rfl, if_pos rfl]
  exact h a a ha ha
 ·rw [if_neg e, if_neg (fun k => e (zcK k).symm), zcs, zcs, h a b ha hb, ziJ]
theorem zhd {N : Nat} {xs : List Int} : ∀ {t : Nat}, negs N xs t = false → ∀ i, i < t → 0 ≤ G N xs i i
 | t + 1, h, i, hi => by
  unfold negs at h
  rw [Bool.or_eq_false_iff] at h
  by_cases e : i = t
  ·subst e
   exact Int.not_lt.1 (of_decide_eq_false h.2)
  ·exact zhd h.1 i (by omega)
theorem zeX {N : Nat} (hN : N % 2 = 0) {xs ys : List Int} (h : Cells N xs) (hb : AllB xs) (hc : zbn N xs = some ys) : Cells N ys := by
 have low := zgq hc
 have a0 := low.all hb
 have a6 : ys.length = N * N := low.len.trans h.len
 unfold zbn at hc
 split at hc
 ·cases hc
 ·rename_i hneg
  split at hc
  ·cases hc
  ·injection hc with hc
   have lp := zfk N N xs
   have lm := zdz N N (zbR N N xs)
   have le := zfd N N (zaR N N (zbR N N xs))
   have l1 := lp.len.trans h.len
   have l2 := lm.len.trans l1
   have l3 := le.len.trans l2
   have b3 := le.all (lm.all (lp.all hb))
   have s2 := zfz hN l1
   have s3 := zhC hN l2 s2
   have d2 : ∀ i, i < N → G N (zaR N N (zbR N N xs)) i i = 0 := fun i hi => by
    have g1 := zhd (by simpa using hneg) i hi
    have g2 := (lm.trans lp).le hb (i * N + i)
    have g3 := h.diag i hi
    rw [g3] at g2
    exact Int.le_antisymm g2 g1
   have d3 := zgF hN l2 d2
   have f := zel hN l3 b3
   subst hc
   refine ⟨a6, fun i j _ _ => a0 _, fun i hi => ?_, fun i j hi hj => ?_⟩
   ·have e := f i i hi hi
    unfold zcd at e
    rw [if_pos rfl, d3 i hi] at e
    exact e
   ·have e1 := f i j hi hj
    have e2 := f (nx j) (nx i) (nxl hN hj) (nxl hN hi)
    rw [zgw hN s3 hi hj, ← e2] at e1
    exact e1
theorem ze2 {o : O} (h : check o = 0) : check (closeO o) = 0 := by
 obtain ⟨h0, h1, _, _⟩ := zas h
 rcases zfj o with e | ⟨he, ys, e1, e2⟩
 ·rw [e]; exact zdq ⟨h0, h1⟩
 ·rw [e2]
  obtain ⟨n, e, m⟩ := o
  dsimp only at *
  subst he
  obtain ⟨N, hN⟩ : ∃ N : Nat, (N : Int) = 2 * n := ⟨(2 * n).toNat, by omega⟩
  have hNt : (2 * n).toNat = N := by omega
  rw [hNt] at e1
  exact zdv hN (by omega) (zeX (by omega) (zaz hN h) (zca h) e1)
end
section
open Go.RowKit
def inI (a : Int) : Bool := decide (-9223372036854775808 ≤ a ∧ a ≤ 9223372036854775807)
def fit (a : Int) : Int × Int := if inI a then (a, 0) else (0, 1)
def addW (a b : Int) : Int × Int := fit (a + b)
def subW (a b : Int) : Int × Int := fit (a - b)
def negW (a : Int) : Int × Int := fit (-a)
def mulW (a b : Int) : Int × Int := fit (a * b)
def divErr (a b : Int) : Int := if b = 0 then 2 else if a = -9223372036854775808 ∧ b = -1 then 1 else 0
def divW (a b : Int) : Int × Int := if divErr a b = 0 then (a.tdiv b, 0) else (0, divErr a b)
def remW (a b : Int) : Int × Int := if divErr a b = 0 then (a.tmod b, 0) else (0, divErr a b)
def cmpB (op a b : Int) : Bool := if op = 1 then decide (a < b) else if op = 2 then decide (a ≤ b) else if op = 3 then decide (a = b) else if op = 4 then decide (a ≠ b) else if op = 5 then decide (b < a) else if op = 6 then decide (b ≤ a) else false
def zce (p : Int × Int) : Value := .tuple #[p.1, p.2]
end
section
open Go.RowKit
structure Rg where
 lo : Int
 hi : Int
 hl : Bool
 hh : Bool
def Rg.val (r : Rg) : Value := .agg #[r.lo, r.hi, r.hl, r.hh]
def rg0 : Rg := ⟨0, 0, false, false⟩
def oneR (n : Int) : Rg := ⟨n, n, true, true⟩
def za3 (up down : Int) : Rg := ⟨if down = 9223372036854775807 then 0 else -down, if up = 9223372036854775807 then 0 else up, !decide (down = 9223372036854775807), !decide (up = 9223372036854775807)⟩
def varR (N : Nat) (m : List Int) (v : Nat) : Rg := za3 (half (G N m (2 * v) (2 * v + 1))) (half (G N m (2 * v + 1) (2 * v)))
def sumR (N : Nat) (m : List Int) (u v : Nat) : Rg := za3 (G N m (2 * u) (2 * v + 1)) (G N m (2 * u + 1) (2 * v))
def diffR (N : Nat) (m : List Int) (u v : Nat) : Rg := za3 (G N m (2 * u) (2 * v)) (G N m (2 * u + 1) (2 * v + 1))
def opdR (N : Nat) (m : List Int) (v n : Int) : Rg := if 0 ≤ v then varR N m v.toNat else oneR n
def nearR (has : Bool) (n : Int) : Bool := has && decide (-1073741824 ≤ n ∧ n ≤ 1073741824)
def mulR (a b : Rg) : Rg :=
 if nearR a.hl a.lo && nearR a.hh a.hi && nearR b.hl b.lo && nearR b.hh b.hi then
  ⟨min (min (a.lo * b.lo) (a.lo * b.hi)) (min (a.hi * b.lo) (a.hi * b.hi)), max (max (a.lo * b.lo) (a.lo * b.hi)) (max (a.hi * b.lo) (a.hi * b.hi)), true, true⟩
 else rg0
def oneOf (b : Rg) : Int := if b.hl && b.hh && decide (b.lo = b.hi) && decide (0 < b.lo) then b.lo else 0
def divR (a b : Rg) : Rg := if oneOf b = 0 then rg0 else ⟨if a.hl then a.lo.tdiv (oneOf b) else 0, if a.hh then a.hi.tdiv (oneOf b) else 0, a.hl, a.hh⟩
def remR (a b : Rg) : Rg :=
 if oneOf b = 0 then rg0
 else ⟨if a.hl && decide (0 ≤ a.lo) then 0 else 1 - oneOf b,
  if a.hh && decide (a.hi ≤ 0) then 0 else if a.hh && (a.hl && decide (0 ≤ a.lo)) then min (oneOf b - 1) a.hi else oneOf b - 1, true, true⟩
end
section
open Go.RowKit
attribute [local go_sem ↓] Go.wp_at_zero Go.wp_at_succ
def MC (B gx : Nat) (n : Int) (A : Option Addr) (cap : Nat) (xs : List Int) (W : World) : Prop :=
 B ≤ gx ∧ (∀ g, A = some ⟨g, 0, none⟩ → g ≠ gx) ∧ (∃ s, Blk W gx 192 #[n, .slice A xs.length cap, .bool s]) ∧ Own W B A cap xs
def SC (w0 : World) (gx : Nat) (n : Int) (A : Option Addr) (L cap : Nat) (W : World) : Prop :=
 w0.grownBy W (some gx) ∧ ∃ s, Blk W gx 192 #[n, .slice A L cap, .bool s]
section
variable {B gx cap gm : Nat} {n : Int} {A : Option Addr} {xs : List Int} {W W' w0 : World}
theorem MC.base (h : MC B gx n A cap xs W) : B ≤ gx := h.1
theorem MC.sx (h : MC B gx n A cap xs W) : SC W gx n A xs.length cap W := ⟨World.grownBy.refl _ _, h.2.2.1⟩
theorem MC.go (h : MC B gx n A cap xs w0) (hs : SC w0 gx n A xs.length cap W) : MC B gx n A cap xs W := by
 refine ⟨h.1, h.2.1, hs.2, h.2.2.2.grown hs.1 ?_⟩
 rcases h.2.2.2.form with ⟨rfl, _⟩ | ⟨g, rfl, _⟩
 ·exact .inl rfl
 ·refine .inr fun e => h.2.1 g rfl ?_
  simpa [Value.ownBlock] using e
theorem SC.up {L : Nat} (h : SC w0 gx n A L cap W) (hb : Below W.heap.size W W') : SC w0 gx n A L cap W' :=
 ⟨h.1.trans (za1 hb _), h.2.imp fun _ hk => hk.later hb⟩
theorem SC.drew {L : Nat} (h : SC w0 gx n A L cap W) : SC w0 gx n A L cap W.drew := h.up (Below.refl _ _).drew
theorem MC.up (h : MC B gx n A cap xs W) (hb : Below W.heap.size W W') : MC B gx n A cap xs W' := h.go (h.sx.up hb)
theorem SC.bel {L : Nat} (h : SC w0 gx n A L cap W) (hB : B ≤ gx) (hB' : B ≤ w0.heap.size) : Below B w0 W := zaW h.1 (fun k hk => by injection hk with hk; omega) hB'
theorem MC.some (h : MC B gx n A cap xs W) (hl : 0 < xs.length) : ∃ gm, A = .some ⟨gm, 0, none⟩ ∧ B ≤ gm ∧ gm < W.heap.size ∧ gm ≠ gx := by
 rcases h.2.2.2.form with ⟨_, h0, _⟩ | ⟨g, h1, h2, h3⟩
 ·rw [h0] at hl; simp at hl
 ·exact ⟨g, h1, h2, h3, h.2.1 g h1⟩
theorem MC.m_ (h : MC B gx n A cap xs W) : W.cell? ⟨gx, 1, none⟩ = Option.some (.slice A xs.length cap) := by obtain ⟨s, hk⟩ := h.2.2.1; exact hk.cell 1
theorem MC.c_ (h : MC B gx n (.some ⟨gm, 0, none⟩) cap xs W) {k : Nat} (hk : k < xs.length) : W.cell? ⟨gm, k, none⟩ = Option.some (.int .i64 (gI xs k)) := by
 obtain ⟨b, off, hA, _, hc⟩ := h.2.2.2.rd k hk
 simp only [Option.some.injEq, Addr.mk.injEq] at hA
 obtain ⟨rfl, rfl, _⟩ := hA
 simpa using hc
theorem MC.f_ (h : MC B gx n (.some ⟨gm, 0, none⟩) cap xs W) (k : Nat) : W.frozen? ⟨gm, k, none⟩ = false := h.2.2.2.frozen k
theorem MC.set (h : MC B gx n (.some ⟨gm, 0, none⟩) cap xs W) (k : Nat) (v : Int) : MC B gx n (.some ⟨gm, 0, none⟩) cap (xs.set k v) (W.setCell ⟨gm, k, none⟩ (.int .i64 v)) := by
 refine ⟨h.1, h.2.1, ?_, h.2.2.2.store k v⟩
 obtain ⟨s, hk⟩ := h.2.2.1
 rw [List.length_set]
 exact ⟨s, hk.far (p := ⟨gm, k, none⟩) (h.2.1 gm rfl) _⟩
end
theorem MC.some_lt {B gx cap gm : Nat} {n : Int} {xs : List Int} {W : World} (h : MC B gx n (Option.some ⟨gm, 0, none⟩) cap xs W) : gm < W.heap.size := by
 rcases h.2.2.2.form with ⟨h0, _⟩ | ⟨g, h1, _, h3⟩
 ·cases h0
 ·injection h1 with h1; injection h1 with h1; omega
theorem zbj {n : Int} {N i j : Nat} (hN : (N : Int) = 2 * n) (hi : i < N) (hj : j < N) (hn : N ≤ 128) :
  0 ≤ (i : Int) * (2 * n) ∧ (i : Int) * (2 * n) ≤ 16384 ∧ ((i : Int) * (2 * n) + (j : Int)).toNat = i * N + j ∧ i * N + j < N * N ∧ 0 ≤ (i : Int) * (2 * n) + (j : Int) ∧ (i : Int) * (2 * n) + (j : Int) < ((N * N : Nat) : Int) := by
 have h := zbs hN hi hj hn
 rw [Int.mul_comm (2 * n) (i : Int)] at h
 exact h
theorem zby (i : Nat) (w : World) (h : i ≤ 1000) :
  Calls Tryz.prog 61 #[(i : Int)] w fun e w' => e = .returned (.int .i64 ((nx i : Nat) : Int)) ∧ w = w' := by
 rw [← zd0]
 exact zbd _ _ (by omega) (by omega)
theorem zfw {B gx cap : Nat} {n : Int} {A : Option Addr} {xs : List Int} {W : World} (a b : Int) (h : MC B gx n A cap xs W) :
  Calls Tryz.prog 176 #[.pointer (some ⟨gx, 0, none⟩), a, b] W fun e' W' => e' = .returned (.int .i64 (plus a b)) ∧ SC W gx n A xs.length cap W' := by
 obtain ⟨s, hk⟩ := h.2.2.1
 have c2 := hk.cell 2
 have f2 := hk.fr 2
 have k2 := hk.set_ 2 (.bool true)
 cases hs : sat a b
 all_goals
  have HS := hid hs
  clear hs
  go_enter Tryz.func176, Tryz.ntmps176
  go_wp2_with fail
  refine (zjs a b _).mono ?_
  rw [HS.out]
  rintro e1 w1 ⟨rfl, rfl⟩
  go_wp2_with fail
  refine (zha a b _).mono ?_
  rintro e1 w1 ⟨rfl, rfl⟩
  go_wp2
  go_ret
 ·exact ⟨rfl, World.grownBy.refl _ _, s, hk⟩
 ·exact ⟨rfl, zay _ ⟨gx, 2, none⟩ _, _, k2⟩
end
end Go.Proofs.YtnmpgijiimglcaaGreat
