import Derived.Test.YtnmpgijiimglcaaGreatBTt06
namespace Go.Proofs.YtnmpgijiimglcaaGreat
open Go.RowKit
set_option maxRecDepth 100000
set_option maxHeartbeats 8000000
def LeS (c a b : Int) : Prop := a = 9223372036854775807 ∨ b = 9223372036854775807 ∨ (c ≤ a + b ∧ c ≠ 9223372036854775807)
theorem LeS.comm {c a b : Int} (h : LeS c a b) : LeS c b a := by unfold LeS at *; omega
theorem bnd {a : Int} (h : zag a = true) : a = 9223372036854775807 ∨ (-4611686018427387904 ≤ a ∧ a ≤ 4611686018427387904) := by
 unfold zag at h; exact of_decide_eq_true h
theorem zlk {a : Int} (h : zag a = true) : a ≤ 9223372036854775807 := by have := bnd h; omega
theorem zcv {x : Int} (h : zag x = true) : plus x 0 = x := by
 have h1 := zbe h
 have h2 : near 0 = 0 := by decide
 unfold plus
 rw [h1, h2]
 split
 ·omega
 ·rw [Int.add_zero]; exact h1
theorem zdh {x : Int} (h : zag x = true) : plus 0 x = x := by rw [zgE]; exact zcv h
theorem zbl {a b : Int} (ha : zag a = true) (hb : zag b = true) (hs : sat a b = false) :
  (a = 9223372036854775807 ∧ plus a b = 9223372036854775807) ∨ (b = 9223372036854775807 ∧ plus a b = 9223372036854775807) ∨
   (a ≠ 9223372036854775807 ∧ b ≠ 9223372036854775807 ∧ plus a b = a + b ∧ -4611686018427387904 ≤ a + b ∧ a + b ≤ 4611686018427387904) := by
 have h1 := zbe ha
 have h2 := zbe hb
 unfold sat at hs
 rw [h1, h2] at hs
 by_cases ea : a = 9223372036854775807
 ·exact .inl ⟨ea, by unfold plus; rw [if_pos (.inl (by rw [h1]; exact ea))]⟩
 ·by_cases eb : b = 9223372036854775807
  ·exact .inr (.inl ⟨eb, by unfold plus; rw [if_pos (.inr (by rw [h2]; exact eb))]⟩)
  ·refine .inr (.inr ⟨ea, eb, ?_⟩)
   have hd : decide (a = 9223372036854775807 ∨ b = 9223372036854775807) = false := by
    rw [decide_eq_false_iff_not]; omega
   rw [hd] at hs
   simp only [Bool.not_false, Bool.true_and, decide_eq_false_iff_not] at hs
   unfold plus
   rw [if_neg (by rw [h1, h2]; omega), h1, h2]
   refine ⟨?_, by omega, by omega⟩
   unfold near
   rw [if_neg (by omega), if_neg (by omega)]
theorem zfR {q q1 q2 a1 a2 : Int} (hq : zag q = true) (h1 : zag a1 = true) (h2 : zag a2 = true) (h : LeS q q1 q2) (k1 : q1 ≤ a1) (k2 : q2 ≤ a2) : q ≤ plus a1 a2 := by
 have e1 := zbe h1
 have e2 := zbe h2
 have bq := bnd hq
 have b1 := bnd h1
 have b2 := bnd h2
 unfold plus
 rw [e1, e2]
 unfold LeS at h
 split
 ·omega
 ·unfold near
  split
  ·omega
  ·split <;> omega
theorem bG {xs : List Int} (h : AllB xs) (N i j : Nat) : zag (G N xs i j) = true := h _
def Tri (N : Nat) (xs : List Int) : Prop := ∀ i j k : Nat, i < N → j < N → k < N → LeS (G N xs i j) (G N xs i k) (G N xs k j)
structure Tight (N : Nat) (xs : List Int) : Prop where
 cells : Cells N xs
 tri : Tri N xs
 ev : ∀ i : Nat, i < N → even (G N xs i (nx i)) = G N xs i (nx i)
 str : ∀ i j : Nat, i < N → j < N → i ≠ j → G N xs i j ≤ half (plus (G N xs i (nx i)) (G N xs (nx j) j))
theorem zbq (xs : List Int) (k : Nat) : xs.set k (gI xs (k : Int)) = xs := by
 refine List.ext_getElem (by simp) fun i h1 h2 => ?_
 rw [List.getElem_set]
 split
 ·rename_i e; subst e; unfold gI; simp [h2]
 ·rfl
theorem zdI {α : Type} {f : Nat → α → α} {x : α} : ∀ (t : Nat), (∀ i, i < t → f i x = x) → rep f t x = x
 | 0, _ => rfl
 | t + 1, h => by
  show f t (rep f t x) = x
  rw [zdI t (fun i hi => h i (by omega)), h t (by omega)]
section
variable {N : Nat} {xs : List Int}
theorem zdO (_hN : N % 2 = 0) (h : Sym N xs) : zaB N N xs = xs :=
 zdI N fun i hi => zdI N fun j hj => by
  unfold zgY
  have e : gI xs ((nx j * N + nx i : Nat) : Int) = gI xs ((i * N + j : Nat) : Int) := (h i j hi hj).symm
  rw [e, Int.min_self, zbq, ← e, zbq]
theorem zjX (h : ∀ i, i < N → G N xs i i = 0) : ∀ t, t ≤ N → negs N xs t = false
 | 0, _ => rfl
 | t + 1, ht => by
  unfold negs
  rw [zjX h t (by omega), Bool.false_or, decide_eq_false_iff_not]
  have : gI xs ((t * N + t : Nat) : Int) = 0 := h t (by omega)
  omega
theorem ze9 (h : ∀ i, i < N → 0 ≤ plus (G N xs i (nx i)) (G N xs (nx i) i)) : ∀ t, t ≤ N → zaT N xs t = false
 | 0, _ => rfl
 | t + 1, ht => by
  unfold zaT
  rw [ze9 h t (by omega), Bool.or_false, decide_eq_false_iff_not]
  have : 0 ≤ plus (gI xs ((t * N + nx t : Nat) : Int)) (gI xs ((nx t * N + t : Nat) : Int)) := h t (by omega)
  omega
theorem Cells.b (h : Cells N xs) {i j : Nat} (hi : i < N) (hj : j < N) : zag (G N xs i j) = true := h.bd i j hi hj
theorem Cells.sym (h : Cells N xs) : Sym N xs := fun i j hi hj => h.mir i j hi hj
theorem Cells.d (h : Cells N xs) {i : Nat} (hi : i < N) : G N xs i i = 0 := h.diag i hi
theorem Tight.close (hN : N % 2 = 0) (h : Tight N xs) : za3 N xs = some xs := by
 have c := h.cells
 have hp : paths N N xs = xs := zdI N fun k hk => zdI N fun i hi => zdI N fun j hj => by
  unfold zhe
  have hle : G N xs i j ≤ plus (G N xs i k) (G N xs k j) := zfR (c.b hi hj) (c.b hi hk) (c.b hk hj) (h.tri i j k hi hj hk) (Int.le_refl _) (Int.le_refl _)
  rw [show min (gI xs ((i * N + j : Nat) : Int)) (plus (gI xs ((i * N + k : Nat) : Int)) (gI xs ((k * N + j : Nat) : Int))) = gI xs ((i * N + j : Nat) : Int) from Int.min_eq_left hle, zbq]
 have hm := zdO hN c.sym
 have he : zaU N N xs = xs := zdI N fun i hi => by
  unfold zdm
  have := h.ev i hi
  unfold G at this
  rw [this, zbq]
 have hs : zaV N N xs = xs := zdI N fun i hi => zdI N fun j hj => by
  unfold zdi
  split
  ·rfl
  ·rename_i hij
   have := h.str i j hi hj hij
   rw [show min (gI xs ((i * N + j : Nat) : Int)) (half (plus (gI xs ((i * N + nx i : Nat) : Int)) (gI xs ((nx j * N + j : Nat) : Int)))) = gI xs ((i * N + j : Nat) : Int) from Int.min_eq_left this, zbq]
 unfold za3
 rw [hp, hm, zjX (fun i hi => c.d hi) N (Nat.le_refl _), he, ze9 (fun i hi => ?_) N (Nat.le_refl _), hs]
 ·rfl
 ·have ht := h.tri i i (nx i) hi hi (nxl hN hi)
  rw [c.d hi] at ht
  exact zfR (by decide) (c.b hi (nxl hN hi)) (c.b (nxl hN hi) hi) ht (Int.le_refl _) (Int.le_refl _)
end
theorem zgQ {n : Int} {m : List Int} {N : Nat} (hN : (N : Int) = 2 * n) (h : Tight N m) : closeO ⟨n, false, m⟩ = ⟨n, false, m⟩ := by
 have e : (2 * n).toNat = N := by omega
 exact zdd (by rw [e]; exact h.close (by omega))
section
variable {N k : Nat} {xs : List Int}
def newP (N k : Nat) (xs : List Int) (a b : Nat) : Int := min (G N xs a b) (plus (G N xs a k) (G N xs k b))
theorem zor (hl : xs.length = N * N) (hb : AllB xs) (hk : k < N) (h0 : G N xs k k = 0) : (pMat N k N xs).length = N * N ∧ ∀ a b : Nat, a < N → b < N → G N (pMat N k N xs) a b = newP N k xs a b := by
 have uc : ∀ a, a < N → newP N k xs a k = G N xs a k := fun a _ => by
  unfold newP; rw [h0, zcv (bG hb _ _ _)]; exact Int.min_self _
 have ur : ∀ b, b < N → newP N k xs k b = G N xs k b := fun b _ => by
  unfold newP; rw [h0, zdh (bG hb _ _ _)]; exact Int.min_self _
 have key := zb7 (f := fun i => pRow N k i N) (P := fun i ys => ys.length = N * N ∧ ∀ a b : Nat, a < N → b < N → G N ys a b = if a < i then newP N k xs a b else G N xs a b) N xs ⟨hl, fun a b _ _ => by rw [if_neg (by omega)]⟩ ?_
 ·exact ⟨key.1, fun a b ha hb' => (key.2 a b ha hb').trans (by rw [if_pos ha])⟩
 ·intro i ys hi ⟨a5, hq⟩
  have row := zb7 (f := fun j => zhe N k i j) (P := fun j zs => zs.length = N * N ∧ ∀ a b : Nat, a < N → b < N → G N zs a b = if a < i ∨ (a = i ∧ b < j) then newP N k xs a b else G N xs a b) N ys ⟨a5, fun a b ha hb' => by
   rw [hq a b ha hb']
   by_cases h : a < i
   ·rw [if_pos h, if_pos (.inl h)]
   ·rw [if_neg h, if_neg (by omega)]⟩ ?_
  ·refine ⟨row.1, fun a b ha hb' => ?_⟩
   refine (row.2 a b ha hb').trans ?_
   by_cases h : a < i + 1
   ·rw [if_pos h, if_pos (by omega)]
   ·rw [if_neg h, if_neg (by omega)]
  ·intro j zs hj ⟨hlz, hz⟩
   refine ⟨by unfold zhe; rw [List.length_set]; exact hlz, fun a b ha hb' => ?_⟩
   unfold zhe
   rw [zdX hlz hi hj _ hb']
   by_cases h2 : a = i ∧ b = j
   ·obtain ⟨rfl, rfl⟩ := h2
    rw [if_pos ⟨rfl, rfl⟩, if_pos (by omega)]
    show min (G N zs a b) (plus (G N zs a k) (G N zs k b)) = _
    have e1 : G N zs a b = G N xs a b := by rw [hz a b ha hb', if_neg (by omega)]
    have e2 : G N zs a k = G N xs a k := by
     rw [hz a k ha hk]
     split
     ·exact uc a ha
     ·rfl
    have e3 : G N zs k b = G N xs k b := by
     rw [hz k b hk hb']
     split
     ·exact ur b hb'
     ·rfl
    rw [e1, e2, e3]; rfl
   ·rw [if_neg h2, hz a b ha hb']
    by_cases h : a < i ∨ (a = i ∧ b < j)
    ·rw [if_pos h, if_pos (by omega)]
    ·rw [if_neg h, if_neg (by omega)]
end
theorem zm0 {aij ail alj aik akj akl alk : Int} (bik : zag aik = true) (bkj : zag akj = true) (bkl : zag akl = true) (blk : zag alk = true) (bij : zag aij = true)
  (s1 : sat aik akj = false) (s2 : sat aik akl = false) (s3 : sat alk akj = false)
  (t1 : LeS aij ail alj) (t2 : LeS akj akl alj) (t3 : LeS aik ail alk) (t4 : LeS 0 akl alk) : LeS (min aij (plus aik akj)) (min ail (plus aik akl)) (min alj (plus alk akj)) := by
 have c1 := zbl bik bkj s1
 have c2 := zbl bik bkl s2
 have c3 := zbl blk bkj s3
 have n1 := bnd bij
 generalize plus aik akj = p1 at *
 generalize plus aik akl = p2 at *
 generalize plus alk akj = p3 at *
 clear s1 s2 s3 bik bkj bkl blk bij
 unfold LeS at *
 rcases Int.le_total ail p2 with h2 | h2
 ·rw [Int.min_eq_left h2]
  rcases Int.le_total alj p3 with h3 | h3
  ·rw [Int.min_eq_left h3]
   omega
  ·rw [Int.min_eq_right h3]
   rcases c3 with c3 | c3 | c3
   ·exact .inr (.inl c3.2)
   ·exact .inr (.inl c3.2)
   ·rcases c1 with c1 | c1 | c1 <;> omega
 ·rw [Int.min_eq_right h2]
  rcases c2 with c2 | c2 | c2
  ·exact .inl c2.2
  ·exact .inl c2.2
  ·rcases Int.le_total alj p3 with h3 | h3
   ·rw [Int.min_eq_left h3]
    rcases c1 with c1 | c1 | c1 <;> omega
   ·rw [Int.min_eq_right h3]
    rcases c3 with c3 | c3 | c3
    ·exact .inr (.inl c3.2)
    ·exact .inr (.inl c3.2)
    ·rcases c1 with c1 | c1 | c1 <;> omega
structure NoSat (N : Nat) (xs : List Int) : Prop where
 p : ∀ k i j : Nat, k < N → i < N → j < N → sat (G N (paths N k xs) i k) (G N (paths N k xs) k j) = false
 s : ∀ i j : Nat, i < N → j < N → i ≠ j → sat (G N (zaU N N (zaB N N (paths N N xs))) i (nx i)) (G N (zaU N N (zaB N N (paths N N xs))) (nx j) j) = false
 t : ∀ i : Nat, i < N → sat (G N (zaU N N (zaB N N (paths N N xs))) i (nx i)) (G N (zaU N N (zaB N N (paths N N xs))) (nx i) i) = false
theorem zfF (N : Nat) (xs : List Int) (k : Nat) : ∀ d, Low (paths N (k + d) xs) (paths N k xs)
 | 0 => Low.refl _
 | d + 1 => (Low.rep (fun i x => Low.rep (fun j x => zeW N (k + d) i j x) N x) N (paths N (k + d) xs)).trans (zfF N xs k d)
section
variable {N : Nat} {xs : List Int} (h : Cells N xs) (hb : AllB xs) (hd : ∀ i, i < N → 0 ≤ G N (paths N N xs) i i)
include h hb hd
theorem zcp {k : Nat} (hk : k ≤ N) {i : Nat} (hi : i < N) : G N (paths N k xs) i i = 0 := by
 have l1 := zaK N k xs
 have l2 := zfF N xs k (N - k)
 rw [show k + (N - k) = N by omega] at l2
 have e1 := l1.le hb (i * N + i)
 have e2 := l2.le (l1.all hb) (i * N + i)
 have e3 := hd i hi
 have e4 := h.diag i hi
 unfold G at *
 omega
omit hb hd in
theorem zjn {k : Nat} : (paths N k xs).length = N * N := (zaK N k xs).len.trans h.len
theorem za9 {k : Nat} (hk : k < N) {a b : Nat} (ha : a < N) (hb' : b < N) : G N (paths N (k + 1) xs) a b = newP N k (paths N k xs) a b :=
 (zor (zjn h) ((zaK N k xs).all hb) hk (zcp h hb hd (by omega) hk)).2 a b ha hb'
theorem zeZ (ns : ∀ k i j : Nat, k < N → i < N → j < N → sat (G N (paths N k xs) i k) (G N (paths N k xs) k j) = false) : ∀ k, k ≤ N → ∀ i j l : Nat, i < N → j < N → l < k → LeS (G N (paths N k xs) i j) (G N (paths N k xs) i l) (G N (paths N k xs) l j)
 | 0, _, _, _, _, _, _, hl => by omega
 | k + 1, hk, i, j, l, hi, hj, hl => by
  have ih := zeZ ns k (by omega)
  have a3 : k < N := by omega
  have a4 : l < N := by omega
  have hB := (zaK N k xs).all hb
  have d := zcp h hb hd (k := k) (by omega) a3
  rw [za9 h hb hd a3 hi hj, za9 h hb hd a3 hi a4, za9 h hb hd a3 a4 hj]
  unfold newP
  by_cases e : l = k
  ·subst e
   rw [d, zcv (bG hB _ _ _), zdh (bG hB _ _ _), Int.min_self, Int.min_self]
   have c := zbl (hB _) (hB _) (ns l i j a3 hi hj)
   unfold LeS
   unfold G at *
   rcases c with c | c | c
   ·exact .inl c.1
   ·exact .inr (.inl c.1)
   ·refine .inr (.inr ?_)
    rw [c.2.2.1]
    omega
  ·have t4 := ih k k l a3 a3 (by omega)
   rw [d] at t4
   exact zm0 (hB _) (hB _) (hB _) (hB _) (hB _) (ns k i j a3 hi hj) (ns k i l a3 hi a4) (ns k l j a3 a4 hj) (ih i j l hi hj (by omega)) (ih k j l a3 hj (by omega)) (ih i k l hi a3 (by omega)) t4
theorem zfq {Q : Nat → Nat → Int} (hQ : ∀ i j k : Nat, i < N → j < N → k < N → LeS (Q i j) (Q i k) (Q k j)) (hQb : ∀ i j : Nat, i < N → j < N → zag (Q i j) = true) (hle : ∀ i j : Nat, i < N → j < N → Q i j ≤ G N xs i j) :
  ∀ k, k ≤ N → ∀ i j : Nat, i < N → j < N → Q i j ≤ G N (paths N k xs) i j
 | 0, _, i, j, hi, hj => hle i j hi hj
 | k + 1, hk, i, j, hi, hj => by
  have ih := zfq hQ hQb hle k (by omega)
  have a3 : k < N := by omega
  have hB := (zaK N k xs).all hb
  rw [za9 h hb hd a3 hi hj]
  unfold newP
  have h1 := ih i j hi hj
  have h2 := zfR (hQb i j hi hj) (hB (i * N + k)) (hB (k * N + j)) (hQ i j k hi hj a3) (ih i k hi a3) (ih k j a3 hj)
  have h3 : Q i j ≤ plus (G N (paths N k xs) i k) (G N (paths N k xs) k j) := h2
  omega
theorem zgL (hN : N % 2 = 0) (ns : ∀ k i j : Nat, k < N → i < N → j < N → sat (G N (paths N k xs) i k) (G N (paths N k xs) k j) = false) : Sym N (paths N N xs) := by
 have hB := (zaK N N xs).all hb
 have T := zeZ h hb hd ns N (Nat.le_refl _)
 have key := zfq h hb hd (Q := fun i j => G N (paths N N xs) (nx j) (nx i)) (fun i j k hi hj hk => (T (nx j) (nx i) (nx k) (nxl hN hj) (nxl hN hi) (nxl hN hk)).comm) (fun i j _ _ => hB _) (fun i j hi hj => by
  have e := (zaK N N xs).le hb (nx j * N + nx i)
  have e2 := h.mir i j hi hj
  show gI (paths N N xs) _ ≤ gI xs _
  rw [e2]; exact e) N (Nat.le_refl _)
 intro i j hi hj
 refine Int.le_antisymm ?_ (key i j hi hj)
 have := key (nx j) (nx i) (nxl hN hj) (nxl hN hi)
 simp only [zbv] at this
 exact this
end
theorem zk6 {N : Nat} (hN : N % 2 = 0) {xs : List Int} (hl : xs.length = N * N) : ∀ a b : Nat, a < N → b < N → G N (zaU N N xs) a b = if b = nx a then even (G N xs a b) else G N xs a b := by
 have key := zb7 (f := fun i => zdm N i) (P := fun i ys => ys.length = N * N ∧ ∀ a b : Nat, a < N → b < N → G N ys a b = if b = nx a ∧ a < i then even (G N xs a b) else G N xs a b) N xs ⟨hl, fun a b _ _ => by rw [if_neg (by omega)]⟩ ?_
 ·intro a b ha hb
  refine (key.2 a b ha hb).trans ?_
  by_cases e : b = nx a
  ·rw [if_pos ⟨e, ha⟩, if_pos e]
  ·rw [if_neg (fun q => e q.1), if_neg e]
 ·intro i ys hi ⟨a5, hq⟩
  refine ⟨by unfold zdm; rw [List.length_set]; exact a5, fun a b ha hb => ?_⟩
  unfold zdm
  rw [zdX a5 hi (nxl hN hi) _ hb]
  by_cases e : a = i ∧ b = nx i
  ·obtain ⟨rfl, rfl⟩ := e
   rw [if_pos ⟨rfl, rfl⟩, if_pos ⟨rfl, by omega⟩]
   show even (G N ys a (nx a)) = _
   rw [hq a (nx a) ha hb, if_neg (by omega)]
  ·rw [if_neg e, hq a b ha hb]
   by_cases e2 : b = nx a ∧ a < i
   ·rw [if_pos e2, if_pos ⟨e2.1, by omega⟩]
   ·rw [if_neg e2, if_neg (fun q => ?_)]
    by_cases e3 : a = i
    ·subst e3; exact e ⟨rfl, q.1⟩
    ·exact e2 ⟨q.1, by omega⟩
theorem zet {x : Int} (h : zag x = true) : (x = 9223372036854775807 ∧ even x = 9223372036854775807) ∨ (x ≠ 9223372036854775807 ∧ even x = 2 * (x / 2) ∧ even x ≠ 9223372036854775807) := by
 have h1 := zbe h
 have h2 := bnd h
 unfold even
 rw [h1]
 by_cases e : x = 9223372036854775807
 ·exact .inl ⟨e, by rw [if_pos e]⟩
 ·rw [if_neg e]
  exact .inr ⟨e, rfl, by omega⟩
theorem zmK {e f : Int} (he : zag e = true) (hf : zag f = true) (hs : sat e f = false) (u v : Int) (hu : e ≠ 9223372036854775807 → e = 2 * u) (hv : f ≠ 9223372036854775807 → f = 2 * v) :
  (e = 9223372036854775807 ∧ half (plus e f) = 9223372036854775807) ∨ (f = 9223372036854775807 ∧ half (plus e f) = 9223372036854775807) ∨ (e ≠ 9223372036854775807 ∧ f ≠ 9223372036854775807 ∧ half (plus e f) = u + v) := by
 rcases zbl he hf hs with h | h | h
 ·exact .inl ⟨h.1, by rw [h.2]; decide⟩
 ·exact .inr (.inl ⟨h.1, by rw [h.2]; decide⟩)
 ·refine .inr (.inr ⟨h.1, h.2.1, ?_⟩)
  obtain ⟨h1, h2, h3, h4, h5⟩ := h
  have e1 := hu h1
  have e2 := hv h2
  rw [h3]
  have n1 : near (e + f) = e + f := by unfold near; rw [if_neg (by omega), if_neg (by omega)]
  unfold half
  rw [n1, if_neg (by omega)]
  omega
theorem zoX {c a b : Int} (h : LeS c a b) (ha : a ≠ 9223372036854775807) (hb : b ≠ 9223372036854775807) : c ≤ a + b ∧ c ≠ 9223372036854775807 := by unfold LeS at h; omega
theorem zgT {N : Nat} (hN : N % 2 = 0) {xs ys : List Int} (h : Cells N xs) (hb : AllB xs) (hc : za3 N xs = some ys) (ns : NoSat N xs) : Tight N ys := by
 have a0 := zea hN h hb hc
 unfold za3 at hc
 split at hc
 ·cases hc
 ·rename_i hneg
  split at hc
  ·cases hc
  ·rename_i hside
   injection hc with hc
   have lp := zaK N N xs
   have lm := zcx N N (paths N N xs)
   have le := zdx N N (zaB N N (paths N N xs))
   have l1 := lp.len.trans h.len
   have bP := lp.all hb
   have hd : ∀ i, i < N → 0 ≤ G N (paths N N xs) i i := fun i hi => by
    have g1 := zfZ (by simpa using hneg) i hi
    have g2 := lm.le bP (i * N + i)
    unfold G at *
    omega
   have sP := zgL h hb hd hN ns.p
   have TP := zeZ h hb hd ns.p N (Nat.le_refl _)
   have hm := zdO hN sP
   have ns2 := ns.s
   have ns3 := ns.t
   have dP : ∀ i, i < N → G N (paths N N xs) i i = 0 := fun i hi => zcp h hb hd (Nat.le_refl _) hi
   rw [hm] at hc hside ns2 ns3 le
   have gE := zk6 hN l1
   generalize paths N N xs = P at *
   clear hm hneg ns lm lp hd
   have l3 := le.len.trans l1
   have b3 := le.all bP
   have f := zcz hN l3 b3
   have sideE : ∀ i, i < N → 0 ≤ plus (G N (zaU N N P) i (nx i)) (G N (zaU N N P) (nx i) i) := fun i hi => by
    have key : ∀ t, zaT N (zaU N N P) t = false → ∀ i, i < t → 0 ≤ plus (G N (zaU N N P) i (nx i)) (G N (zaU N N P) (nx i) i) := by
     intro t
     induction t with
     | zero => intro _ i hi; omega
     | succ t ih =>
      intro ht i hi
      unfold zaT at ht
      rw [Bool.or_eq_false_iff] at ht
      by_cases e : i = t
      ·subst e; exact Int.not_lt.1 (of_decide_eq_false ht.1)
      ·exact ih ht.2 i (by omega)
    exact key N (by simpa using hside) i hi
   have bE : ∀ i j, zag (G N (zaU N N P) i j) = true := fun i j => b3 _
   have bp : ∀ i j, zag (G N P i j) = true := fun i j => bP _
   have uE : ∀ i, i < N → (G N P i (nx i) = 9223372036854775807 ∧ G N (zaU N N P) i (nx i) = 9223372036854775807) ∨ (G N P i (nx i) ≠ 9223372036854775807 ∧ G N (zaU N N P) i (nx i) = 2 * (G N P i (nx i) / 2) ∧ G N (zaU N N P) i (nx i) ≠ 9223372036854775807) := fun i hi => by
    rw [gE i (nx i) hi (nxl hN hi), if_pos rfl]
    exact zet (bp _ _)
   have xE : ∀ i j, i < N → j < N → j ≠ nx i → G N (zaU N N P) i j = G N P i j := fun i j hi hj hne => by rw [gE i j hi hj, if_neg hne]
   have lE : ∀ i j, i < N → j < N → G N (zaU N N P) i j ≤ G N P i j := fun i j hi hj => le.le bP (i * N + j)
   have nE : ∀ i, i < N → G N (zaU N N P) (nx i) i = G N (zaU N N P) (nx i) (nx (nx i)) := fun i _ => by rw [zbv]
   have hS : ∀ i j, i < N → j < N → i ≠ j → (G N P i (nx i) = 9223372036854775807 ∧ half (plus (G N (zaU N N P) i (nx i)) (G N (zaU N N P) (nx j) j)) = 9223372036854775807) ∨ (G N P (nx j) j = 9223372036854775807 ∧ half (plus (G N (zaU N N P) i (nx i)) (G N (zaU N N P) (nx j) j)) = 9223372036854775807) ∨
     (G N P i (nx i) ≠ 9223372036854775807 ∧ G N P (nx j) j ≠ 9223372036854775807 ∧ half (plus (G N (zaU N N P) i (nx i)) (G N (zaU N N P) (nx j) j)) = G N P i (nx i) / 2 + G N P (nx j) j / 2) := fun i j hi hj hij => by
    have u1 := uE i hi
    have u2 := uE (nx j) (nxl hN hj)
    rw [zbv] at u2
    have := zmK (bE i (nx i)) (bE (nx j) j) (ns2 i j hi hj hij) (G N P i (nx i) / 2) (G N P (nx j) j / 2) (fun hne => by omega) (fun hne => by omega)
    omega
   have yle : ∀ i j, i < N → j < N → i ≠ j → G N ys i j ≤ G N P i j ∧ (G N P i (nx i) ≠ 9223372036854775807 → G N P (nx j) j ≠ 9223372036854775807 → G N ys i j ≤ G N P i (nx i) / 2 + G N P (nx j) j / 2) := fun i j hi hj hij => by
    have e := f i j hi hj
    rw [hc] at e
    unfold zbZ at e
    rw [if_neg hij] at e
    have h1 := lE i j hi hj
    have h2 := hS i j hi hj hij
    refine ⟨by omega, fun q1 q2 => by omega⟩
   have ycase : ∀ i j, i < N → j < N → i ≠ j → G N ys i j = 9223372036854775807 ∨ (G N ys i j = G N P i j ∧ G N P i j ≠ 9223372036854775807) ∨ (G N P i (nx i) ≠ 9223372036854775807 ∧ G N P (nx j) j ≠ 9223372036854775807 ∧ G N ys i j = G N P i (nx i) / 2 + G N P (nx j) j / 2) := fun i j hi hj hij => by
    have e := f i j hi hj
    rw [hc] at e
    have h2 := hS i j hi hj hij
    by_cases ej : j = nx i
    ·subst ej
     rw [zcI b3] at e
     have u := uE i hi
     rw [zbv]
     omega
    ·have h1 := xE i j hi hj ej
     unfold zbZ at e
     rw [if_neg hij, h1] at e
     omega
   have U1 : ∀ i k, i < N → k < N → G N P i k ≠ 9223372036854775807 → G N P k (nx k) ≠ 9223372036854775807 → G N P i (nx i) ≠ 9223372036854775807 ∧ G N P i (nx i) / 2 ≤ G N P i k + G N P k (nx k) / 2 := fun i k hi hk q1 q2 => by
    have s1 : G N P i k = G N P (nx k) (nx i) := sP i k hi hk
    have t1 := zoX (TP k (nx i) (nx k) hk (nxl hN hi) (nxl hN hk)) q2 (by rw [← s1]; exact q1)
    have t2 := zoX (TP i (nx i) k hi (nxl hN hi) hk) q1 t1.2
    omega
   have U2 : ∀ k j, k < N → j < N → G N P k j ≠ 9223372036854775807 → G N P (nx k) k ≠ 9223372036854775807 → G N P (nx j) j ≠ 9223372036854775807 ∧ G N P (nx j) j / 2 ≤ G N P k j + G N P (nx k) k / 2 := fun k j hk hj q1 q2 => by
    have s1 : G N P k j = G N P (nx j) (nx k) := sP k j hk hj
    have := U1 (nx j) (nx k) (nxl hN hj) (nxl hN hk) (by rw [← s1]; exact q1) (by rw [zbv]; exact q2)
    rw [zbv, zbv, ← s1] at this
    exact this
   have U3 : ∀ k, k < N → G N P k (nx k) ≠ 9223372036854775807 → G N P (nx k) k ≠ 9223372036854775807 → 0 ≤ G N P k (nx k) / 2 + G N P (nx k) k / 2 := fun k hk q1 q2 => by
    have u1 := uE k hk
    have u2 := uE (nx k) (nxl hN hk)
    rw [zbv] at u2
    have s := sideE k hk
    have c := zbl (bE k (nx k)) (bE (nx k) k) (ns3 k hk)
    omega
   have bY : ∀ i j, i < N → j < N → zag (G N ys i j) = true := fun i j hi hj => a0.b hi hj
   refine ⟨a0, fun i j k hi hj hk => ?_, fun i hi => ?_, fun i j hi hj hij => ?_⟩
   ·by_cases eik : i = k
    ·subst eik
     rw [a0.d hi]
     unfold LeS; omega
    ·by_cases ekj : k = j
     ·subst ekj
      rw [a0.d hk]
      unfold LeS; omega
     ·have k1 := hk
      have c1 := ycase i k hi hk eik
      have c2 := ycase k j hk hj ekj
      have hT := TP i j k hi hj hk
      by_cases eij : i = j
      ·subst eij
       rw [a0.d hi]
       have d0 := dP i hi
       rw [d0] at hT
       unfold LeS at *
       rcases c1 with c1 | c1 | c1
       ·exact .inl c1
       ·rcases c2 with c2 | c2 | c2
        ·exact .inr (.inl c2)
        ·omega
        ·have := U1 i k hi hk c1.2 c2.1
         have := U3 i hi this.1 c2.2.1
         omega
       ·rcases c2 with c2 | c2 | c2
        ·exact .inr (.inl c2)
        ·have := U2 k i hk hi c2.2 c1.2.1
         have := U3 i hi c1.1 this.1
         omega
        ·have := U3 i hi c1.1 c2.2.1
         have := U3 k hk c2.1 c1.2.1
         omega
      ·have yl := yle i j hi hj eij
       have yb := bnd (bY i j hi hj)
       have pb := bnd (bp i j)
       have p1 := bnd (bp i (nx i))
       have p2 := bnd (bp (nx j) j)
       unfold LeS at *
       rcases c1 with c1 | c1 | c1
       ·exact .inl c1
       ·rcases c2 with c2 | c2 | c2
        ·exact .inr (.inl c2)
        ·omega
        ·have q := U1 i k hi hk c1.2 c2.1
         have := yl.2 q.1 c2.2.1
         omega
       ·rcases c2 with c2 | c2 | c2
        ·exact .inr (.inl c2)
        ·have q := U2 k j hk hj c2.2 c1.2.1
         have := yl.2 c1.1 q.1
         omega
        ·have := U3 k hk c2.1 c1.2.1
         have := yl.2 c1.1 c2.2.1
         omega
   ·have e := f i (nx i) hi (nxl hN hi)
    rw [hc, zcI b3] at e
    rw [e]
    have u := uE i hi
    have b := bnd (bE i (nx i))
    rcases zet (bE i (nx i)) with v | v
    ·rw [v.2, v.1]
    ·rw [v.2.1]; omega
   ·have e := f i j hi hj
    have e1 := f i (nx i) hi (nxl hN hi)
    have e2 := f (nx j) j (nxl hN hj) hj
    rw [hc, zcI b3] at e1
    have e3 := zcI b3 (N := N) (nx j)
    rw [zbv] at e3
    rw [hc, e3] at e2
    rw [hc] at e
    unfold zbZ at e
    rw [if_neg hij] at e
    rw [e1, e2]
    omega
end Go.Proofs.YtnmpgijiimglcaaGreat
