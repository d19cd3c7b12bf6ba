/-
  What trans and the document's transfer tell, in plain words.
  What trans makes of octagons that may be may be. Plain.
  A row of slices, each of which has a row of its own (a slice of slices that grow by append): generic in the element.
  Graphs as data; when a graph is one (P9.2), in plain words; how its edges lie in memory.
-/
import Derived.Test.YtnmpgijiimglcaaGreatBUA08
import Derived.Test.YtnmpgijiimglcaaGreatRTop
import Derived.Test.YtnmpgijiimglcaaGreatBUA01
import Derived.Deep.OwnRows
namespace Go.Proofs.YtnmpgijiimglcaaGreat
section
open Go.RowKit

def emptyO (n : Int) : O := ⟨n, true, []⟩
/-- An octagon with a cell bounded. -/
def withO (o : O) (i j : Nat) (c : Int) : O := if o.e then emptyO o.n else if i = j then (if c < 0 then emptyO o.n else o) else ⟨o.n, false, boundM (2 * o.n).toNat i j c o.m⟩
def twiceB (n : Int) : Int := if 2305843009213693952 < n then 9223372036854775807 else if n < -2305843009213693952 then -4611686018427387904 else 2 * n
def negB (n : Int) : Int := if n = -9223372036854775808 then 9223372036854775807 else -n
def hiO (o : O) (v : Nat) (r : Rg) : O := if r.hh then withO o (2 * v) (2 * v + 1) (twiceB r.hi) else o
def rangedO (o : O) (v : Nat) (r : Rg) : O := if r.hl then withO (hiO o v r) (2 * v + 1) (2 * v) (twiceB (negB r.lo)) else hiO o v r
def goneB (N v p : Nat) : Bool := decide (p / N ≠ p % N) && (decide (p / N / 2 = v) || decide (p % N / 2 = v))
def forgetM (N v : Nat) (m : List Int) : List Int := (List.range m.length).map fun p => if goneB N v p then 9223372036854775807 else gI m (p : Int)
def forgetO (o : O) (v : Nat) : O := if (closeO o).e then closeO o else ⟨o.n, false, forgetM (2 * o.n).toNat v (closeO o).m⟩
def giveO (o : O) (v : Nat) (r : Rg) : O := closeO (rangedO (forgetO o v) v r)
def lessD (s : Bool) : Int := if s then -1 else 0
/-- a at most b, or below it. -/
def atMostO (c : O) (av an bv bn : Int) (s : Bool) : O :=
  if 0 ≤ av then
    if 0 ≤ bv then (if av = bv then (if s then emptyO c.n else c) else withO c (2 * av.toNat) (2 * bv.toNat) (lessD s))
    else if s && decide (bn = -9223372036854775808) then emptyO c.n else rangedO c av.toNat ⟨0, bn + lessD s, false, true⟩
  else if s && decide (an = 9223372036854775807) then emptyO c.n else rangedO c bv.toNat ⟨an - lessD s, 0, true, false⟩
def unlikeVarsO (c : O) (av an bv bn : Int) : O :=
  if av = bv then emptyO c.n
  else
    let o1 := if G (2 * c.n).toNat c.m (2 * av.toNat) (2 * bv.toNat) = 0 then atMostO c av an bv bn true else c
    if G (2 * c.n).toNat c.m (2 * bv.toNat) (2 * av.toNat) = 0 then atMostO o1 bv bn av an true else o1
def unlikeNumO (c : O) (av an bv bn : Int) : O :=
  let r := varR (2 * c.n).toNat c.m av.toNat
  let o1 := if r.hh && decide (r.hi = bn) then atMostO c av an bv bn true else c
  if r.hl && decide (r.lo = bn) then atMostO o1 bv bn av an true else o1
def unlikeO (c : O) (av an bv bn : Int) : O :=
  if av < 0 then (if 0 ≤ av then unlikeVarsO c bv bn av an else unlikeNumO c bv bn av an)
  else if 0 ≤ bv then unlikeVarsO c av an bv bn else unlikeNumO c av an bv bn
/-- What is known of a closed octagon that isn't empty where a comparison holds. -/
def assumesO (c : O) (op av an bv bn : Int) : O :=
  if av < 0 ∧ bv < 0 then (if cmpB op an bn then c else emptyO c.n)
  else if op = 3 then closeO (atMostO (atMostO c av an bv bn false) bv bn av an false)
  else if op = 4 then closeO (unlikeO c av an bv bn)
  else if op = 5 then closeO (atMostO c bv bn av an true)
  else if op = 1 then closeO (atMostO c av an bv bn true)
  else if op = 6 then closeO (atMostO c bv bn av an false)
  else closeO (atMostO c av an bv bn false)
def linkO (c : O) (i j : Nat) (k : Int) : O := closeO (withO (withO (forgetO c (i / 2)) i j k) j i (-k))
def byK (dst : Nat) (k : Int) (i : Nat) : Int := if i / 2 = dst then (if i % 2 = 0 then k else -k) else 0
def shiftM (N dst : Nat) (k : Int) (m : List Int) : List Int :=
  (List.range m.length).map fun p => if p / N ≠ p % N ∧ gI m (p : Int) ≠ 9223372036854775807 then plus (gI m (p : Int)) (byK dst k (p / N) - byK dst k (p % N)) else gI m (p : Int)
def shiftO (c : O) (dst y : Nat) (k : Int) : O :=
  if 2305843009213693952 < k ∨ k < -2305843009213693952 then forgetO c dst
  else if y ≠ dst then linkO c (2 * dst) (2 * y) k
  else closeO ⟨c.n, false, shiftM (2 * c.n).toNat dst k c.m⟩
def otherV (v i : Nat) : Nat := if i / 2 = v then nx i else i
def turnM (N v : Nat) (m : List Int) : List Int := (List.range m.length).map fun p => G N m (otherV v (p / N)) (otherV v (p % N))
def turnsO (c : O) (v : Nat) : O := closeO ⟨c.n, false, turnM (2 * c.n).toNat v c.m⟩
def pairO (o : O) (i j : Nat) (r : Rg) : O :=
  let o1 := if r.hh then withO o i j r.hi else o
  if r.hl then withO o1 j i (negB r.lo) else o1
def turnedR (r : Rg) : Rg := ⟨negB r.hi, negB r.lo, r.hh, r.hl⟩
def sumsO (c : O) (dst u w : Nat) (diff : Bool) : O :=
  let N := (2 * c.n).toNat
  let p := varR N c.m u
  let q := if diff then turnedR (varR N c.m w) else varR N c.m w
  let r := if diff then diffR N c.m u w else sumR N c.m u w
  let side := if diff then 2 * w + 1 else 2 * w
  let d := rangedO (forgetO c dst) dst r
  let d1 := if u ≠ w ∧ w ≠ dst then pairO d (2 * dst) side p else d
  let d2 := if u ≠ w ∧ u ≠ dst then pairO d1 (2 * dst) (2 * u) q else d1
  closeO d2
/-- Of two numbers what a kind of edge makes. -/
def kindW (kd a b : Int) : Int × Int := if kd = 3 then negW a else if kd = 4 then addW a b else if kd = 5 then subW a b else if kd = 6 then mulW a b else if kd = 7 then divW a b else remW a b
def numberO (c : O) (kd : Int) (dst : Nat) (a b : Int) : O := if (kindW kd a b).2 = 0 then giveO c dst (oneR (kindW kd a b).1) else emptyO c.n
def restR (k : Int) (r : Rg) : Rg :=
  ⟨if r.hh then (subW k r.hi).1 else 0, if r.hl then (subW k r.lo).1 else 0, r.hh && decide ((subW k r.hi).2 = 0), r.hl && decide ((subW k r.lo).2 = 0)⟩
def addsO (c : O) (diff : Bool) (dst : Nat) (av an bv bn : Int) : O :=
  if 0 ≤ av then
    if 0 ≤ bv then sumsO c dst av.toNat bv.toNat diff
    else if diff then (if (negW bn).2 = 0 then shiftO c dst av.toNat (-bn) else giveO c dst rg0)
    else shiftO c dst av.toNat bn
  else if diff then giveO c dst (restR an (varR (2 * c.n).toNat c.m bv.toNat))
  else shiftO c dst bv.toNat an
def kindR (kd : Int) (a b : Rg) : Rg := if kd = 6 then mulR a b else if kd = 7 then divR a b else remR a b
def productsO (c : O) (kd : Int) (dst : Nat) (av an bv bn : Int) : O := giveO c dst (kindR kd (opdR (2 * c.n).toNat c.m av an) (opdR (2 * c.n).toNat c.m bv bn))
end
section
open Go.RowKit

theorem boundV_min (N i j : Nat) (v : Int) (m : List Int) : boundV N i j v m = min (G N m i j) (near v) := by
  unfold boundV G; split <;> omega
theorem boundM_G {N : Nat} (hN : N % 2 = 0) {m : List Int} (hl : m.length = N * N) {i j : Nat} (hi : i < N) (hj : j < N) (v : Int) {a b : Nat} (_ha : a < N) (hb : b < N) :
    G N (boundM N i j v m) a b = if (a = i ∧ b = j) ∨ (a = nx j ∧ b = nx i) then min (G N m i j) (near v) else G N m a b := by
  unfold boundM
  rw [G_set (by rw [List.length_set]; exact hl) (nxl hN hj) (nxl hN hi) _ hb, G_set hl hi hj _ hb, boundV_min]
  by_cases h1 : a = nx j ∧ b = nx i
  · rw [if_pos h1, if_pos (.inr h1)]
  · rw [if_neg h1]
    by_cases h2 : a = i ∧ b = j
    · rw [if_pos h2, if_pos (.inl h2)]
    · rw [if_neg h2, if_neg (fun h => h.elim h2 h1)]
theorem boundM_cells {N : Nat} (hN : N % 2 = 0) {m : List Int} (h : Cells N m) {i j : Nat} (hi : i < N) (hj : j < N) (hij : i ≠ j) (v : Int) : Cells N (boundM N i j v m) := by
  have g := fun (a b : Nat) (ha : a < N) (hb : b < N) => boundM_G hN h.len hi hj v (a := a) (b := b) ha hb
  refine ⟨by rw [boundM_len]; exact h.len, fun a b ha hb => ?_, fun a ha => ?_, fun a b ha hb => ?_⟩
  · show isBound (G N _ a b) = true
    rw [g a b ha hb]
    split
    · exact isBound_min (h.bd i j hi hj) (isBound_near _)
    · exact h.bd a b ha hb
  · show G N _ a a = 0
    rw [g a a ha ha, if_neg]
    · exact h.diag a ha
    · rintro (⟨h1, h2⟩ | ⟨h1, h2⟩)
      · exact hij (h1.symm.trans h2)
      · exact hij (nx_inj (h2.symm.trans h1))
  · show G N _ a b = G N _ (nx b) (nx a)
    rw [g a b ha hb, g (nx b) (nx a) (nxl hN hb) (nxl hN ha)]
    have e : ((a = i ∧ b = j) ∨ (a = nx j ∧ b = nx i)) ↔ ((nx b = i ∧ nx a = j) ∨ (nx b = nx j ∧ nx a = nx i)) := by
      constructor
      · rintro (⟨rfl, rfl⟩ | ⟨rfl, rfl⟩)
        · exact .inr ⟨rfl, rfl⟩
        · exact .inl ⟨nx_nx _, nx_nx _⟩
      · rintro (⟨rfl, rfl⟩ | ⟨h1, h2⟩)
        · exact .inr ⟨(nx_nx _).symm, (nx_nx _).symm⟩
        · exact .inl ⟨nx_inj h2, nx_inj h1⟩
    by_cases c : (a = i ∧ b = j) ∨ (a = nx j ∧ b = nx i)
    · rw [if_pos c, if_pos (e.1 c)]
    · rw [if_neg c, if_neg (fun q => c (e.2 q))]
      exact h.mir a b ha hb

/-- A matrix cell by cell. -/
theorem G_range {N L : Nat} (hL : L = N * N) (f : Nat → Int) {a b : Nat} (ha : a < N) (hb : b < N) : G N ((List.range L).map f) a b = f (a * N + b) := by
  have hlt : a * N + b < L := by rw [hL]; exact lt_sq ha hb
  unfold G gI
  rw [Int.toNat_natCast]
  simp [List.getD, hlt]
theorem at_div {N a b : Nat} (hb : b < N) : (a * N + b) / N = a := by
  rw [Nat.add_comm, Nat.add_mul_div_right _ _ (by omega), Nat.div_eq_of_lt hb, Nat.zero_add]
theorem at_mod {N a b : Nat} (hb : b < N) : (a * N + b) % N = b := by
  rw [Nat.add_comm, Nat.add_mul_mod_self_right, Nat.mod_eq_of_lt hb]
theorem nx_half (a : Nat) : nx a / 2 = a / 2 := by unfold nx; split <;> omega
theorem forgetM_G {N v : Nat} {m : List Int} (hl : m.length = N * N) {a b : Nat} (ha : a < N) (hb : b < N) : G N (forgetM N v m) a b = if a ≠ b ∧ (a / 2 = v ∨ b / 2 = v) then 9223372036854775807 else G N m a b := by
  unfold forgetM
  rw [G_range hl _ ha hb]
  unfold goneB
  rw [at_div hb, at_mod hb]
  by_cases h : a ≠ b ∧ (a / 2 = v ∨ b / 2 = v)
  · rw [if_pos h, if_pos (by simpa using h)]
  · rw [if_neg h, if_neg (by simpa using h)]; rfl
theorem forgetM_len (N v : Nat) (m : List Int) : (forgetM N v m).length = m.length := by simp [forgetM]
theorem forgetM_cells {N v : Nat} (hN : N % 2 = 0) {m : List Int} (h : Cells N m) : Cells N (forgetM N v m) := by
  have g := fun (a b : Nat) (ha : a < N) (hb : b < N) => forgetM_G (v := v) h.len (a := a) (b := b) ha hb
  refine ⟨by rw [forgetM_len]; exact h.len, fun a b ha hb => ?_, fun a ha => ?_, fun a b ha hb => ?_⟩
  · show isBound (G N _ a b) = true
    rw [g a b ha hb]
    split
    · decide
    · exact h.bd a b ha hb
  · show G N _ a a = 0
    rw [g a a ha ha, if_neg (fun q => q.1 rfl)]
    exact h.diag a ha
  · show G N _ a b = G N _ (nx b) (nx a)
    rw [g a b ha hb, g (nx b) (nx a) (nxl hN hb) (nxl hN ha), nx_half, nx_half]
    by_cases c : a ≠ b ∧ (a / 2 = v ∨ b / 2 = v)
    · rw [if_pos c, if_pos ⟨fun e => c.1 (nx_inj e).symm, c.2.symm⟩]
    · rw [if_neg c, if_neg (fun q => c ⟨fun e => q.1 (by rw [e]), q.2.symm⟩)]
      exact h.mir a b ha hb
theorem byK_nx (dst : Nat) (k : Int) (i : Nat) : byK dst k (nx i) = -byK dst k i := by
  unfold byK
  rw [nx_half]
  by_cases h : i / 2 = dst
  · rw [if_pos h, if_pos h]
    unfold nx
    by_cases e : i % 2 = 0
    · rw [if_pos e, if_pos e, if_neg (by omega)]
    · rw [if_neg e, if_neg e, if_pos (by omega), Int.neg_neg]
  · rw [if_neg h, if_neg h]; rfl
theorem shiftM_G {N dst : Nat} {k : Int} {m : List Int} (hl : m.length = N * N) {a b : Nat} (ha : a < N) (hb : b < N) :
    G N (shiftM N dst k m) a b = if a ≠ b ∧ G N m a b ≠ 9223372036854775807 then plus (G N m a b) (byK dst k a - byK dst k b) else G N m a b := by
  unfold shiftM
  rw [G_range hl _ ha hb, at_div hb, at_mod hb]
  rfl
theorem shiftM_len (N dst : Nat) (k : Int) (m : List Int) : (shiftM N dst k m).length = m.length := by simp [shiftM]
theorem shiftM_cells {N dst : Nat} {k : Int} (hN : N % 2 = 0) {m : List Int} (h : Cells N m) : Cells N (shiftM N dst k m) := by
  have g := fun (a b : Nat) (ha : a < N) (hb : b < N) => shiftM_G (dst := dst) (k := k) h.len (a := a) (b := b) ha hb
  refine ⟨by rw [shiftM_len]; exact h.len, fun a b ha hb => ?_, fun a ha => ?_, fun a b ha hb => ?_⟩
  · show isBound (G N _ a b) = true
    rw [g a b ha hb]
    split
    · exact isBound_plus _ _
    · exact h.bd a b ha hb
  · show G N _ a a = 0
    rw [g a a ha ha, if_neg (fun q => q.1 rfl)]
    exact h.diag a ha
  · show G N _ a b = G N _ (nx b) (nx a)
    have e : G N m (nx b) (nx a) = G N m a b := (h.mir a b ha hb).symm
    rw [g a b ha hb, g (nx b) (nx a) (nxl hN hb) (nxl hN ha), byK_nx, byK_nx, e]
    by_cases c : a ≠ b ∧ G N m a b ≠ 9223372036854775807
    · rw [if_pos c, if_pos ⟨fun q => c.1 (nx_inj q).symm, c.2⟩, show -byK dst k b - -byK dst k a = byK dst k a - byK dst k b by omega]
    · rw [if_neg c, if_neg (fun q => c ⟨fun e => q.1 (by rw [e]), q.2⟩)]
theorem otherV_lt {N v i : Nat} (hN : N % 2 = 0) (hi : i < N) : otherV v i < N := by unfold otherV; split; exact nxl hN hi; exact hi
theorem otherV_nx (v i : Nat) : otherV v (nx i) = nx (otherV v i) := by
  unfold otherV
  rw [nx_half]
  split <;> rfl
theorem turnM_G {N v : Nat} {m : List Int} (hl : m.length = N * N) {a b : Nat} (ha : a < N) (hb : b < N) : G N (turnM N v m) a b = G N m (otherV v a) (otherV v b) := by
  unfold turnM
  rw [G_range hl _ ha hb, at_div hb, at_mod hb]
theorem turnM_len (N v : Nat) (m : List Int) : (turnM N v m).length = m.length := by simp [turnM]
theorem turnM_cells {N v : Nat} (hN : N % 2 = 0) {m : List Int} (h : Cells N m) : Cells N (turnM N v m) := by
  have g := fun (a b : Nat) (ha : a < N) (hb : b < N) => turnM_G (v := v) h.len (a := a) (b := b) ha hb
  refine ⟨by rw [turnM_len]; exact h.len, fun a b ha hb => ?_, fun a ha => ?_, fun a b ha hb => ?_⟩
  · show isBound (G N _ a b) = true
    rw [g a b ha hb]
    exact h.bd _ _ (otherV_lt hN ha) (otherV_lt hN hb)
  · show G N _ a a = 0
    rw [g a a ha ha]
    exact h.diag _ (otherV_lt hN ha)
  · show G N _ a b = G N _ (nx b) (nx a)
    rw [g a b ha hb, g (nx b) (nx a) (nxl hN hb) (nxl hN ha), otherV_nx, otherV_nx]
    exact h.mir _ _ (otherV_lt hN ha) (otherV_lt hN hb)

/-- An octagon of n variables that may be. -/
structure OkO (n : Int) (o : O) : Prop where
  n_ : o.n = n
  ok : check o = 0
theorem emptyO_ok {n : Int} (h0 : 0 ≤ n) (h1 : n ≤ 64) : OkO n (emptyO n) := ⟨rfl, check_e0 ⟨h0, h1⟩⟩
section
variable {n : Int} {o : O}
theorem OkO.rng (h : OkO n o) : 0 ≤ n ∧ n ≤ 64 := by
  obtain ⟨h0, h1, _, _⟩ := check_ok h.ok
  rw [h.n_] at h0 h1
  exact ⟨h0, h1⟩
theorem OkO.empty (h : OkO n o) : OkO n (emptyO n) := emptyO_ok h.rng.1 h.rng.2
theorem OkO.form (h : OkO n o) : o = emptyO n ∨ ∃ (N : Nat) (m : List Int), (N : Int) = 2 * n ∧ N ≤ 128 ∧ o = ⟨n, false, m⟩ ∧ Cells N m := by
  obtain ⟨h0, h1, he, _⟩ := check_ok h.ok
  have hn := h.n_
  have hc := h.ok
  obtain ⟨n', e, m⟩ := o
  dsimp only at *
  subst hn
  cases e with
  | true =>
    have := he rfl
    subst this
    exact .inl rfl
  | false =>
    refine .inr ⟨(2 * n').toNat, m, by omega, by omega, rfl, cells_of (by omega) hc⟩
theorem OkO.of_cells {N : Nat} {m : List Int} (hN : (N : Int) = 2 * n) (hn : N ≤ 128) (h : Cells N m) : OkO n ⟨n, false, m⟩ := ⟨rfl, check_of hN hn h⟩
theorem OkO.close (h : OkO n o) : OkO n (closeO o) := ⟨(closeO_n o).trans h.n_, closeO_check h.ok⟩
theorem OkO.with_ (h : OkO n o) {i j : Nat} (hi : (i : Int) < 2 * n) (hj : (j : Int) < 2 * n) (c : Int) : OkO n (withO o i j c) := by
  rcases h.form with rfl | ⟨N, m, hN, hn, rfl, hc⟩
  · exact h
  · unfold withO
    rw [if_neg (by simp)]
    split
    · split
      · exact h.empty
      · exact h
    · rename_i hij
      dsimp only
      rw [show (2 * n).toNat = N by omega]
      exact OkO.of_cells hN hn (boundM_cells (by omega) hc (by omega) (by omega) hij c)
theorem OkO.hi_ (h : OkO n o) {v : Nat} (hv : (v : Int) < n) (r : Rg) : OkO n (hiO o v r) := by
  unfold hiO
  split
  · exact h.with_ (by omega) (by omega) _
  · exact h
theorem OkO.ranged (h : OkO n o) {v : Nat} (hv : (v : Int) < n) (r : Rg) : OkO n (rangedO o v r) := by
  unfold rangedO
  split
  · exact (h.hi_ hv r).with_ (by omega) (by omega) _
  · exact h.hi_ hv r
theorem OkO.forget (h : OkO n o) (v : Nat) : OkO n (forgetO o v) := by
  have hc := h.close
  unfold forgetO
  split
  · exact hc
  · rename_i he
    rcases hc.form with e | ⟨N, m, hN, hn, e, hcs⟩
    · rw [e] at he; exact absurd rfl he
    · rw [e, h.n_]
      dsimp only
      rw [show (2 * n).toNat = N by omega]
      exact OkO.of_cells hN hn (forgetM_cells (by omega) hcs)
theorem OkO.give (h : OkO n o) {v : Nat} (hv : (v : Int) < n) (r : Rg) : OkO n (giveO o v r) := ((h.forget v).ranged hv r).close
theorem OkO.atMost (h : OkO n o) {av an bv bn : Int} {s : Bool} (ha : av < n) (hb : bv < n) (hab : 0 ≤ av ∨ 0 ≤ bv) : OkO n (atMostO o av an bv bn s) := by
  have h0 := h.empty
  unfold atMostO
  rw [h.n_]
  split
  · split
    · split
      · split
        · exact h0
        · exact h
      · exact h.with_ (by omega) (by omega) _
    · split
      · exact h0
      · exact h.ranged (by omega) _
  · split
    · exact h0
    · exact h.ranged (by omega) _
theorem OkO.pair (h : OkO n o) {i j : Nat} (hi : (i : Int) < 2 * n) (hj : (j : Int) < 2 * n) (r : Rg) : OkO n (pairO o i j r) := by
  unfold pairO
  dsimp only
  split
  · split
    · exact (h.with_ hi hj _).with_ hj hi _
    · exact h.with_ hj hi _
  · split
    · exact h.with_ hi hj _
    · exact h
end
end
section
open Go.RowKit

/-- Block F holds n slices 'f p'; slice p has the elements 'ls p', in a row of its own; no two share one. -/
structure LL {α : Type} (enc : α → List Value) (w : World) (base F n : Nat) (T e : TypeId) (size : Nat) (f : Nat → Value) (ls : Nat → List α) : Prop where
  row : w.rowIs F T n f
  ge : base ≤ F
  own : ∀ p, p < n → w.ownsRow base e size (f p) (ls p).length ((ls p).flatMap enc)
  apart : ∀ p q k, p < n → q < n → p ≠ q → (f p).ownBlock = some k → (f q).ownBlock ≠ some k
  ne : ∀ p, p < n → (f p).ownBlock ≠ some F

section
variable {α : Type} {enc : α → List Value} {w w' w1 : World} {base F n : Nat} {T e : TypeId} {size : Nat} {f : Nat → Value} {ls : Nat → List α}
theorem LL.below (h : LL enc w base F n T e size f ls) (hb : Below w.heap.size w w') : LL enc w' base F n T e size f ls :=
  ⟨h.row.of_block (hb.block _ h.row.lt), h.ge, fun p hp => World.ownsRow.kept (h.own p hp) (grown_of_below hb none) (by cases h' : (f p).ownBlock <;> simp), h.apart, h.ne⟩
theorem LL.setFar (h : LL enc w base F n T e size f ls) {p : Addr} (hp : p.block < base) (u : Value) : LL enc (w.setCell p u) base F n T e size f ls :=
  ⟨h.row.of_block (heap_setCell_other w p F u (by have := h.ge; omega)), h.ge, fun q hq => World.ownsRow.kept (h.own q hq) (grown_setCell w p u) (by
    cases h' : (f q).ownBlock
    · exact .inl rfl
    · rename_i k
      have := ((h.own q hq).lt k h').1
      exact .inr (fun e => by simp at e; omega)), h.apart, h.ne⟩
/-- One append onto slice x, stored back. -/
theorem LL.put (h : LL enc w base F n T e size f ls) {x : Nat} (hx : x < n) {v : Value} {y : α} (hg : w.grownBy w1 (f x).ownBlock)
    (ho : w1.ownsRow base e size v ((ls x).length + 1) ((ls x).flatMap enc ++ enc y)) (hv : v.ownBlock = (f x).ownBlock ∨ v.ownBlock = some w.heap.size) :
    LL enc (w1.setCell ⟨F, x, none⟩ v) base F n T e size (fun j => if j = x then v else f j) (fun j => if j = x then ls x ++ [y] else ls j) := by
  have hFw := h.row.lt
  have hF1 : w1.heap[F]? = w.heap[F]? := hg.block F hFw (fun e => h.ne x hx e.symm)
  have hvF : v.ownBlock ≠ some F := by
    rcases hv with e | e <;> rw [e]
    · exact h.ne x hx
    · intro e; simp at e; omega
  have hlt : ∀ p, p < n → ∀ k, (f p).ownBlock = some k → k < w.heap.size := fun p hp k hk => ((h.own p hp).lt k hk).2
  refine ⟨(h.row.of_block hF1).set x v, h.ge, fun p hp => ?_, fun p q k hp hq hpq => ?_, fun p hp => ?_⟩
  · by_cases e : p = x
    · subst e
      simp only [if_pos]
      have : (ls p ++ [y]).length = (ls p).length + 1 := by simp
      rw [this, List.flatMap_append]
      have : [y].flatMap enc = enc y := by simp
      rw [this]
      exact World.ownsRow.kept ho (grown_setCell w1 ⟨F, p, none⟩ v) (.inr hvF)
    · simp only [if_neg e]
      refine World.ownsRow.kept (World.ownsRow.kept (h.own p hp) hg ?_) (grown_setCell w1 ⟨F, x, none⟩ v) (.inr (h.ne p hp))
      cases hk : (f p).ownBlock
      · exact .inl rfl
      · rename_i k
        exact .inr (fun e' => h.apart p x k hp hx e hk e'.symm)
  · by_cases e : p = x
    · subst e
      simp only [if_pos, if_neg (Ne.symm hpq)]
      intro hk hk'
      rcases hv with e | e
      · exact h.apart p q k hp hq hpq (e ▸ hk) hk'
      · rw [e] at hk; simp at hk; have := hlt q hq k hk'; omega
    · by_cases e' : q = x
      · subst e'
        simp only [if_pos, if_neg e]
        intro hk hk'
        rcases hv with e2 | e2
        · exact h.apart p q k hp hq hpq hk (e2 ▸ hk')
        · rw [e2] at hk'; simp at hk'; have := hlt p hp k hk; omega
      · simp only [if_neg e, if_neg e']
        exact h.apart p q k hp hq hpq
  · by_cases e : p = x
    · subst e; simp only [if_pos]; exact hvF
    · simp only [if_neg e]; exact h.ne p hp
theorem LL.congr {ls' : Nat → List α} (h : LL enc w base F n T e size f ls) (hl : ∀ p, p < n → ls p = ls' p) : LL enc w base F n T e size f ls' :=
  ⟨h.row, h.ge, fun p hp => hl p hp ▸ h.own p hp, h.apart, h.ne⟩
theorem LL.less {b2 : Nat} (h : LL enc w base F n T e size f ls) (hb : b2 ≤ base) : LL enc w b2 F n T e size f ls :=
  ⟨h.row, by have := h.ge; omega, fun p hp => by
    refine ⟨(h.own p hp).1, ?_⟩
    rcases (h.own p hp).2 with h1 | ⟨g, cap', cur, h1, h2, h3⟩
    · exact .inl h1
    · exact .inr ⟨g, cap', cur, h1, by omega, h3⟩, h.apart, h.ne⟩
/-- Slice p as it stands: nil, or a row of its own. -/
theorem LL.slice (h : LL enc w base F n T e size f ls) {p : Nat} (hp : p < n) : (f p = .slice none 0 0 ∧ ls p = []) ∨ ∃ g cap, f p = .slice (some ⟨g, 0, none⟩) (ls p).length cap ∧ base ≤ g ∧ g < w.heap.size ∧ g ≠ F ∧ (ls p).length ≤ cap ∧ cap ≤ maxLen := by
  rcases (h.own p hp).2 with ⟨h1, h0⟩ | ⟨g, cap, cur, h1, hb, hg, hc, hm, _⟩
  · exact .inl ⟨h1, List.eq_nil_of_length_eq_zero h0⟩
  · refine .inr ⟨g, cap, h1, hb, (Array.getElem?_eq_some_iff.1 hg).1, fun e => h.ne p hp (by rw [h1, e]; rfl), hc, hm⟩
theorem LL.cell (h : LL enc w base F n T e size f ls) {p : Nat} (hp : p < n) {g cap : Nat} (hf : f p = .slice (some ⟨g, 0, none⟩) (ls p).length cap) {j : Nat} (hj : j < (ls p).length * size) : w.cell? ⟨g, j, none⟩ = ((ls p).flatMap enc)[j]? := by
  have := h.own p hp
  rw [hf] at this
  exact this.cellAt j hj
end
end
section
open Go.RowKit

/-- An edge: ten numbers. -/
structure Edg where
  fr : Int
  te : Int
  kd : Int
  dst : Int
  arr : Int
  op : Int
  av : Int
  an : Int
  bv : Int
  bn : Int
def Edg.cells (e : Edg) : List Value := [.int .i64 e.fr, .int .i64 e.te, .int .i64 e.kd, .int .i64 e.dst, .int .i64 e.arr, .int .i64 e.op, .int .i64 e.av, .int .i64 e.an, .int .i64 e.bv, .int .i64 e.bn]
def Edg.val (e : Edg) : Value := .agg #[.int .i64 e.fr, .int .i64 e.te, .int .i64 e.kd, .int .i64 e.dst, .int .i64 e.arr, .int .i64 e.op, .int .i64 e.av, .int .i64 e.an, .int .i64 e.bv, .int .i64 e.bn]
/-- A graph: how many variables, temporaries, the arrays' sizes, points, exit, edges. -/
structure Gr where
  nv : Nat
  tm : Int
  sz : List Int
  pts : Int
  ex : Int
  es : List Edg
def Gr.all (g : Gr) : Int := g.nv + g.tm

def wDst (k : Int) : Bool := decide (2 ≤ k ∧ k ≤ 10)
def wA (k : Int) : Bool := decide ((2 ≤ k ∧ k ≤ 8) ∨ (10 ≤ k ∧ k ≤ 12))
def wB (k : Int) : Bool := decide ((4 ≤ k ∧ k ≤ 8) ∨ (11 ≤ k ∧ k ≤ 12))
def wArr (k : Int) : Bool := decide (k = 10 ∨ k = 11)
def wOp (k : Int) : Bool := decide (k = 12)
def opdOk (n v m : Int) : Bool := decide (v = -1 ∨ (0 ≤ v ∧ v < n ∧ m = 0))
def opdNo (v m : Int) : Bool := decide (v = -1 ∧ m = 0)
/-- All but From and To. -/
def rightE (n na : Int) (e : Edg) : Bool :=
  decide (1 ≤ e.kd ∧ e.kd ≤ 14) && (bif wDst e.kd then decide (0 ≤ e.dst ∧ e.dst < n) else decide (e.dst = -1)) && (bif wArr e.kd then decide (0 ≤ e.arr ∧ e.arr < na) else decide (e.arr = -1)) &&
  (bif wOp e.kd then decide (1 ≤ e.op ∧ e.op ≤ 6) else decide (e.op = 0)) && (bif wA e.kd then opdOk n e.av e.an else opdNo e.av e.an) && (bif wB e.kd then opdOk n e.bv e.bn else opdNo e.bv e.bn)
/-- The slice of declarations at A: their sizes read as sz. -/
def RdD (w : World) (B : Nat) (A : Option Addr) (sz : List Int) : Prop :=
  ∀ k : Nat, k < sz.length → ∃ b off, A = some ⟨b, off, none⟩ ∧ b < B ∧ (∃ s, w.cell? ⟨b, off + k * 2, none⟩ = some (.string s)) ∧ w.cell? ⟨b, off + k * 2 + 1, none⟩ = some (.int .i64 (gI sz k))
/-- The slice of edges at A reads as es. -/
def RdE (w : World) (B : Nat) (A : Option Addr) (es : List Edg) : Prop :=
  ∀ (k : Nat) (h : k < es.length), ∃ b off, A = some ⟨b, off, none⟩ ∧ b < B ∧ ∀ r, r < 10 → w.cell? ⟨b, off + k * 10 + r, none⟩ = es[k].cells[r]?
section
variable {w w' : World} {B B' : Nat} {A : Option Addr} {sz : List Int} {es : List Edg}
theorem RdD.below (h : RdD w B A sz) (hb : Below B w w') : RdD w' B A sz := fun k hk => by
  obtain ⟨b, off, hA, hB, ⟨s, hs⟩, hc⟩ := h k hk
  exact ⟨b, off, hA, hB, ⟨s, (hb.cell (p := ⟨b, _, none⟩) hB).trans hs⟩, (hb.cell (p := ⟨b, _, none⟩) hB).trans hc⟩
theorem RdD.more (h : RdD w B A sz) (hB : B ≤ B') : RdD w B' A sz := fun k hk => by
  obtain ⟨b, off, hA, hB', hc⟩ := h k hk
  exact ⟨b, off, hA, by omega, hc⟩
theorem RdE.below (h : RdE w B A es) (hb : Below B w w') : RdE w' B A es := fun k hk => by
  obtain ⟨b, off, hA, hB, hc⟩ := h k hk
  exact ⟨b, off, hA, hB, fun r hr => (hb.cell (p := ⟨b, _, none⟩) hB).trans (hc r hr)⟩
theorem RdE.more (h : RdE w B A es) (hB : B ≤ B') : RdE w B' A es := fun k hk => by
  obtain ⟨b, off, hA, hB', hc⟩ := h k hk
  exact ⟨b, off, hA, by omega, hc⟩
theorem RdD.up (h : RdD w w.heap.size A sz) (hb : Below w.heap.size w w') : RdD w' w'.heap.size A sz := (h.below hb).more hb.size
theorem RdE.up (h : RdE w w.heap.size A es) (hb : Below w.heap.size w w') : RdE w' w'.heap.size A es := (h.below hb).more hb.size
end
/-- A graph that lies in memory: its value. -/
structure GrAt (w : World) (g : Gr) (v : Value) : Prop where
  at_ : ∃ V cv D cd E ce, v = .agg #[.slice V g.nv cv, .int .i64 g.tm, .slice D g.sz.length cd, .int .i64 g.pts, .int .i64 g.ex, .slice E g.es.length ce] ∧ RdD w w.heap.size D g.sz ∧ RdE w w.heap.size E g.es
  nv : g.nv ≤ 17592186044416
  sz : g.sz.length ≤ 17592186044416
  es : g.es.length ≤ 17592186044416
theorem GrAt.up {w w' : World} {g : Gr} {v : Value} (h : GrAt w g v) (hb : Below w.heap.size w w') : GrAt w' g v := by
  obtain ⟨V, cv, D, cd, E, ce, h1, h2, h3⟩ := h.at_
  exact ⟨⟨V, cv, D, cd, E, ce, h1, h2.up hb, h3.up hb⟩, h.nv, h.sz, h.es⟩

/-! ### Prefixes of the edges -/
end
end Go.Proofs.YtnmpgijiimglcaaGreat
