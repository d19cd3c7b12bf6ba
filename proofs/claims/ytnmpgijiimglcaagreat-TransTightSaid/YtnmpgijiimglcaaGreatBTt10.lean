import Derived.Test.YtnmpgijiimglcaaGreatBTt09
import Derived.Test.YtnmpgijiimglcaaGreatBTt07
namespace Go.Proofs.YtnmpgijiimglcaaGreat
open Go.RowKit
set_option maxRecDepth 100000
set_option maxHeartbeats 8000000
section
theorem zaI (x : List Int) (v : Nat) : zaC x (2 * v) = gI x (v : Int) := by
 unfold zaC; rw [if_pos (by omega), show 2 * v / 2 = v by omega]
theorem zcL (x : List Int) (v : Nat) : zaC x (2 * v + 1) = -gI x (v : Int) := by
 unfold zaC; rw [if_neg (by omega), show (2 * v + 1) / 2 = v by omega]
theorem zbV (x : List Int) (d : Nat) (u : Int) {i : Nat} (h : i / 2 ≠ d) : zaC (x.set d u) i = zaC x i := by
 have e : gI (x.set d u) ((i / 2 : Nat) : Int) = gI x ((i / 2 : Nat) : Int) := by rw [zc7, if_neg (fun q => h q.1)]
 unfold zaC; rw [e]
theorem zhk (x : List Int) (d : Nat) (u : Int) (h : d < x.length) : gI (x.set d u) (d : Int) = u := by rw [zc7, if_pos ⟨rfl, h⟩]
section
variable {n : Int} {o : O} {x : List Int}
theorem HasO.form (h : HasO o x) (ok : OkO n o) : ∃ (N : Nat) (m : List Int), (N : Int) = 2 * n ∧ N ≤ 128 ∧ o = ⟨n, false, m⟩ ∧ Cells N m ∧ HasM N m x ∧ (x.length : Int) = n := by
 rcases ok.form with rfl | ⟨N, m, hN, hn, rfl, hc⟩
 ·exact absurd h.1 (by simp [emptyO])
 ·have := h.2.2
  dsimp only at this
  rw [show (2 * n).toNat = N by omega] at this
  exact ⟨N, m, hN, hn, rfl, hc, this, h.2.1⟩
theorem HasO.mk_ {N : Nat} {m : List Int} (hN : (N : Int) = 2 * n) (hx : HasM N m x) (hl : (x.length : Int) = n) : HasO ⟨n, false, m⟩ x :=
 ⟨rfl, hl, by dsimp only; rw [show (2 * n).toNat = N by omega]; exact hx⟩
theorem zn4 {c c' d : Int} (h : Lets c d) (k : c ≤ c') (t : c' ≤ 9223372036854775807) : Lets c' d := by unfold Lets at *; omega
theorem HasO.with_ (h : HasO o x) (ok : OkO n o) {i j : Nat} (hi : (i : Int) < 2 * n) (hj : (j : Int) < 2 * n) {c : Int} (hc : Lets (near c) (apartX x i j)) : HasO (withO o i j c) x := by
 obtain ⟨N, m, hN, hn, rfl, hm, hx, hl⟩ := h.form ok
 unfold withO
 rw [if_neg (by simp)]
 by_cases hij : i = j
 ·subst hij
  rw [if_pos rfl]
  have e : apartX x i i = 0 := by unfold apartX; omega
  rw [e] at hc
  rw [if_neg (by (unfold Lets near at hc; repeat' split at hc) <;> omega)]
  exact h
 ·rw [if_neg hij]
  dsimp only
  rw [show (2 * n).toNat = N by omega]
  refine HasO.mk_ hN (fun a b ha hb => ?_) hl
  rw [zf7 (by omega) hm.len (by omega) (by omega) c ha hb]
  split
  ·have k : Lets (min (G N m i j) (near c)) (apartX x i j) := zei (hx i j (by omega) (by omega)) hc (hm.bd i j (by omega) (by omega)) (zb5 _)
   rename_i e
   rcases e with ⟨rfl, rfl⟩ | ⟨rfl, rfl⟩
   ·exact k
   ·rw [zfa]; exact k
  ·exact hx a b ha hb
theorem HasO.close_ (h : HasO o x) (ok : OkO n o) : HasO (closeO o) x := zdQ ok.ok h
theorem HasO.forget (h : HasO o x) (ok : OkO n o) (v : Nat) (u : Int) : HasO (forgetO o v) (x.set v u) := by
 obtain ⟨N, m, hN, hn, e, hm, hx, hl⟩ := (h.close_ ok).form ok.close
 unfold forgetO
 rw [e, if_neg (by simp)]
 rw [ok.n_]
 dsimp only
 rw [show (2 * n).toNat = N by omega]
 refine HasO.mk_ hN (fun a b ha hb => ?_) (by rw [List.length_set]; exact hl)
 rw [zcH hm.len ha hb]
 split
 ·exact .inl rfl
 ·rename_i q
  by_cases eab : a = b
  ·subst eab
   have := hx a a ha hb
   unfold apartX at *
   rw [show zaC (x.set v u) a - zaC (x.set v u) a = zaC x a - zaC x a by omega]
   exact this
  ·unfold apartX
   rw [zbV _ _ _ (fun k => q ⟨eab, .inl k⟩), zbV _ _ _ (fun k => q ⟨eab, .inr k⟩)]
   exact hx a b ha hb
def InR (r : Rg) (u : Int) : Prop := (r.hl = true → r.lo ≤ u) ∧ (r.hh = true → u ≤ r.hi)
theorem zfB {u hi : Int} (h : u ≤ hi) : Lets (near (zaH hi)) (2 * u) := by
 unfold zaH
 split
 ·exact .inl (by decide)
 ·split
  ·exact zcn (by omega)
  ·exact zcn (by omega)
theorem zfg {u lo : Int} (h : lo ≤ u) : Lets (near (zaH (negB lo))) (2 * -u) := by
 unfold negB
 split
 ·exact .inl (by decide)
 ·exact zfB (by omega)
theorem HasO.ranged (h : HasO o x) (ok : OkO n o) {v : Nat} (hv : (v : Int) < n) {r : Rg} (hr : InR r (gI x (v : Int))) : HasO (rangedO o v r) x := by
 have h1 : HasO (hiO o v r) x := by
  unfold hiO
  split
  ·rename_i q
   refine h.with_ ok (by omega) (by omega) ?_
   have e : apartX x (2 * v) (2 * v + 1) = 2 * gI x (v : Int) := by unfold apartX; rw [zaI, zcL]; omega
   rw [e]
   exact zfB (hr.2 q)
  ·exact h
 unfold rangedO
 split
 ·rename_i q
  refine h1.with_ (ok.hi_ hv r) (by omega) (by omega) ?_
  have e : apartX x (2 * v + 1) (2 * v) = 2 * -gI x (v : Int) := by unfold apartX; rw [zaI, zcL]; omega
  rw [e]
  exact zfg (hr.1 q)
 ·exact h1
theorem HasO.give (h : HasO o x) (ok : OkO n o) {v : Nat} (hv : (v : Int) < n) {r : Rg} {u : Int} (hr : InR r u) : HasO (giveO o v r) (x.set v u) := by
 have hlen : (x.length : Int) = n := h.2.1.trans ok.n_
 have hk := h.forget ok v u
 refine (hk.ranged (ok.forget v) hv ?_).close_ ((ok.forget v).ranged hv r)
 rw [zhk _ _ _ (by omega)]
 exact hr
end
def opdX (x : List Int) (v n : Int) : Int := if 0 ≤ v then gI x v else n
section
variable {n : Int} {o : O} {x : List Int}
theorem HasO.atMost (h : HasO o x) (ok : OkO n o) {av an bv bn : Int} {s : Bool} (ha : av < n) (hb : bv < n) (hab : 0 ≤ av ∨ 0 ≤ bv) (ia : -9223372036854775808 ≤ opdX x av an ∧ opdX x av an ≤ 9223372036854775807) (ib : -9223372036854775808 ≤ opdX x bv bn ∧ opdX x bv bn ≤ 9223372036854775807)
  (hc : opdX x av an ≤ opdX x bv bn + zbO s) : HasO (atMostO o av an bv bn s) x := by
 unfold opdX zbO at *
 unfold atMostO zbO
 by_cases h1 : 0 ≤ av
 ·rw [if_pos h1] at *
  by_cases h2 : 0 ≤ bv
  ·rw [if_pos h2] at *
   split
   ·rename_i e
    subst e
    cases s with
    | true => simp at hc; omega
    | false => exact h
   ·refine h.with_ ok (by omega) (by omega) ?_
    have e : apartX x (2 * av.toNat) (2 * bv.toNat) = gI x av - gI x bv := by unfold apartX; rw [zaI, zaI, Int.toNat_of_nonneg h1, Int.toNat_of_nonneg h2]
    rw [e]
    exact zcn (by omega)
  ·rw [if_neg h2] at *
   cases s with
   | true =>
    simp only [if_true, Bool.true_and] at *
    rw [if_neg (by rw [decide_eq_true_eq]; omega)]
    refine h.ranged ok (by omega) ⟨fun q => (by cases q), fun _ => ?_⟩
    rw [Int.toNat_of_nonneg h1]; exact hc
   | false =>
    simp only [Bool.false_and, Bool.false_eq_true, if_false] at *
    refine h.ranged ok (by omega) ⟨fun q => (by cases q), fun _ => ?_⟩
    rw [Int.toNat_of_nonneg h1]; exact hc
 ·have h2 : 0 ≤ bv := by omega
  rw [if_neg h1] at *
  rw [if_pos h2] at *
  cases s with
  | true =>
   simp only [if_true, Bool.true_and] at *
   rw [if_neg (by rw [decide_eq_true_eq]; omega)]
   refine h.ranged ok (by omega) ⟨fun _ => ?_, fun q => (by cases q)⟩
   rw [Int.toNat_of_nonneg h2]; show an - -1 ≤ _; omega
  | false =>
   simp only [Bool.false_and, Bool.false_eq_true, if_false] at *
   refine h.ranged ok (by omega) ⟨fun _ => ?_, fun q => (by cases q)⟩
   rw [Int.toNat_of_nonneg h2]; show an - 0 ≤ _; omega
end
end
section
section
variable {n : Int} {o : O} {x : List Int}
theorem zlo (x : List Int) (d : Nat) (u : Int) (h : d < x.length) : zaC (x.set d u) (2 * d) = u := by rw [zaI, zhk _ _ _ h]
theorem HasO.link (h : HasO o x) (ok : OkO n o) {d j : Nat} (hd : (d : Int) < n) (hj : (j : Int) < 2 * n) (hne : j / 2 ≠ d) (k : Int) : HasO (linkO o (2 * d) j k) (x.set d (zaC x j + k)) := by
 have hlen : (x.length : Int) = n := h.2.1.trans ok.n_
 unfold linkO
 rw [show 2 * d / 2 = d by omega]
 have h1 := h.forget ok d (zaC x j + k)
 have k1 := ok.forget d
 have e : apartX (x.set d (zaC x j + k)) (2 * d) j = k := by unfold apartX; rw [zlo _ _ _ (by omega), zbV _ _ _ hne]; omega
 have e' : apartX (x.set d (zaC x j + k)) j (2 * d) = -k := by unfold apartX at *; omega
 have h2 := h1.with_ k1 (i := 2 * d) (j := j) (c := k) (by omega) hj (by rw [e]; exact zcn (Int.le_refl _))
 have k2 := k1.with_ (i := 2 * d) (j := j) (by omega) hj k
 exact (h2.with_ k2 (c := -k) hj (by omega) (by rw [e']; exact zcn (Int.le_refl _))).close_ (k2.with_ hj (by omega) (-k))
theorem zgg {x : List Int} {d : Nat} (k : Int) (hd : d < x.length) (a : Nat) : zaC (x.set d (gI x (d : Int) + k)) a = zaC x a + byK d k a := by
 unfold byK
 by_cases e : a / 2 = d
 ·subst e
  rw [if_pos rfl]
  unfold zaC
  rw [zhk _ _ _ hd]
  split <;> omega
 ·rw [zbV _ _ _ e, if_neg e, Int.add_zero]
theorem HasO.shift (h : HasO o x) (ok : OkO n o) {d y : Nat} (hd : (d : Int) < n) (hy : (y : Int) < n) (k : Int) : HasO (zbL o d y k) (x.set d (gI x (y : Int) + k)) := by
 unfold zbL
 split
 ·exact h.forget ok d _
 ·rename_i hk
  split
  ·rename_i hne
   have := h.link ok (d := d) (j := 2 * y) hd (by omega) (by omega) k
   rw [zaI] at this
   exact this
  ·rename_i hne
   obtain rfl : y = d := by omega
   obtain ⟨N, m, hN, hn, rfl, hm, hx, hl⟩ := h.form ok
   dsimp only
   rw [show (2 * n).toNat = N by omega]
   refine HasO.close_ (n := n) (HasO.mk_ hN (fun a b ha hb => ?_) (by rw [List.length_set]; exact hl)) (OkO.of_cells hN hn (zb3 (by omega) hm))
   rw [zf4 hm.len ha hb]
   have e : apartX (x.set y (gI x (y : Int) + k)) a b = apartX x a b + (byK y k a - byK y k b) := by
    unfold apartX; rw [zgg k (by omega), zgg k (by omega)]; omega
   have hb' : zag (byK y k a - byK y k b) = true := by
    unfold zag byK
    rw [decide_eq_true_eq]
    repeat' split
    all_goals omega
   by_cases c : a ≠ b ∧ G N m a b ≠ 9223372036854775807
   ·rw [if_pos c, e]
    exact zdz (hm.bd a b ha hb) hb' (hx a b ha hb) (.inr (Int.le_refl _))
   ·rw [if_neg c]
    by_cases eab : a = b
    ·subst eab
     rw [e, show byK y k a - byK y k a = 0 by omega, Int.add_zero]
     exact hx a a ha ha
    ·exact .inl (by omega)
theorem HasO.turns (h : HasO o x) (ok : OkO n o) {d : Nat} (hd : (d : Int) < n) : HasO (zcF o d) (x.set d (-gI x (d : Int))) := by
 obtain ⟨N, m, hN, hn, rfl, hm, hx, hl⟩ := h.form ok
 unfold zcF
 dsimp only
 rw [show (2 * n).toNat = N by omega]
 refine HasO.close_ (n := n) (HasO.mk_ hN (fun a b ha hb => ?_) (by rw [List.length_set]; exact hl)) (OkO.of_cells hN hn (zcr (by omega) hm))
 rw [zhA hm.len ha hb]
 have e : ∀ a, zaC (x.set d (-gI x (d : Int))) a = zaC x (otherV d a) := fun a => by
  unfold otherV
  by_cases e : a / 2 = d
  ·rw [if_pos e, zcq]
   subst e
   unfold zaC
   rw [zhk _ _ _ (by omega)]
   split <;> omega
  ·rw [if_neg e, zbV _ _ _ e]
 have := hx (otherV d a) (otherV d b) (zbs (by omega) ha) (zbs (by omega) hb)
 unfold apartX at *
 rw [e, e]; exact this
end
def zeC (e : Edg) (x y : List Int) : Prop :=
 e.kd ≠ 14 ∧ (e.kd = 12 → cmpB e.op (opdX x e.av e.an) (opdX x e.bv e.bn) = true) ∧
 (if e.kd = 9 ∨ e.kd = 10 then ∃ v, y = x.set e.dst.toNat v
  else if e.kd = 2 then y = x.set e.dst.toNat (opdX x e.av e.an)
  else if 3 ≤ e.kd ∧ e.kd ≤ 8 then (kindW e.kd (opdX x e.av e.an) (opdX x e.bv e.bn)).2 = 0 ∧ y = x.set e.dst.toNat (kindW e.kd (opdX x e.av e.an) (opdX x e.bv e.bn)).1
  else y = x)
def I64s (x : List Int) : Prop := ∀ i : Nat, -9223372036854775808 ≤ gI x (i : Int) ∧ gI x (i : Int) ≤ 9223372036854775807
theorem zeo {x : List Int} (hx : I64s x) {v k : Int} (hk : -9223372036854775808 ≤ k ∧ k ≤ 9223372036854775807) : -9223372036854775808 ≤ opdX x v k ∧ opdX x v k ≤ 9223372036854775807 := by
 unfold opdX
 split
 ·rename_i h
  have := hx v.toNat
  rwa [Int.toNat_of_nonneg h] at this
 ·exact hk
theorem zii {a : Int} (h : (fit a).2 = 0) : (fit a).1 = a ∧ inI a = true := by
 unfold fit at *
 split at h
 ·rename_i q; rw [if_pos q]; exact ⟨rfl, q⟩
 ·cases h
theorem zaW {x : List Int} {v k : Int} (h : v < 0) : opdX x v k = k := by unfold opdX; rw [if_neg (by omega)]
theorem zaL {x : List Int} {v k : Int} (h : 0 ≤ v) : opdX x v k = gI x ((v.toNat : Nat) : Int) := by unfold opdX; rw [if_pos h, Int.toNat_of_nonneg h]
end
section
theorem zpg {N : Nat} {xs ys : List Int} (h1 : xs.length = N * N) (h2 : ys.length = N * N) (h : ∀ a b : Nat, a < N → b < N → G N xs a b = G N ys a b) : xs = ys := by
 refine List.ext_getElem (by rw [h1, h2]) fun i q1 q2 => ?_
 have hN : 0 < N := by
  rcases Nat.eq_zero_or_pos N with e | e
  ·subst e; simp at h1; subst h1; simp at q1
  ·exact e
 have hi : i < N * N := by omega
 have := h (i / N) (i % N) (Nat.div_lt_of_lt_mul hi) (Nat.mod_lt _ hN)
 unfold G gI at this
 rw [Nat.div_add_mod' i N, Int.toNat_natCast] at this
 simpa [List.getD, q1, q2] using this
end
section
inductive Wk (N : Nat) (xs : List Int) : Nat → List Nat → Nat → Int → Prop
 | nil {i j : Nat} : G N xs i j ≠ 9223372036854775807 → Wk N xs i [] j (G N xs i j)
 | cons {i a j : Nat} {l : List Nat} {w : Int} : G N xs i a ≠ 9223372036854775807 → Wk N xs a l j w → Wk N xs i (a :: l) j (G N xs i a + w)
section
variable {N : Nat} {xs : List Int}
theorem Wk.append {k j : Nat} {l2 : List Nat} {w2 : Int} (h2 : Wk N xs k l2 j w2) : ∀ {l : List Nat} {i : Nat} {w1 : Int}, Wk N xs i l k w1 → Wk N xs i (l ++ k :: l2) j (w1 + w2)
 | [], i, w1, h => by
  cases h with
  | nil h => exact .cons h h2
 | a :: l, i, w1, h => by
  cases h with
  | cons h1 h3 =>
   rw [Int.add_assoc]
   exact .cons h1 (Wk.append h2 h3)
theorem Wk.split {k j : Nat} {l2 : List Nat} : ∀ {l : List Nat} {i : Nat} {w : Int}, Wk N xs i (l ++ k :: l2) j w → ∃ w1 w2, w = w1 + w2 ∧ Wk N xs i l k w1 ∧ Wk N xs k l2 j w2
 | [], i, w, h => by
  cases h with
  | cons h1 h2 => exact ⟨_, _, rfl, .nil h1, h2⟩
 | a :: l, i, w, h => by
  cases h with
  | cons h1 h2 =>
   obtain ⟨w1, w2, e, k1, k2⟩ := Wk.split h2
   subst e
   exact ⟨_, _, (Int.add_assoc _ _ _).symm, .cons h1 k1, k2⟩
def zgB (xs : List Int) : Prop := ∀ p : Nat, gI xs (p : Int) = 9223372036854775807 ∨ (-1099511627776 ≤ gI xs (p : Int) ∧ gI xs (p : Int) ≤ 1099511627776)
theorem Wk.bound (hs : zgB xs) : ∀ {l : List Nat} {i j : Nat} {w : Int}, Wk N xs i l j w → -(((l.length : Int) + 1) * 1099511627776) ≤ w ∧ w ≤ ((l.length : Int) + 1) * 1099511627776
 | [], i, j, w, h => by
  cases h with
  | nil h =>
   have := hs (i * N + j)
   unfold G at *
   rw [List.length_nil]
   omega
 | a :: l, i, j, w, h => by
  cases h with
  | cons h1 h2 =>
   have := hs (i * N + a)
   have := Wk.bound hs h2
   unfold G at *
   rw [List.length_cons]
   omega
theorem zk3 : ∀ l : List Nat, ¬ l.Nodup → ∃ p a q r, l = p ++ a :: (q ++ a :: r)
 | [], h => absurd List.nodup_nil h
 | x :: t, h => by
  by_cases m : x ∈ t
  ·obtain ⟨q, r, e⟩ := List.append_of_mem m
   exact ⟨[], x, q, r, by rw [e]; rfl⟩
  ·have : ¬ t.Nodup := fun k => h (List.nodup_cons.2 ⟨m, k⟩)
   obtain ⟨p, a, q, r, e⟩ := zk3 t this
   exact ⟨x :: p, a, q, r, by rw [e]; rfl⟩
theorem zgP : ∀ (k : Nat) (l : List Nat), l.Nodup → (∀ x, x ∈ l → x < k) → l.length ≤ k
 | 0, l, _, h => by
  cases l with
  | nil => simp
  | cons a t => exact absurd (h a (by simp)) (by omega)
 | k + 1, l, hn, h => by
  have h1 := zgP k (l.erase k) (hn.erase k) fun x hx => by
   have h2 := (hn.mem_erase_iff).1 hx
   have := h x h2.2
   have := h2.1
   omega
  have h3 := List.length_erase (a := k) (l := l)
  split at h3 <;> omega
theorem zdv {a b : Int} (ha : a = 9223372036854775807 ∨ (-1000000000000000000 ≤ a ∧ a ≤ 1000000000000000000)) (hb : b = 9223372036854775807 ∨ (-1000000000000000000 ≤ b ∧ b ≤ 1000000000000000000)) : sat a b = false := by
 have e1 : near a = a := by unfold near; split <;> (try split) <;> omega
 have e2 : near b = b := by unfold near; split <;> (try split) <;> omega
 unfold sat
 rw [e1, e2]
 by_cases h : a = 9223372036854775807 ∨ b = 9223372036854775807
 ·rw [decide_eq_true h]; rfl
 ·rw [decide_eq_false h, decide_eq_false (by omega)]; rfl
end
section
variable {N : Nat} {xs : List Int} (h : Cells N xs) (hb : AllB xs) (hd : ∀ i, i < N → 0 ≤ G N (paths N N xs) i i)
def NsTo (N : Nat) (xs : List Int) (K : Nat) : Prop := ∀ k i j : Nat, k < K → i < N → j < N → sat (G N (paths N k xs) i k) (G N (paths N k xs) k j) = false
include h hb hd
theorem zcU : ∀ (k : Nat), k ≤ N → NsTo N xs k → ∀ (n : Nat) (l : List Nat), l.length ≤ n → (∀ x, x ∈ l → x < k) → ∀ {i j : Nat} {w : Int}, i < N → j < N → Wk N xs i l j w → G N (paths N k xs) i j ≤ w ∧ G N (paths N k xs) i j ≠ 9223372036854775807
 | 0, _, _, _, l, _, hl, i, j, w, _, _, hw => by
  cases l with
  | cons a t => exact absurd (hl a (by simp)) (by omega)
  | nil =>
   cases hw with
   | nil q => exact ⟨Int.le_refl _, q⟩
 | k + 1, hk, ns, 0, l, hn, _, i, j, w, hi, hj, hw => by
  cases l with
  | cons a t => simp at hn
  | nil =>
   have h1 := zcU k (by omega) (fun k' i j q => ns k' i j (by omega)) 0 [] (by simp) (by simp) hi hj hw
   have h2 := za9 h hb hd (k := k) (by omega) hi hj
   unfold newP at h2
   have h3 := bnd ((zaK N k xs).all hb (i * N + j))
   unfold G at *
   omega
 | k + 1, hk, ns, n + 1, l, hn, hl, i, j, w, hi, hj, hw => by
  have a0 : k < N := by omega
  have h2 := za9 h hb hd (k := k) (by omega) hi hj
  by_cases m : k ∈ l
  ·obtain ⟨p, q, e⟩ := List.append_of_mem m
   subst e
   obtain ⟨w1, w2, ew, k1, k2⟩ := hw.split
   have e1 := zcU (k + 1) hk ns n p (by simp at hn; omega) (fun x hx => hl x (by simp [hx])) hi a0 k1
   have e2 := zcU (k + 1) hk ns n q (by simp at hn; omega) (fun x hx => hl x (by simp [hx])) a0 hj k2
   have hB := (zaK N k xs).all hb
   have d := zcp h hb hd (k := k) (by omega) a0
   have f1 := za9 h hb hd (k := k) (by omega) hi a0
   have f2 := za9 h hb hd (k := k) (by omega) a0 hj
   unfold newP at f1 f2 h2
   rw [d, zcv (bG hB _ _ _), Int.min_self] at f1
   rw [d, zdh (bG hB _ _ _), Int.min_self] at f2
   rw [f1] at e1
   rw [f2] at e2
   have c := zbl (bG hB N i k) (bG hB N k j) (ns k i j (by omega) hi hj)
   omega
  ·have h1 := zcU k (by omega) (fun k' i j q => ns k' i j (by omega)) (n + 1) l hn (fun x hx => by
    have := hl x hx
    have : x ≠ k := fun e => m (e ▸ hx)
    omega) hi hj hw
   unfold newP at h2
   have h3 := bnd ((zaK N k xs).all hb (i * N + j))
   unfold G at *
   omega
theorem zjV : ∀ (k : Nat), k ≤ N → NsTo N xs k → ∀ {i j : Nat}, i < N → j < N → G N (paths N k xs) i j ≠ 9223372036854775807 → ∃ l, (∀ x, x ∈ l → x < k) ∧ Wk N xs i l j (G N (paths N k xs) i j)
 | 0, _, _, i, j, _, _, hne => ⟨[], by simp, .nil hne⟩
 | k + 1, hk, ns, i, j, hi, hj, hne => by
  have a0 : k < N := by omega
  have hB := (zaK N k xs).all hb
  have ih := fun {i j : Nat} (hi : i < N) (hj : j < N) => zjV k (by omega) (fun k' i j q => ns k' i j (by omega)) (i := i) (j := j) hi hj
  have h2 := za9 h hb hd (k := k) (by omega) hi hj
  unfold newP at h2
  have c := zbl (bG hB N i k) (bG hB N k j) (ns k i j (by omega) hi hj)
  by_cases le : G N (paths N k xs) i j ≤ plus (G N (paths N k xs) i k) (G N (paths N k xs) k j)
  ·rw [Int.min_eq_left le] at h2
   rw [h2] at hne ⊢
   obtain ⟨l, hl, hw⟩ := ih hi hj hne
   exact ⟨l, fun x hx => by have := hl x hx; omega, hw⟩
  ·rw [Int.min_eq_right (by omega)] at h2
   have b0 := zlk (bG hB N i j)
   obtain ⟨q1, q2, q3⟩ : G N (paths N k xs) i k ≠ 9223372036854775807 ∧ G N (paths N k xs) k j ≠ 9223372036854775807 ∧ plus (G N (paths N k xs) i k) (G N (paths N k xs) k j) = G N (paths N k xs) i k + G N (paths N k xs) k j := by omega
   obtain ⟨l1, hl1, hw1⟩ := ih hi a0 q1
   obtain ⟨l2, hl2, hw2⟩ := ih a0 hj q2
   refine ⟨l1 ++ k :: l2, fun x hx => ?_, ?_⟩
   ·simp only [List.mem_append, List.mem_cons] at hx
    rcases hx with hx | hx | hx
    ·have := hl1 x hx; omega
    ·omega
    ·have := hl2 x hx; omega
   ·rw [h2, q3]
    exact Wk.append hw2 hw1
theorem zfw (k : Nat) (hk : k ≤ N) (ns : NsTo N xs k) : ∀ (n : Nat) (l : List Nat), l.length ≤ n → (∀ x, x ∈ l → x < k) → ∀ {i j : Nat} {w : Int}, i < N → j < N → Wk N xs i l j w → ∃ l' w', l'.Nodup ∧ (∀ x, x ∈ l' → x < k) ∧ Wk N xs i l' j w' ∧ w' ≤ w
 | 0, l, hn, hl, i, j, w, _, _, hw => by
  cases l with
  | cons a t => simp at hn
  | nil => exact ⟨[], w, List.nodup_nil, by simp, hw, Int.le_refl _⟩
 | n + 1, l, hn, hl, i, j, w, hi, hj, hw => by
  by_cases nd : l.Nodup
  ·exact ⟨l, w, nd, hl, hw, Int.le_refl _⟩
  ·obtain ⟨p, a, q, r, e⟩ := zk3 l nd
   subst e
   obtain ⟨w1, w2, e1, k1, k2⟩ := hw.split
   obtain ⟨w3, w4, e2, k3, k4⟩ := k2.split
   have ha : a < k := hl a (by simp)
   have c := (zcU h hb hd k hk ns q.length q (Nat.le_refl _) (fun x hx => hl x (by simp [hx])) (by omega) (by omega) k3).1
   rw [zcp h hb hd hk (by omega)] at c
   obtain ⟨l', w', g1, g2, g3, g4⟩ := zfw k hk ns n (p ++ a :: r) (by simp at hn ⊢; omega) (fun x hx => hl x (by
    simp only [List.mem_append, List.mem_cons] at hx ⊢
    rcases hx with hx | hx | hx
    ·exact .inl hx
    ·exact .inr (.inl hx)
    ·exact .inr (.inr (.inr (.inr hx))))) hi hj (Wk.append k4 k1)
   exact ⟨l', w', g1, g2, g3, by omega⟩
theorem zdP (hs : zgB xs) (hN : N ≤ 128) {k : Nat} (hk : k ≤ N) (ns : NsTo N xs k) {i j : Nat} (hi : i < N) (hj : j < N) : G N (paths N k xs) i j = 9223372036854775807 ∨ (-141836999983104 ≤ G N (paths N k xs) i j ∧ G N (paths N k xs) i j ≤ 141836999983104) := by
 by_cases hne : G N (paths N k xs) i j = 9223372036854775807
 ·exact .inl hne
 ·obtain ⟨l, hl, hw⟩ := zjV h hb hd k hk ns hi hj hne
  obtain ⟨l', w', g1, g2, g3, g4⟩ := zfw h hb hd k hk ns l.length l (Nat.le_refl _) hl hi hj hw
  have b := g3.bound hs
  have hl' := zgP k l' g1 g2
  have c := (zcU h hb hd k hk ns l'.length l' (Nat.le_refl _) g2 hi hj g3).1
  exact .inr (by omega)
theorem zfD (hs : zgB xs) (hN : N ≤ 128) : ∀ k, k ≤ N → NsTo N xs k
 | 0, _ => fun k _ _ q => absurd q (by omega)
 | K + 1, hK => by
  have ih := zfD hs hN K (by omega)
  intro k i j hk hi hj
  by_cases e : k = K
  ·subst e
   have s1 := zdP h hb hd hs hN (k := k) (by omega) ih hi (show k < N by omega)
   have s2 := zdP h hb hd hs hN (k := k) (by omega) ih (show k < N by omega) hj
   exact zdv (by omega) (by omega)
  ·exact ih k i j (by omega) hi hj
end
theorem ziI {x : Int} (hb : zag x = true) (hx : x = 9223372036854775807 ∨ (-141836999983104 ≤ x ∧ x ≤ 141836999983104)) : even x = 9223372036854775807 ∨ (-141836999983106 ≤ even x ∧ even x ≤ 141836999983106) := by
 have := zet hb
 omega
theorem ziG {a b : Int} (ha : zag a = true) (hb : zag b = true) (h1 : a = 9223372036854775807 ∨ (-141836999983106 ≤ a ∧ a ≤ 141836999983106)) (h2 : b = 9223372036854775807 ∨ (-141836999983106 ≤ b ∧ b ≤ 141836999983106)) : half (plus a b) = 9223372036854775807 ∨ (-141836999983108 ≤ half (plus a b) ∧ half (plus a b) ≤ 141836999983108) := by
 have c := zbl ha hb (zdv (by omega) (by omega))
 rcases c with c | c | c
 ·left; rw [c.2]; decide
 ·left; rw [c.2]; decide
 ·right
  rw [c.2.2.1]
  have e : near (a + b) = a + b := by unfold near; split <;> (try split) <;> omega
  unfold half
  rw [e]
  split <;> omega
theorem zhJ {N : Nat} (hN : N % 2 = 0) (hn : N ≤ 128) {xs ys : List Int} (h : Cells N xs) (hb : AllB xs) (hs : zgB xs) (hc : za3 N xs = some ys) : NoSat N xs ∧ ∀ i j : Nat, i < N → j < N → G N ys i j = 9223372036854775807 ∨ (-141836999983108 ≤ G N ys i j ∧ G N ys i j ≤ 141836999983108) := by
 unfold za3 at hc
 split at hc
 ·cases hc
 ·rename_i hneg
  split at hc
  ·cases hc
  ·injection hc with hc
   have lp := zaK N N xs
   have lm := zcx N N (paths N N xs)
   have l1 := lp.len.trans h.len
   have bP := lp.all hb
   have hd : ∀ i, i < N → 0 ≤ G N (paths N N xs) i i := fun i hi => by
    have g1 := zfZ (by simpa using hneg) i hi
    have g2 := lm.le bP (i * N + i)
    unfold G at *
    omega
   have ns := zfD h hb hd hs hn N (Nat.le_refl _)
   have sm := fun (i j : Nat) (hi : i < N) (hj : j < N) => zdP h hb hd hs hn (Nat.le_refl _) ns hi hj
   have sP := zgL h hb hd hN ns
   have hm := zdO hN sP
   have gE := zk6 hN l1
   have le := zdx N N (paths N N xs)
   have bE := le.all bP
   have sE : ∀ i j : Nat, i < N → j < N → G N (zaU N N (paths N N xs)) i j = 9223372036854775807 ∨ (-141836999983106 ≤ G N (zaU N N (paths N N xs)) i j ∧ G N (zaU N N (paths N N xs)) i j ≤ 141836999983106) := fun i j hi hj => by
    rw [gE i j hi hj]
    split
    ·exact ziI (bG bP _ _ _) (sm i j hi hj)
    ·have := sm i j hi hj; omega
   refine ⟨⟨ns, fun i j hi hj hij => ?_, fun i hi => ?_⟩, fun i j hi hj => ?_⟩
   ·rw [hm]
    have s1 := sE i (nx i) hi (nxl hN hi)
    have s2 := sE (nx j) j (nxl hN hj) hj
    exact zdv (by omega) (by omega)
   ·rw [hm]
    have s1 := sE i (nx i) hi (nxl hN hi)
    have s2 := sE (nx i) i (nxl hN hi) hi
    exact zdv (by omega) (by omega)
   ·rw [hm] at hc
    have f := zcz hN (le.len.trans l1) bE i j hi hj
    rw [← hc, f]
    unfold zbZ
    have s0 := sE i j hi hj
    have s1 := ziG (bG bE _ _ _) (bG bE _ _ _) (sE i (nx i) hi (nxl hN hi)) (sE (nx j) j (nxl hN hj) hj)
    split <;> omega
theorem zdY {a b : Int} (ha : -1000000000000000000 ≤ a ∧ a ≤ 1000000000000000000) (hb : -1000000000000000000 ≤ b ∧ b ≤ 1000000000000000000) : plus a b = a + b := by
 have e1 : near a = a := by unfold near; split <;> (try split) <;> omega
 have e2 : near b = b := by unfold near; split <;> (try split) <;> omega
 unfold plus
 rw [e1, e2, if_neg (by omega)]
 unfold near
 split <;> (try split) <;> omega
theorem zgs (d : Nat) {k : Int} (hk : -2147483648 ≤ k ∧ k ≤ 2147483648) (i : Nat) : -2147483648 ≤ byK d k i ∧ byK d k i ≤ 2147483648 := by
 unfold byK
 split <;> (try split) <;> omega
section
variable {N : Nat} {c : List Int} (sm : ∀ i j : Nat, i < N → j < N → G N c i j = 9223372036854775807 ∨ (-141836999983108 ≤ G N c i j ∧ G N c i j ≤ 141836999983108))
include sm
theorem zkO (h : Cells N c) (d : Nat) {k : Int} (hk : -2147483648 ≤ k ∧ k ≤ 2147483648) {a b : Nat} (ha : a < N) (hb : b < N) :
  (G N c a b = 9223372036854775807 ∧ G N (zbf N d k c) a b = 9223372036854775807) ∨ (G N c a b ≠ 9223372036854775807 ∧ G N (zbf N d k c) a b = G N c a b + byK d k a - byK d k b) := by
 rw [zf4 h.len ha hb]
 have s := sm a b ha hb
 have k1 := zgs d hk a
 have k2 := zgs d hk b
 by_cases e : G N c a b = 9223372036854775807
 ·left; rw [if_neg (by omega)]; exact ⟨e, e⟩
 ·right
  refine ⟨e, ?_⟩
  by_cases eab : a = b
  ·subst eab
   rw [if_neg (by omega)]; omega
  ·rw [if_pos ⟨eab, e⟩, zdY (by omega) (by omega)]
   omega
end
end
section
structure Q8 (a b c d p q r s : Int) : Prop where
 ea : a % 2 = 0
 eb : b % 2 = 0
 ec : c % 2 = 0
 ed : d % 2 = 0
 t1 : a ≤ p + r
 t2 : b ≤ s + q
 t3 : c ≤ q + r
 t4 : d ≤ s + p
 t5 : p ≤ a + s
 t6 : p ≤ r + d
 t7 : q ≤ r + b
 t8 : q ≤ c + s
 t9 : r ≤ a + q
 t10 : r ≤ p + c
 t11 : s ≤ b + p
 t12 : s ≤ q + d
 z1 : 0 ≤ a + b
 z2 : 0 ≤ c + d
 z3 : 0 ≤ p + q
 z4 : 0 ≤ r + s
 u1 : 2 * p ≤ a + d
 u2 : 2 * q ≤ c + b
 u3 : 2 * r ≤ a + c
 u4 : 2 * s ≤ b + d
def Ok8 (a b c d p q r s x y : Int) : Prop := 2 * x ≤ a ∧ -(2 * x) ≤ b ∧ 2 * y ≤ c ∧ -(2 * y) ≤ d ∧ x - y ≤ p ∧ y - x ≤ q ∧ x + y ≤ r ∧ -x - y ≤ s
section
variable {a b c d p q r s : Int}
theorem Q8.swap (h : Q8 a b c d p q r s) : Q8 c d a b q p r s := by obtain ⟨h1, h2, h3, h4, h5, h6, h7, h8, h9, h10, h11, h12, h13, h14, h15, h16, h17, h18, h19, h20, h21, h22, h23, h24⟩ := h; constructor <;> omega
theorem Q8.negY (h : Q8 a b c d p q r s) : Q8 a b d c r s p q := by obtain ⟨h1, h2, h3, h4, h5, h6, h7, h8, h9, h10, h11, h12, h13, h14, h15, h16, h17, h18, h19, h20, h21, h22, h23, h24⟩ := h; constructor <;> omega
theorem Q8.negX (h : Q8 a b c d p q r s) : Q8 b a c d s r q p := by obtain ⟨h1, h2, h3, h4, h5, h6, h7, h8, h9, h10, h11, h12, h13, h14, h15, h16, h17, h18, h19, h20, h21, h22, h23, h24⟩ := h; constructor <;> omega
theorem Q8.proj0 (h : Q8 a b c d p q r s) {z : Int} (h1 : 2 * z ≤ c) (h2 : -(2 * z) ≤ d) : ∃ u, Ok8 a b c d p q r s u z := by
 obtain ⟨e1, e2, e3, e4, t1, t2, t3, t4, t5, t6, t7, t8, t9, t10, t11, t12, z1, z2, z3, z4, u1, u2, u3, u4⟩ := h
 refine ⟨max (-(b / 2)) (max (z - q) (-s - z)), ?_⟩
 unfold Ok8
 refine ⟨?_, ?_, ?_, ?_, ?_, ?_, ?_, ?_⟩ <;> omega
theorem Q8.proj1 (h : Q8 a b c d p q r s) {z : Int} (h1 : 2 * z ≤ a) (h2 : -(2 * z) ≤ b) : ∃ u, Ok8 a b c d p q r s z u := by
 obtain ⟨u, k⟩ := h.swap.proj0 h1 h2
 unfold Ok8 at *
 exact ⟨u, by omega⟩
theorem Q8.at_p (h : Q8 a b c d p q r s) : ∃ x y, Ok8 a b c d p q r s x y ∧ x - y = p := by
 obtain ⟨e1, e2, e3, e4, t1, t2, t3, t4, t5, t6, t7, t8, t9, t10, t11, t12, z1, z2, z3, z4, u1, u2, u3, u4⟩ := h
 refine ⟨max (-(b / 2)) (max (p - d / 2) ((p - s + 1) / 2)), max (-(b / 2)) (max (p - d / 2) ((p - s + 1) / 2)) - p, ?_, by omega⟩
 unfold Ok8
 refine ⟨?_, ?_, ?_, ?_, ?_, ?_, ?_, ?_⟩ <;> omega
theorem Q8.at_a (h : Q8 a b c d p q r s) : ∃ x y, Ok8 a b c d p q r s x y ∧ 2 * x = a := by
 have h1 := h.ea
 have h2 := h.z1
 obtain ⟨u, k⟩ := h.proj1 (z := a / 2) (by omega) (by omega)
 exact ⟨_, u, k, by omega⟩
theorem Q8.at_b (h : Q8 a b c d p q r s) : ∃ x y, Ok8 a b c d p q r s x y ∧ -(2 * x) = b := by
 obtain ⟨x, y, k, e⟩ := h.negX.at_a
 unfold Ok8 at *
 exact ⟨-x, y, by omega, by omega⟩
theorem Q8.at_c (h : Q8 a b c d p q r s) : ∃ x y, Ok8 a b c d p q r s x y ∧ 2 * y = c := by
 obtain ⟨x, y, k, e⟩ := h.swap.at_a
 unfold Ok8 at *
 exact ⟨y, x, by omega, by omega⟩
theorem Q8.at_d (h : Q8 a b c d p q r s) : ∃ x y, Ok8 a b c d p q r s x y ∧ -(2 * y) = d := by
 obtain ⟨x, y, k, e⟩ := h.swap.at_b
 unfold Ok8 at *
 exact ⟨y, x, by omega, by omega⟩
theorem Q8.at_q (h : Q8 a b c d p q r s) : ∃ x y, Ok8 a b c d p q r s x y ∧ y - x = q := by
 obtain ⟨x, y, k, e⟩ := h.swap.at_p
 unfold Ok8 at *
 exact ⟨y, x, by omega, by omega⟩
theorem Q8.at_r (h : Q8 a b c d p q r s) : ∃ x y, Ok8 a b c d p q r s x y ∧ x + y = r := by
 obtain ⟨x, y, k, e⟩ := h.negY.at_p
 unfold Ok8 at *
 exact ⟨x, -y, by omega, by omega⟩
theorem Q8.at_s (h : Q8 a b c d p q r s) : ∃ x y, Ok8 a b c d p q r s x y ∧ -x - y = s := by
 obtain ⟨x, y, k, e⟩ := h.negX.at_p
 unfold Ok8 at *
 exact ⟨-x, y, by omega, by omega⟩
end
def Fin4 (ys : List Int) : Prop := ∀ i j : Nat, i < 4 → j < 4 → -1000000000000000 ≤ G 4 ys i j ∧ G 4 ys i j ≤ 1000000000000000
theorem all4 {P : Nat → Prop} (h0 : P 0) (h1 : P 1) (h2 : P 2) (h3 : P 3) : ∀ i, i < 4 → P i := fun i hi => by
 obtain rfl | rfl | rfl | rfl : i = 0 ∨ i = 1 ∨ i = 2 ∨ i = 3 := by omega
 ·exact h0
 ·exact h1
 ·exact h2
 ·exact h3
section
variable {ys : List Int} (h : Tight 4 ys) (f : Fin4 ys)
include h f
theorem tri4 {i j k : Nat} (hi : i < 4) (hj : j < 4) (hk : k < 4) : G 4 ys i j ≤ G 4 ys i k + G 4 ys k j := by
 have h1 := h.tri i j k hi hj hk
 have h2 := f i k hi hk
 have h3 := f k j hk hj
 unfold LeS at h1
 omega
theorem str4 {i j : Nat} (hi : i < 4) (hj : j < 4) (hij : i ≠ j) : 2 * G 4 ys i j ≤ G 4 ys i (nx i) + G 4 ys (nx j) j := by
 have h1 := h.str i j hi hj hij
 have h2 := f i (nx i) hi (nxl (by decide) hi)
 have h3 := f (nx j) j (nxl (by decide) hj) hj
 rw [zdY (by omega) (by omega)] at h1
 have h4 : near (G 4 ys i (nx i) + G 4 ys (nx j) j) = G 4 ys i (nx i) + G 4 ys (nx j) j := zeM (by omega) (by omega)
 unfold half at h1
 rw [h4, if_neg (by omega)] at h1
 omega
theorem ev4 {i : Nat} (hi : i < 4) : G 4 ys i (nx i) % 2 = 0 := by
 have h1 := h.ev i hi
 have h2 := f i (nx i) hi (nxl (by decide) hi)
 rcases zet (h.cells.b hi (nxl (by decide) hi)) with h3 | h3 <;> omega
theorem zoN : Q8 (G 4 ys 0 1) (G 4 ys 1 0) (G 4 ys 2 3) (G 4 ys 3 2) (G 4 ys 0 2) (G 4 ys 2 0) (G 4 ys 0 3) (G 4 ys 1 2) := by
 have sy := h.cells.sym
 have e1 : G 4 ys 3 1 = G 4 ys 0 2 := (sy 0 2 (by decide) (by decide)).symm
 have e2 : G 4 ys 1 3 = G 4 ys 2 0 := (sy 2 0 (by decide) (by decide)).symm
 have e3 : G 4 ys 2 1 = G 4 ys 0 3 := (sy 0 3 (by decide) (by decide)).symm
 have e4 : G 4 ys 3 0 = G 4 ys 1 2 := (sy 1 2 (by decide) (by decide)).symm
 have tr := fun (i j k : Nat) (hi : i < 4) (hj : j < 4) (hk : k < 4) => tri4 h f hi hj hk
 have st := fun (i j : Nat) (hi : i < 4) (hj : j < 4) (hij : i ≠ j) => str4 h f hi hj hij
 have dg := fun (i : Nat) (hi : i < 4) => h.cells.d hi
 have d0 := dg 0 (by decide)
 have d2 := dg 2 (by decide)
 refine ⟨ev4 h f (i := 0) (by decide), ev4 h f (i := 1) (by decide), ev4 h f (i := 2) (by decide), ev4 h f (i := 3) (by decide), ?_, ?_, ?_, ?_, ?_, ?_, ?_, ?_, ?_, ?_, ?_, ?_, ?_, ?_, ?_, ?_, ?_, ?_, ?_, ?_⟩
 ·have := tr 0 1 2 (by decide) (by decide) (by decide); omega
 ·have := tr 1 0 2 (by decide) (by decide) (by decide); omega
 ·have := tr 2 3 0 (by decide) (by decide) (by decide); omega
 ·have := tr 3 2 0 (by decide) (by decide) (by decide); omega
 ·have := tr 0 2 1 (by decide) (by decide) (by decide); omega
 ·have := tr 0 2 3 (by decide) (by decide) (by decide); omega
 ·have := tr 2 0 1 (by decide) (by decide) (by decide); omega
 ·have := tr 2 0 3 (by decide) (by decide) (by decide); omega
 ·have := tr 0 3 1 (by decide) (by decide) (by decide); omega
 ·have := tr 0 3 2 (by decide) (by decide) (by decide); omega
 ·have := tr 1 2 0 (by decide) (by decide) (by decide); omega
 ·have := tr 1 2 3 (by decide) (by decide) (by decide); omega
 ·have := tr 0 0 1 (by decide) (by decide) (by decide); omega
 ·have := tr 2 2 3 (by decide) (by decide) (by decide); omega
 ·have := tr 0 0 2 (by decide) (by decide) (by decide); omega
 ·have := tr 0 0 3 (by decide) (by decide) (by decide); omega
 ·have : 2 * G 4 ys 0 2 ≤ G 4 ys 0 1 + G 4 ys 3 2 := st 0 2 (by decide) (by decide) (by decide); omega
 ·have : 2 * G 4 ys 2 0 ≤ G 4 ys 2 3 + G 4 ys 1 0 := st 2 0 (by decide) (by decide) (by decide); omega
 ·have : 2 * G 4 ys 0 3 ≤ G 4 ys 0 1 + G 4 ys 2 3 := st 0 3 (by decide) (by decide) (by decide); omega
 ·have : 2 * G 4 ys 1 2 ≤ G 4 ys 1 0 + G 4 ys 3 2 := st 1 2 (by decide) (by decide) (by decide); omega
omit f in
theorem has8 {x y : Int} (k : Ok8 (G 4 ys 0 1) (G 4 ys 1 0) (G 4 ys 2 3) (G 4 ys 3 2) (G 4 ys 0 2) (G 4 ys 2 0) (G 4 ys 0 3) (G 4 ys 1 2) x y) : HasM 4 ys [x, y] := by
 have sy := h.cells.sym
 have e1 : G 4 ys 3 1 = G 4 ys 0 2 := (sy 0 2 (by decide) (by decide)).symm
 have e2 : G 4 ys 1 3 = G 4 ys 2 0 := (sy 2 0 (by decide) (by decide)).symm
 have e3 : G 4 ys 2 1 = G 4 ys 0 3 := (sy 0 3 (by decide) (by decide)).symm
 have e4 : G 4 ys 3 0 = G 4 ys 1 2 := (sy 1 2 (by decide) (by decide)).symm
 have dg := fun (i : Nat) (hi : i < 4) => h.cells.d hi
 have d0 := dg 0 (by decide)
 have d1 := dg 1 (by decide)
 have d2 := dg 2 (by decide)
 have d3 := dg 3 (by decide)
 have s0 : zaC [x, y] 0 = x := rfl
 have s1 : zaC [x, y] 1 = -x := rfl
 have s2 : zaC [x, y] 2 = y := rfl
 have s3 : zaC [x, y] 3 = -y := rfl
 unfold Ok8 at k
 intro i j hi hj
 revert i
 apply all4 <;> (revert j; apply all4) <;> (refine .inr ?_; unfold apartX; simp only [s0, s1, s2, s3]; omega)
omit h in
theorem zoK {x y : Int} (k : HasM 4 ys [x, y]) : Ok8 (G 4 ys 0 1) (G 4 ys 1 0) (G 4 ys 2 3) (G 4 ys 3 2) (G 4 ys 0 2) (G 4 ys 2 0) (G 4 ys 0 3) (G 4 ys 1 2) x y := by
 have g := fun (i j : Nat) (hi : i < 4) (hj : j < 4) => (show apartX [x, y] i j ≤ G 4 ys i j from by
  have h1 := k i j hi hj
  have h2 := f i j hi hj
  unfold Lets at h1
  omega)
 have s0 : zaC [x, y] 0 = x := rfl
 have s1 : zaC [x, y] 1 = -x := rfl
 have s2 : zaC [x, y] 2 = y := rfl
 have s3 : zaC [x, y] 3 = -y := rfl
 unfold apartX at g
 have g1 := g 0 1 (by decide) (by decide)
 have g2 := g 1 0 (by decide) (by decide)
 have g3 := g 2 3 (by decide) (by decide)
 have g4 := g 3 2 (by decide) (by decide)
 have g5 := g 0 2 (by decide) (by decide)
 have g6 := g 2 0 (by decide) (by decide)
 have g7 := g 0 3 (by decide) (by decide)
 have g8 := g 1 2 (by decide) (by decide)
 simp only [s0, s1, s2, s3] at g1 g2 g3 g4 g5 g6 g7 g8
 unfold Ok8
 omega
theorem zoz : ∀ i j : Nat, i < 4 → j < 4 → ∃ x y, HasM 4 ys [x, y] ∧ apartX [x, y] i j = G 4 ys i j := by
 have Q := zoN h f
 have sy := h.cells.sym
 have e1 : G 4 ys 3 1 = G 4 ys 0 2 := (sy 0 2 (by decide) (by decide)).symm
 have e2 : G 4 ys 1 3 = G 4 ys 2 0 := (sy 2 0 (by decide) (by decide)).symm
 have e3 : G 4 ys 2 1 = G 4 ys 0 3 := (sy 0 3 (by decide) (by decide)).symm
 have e4 : G 4 ys 3 0 = G 4 ys 1 2 := (sy 1 2 (by decide) (by decide)).symm
 have s0 : ∀ x y, zaC [x, y] 0 = x := fun _ _ => rfl
 have s1 : ∀ x y, zaC [x, y] 1 = -x := fun _ _ => rfl
 have s2 : ∀ x y, zaC [x, y] 2 = y := fun _ _ => rfl
 have s3 : ∀ x y, zaC [x, y] 3 = -y := fun _ _ => rfl
 have dg : ∀ i : Nat, i < 4 → ∃ x y, HasM 4 ys [x, y] ∧ apartX [x, y] i i = G 4 ys i i := fun i hi => by
  obtain ⟨x, y, k, _⟩ := Q.at_a
  exact ⟨x, y, has8 h k, by rw [h.cells.d hi]; unfold apartX; omega⟩
 have mk : ∀ {P : Int → Int → Prop} {i j : Nat}, (∃ x y, Ok8 (G 4 ys 0 1) (G 4 ys 1 0) (G 4 ys 2 3) (G 4 ys 3 2) (G 4 ys 0 2) (G 4 ys 2 0) (G 4 ys 0 3) (G 4 ys 1 2) x y ∧ P x y) → (∀ x y, P x y → apartX [x, y] i j = G 4 ys i j) → ∃ x y, HasM 4 ys [x, y] ∧ apartX [x, y] i j = G 4 ys i j := fun ⟨x, y, k, e⟩ w => ⟨x, y, has8 h k, w x y e⟩
 intro i j hi hj
 revert i
 apply all4 <;> (revert j; apply all4)
 ·exact dg 0 (by decide)
 ·exact mk Q.at_a fun x y e => by unfold apartX; simp only [s0, s1]; omega
 ·exact mk Q.at_p fun x y e => by unfold apartX; simp only [s0, s2]; omega
 ·exact mk Q.at_r fun x y e => by unfold apartX; simp only [s0, s3]; omega
 ·exact mk Q.at_b fun x y e => by unfold apartX; simp only [s0, s1]; omega
 ·exact dg 1 (by decide)
 ·exact mk Q.at_s fun x y e => by unfold apartX; simp only [s1, s2]; omega
 ·exact mk Q.at_q fun x y e => by unfold apartX; simp only [s1, s3]; omega
 ·exact mk Q.at_q fun x y e => by unfold apartX; simp only [s0, s2]; omega
 ·exact mk Q.at_r fun x y e => by unfold apartX; simp only [s1, s2]; omega
 ·exact dg 2 (by decide)
 ·exact mk Q.at_c fun x y e => by unfold apartX; simp only [s2, s3]; omega
 ·exact mk Q.at_s fun x y e => by unfold apartX; simp only [s0, s3]; omega
 ·exact mk Q.at_p fun x y e => by unfold apartX; simp only [s1, s3]; omega
 ·exact mk Q.at_d fun x y e => by unfold apartX; simp only [s2, s3]; omega
 ·exact dg 3 (by decide)
end
end
end Go.Proofs.YtnmpgijiimglcaaGreat
