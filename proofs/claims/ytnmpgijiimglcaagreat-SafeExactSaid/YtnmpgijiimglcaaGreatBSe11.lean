import Derived.Test.YtnmpgijiimglcaaGreatBSe10
import Derived.Test.YtnmpgijiimglcaaGreatBSe02
import Derived.Deep.OwnRows
import Derived.Test.YtnmpgijiimglcaaGreatBSe08
import Derived.IntWalk
import Derived.Laws.EntriesVeiled
namespace Go.Proofs.YtnmpgijiimglcaaGreat
set_option maxRecDepth 100000
set_option maxHeartbeats 8000000
section
open Go.RowKit
theorem zc2 (N i j : Nat) (v : Int) (m : List Int) : zcQ N i j v m = min (G N m i j) (near v) := by
 unfold zcQ G; split <;> omega
theorem zjA {N : Nat} (hN : N % 2 = 0) {m : List Int} (hl : m.length = N * N) {i j : Nat} (hi : i < N) (hj : j < N) (v : Int) {a b : Nat} (_ha : a < N) (hb : b < N) :
  G N (boundM N i j v m) a b = if (a = i ∧ b = j) ∨ (a = nx j ∧ b = nx i) then min (G N m i j) (near v) else G N m a b := by
 unfold boundM
 rw [zd3 (by rw [List.length_set]; exact hl) (nxl hN hj) (nxl hN hi) _ hb, zd3 hl hi hj _ hb, zc2]
 by_cases h1 : a = nx j ∧ b = nx i
 ·rw [if_pos h1, if_pos (.inr h1)]
 ·rw [if_neg h1]
  by_cases h2 : a = i ∧ b = j
  ·rw [if_pos h2, if_pos (.inl h2)]
  ·rw [if_neg h2, if_neg (fun h => h.elim h2 h1)]
theorem zfh {N : Nat} (hN : N % 2 = 0) {m : List Int} (h : Cells N m) {i j : Nat} (hi : i < N) (hj : j < N) (hij : i ≠ j) (v : Int) : Cells N (boundM N i j v m) := by
 have g := fun (a b : Nat) (ha : a < N) (hb : b < N) => zjA hN h.len hi hj v (a := a) (b := b) ha hb
 refine ⟨by rw [zci]; exact h.len, fun a b ha hb => ?_, fun a ha => ?_, fun a b ha hb => ?_⟩
 ·show zaq (G N _ a b) = true
  rw [g a b ha hb]
  split
  ·exact zaF (h.bd i j hi hj) (zcf _)
  ·exact h.bd a b ha hb
 ·show G N _ a a = 0
  rw [g a a ha ha, if_neg]
  ·exact h.diag a ha
  ·rintro (⟨h1, h2⟩ | ⟨h1, h2⟩)
   ·exact hij (h1.symm.trans h2)
   ·exact hij (zcK (h2.symm.trans h1))
 ·show G N _ a b = G N _ (nx b) (nx a)
  rw [g a b ha hb, g (nx b) (nx a) (nxl hN hb) (nxl hN ha)]
  have e : ((a = i ∧ b = j) ∨ (a = nx j ∧ b = nx i)) ↔ ((nx b = i ∧ nx a = j) ∨ (nx b = nx j ∧ nx a = nx i)) := by
   constructor
   ·rintro (⟨rfl, rfl⟩ | ⟨rfl, rfl⟩)
    ·exact .inr ⟨rfl, rfl⟩
    ·exact .inl ⟨zcs _, zcs _⟩
   ·rintro (⟨rfl, rfl⟩ | ⟨h1, h2⟩)
    ·exact .inr ⟨(zcs _).symm, (zcs _).symm⟩
    ·exact .inl ⟨zcK h2, zcK h1⟩
  by_cases c : (a = i ∧ b = j) ∨ (a = nx j ∧ b = nx i)
  ·rw [if_pos c, if_pos (e.1 c)]
  ·rw [if_neg c, if_neg (fun q => c (e.2 q))]
   exact h.mir a b ha hb
theorem zfO {N L : Nat} (hL : L = N * N) (f : Nat → Int) {a b : Nat} (ha : a < N) (hb : b < N) : G N ((List.range L).map f) a b = f (a * N + b) := by
 have hlt : a * N + b < L := by rw [hL]; exact zko ha hb
 unfold G gI
 rw [Int.toNat_natCast]
 simp [List.getD, hlt]
theorem zdE {N a b : Nat} (hb : b < N) : (a * N + b) / N = a := by
 rw [Nat.add_comm, Nat.add_mul_div_right _ _ (by omega), Nat.div_eq_of_lt hb, Nat.zero_add]
theorem zdH {N a b : Nat} (hb : b < N) : (a * N + b) % N = b := by
 rw [Nat.add_comm, Nat.add_mul_mod_self_right, Nat.mod_eq_of_lt hb]
theorem zeN (a : Nat) : nx a / 2 = a / 2 := by unfold nx; split <;> omega
theorem zeU {N v : Nat} {m : List Int} (hl : m.length = N * N) {a b : Nat} (ha : a < N) (hb : b < N) : G N (forgetM N v m) a b = if a ≠ b ∧ (a / 2 = v ∨ b / 2 = v) then 9223372036854775807 else G N m a b := by
 unfold forgetM
 rw [zfO hl _ ha hb]
 unfold zle
 rw [zdE hb, zdH hb]
 by_cases h : a ≠ b ∧ (a / 2 = v ∨ b / 2 = v)
 ·rw [if_pos h, if_pos (by simpa using h)]
 ·rw [if_neg h, if_neg (by simpa using h)]; rfl
theorem zcy (N v : Nat) (m : List Int) : (forgetM N v m).length = m.length := by simp [forgetM]
theorem zev {N v : Nat} (hN : N % 2 = 0) {m : List Int} (h : Cells N m) : Cells N (forgetM N v m) := by
 have g := fun (a b : Nat) (ha : a < N) (hb : b < N) => zeU (v := v) h.len (a := a) (b := b) ha hb
 refine ⟨by rw [zcy]; exact h.len, fun a b ha hb => ?_, fun a ha => ?_, fun a b ha hb => ?_⟩
 ·show zaq (G N _ a b) = true
  rw [g a b ha hb]
  split
  ·decide
  ·exact h.bd a b ha hb
 ·show G N _ a a = 0
  rw [g a a ha ha, if_neg (fun q => q.1 rfl)]
  exact h.diag a ha
 ·show G N _ a b = G N _ (nx b) (nx a)
  rw [g a b ha hb, g (nx b) (nx a) (nxl hN hb) (nxl hN ha), zeN, zeN]
  by_cases c : a ≠ b ∧ (a / 2 = v ∨ b / 2 = v)
  ·rw [if_pos c, if_pos ⟨fun e => c.1 (zcK e).symm, c.2.symm⟩]
  ·rw [if_neg c, if_neg (fun q => c ⟨fun e => q.1 (by rw [e]), q.2.symm⟩)]
   exact h.mir a b ha hb
theorem zkj (dst : Nat) (k : Int) (i : Nat) : byK dst k (nx i) = -byK dst k i := by
 unfold byK
 rw [zeN]
 by_cases h : i / 2 = dst
 ·rw [if_pos h, if_pos h]
  unfold nx
  by_cases e : i % 2 = 0
  ·rw [if_pos e, if_pos e, if_neg (by omega)]
  ·rw [if_neg e, if_neg e, if_pos (by omega), Int.neg_neg]
 ·rw [if_neg h, if_neg h]; rfl
theorem zjX {N dst : Nat} {k : Int} {m : List Int} (hl : m.length = N * N) {a b : Nat} (ha : a < N) (hb : b < N) :
  G N (zbJ N dst k m) a b = if a ≠ b ∧ G N m a b ≠ 9223372036854775807 then plus (G N m a b) (byK dst k a - byK dst k b) else G N m a b := by
 unfold zbJ
 rw [zfO hl _ ha hb, zdE hb, zdH hb]
 rfl
theorem zee (N dst : Nat) (k : Int) (m : List Int) : (zbJ N dst k m).length = m.length := by simp [zbJ]
theorem ze4 {N dst : Nat} {k : Int} (hN : N % 2 = 0) {m : List Int} (h : Cells N m) : Cells N (zbJ N dst k m) := by
 have g := fun (a b : Nat) (ha : a < N) (hb : b < N) => zjX (dst := dst) (k := k) h.len (a := a) (b := b) ha hb
 refine ⟨by rw [zee]; exact h.len, fun a b ha hb => ?_, fun a ha => ?_, fun a b ha hb => ?_⟩
 ·show zaq (G N _ a b) = true
  rw [g a b ha hb]
  split
  ·exact zbz _ _
  ·exact h.bd a b ha hb
 ·show G N _ a a = 0
  rw [g a a ha ha, if_neg (fun q => q.1 rfl)]
  exact h.diag a ha
 ·show G N _ a b = G N _ (nx b) (nx a)
  have e : G N m (nx b) (nx a) = G N m a b := (h.mir a b ha hb).symm
  rw [g a b ha hb, g (nx b) (nx a) (nxl hN hb) (nxl hN ha), zkj, zkj, e]
  by_cases c : a ≠ b ∧ G N m a b ≠ 9223372036854775807
  ·rw [if_pos c, if_pos ⟨fun q => c.1 (zcK q).symm, c.2⟩, show -byK dst k b - -byK dst k a = byK dst k a - byK dst k b by omega]
  ·rw [if_neg c, if_neg (fun q => c ⟨fun e => q.1 (by rw [e]), q.2⟩)]
theorem zb3 {N v i : Nat} (hN : N % 2 = 0) (hi : i < N) : otherV v i < N := by unfold otherV; split; exact nxl hN hi; exact hi
theorem ze0 (v i : Nat) : otherV v (nx i) = nx (otherV v i) := by
 unfold otherV
 rw [zeN]
 split <;> rfl
theorem zks {N v : Nat} {m : List Int} (hl : m.length = N * N) {a b : Nat} (ha : a < N) (hb : b < N) : G N (zc3 N v m) a b = G N m (otherV v a) (otherV v b) := by
 unfold zc3
 rw [zfO hl _ ha hb, zdE hb, zdH hb]
theorem zeV (N v : Nat) (m : List Int) : (zc3 N v m).length = m.length := by simp [zc3]
theorem zfx {N v : Nat} (hN : N % 2 = 0) {m : List Int} (h : Cells N m) : Cells N (zc3 N v m) := by
 have g := fun (a b : Nat) (ha : a < N) (hb : b < N) => zks (v := v) h.len (a := a) (b := b) ha hb
 refine ⟨by rw [zeV]; exact h.len, fun a b ha hb => ?_, fun a ha => ?_, fun a b ha hb => ?_⟩
 ·show zaq (G N _ a b) = true
  rw [g a b ha hb]
  exact h.bd _ _ (zb3 hN ha) (zb3 hN hb)
 ·show G N _ a a = 0
  rw [g a a ha ha]
  exact h.diag _ (zb3 hN ha)
 ·show G N _ a b = G N _ (nx b) (nx a)
  rw [g a b ha hb, g (nx b) (nx a) (nxl hN hb) (nxl hN ha), ze0, ze0]
  exact h.mir _ _ (zb3 hN ha) (zb3 hN hb)
structure OkO (n : Int) (o : O) : Prop where
 n_ : o.n = n
 ok : check o = 0
theorem zhv {n : Int} (h0 : 0 ≤ n) (h1 : n ≤ 64) : OkO n (emptyO n) := ⟨rfl, zdq ⟨h0, h1⟩⟩
section
variable {n : Int} {o : O}
theorem OkO.rng (h : OkO n o) : 0 ≤ n ∧ n ≤ 64 := by
 obtain ⟨h0, h1, _, _⟩ := zas h.ok
 rw [h.n_] at h0 h1
 exact ⟨h0, h1⟩
theorem OkO.empty (h : OkO n o) : OkO n (emptyO n) := zhv h.rng.1 h.rng.2
theorem OkO.form (h : OkO n o) : o = emptyO n ∨ ∃ (N : Nat) (m : List Int), (N : Int) = 2 * n ∧ N ≤ 128 ∧ o = ⟨n, false, m⟩ ∧ Cells N m := by
 obtain ⟨h0, h1, he, _⟩ := zas h.ok
 have hn := h.n_
 have hc := h.ok
 obtain ⟨n', e, m⟩ := o
 dsimp only at *
 subst hn
 cases e with
 | true =>
  have := he rfl
  subst this
  exact .inl rfl
 | false =>
  refine .inr ⟨(2 * n').toNat, m, by omega, by omega, rfl, zaz (by omega) hc⟩
theorem OkO.of_cells {N : Nat} {m : List Int} (hN : (N : Int) = 2 * n) (hn : N ≤ 128) (h : Cells N m) : OkO n ⟨n, false, m⟩ := ⟨rfl, zdv hN hn h⟩
theorem OkO.close (h : OkO n o) : OkO n (closeO o) := ⟨(zj0 o).trans h.n_, ze2 h.ok⟩
theorem OkO.with_ (h : OkO n o) {i j : Nat} (hi : (i : Int) < 2 * n) (hj : (j : Int) < 2 * n) (c : Int) : OkO n (withO o i j c) := by
 rcases h.form with rfl | ⟨N, m, hN, hn, rfl, hc⟩
 ·exact h
 ·unfold withO
  rw [if_neg (by simp)]
  split
  ·split
   ·exact h.empty
   ·exact h
  ·rename_i hij
   dsimp only
   rw [show (2 * n).toNat = N by omega]
   exact OkO.of_cells hN hn (zfh (by omega) hc (by omega) (by omega) hij c)
theorem OkO.hi_ (h : OkO n o) {v : Nat} (hv : (v : Int) < n) (r : Rg) : OkO n (hiO o v r) := by
 unfold hiO
 split
 ·exact h.with_ (by omega) (by omega) _
 ·exact h
theorem OkO.ranged (h : OkO n o) {v : Nat} (hv : (v : Int) < n) (r : Rg) : OkO n (rangedO o v r) := by
 unfold rangedO
 split
 ·exact (h.hi_ hv r).with_ (by omega) (by omega) _
 ·exact h.hi_ hv r
theorem OkO.forget (h : OkO n o) (v : Nat) : OkO n (forgetO o v) := by
 have hc := h.close
 unfold forgetO
 split
 ·exact hc
 ·rename_i he
  rcases hc.form with e | ⟨N, m, hN, hn, e, hcs⟩
  ·rw [e] at he; exact absurd rfl he
  ·rw [e, h.n_]
   dsimp only
   rw [show (2 * n).toNat = N by omega]
   exact OkO.of_cells hN hn (zev (by omega) hcs)
theorem OkO.atMost (h : OkO n o) {av an bv bn : Int} {s : Bool} (ha : av < n) (hb : bv < n) (hab : 0 ≤ av ∨ 0 ≤ bv) : OkO n (atMostO o av an bv bn s) := by
 have h0 := h.empty
 unfold atMostO
 rw [h.n_]
 split
 ·split
  ·split
   ·split
    ·exact h0
    ·exact h
   ·exact h.with_ (by omega) (by omega) _
  ·split
   ·exact h0
   ·exact h.ranged (by omega) _
 ·split
  ·exact h0
  ·exact h.ranged (by omega) _
theorem OkO.pair (h : OkO n o) {i j : Nat} (hi : (i : Int) < 2 * n) (hj : (j : Int) < 2 * n) (r : Rg) : OkO n (pairO o i j r) := by
 unfold pairO
 dsimp only
 split
 ·split
  ·exact (h.with_ hi hj _).with_ hj hi _
  ·exact h.with_ hj hi _
 ·split
  ·exact h.with_ hi hj _
  ·exact h
end
end
section

end
section
open Go.RowKit
structure Edg where
 fr : Int
 te : Int
 kd : Int
 dst : Int
 arr : Int
 op : Int
 av : Int
 an : Int
 bv : Int
 bn : Int
def Edg.cells (e : Edg) : List Value := [.int .i64 e.fr, .int .i64 e.te, .int .i64 e.kd, .int .i64 e.dst, .int .i64 e.arr, .int .i64 e.op, .int .i64 e.av, .int .i64 e.an, .int .i64 e.bv, .int .i64 e.bn]
def Edg.val (e : Edg) : Value := .agg #[e.fr, e.te, e.kd, e.dst, e.arr, e.op, e.av, e.an, e.bv, e.bn]
def wDst (k : Int) : Bool := decide (2 ≤ k ∧ k ≤ 10)
def wA (k : Int) : Bool := decide ((2 ≤ k ∧ k ≤ 8) ∨ (10 ≤ k ∧ k ≤ 12))
def wB (k : Int) : Bool := decide ((4 ≤ k ∧ k ≤ 8) ∨ (11 ≤ k ∧ k ≤ 12))
def wArr (k : Int) : Bool := decide (k = 10 ∨ k = 11)
def wOp (k : Int) : Bool := decide (k = 12)
def opdOk (n v m : Int) : Bool := decide (v = -1 ∨ (0 ≤ v ∧ v < n ∧ m = 0))
def zaD (v m : Int) : Bool := decide (v = -1 ∧ m = 0)
def rightE (n na : Int) (e : Edg) : Bool :=
 decide (1 ≤ e.kd ∧ e.kd ≤ 14) && (bif wDst e.kd then decide (0 ≤ e.dst ∧ e.dst < n) else decide (e.dst = -1)) && (bif wArr e.kd then decide (0 ≤ e.arr ∧ e.arr < na) else decide (e.arr = -1)) &&
 (bif wOp e.kd then decide (1 ≤ e.op ∧ e.op ≤ 6) else decide (e.op = 0)) && (bif wA e.kd then opdOk n e.av e.an else zaD e.av e.an) && (bif wB e.kd then opdOk n e.bv e.bn else zaD e.bv e.bn)
end
section
open Go.RowKit
def zbS (c : O) (e : Edg) : O :=
 if e.kd = 14 then emptyO c.n
 else if e.kd = 9 ∨ e.kd = 10 then forgetO c e.dst.toNat
 else if e.kd = 12 then zdu c e.op e.av e.an e.bv e.bn
 else if e.kd = 2 then (if e.av < 0 then giveO c e.dst.toNat (oneR e.an) else if e.av = e.dst then c else linkO c (2 * e.dst.toNat) (2 * e.av.toNat) 0)
 else if e.kd = 3 then (if e.av < 0 then zaO c 3 e.dst.toNat e.an e.bn else if e.av = e.dst then ze6 c e.dst.toNat else linkO c (2 * e.dst.toNat) (2 * e.av.toNat + 1) 0)
 else if e.kd = 4 ∨ e.kd = 5 then (if e.av < 0 ∧ e.bv < 0 then zaO c e.kd e.dst.toNat e.an e.bn else zkU c (decide (e.kd = 5)) e.dst.toNat e.av e.an e.bv e.bn)
 else if e.kd = 6 ∨ e.kd = 7 ∨ e.kd = 8 then (if e.av < 0 ∧ e.bv < 0 then zaO c e.kd e.dst.toNat e.an e.bn else productsO c e.kd e.dst.toNat e.av e.an e.bv e.bn)
 else c
def transO (o : O) (e : Edg) : O := if (closeO o).e then closeO o else zbS (closeO o) e
def rightT (n : Int) (e : Edg) : Bool := rightE n (if 0 ≤ e.arr then 1 else 0) { e with arr := if 0 ≤ e.arr then 0 else e.arr }
def transErr (o : O) (e : Edg) : Int := if check o ≠ 0 then check o else if rightT o.n e then 0 else 160
def transAns (o : O) (e : Edg) : O := if transErr o e = 0 then transO o e else ⟨0, false, []⟩
section
variable {n : Int} {o : O}
theorem OkO.unlikeVars (h : OkO n o) {av an bv bn : Int} (h0 : 0 ≤ av) (h1 : 0 ≤ bv) (ha : av < n) (hb : bv < n) : OkO n (zbu o av an bv bn) := by
 unfold zbu
 split
 ·rw [h.n_]; exact h.empty
 ·dsimp only
  have h2 : OkO n (if G (2 * o.n).toNat o.m (2 * av.toNat) (2 * bv.toNat) = 0 then atMostO o av an bv bn true else o) := by
   split
   ·exact h.atMost ha hb (.inl h0)
   ·exact h
  split
  ·exact h2.atMost hb ha (.inl h1)
  ·exact h2
theorem OkO.unlikeNum (h : OkO n o) {av an bv bn : Int} (h0 : 0 ≤ av) (ha : av < n) (hb : bv < n) : OkO n (unlikeNumO o av an bv bn) := by
 unfold unlikeNumO
 dsimp only
 have h2 : OkO n (if (varR (2 * o.n).toNat o.m av.toNat).hh && decide ((varR (2 * o.n).toNat o.m av.toNat).hi = bn) then atMostO o av an bv bn true else o) := by
  split
  ·exact h.atMost ha hb (.inl h0)
  ·exact h
 split
 ·exact h2.atMost hb ha (.inr h0)
 ·exact h2
theorem OkO.unlike (h : OkO n o) {av an bv bn : Int} (ha : av < n) (hb : bv < n) (hab : 0 ≤ av ∨ 0 ≤ bv) : OkO n (unlikeO o av an bv bn) := by
 unfold unlikeO
 split
 ·rw [if_neg (by omega)]
  exact h.unlikeNum (by omega) hb ha
 ·split
  ·exact h.unlikeVars (by omega) (by omega) ha hb
  ·exact h.unlikeNum (by omega) ha hb
end
end
section
open Go.RowKit
attribute [local go_sem ↓] Go.wp_at_zero Go.wp_at_succ
theorem ret2 {a b : Int} {p : Int × Int} (h : p = (a, b)) : Ending.returned (.tuple #[a, b]) = .returned (zce p) := by rw [h]; rfl
def zaE (p : Int × Int) (w : World) (e : Ending) (w' : World) : Prop := e = .returned (zce p) ∧ w = w'
def zc0 (p : Int) (w : World) (e : Ending) (w' : World) : Prop := e = .returned (.int .i64 p) ∧ w = w'
def zbk (p : Bool) (w : World) (e : Ending) (w' : World) : Prop := e = .returned (.bool p) ∧ w = w'
def I64 (a : Int) : Prop := -9223372036854775808 ≤ a ∧ a ≤ 9223372036854775807
theorem prok {a b : Int} {w : World} {p : Int × Int} (h : p = (a, b)) : zaE p w (.returned (.tuple #[a, b])) w := ⟨ret2 h, rfl⟩
theorem zdk {a : Int} (h : -9223372036854775808 ≤ a ∧ a ≤ 9223372036854775807) : fit a = (a, 0) := by unfold fit inI; rw [if_pos (by rw [decide_eq_true_eq]; exact h)]
theorem zbt {a : Int} (h : a < -9223372036854775808 ∨ 9223372036854775807 < a) : fit a = (0, 1) := by unfold fit inI; rw [if_neg (by rw [decide_eq_true_eq]; omega)]
theorem zep {a b : Int} (ha : -9223372036854775808 ≤ a ∧ a ≤ 9223372036854775807) (hne : ¬ b = 0) (hov : (a == -9223372036854775808 && b == -1) = false) : -9223372036854775808 ≤ a.tdiv b ∧ a.tdiv b ≤ 9223372036854775807 := by
 have h : (a.tdiv b).natAbs = a.natAbs / b.natAbs := Int.natAbs_tdiv a b
 have h1 : a.natAbs / b.natAbs ≤ a.natAbs := Nat.div_le_self _ _
 by_cases e : a = -9223372036854775808
 ·subst e
  have hb : b ≠ -1 := by rintro rfl; simp at hov
  by_cases e1 : b = 1
  ·subst e1; simp
  ·have h2 : (-9223372036854775808 : Int).natAbs / b.natAbs ≤ (-9223372036854775808 : Int).natAbs / 2 := Nat.div_le_div_left (by omega) (by omega)
   have h3 : (-9223372036854775808 : Int).natAbs / 2 = 4611686018427387904 := by decide
   omega
 ·omega
theorem zkT {a b : Int} (ha : -9223372036854775808 ≤ a ∧ a ≤ 9223372036854775807) (hne : ¬ b = 0) (hov : (a == -9223372036854775808 && b == -1) = false) : a.tdiv b = wrap64 (a.tdiv b) := (IntWalk.wrap64_in _ (zep ha hne hov)).symm
theorem zhm {a b : Int} (ha : -9223372036854775808 ≤ a ∧ a ≤ 9223372036854775807) : -9223372036854775808 ≤ a.tmod b ∧ a.tmod b ≤ 9223372036854775807 := by
 have h : (a.tmod b).natAbs = a.natAbs % b.natAbs := Int.natAbs_tmod a b
 have h1 : a.natAbs % b.natAbs ≤ a.natAbs := Nat.mod_le _ _
 rcases Int.le_total 0 a with h0 | h0
 ·have := Int.tmod_nonneg b h0; omega
 ·have := Int.tmod_nonneg b (show 0 ≤ -a by omega)
  rw [Int.neg_tmod] at this
  omega
theorem zlN {a b : Int} (ha : -9223372036854775808 ≤ a ∧ a ≤ 9223372036854775807) (hne : ¬ b = 0) (hov : (a == -9223372036854775808 && b == -1) = false) : a.tmod b = wrap64 (a - wrap64 (wrap64 (a.tdiv b) * b)) := by
 have hm := zhm (b := b) ha
 have e : a.tdiv b * b = a - a.tmod b := by have := Int.mul_tdiv_add_tmod a b; rw [Int.mul_comm] at this; omega
 rw [← zkT ha hne hov, e, IntWalk.wrap64_in (a - a.tmod b) ?_, show a - (a - a.tmod b) = a.tmod b by omega, IntWalk.wrap64_in _ hm]
 rcases Int.le_total 0 a with h0 | h0
 ·have h1 := Int.tmod_nonneg b h0
  have h : (a.tmod b).natAbs = a.natAbs % b.natAbs := Int.natAbs_tmod a b
  have h2 : a.natAbs % b.natAbs ≤ a.natAbs := Nat.mod_le _ _
  omega
 ·have h1 := Int.tmod_nonneg b (show 0 ≤ -a by omega)
  rw [Int.neg_tmod] at h1
  have h : (a.tmod b).natAbs = a.natAbs % b.natAbs := Int.natAbs_tmod a b
  have h2 : a.natAbs % b.natAbs ≤ a.natAbs := Nat.mod_le _ _
  omega
theorem zb6 {a : Int} (h : -9223372036854775808 ≤ a ∧ a ≤ 9223372036854775807) : fit a = (wrap64 a, 0) := by rw [IntWalk.wrap64_in a h]; exact zdk h
theorem zeI (a b : Int) (w : World) (ha : I64 a) (hb : I64 b) : Calls Tryz.prog 101 #[a, b] w (zaE (addW a b) w) := by
 have HA := hid ha
 have HB := hid hb
 clear ha hb
 cases t1 : decide (a < 0) <;> cases t2 : decide (b < 0) <;> cases t3 : decide (wrap64 (a + b) < 0)
 all_goals
  go_enter Tryz.func101, Tryz.ntmps101
  go_wp2
  go_ret2
  have ha := HA.out
  have hb := HB.out
  unfold I64 at ha hb
  simp only [decide_eq_true_eq, decide_eq_false_iff_not] at t1 t2 t3
  unfold wrap64 at t3
  refine prok ?_
  unfold addW
  first | exact zb6 (by omega) | exact zbt (by omega)
theorem zcl (a b : Int) (w : World) (ha : I64 a) (hb : I64 b) : Calls Tryz.prog 102 #[a, b] w (zaE (subW a b) w) := by
 have HA := hid ha
 have HB := hid hb
 clear ha hb
 cases t1 : decide (a < 0) <;> cases t2 : decide (b < 0) <;> cases t3 : decide (wrap64 (a - b) < 0)
 all_goals
  go_enter Tryz.func102, Tryz.ntmps102
  go_wp2
  go_ret2
  have ha := HA.out
  have hb := HB.out
  unfold I64 at ha hb
  simp only [decide_eq_true_eq, decide_eq_false_iff_not] at t1 t2 t3
  unfold wrap64 at t3
  refine prok ?_
  unfold subW
  first | exact zb6 (by omega) | exact zbt (by omega)
theorem zeE (a : Int) (w : World) (ha : I64 a) : Calls Tryz.prog 198 #[a] w (zaE (negW a) w) := by
 have HC := hid (zcl 0 a w (by unfold I64; omega) ha)
 rw [show subW 0 a = negW a from by unfold subW negW; rw [Int.zero_sub]] at HC
 generalize negW a = p at *
 go_enter Tryz.func198, Tryz.ntmps198
 go_wp2_with fail
 refine HC.out.mono ?_
 rintro e w' ⟨rfl, rfl⟩
 obtain ⟨p, q⟩ := p
 unfold zce
 go_wp2
 go_ret2
 exact prok rfl
theorem zdh (a b : Int) (w : World) : Calls Tryz.prog 247 #[a, b] w (zc0 (divErr a b) w) := by
 cases t1 : (b == 0) <;> cases t2 : (a == -9223372036854775808) <;> cases t3 : (b == -1)
 all_goals
  go_enter Tryz.func247, Tryz.ntmps247
  go_wp2
  go_ret
  simp only [beq_iff_eq, beq_eq_false_iff_ne] at t1 t2 t3
  unfold divErr
  first | (rw [if_pos t1]; exact ⟨rfl, rfl⟩) | (rw [if_neg t1, if_pos ⟨t2, t3⟩]; exact ⟨rfl, rfl⟩) | (rw [if_neg t1, if_neg (fun h => t2 h.1)]; exact ⟨rfl, rfl⟩) | (rw [if_neg t1, if_neg (fun h => t3 h.2)]; exact ⟨rfl, rfl⟩)
theorem zdf (a b : Int) (w : World) : Calls Tryz.prog 183 #[a, b] w (zc0 (divErr a b) w) := by
 cases t1 : (b == 0) <;> cases t2 : (a == -9223372036854775808) <;> cases t3 : (b == -1)
 all_goals
  go_enter Tryz.func183, Tryz.ntmps183
  go_wp2
  go_ret
  simp only [beq_iff_eq, beq_eq_false_iff_ne] at t1 t2 t3
  unfold divErr
  first | (rw [if_pos t1]; exact ⟨rfl, rfl⟩) | (rw [if_neg t1, if_pos ⟨t2, t3⟩]; exact ⟨rfl, rfl⟩) | (rw [if_neg t1, if_neg (fun h => t2 h.1)]; exact ⟨rfl, rfl⟩) | (rw [if_neg t1, if_neg (fun h => t3 h.2)]; exact ⟨rfl, rfl⟩)
theorem zfT (a b : Int) (w : World) (ha : I64 a) (hb : I64 b) : Calls Tryz.prog 232 #[a, b] w (zaE (divW a b) w) := by
 have HD := hid (zdh a b w)
 have HA := hid ha
 have HB := hid hb
 clear ha hb
 cases t : (divErr a b != 0)
 ·have e0 : divErr a b = 0 := by simpa using t
  have HW : Hid (divW a b = (a.tdiv b, 0)) := hid (by unfold divW; rw [if_pos e0])
  have a0 : (b == 0) = false := by
   rw [beq_eq_false_iff_ne]; intro h; subst h; unfold divErr at e0; simp at e0
  have hov : (a == -9223372036854775808 && b == -1) = false := by
   rw [Bool.eq_false_iff]; intro h
   simp only [Bool.and_eq_true, beq_iff_eq] at h
   unfold divErr at e0; rw [if_neg (by omega), if_pos h] at e0; cases e0
  rw [e0] at HD
  clear e0 t
  have hne : ¬ b = 0 := by simpa using a0
  go_enter Tryz.func232, Tryz.ntmps232
  go_wp2_with fail
  refine HD.out.mono ?_
  rintro e w' ⟨rfl, rfl⟩
  go_wp2
  go_ret2
  refine prok ?_
  exact HW.out.trans (congrArg (fun x => (x, (0 : Int))) (zkT HA.out hne hov))
 ·have HW : Hid (divW a b = (0, divErr a b)) := hid (by unfold divW; rw [if_neg (by simpa using t)])
  generalize divErr a b = er at *
  go_enter Tryz.func232, Tryz.ntmps232
  go_wp2_with fail
  refine HD.out.mono ?_
  rintro e w' ⟨rfl, rfl⟩
  go_wp2
  go_ret2
  exact prok HW.out
theorem zjp (a b : Int) (w : World) (ha : I64 a) (hb : I64 b) : Calls Tryz.prog 234 #[a, b] w (zaE (remW a b) w) := by
 have HD := hid (zdh a b w)
 have HA := hid ha
 have HB := hid hb
 clear ha hb
 cases t : (divErr a b != 0)
 ·have e0 : divErr a b = 0 := by simpa using t
  have HW : Hid (remW a b = (a.tmod b, 0)) := hid (by unfold remW; rw [if_pos e0])
  have a0 : (b == 0) = false := by
   rw [beq_eq_false_iff_ne]; intro h; subst h; unfold divErr at e0; simp at e0
  have hov : (a == -9223372036854775808 && b == -1) = false := by
   rw [Bool.eq_false_iff]; intro h
   simp only [Bool.and_eq_true, beq_iff_eq] at h
   unfold divErr at e0; rw [if_neg (by omega), if_pos h] at e0; cases e0
  rw [e0] at HD
  clear e0 t
  have hne : ¬ b = 0 := by simpa using a0
  go_enter Tryz.func234, Tryz.ntmps234
  go_wp2_with fail
  refine HD.out.mono ?_
  rintro e w' ⟨rfl, rfl⟩
  go_wp2
  go_ret2
  refine prok ?_
  exact HW.out
 ·have HW : Hid (remW a b = (0, divErr a b)) := hid (by unfold remW; rw [if_neg (by simpa using t)])
  generalize divErr a b = er at *
  go_enter Tryz.func234, Tryz.ntmps234
  go_wp2_with fail
  refine HD.out.mono ?_
  rintro e w' ⟨rfl, rfl⟩
  go_wp2
  go_ret2
  exact prok HW.out
theorem zj6 (a b : Int) (w : World) (ha : I64 a) (hb : I64 b) : Calls Tryz.prog 111 #[a, b] w (zaE (divW a b) w) := by
 have HD := hid (zdf a b w)
 have HA := hid ha
 have HB := hid hb
 clear ha hb
 cases t : (divErr a b != 0)
 ·have e0 : divErr a b = 0 := by simpa using t
  have HW : Hid (divW a b = (a.tdiv b, 0)) := hid (by unfold divW; rw [if_pos e0])
  have a0 : (b == 0) = false := by
   rw [beq_eq_false_iff_ne]; intro h; subst h; unfold divErr at e0; simp at e0
  have hov : (a == -9223372036854775808 && b == -1) = false := by
   rw [Bool.eq_false_iff]; intro h
   simp only [Bool.and_eq_true, beq_iff_eq] at h
   unfold divErr at e0; rw [if_neg (by omega), if_pos h] at e0; cases e0
  rw [e0] at HD
  clear e0 t
  have hne : ¬ b = 0 := by simpa using a0
  go_enter Tryz.func111, Tryz.ntmps111
  go_wp2_with fail
  refine HD.out.mono ?_
  rintro e w' ⟨rfl, rfl⟩
  go_wp2
  go_ret2
  refine prok ?_
  exact HW.out.trans (congrArg (fun x => (x, (0 : Int))) (zkT HA.out hne hov))
 ·have HW : Hid (divW a b = (0, divErr a b)) := hid (by unfold divW; rw [if_neg (by simpa using t)])
  generalize divErr a b = er at *
  go_enter Tryz.func111, Tryz.ntmps111
  go_wp2_with fail
  refine HD.out.mono ?_
  rintro e w' ⟨rfl, rfl⟩
  go_wp2
  go_ret2
  exact prok HW.out
theorem zjB (a b : Int) (w : World) (ha : I64 a) (hb : I64 b) : Calls Tryz.prog 112 #[a, b] w (zaE (remW a b) w) := by
 have HD := hid (zdf a b w)
 have HA := hid ha
 have HB := hid hb
 clear ha hb
 cases t : (divErr a b != 0)
 ·have e0 : divErr a b = 0 := by simpa using t
  have HW : Hid (remW a b = (a.tmod b, 0)) := hid (by unfold remW; rw [if_pos e0])
  have a0 : (b == 0) = false := by
   rw [beq_eq_false_iff_ne]; intro h; subst h; unfold divErr at e0; simp at e0
  have hov : (a == -9223372036854775808 && b == -1) = false := by
   rw [Bool.eq_false_iff]; intro h
   simp only [Bool.and_eq_true, beq_iff_eq] at h
   unfold divErr at e0; rw [if_neg (by omega), if_pos h] at e0; cases e0
  rw [e0] at HD
  clear e0 t
  have hne : ¬ b = 0 := by simpa using a0
  go_enter Tryz.func112, Tryz.ntmps112
  go_wp2_with fail
  refine HD.out.mono ?_
  rintro e w' ⟨rfl, rfl⟩
  go_wp2
  go_ret2
  refine prok ?_
  exact HW.out.trans (congrArg (fun x => (x, (0 : Int))) (zlN HA.out hne hov))
 ·have HW : Hid (remW a b = (0, divErr a b)) := hid (by unfold remW; rw [if_neg (by simpa using t)])
  generalize divErr a b = er at *
  go_enter Tryz.func112, Tryz.ntmps112
  go_wp2_with fail
  refine HD.out.mono ?_
  rintro e w' ⟨rfl, rfl⟩
  go_wp2
  go_ret2
  exact prok HW.out
end
section
open Go.RowKit
attribute [local go_sem ↓] Go.wp_at_zero Go.wp_at_succ
theorem ziW (a b : Int) (w : World) : Calls Tryz.prog 221 #[a, b] w (zbk (decide (a < b)) w) := by
 go_enter Tryz.func221, Tryz.ntmps221
 go_wp2
 go_ret
 exact ⟨retb (by first | rfl | (rw [Bool.eq_iff_iff]; simp)), rfl⟩
theorem zjI (a b : Int) (w : World) : Calls Tryz.prog 222 #[a, b] w (zbk (decide (a ≤ b)) w) := by
 go_enter Tryz.func222, Tryz.ntmps222
 go_wp2
 go_ret
 exact ⟨retb (by first | rfl | (rw [Bool.eq_iff_iff]; simp)), rfl⟩
theorem zjb (a b : Int) (w : World) : Calls Tryz.prog 223 #[a, b] w (zbk (decide (a = b)) w) := by
 go_enter Tryz.func223, Tryz.ntmps223
 go_wp2
 go_ret
 exact ⟨retb (by first | rfl | (rw [Bool.eq_iff_iff]; simp)), rfl⟩
theorem zj2 (a b : Int) (w : World) : Calls Tryz.prog 224 #[a, b] w (zbk (decide (a ≠ b)) w) := by
 go_enter Tryz.func224, Tryz.ntmps224
 go_wp2
 go_ret
 exact ⟨retb (by first | rfl | (rw [Bool.eq_iff_iff]; simp)), rfl⟩
theorem ziV (a b : Int) (w : World) : Calls Tryz.prog 225 #[a, b] w (zbk (decide (b < a)) w) := by
 go_enter Tryz.func225, Tryz.ntmps225
 go_wp2
 go_ret
 exact ⟨retb (by first | rfl | (rw [Bool.eq_iff_iff]; simp)), rfl⟩
theorem ziZ (a b : Int) (w : World) : Calls Tryz.prog 226 #[a, b] w (zbk (decide (b ≤ a)) w) := by
 go_enter Tryz.func226, Tryz.ntmps226
 go_wp2
 go_ret
 exact ⟨retb (by first | rfl | (rw [Bool.eq_iff_iff]; simp)), rfl⟩
theorem zbg (w : World) : Calls Tryz.prog 185 #[] w fun e w' => e = .returned (.agg #[.func (.func 220) #[] #[], .func (.func 221) #[] #[], .func (.func 222) #[] #[], .func (.func 223) #[] #[], .func (.func 224) #[] #[], .func (.func 225) #[] #[], .func (.func 226) #[] #[]]) ∧ Below w.heap.size w w' := by
 go_enter Tryz.func185, Tryz.ntmps185
 go_wp2
 refine bodyPost_ret (v := .agg #[.func (.func 220) #[] #[], .func (.func 221) #[] #[], .func (.func 222) #[] #[], .func (.func 223) #[] #[], .func (.func 224) #[] #[], .func (.func 225) #[] #[], .func (.func 226) #[] #[]]) (by simp [results, Tryz.results185, go_sem]) rfl (And.intro rfl ?_)
 exact zcw
theorem zl3 (f0 f1 f2 f3 f4 f5 f6 : Value) (W : World) : (Instr.index 199 (.agg #[f0, f1, f2, f3, f4, f5, f6]) (.int .i64 1)).run Tryz.prog W = .ok f1 W := by
 simp [Instr.index, run_underlying Tryz.underlying199, asIntOf, go_sem]
theorem zlP (f0 f1 f2 f3 f4 f5 f6 : Value) (W : World) : (Instr.index 199 (.agg #[f0, f1, f2, f3, f4, f5, f6]) (.int .i64 2)).run Tryz.prog W = .ok f2 W := by
 simp [Instr.index, run_underlying Tryz.underlying199, asIntOf, go_sem]
theorem zlZ (f0 f1 f2 f3 f4 f5 f6 : Value) (W : World) : (Instr.index 199 (.agg #[f0, f1, f2, f3, f4, f5, f6]) (.int .i64 3)).run Tryz.prog W = .ok f3 W := by
 simp [Instr.index, run_underlying Tryz.underlying199, asIntOf, go_sem]
theorem zlV (f0 f1 f2 f3 f4 f5 f6 : Value) (W : World) : (Instr.index 199 (.agg #[f0, f1, f2, f3, f4, f5, f6]) (.int .i64 4)).run Tryz.prog W = .ok f4 W := by
 simp [Instr.index, run_underlying Tryz.underlying199, asIntOf, go_sem]
theorem zlQ (f0 f1 f2 f3 f4 f5 f6 : Value) (W : World) : (Instr.index 199 (.agg #[f0, f1, f2, f3, f4, f5, f6]) (.int .i64 5)).run Tryz.prog W = .ok f5 W := by
 simp [Instr.index, run_underlying Tryz.underlying199, asIntOf, go_sem]
theorem zlS (f0 f1 f2 f3 f4 f5 f6 : Value) (W : World) : (Instr.index 199 (.agg #[f0, f1, f2, f3, f4, f5, f6]) (.int .i64 6)).run Tryz.prog W = .ok f6 W := by
 simp [Instr.index, run_underlying Tryz.underlying199, asIntOf, go_sem]
def zik (b : Bool) (w : World) (e : Ending) (w' : World) : Prop := e = .returned (.bool b) ∧ Below w.heap.size w w'
theorem zfW (op a b : Int) (w : World) : Calls Tryz.prog 121 #[op, a, b] w (zik (cmpB op a b) w) := by
 by_cases h : 1 ≤ op ∧ op ≤ 6
 ·obtain h1 | h2 | h3 | h4 | h5 | h6 : op = 1 ∨ op = 2 ∨ op = 3 ∨ op = 4 ∨ op = 5 ∨ op = 6 := by omega
  ·subst h1
   have HC := hid (zbg w)
   have a0 := fun W => zl3 (.func (.func 220) #[] #[]) (.func (.func 221) #[] #[]) (.func (.func 222) #[] #[]) (.func (.func 223) #[] #[]) (.func (.func 224) #[] #[]) (.func (.func 225) #[] #[]) (.func (.func 226) #[] #[]) W
   clear h
   go_enter Tryz.func121, Tryz.ntmps121
   go_wp2_with fail
   refine HC.out.mono ?_
   rintro e w' ⟨rfl, hb⟩
   go_wp2_with fail
   refine (ziW _ _ _).mono ?_
   rintro e w2 ⟨rfl, rfl⟩
   go_wp2
   go_ret
   exact ⟨retb (by first | rfl | (show _ = cmpB 1 a b; unfold cmpB; simp)), hb⟩
  ·subst h2
   have HC := hid (zbg w)
   have a0 := fun W => zlP (.func (.func 220) #[] #[]) (.func (.func 221) #[] #[]) (.func (.func 222) #[] #[]) (.func (.func 223) #[] #[]) (.func (.func 224) #[] #[]) (.func (.func 225) #[] #[]) (.func (.func 226) #[] #[]) W
   clear h
   go_enter Tryz.func121, Tryz.ntmps121
   go_wp2_with fail
   refine HC.out.mono ?_
   rintro e w' ⟨rfl, hb⟩
   go_wp2_with fail
   refine (zjI _ _ _).mono ?_
   rintro e w2 ⟨rfl, rfl⟩
   go_wp2
   go_ret
   exact ⟨retb (by first | rfl | (show _ = cmpB 2 a b; unfold cmpB; simp)), hb⟩
  ·subst h3
   have HC := hid (zbg w)
   have a0 := fun W => zlZ (.func (.func 220) #[] #[]) (.func (.func 221) #[] #[]) (.func (.func 222) #[] #[]) (.func (.func 223) #[] #[]) (.func (.func 224) #[] #[]) (.func (.func 225) #[] #[]) (.func (.func 226) #[] #[]) W
   clear h
   go_enter Tryz.func121, Tryz.ntmps121
   go_wp2_with fail
   refine HC.out.mono ?_
   rintro e w' ⟨rfl, hb⟩
   go_wp2_with fail
   refine (zjb _ _ _).mono ?_
   rintro e w2 ⟨rfl, rfl⟩
   go_wp2
   go_ret
   exact ⟨retb (by first | rfl | (show _ = cmpB 3 a b; unfold cmpB; simp)), hb⟩
  ·subst h4
   have HC := hid (zbg w)
   have a0 := fun W => zlV (.func (.func 220) #[] #[]) (.func (.func 221) #[] #[]) (.func (.func 222) #[] #[]) (.func (.func 223) #[] #[]) (.func (.func 224) #[] #[]) (.func (.func 225) #[] #[]) (.func (.func 226) #[] #[]) W
   clear h
   go_enter Tryz.func121, Tryz.ntmps121
   go_wp2_with fail
   refine HC.out.mono ?_
   rintro e w' ⟨rfl, hb⟩
   go_wp2_with fail
   refine (zj2 _ _ _).mono ?_
   rintro e w2 ⟨rfl, rfl⟩
   go_wp2
   go_ret
   exact ⟨retb (by first | rfl | (show _ = cmpB 4 a b; unfold cmpB; simp)), hb⟩
  ·subst h5
   have HC := hid (zbg w)
   have a0 := fun W => zlQ (.func (.func 220) #[] #[]) (.func (.func 221) #[] #[]) (.func (.func 222) #[] #[]) (.func (.func 223) #[] #[]) (.func (.func 224) #[] #[]) (.func (.func 225) #[] #[]) (.func (.func 226) #[] #[]) W
   clear h
   go_enter Tryz.func121, Tryz.ntmps121
   go_wp2_with fail
   refine HC.out.mono ?_
   rintro e w' ⟨rfl, hb⟩
   go_wp2_with fail
   refine (ziV _ _ _).mono ?_
   rintro e w2 ⟨rfl, rfl⟩
   go_wp2
   go_ret
   exact ⟨retb (by first | rfl | (show _ = cmpB 5 a b; unfold cmpB; simp)), hb⟩
  ·subst h6
   have HC := hid (zbg w)
   have a0 := fun W => zlS (.func (.func 220) #[] #[]) (.func (.func 221) #[] #[]) (.func (.func 222) #[] #[]) (.func (.func 223) #[] #[]) (.func (.func 224) #[] #[]) (.func (.func 225) #[] #[]) (.func (.func 226) #[] #[]) W
   clear h
   go_enter Tryz.func121, Tryz.ntmps121
   go_wp2_with fail
   refine HC.out.mono ?_
   rintro e w' ⟨rfl, hb⟩
   go_wp2_with fail
   refine (ziZ _ _ _).mono ?_
   rintro e w2 ⟨rfl, rfl⟩
   go_wp2
   go_ret
   exact ⟨retb (by first | rfl | (show _ = cmpB 6 a b; unfold cmpB; simp)), hb⟩
 ·have HB : Hid (cmpB op a b = false) := hid (by unfold cmpB; repeat (rw [if_neg (by omega)]))
  cases t1 : decide (op < 1) <;> cases t2 : decide (6 < op)
  ·exfalso; simp at t1 t2; omega
  all_goals
   clear h
   go_enter Tryz.func121, Tryz.ntmps121
   go_wp2
   go_ret
   exact ⟨retb HB.out.symm, Below.refl _ _⟩
end
end Go.Proofs.YtnmpgijiimglcaaGreat
