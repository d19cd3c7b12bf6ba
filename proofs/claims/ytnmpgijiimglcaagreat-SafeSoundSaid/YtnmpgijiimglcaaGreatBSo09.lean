import Derived.Test.YtnmpgijiimglcaaGreatBSo01
import Derived.Deep.OwnRows
import Derived.Test.YtnmpgijiimglcaaGreatBSo08
import Derived.Test.YtnmpgijiimglcaaGreatBSo07
import Derived.Test.YtnmpgijiimglcaaGreatBSo02
import Derived.Laws.EntriesVeiled
namespace Go.Proofs.YtnmpgijiimglcaaGreat
section
open Go.RowKit
set_option maxRecDepth 100000
set_option maxHeartbeats 8000000
structure LL {α : Type} (enc : α → List Value) (w : World) (base F n : Nat) (T e : TypeId) (size : Nat) (f : Nat → Value) (ls : Nat → List α) : Prop where
 row : w.rowIs F T n f
 ge : base ≤ F
 own : ∀ p, p < n → w.ownsRow base e size (f p) (ls p).length ((ls p).flatMap enc)
 apart : ∀ p q k, p < n → q < n → p ≠ q → (f p).ownBlock = some k → (f q).ownBlock ≠ some k
 ne : ∀ p, p < n → (f p).ownBlock ≠ some F
section
variable {α : Type} {enc : α → List Value} {w w' w1 : World} {base F n : Nat} {T e : TypeId} {size : Nat} {f : Nat → Value} {ls : Nat → List α}
theorem LL.below (h : LL enc w base F n T e size f ls) (hb : Below w.heap.size w w') : LL enc w' base F n T e size f ls :=
 ⟨h.row.of_block (hb.block _ h.row.lt), h.ge, fun p hp => World.ownsRow.kept (h.own p hp) (grown_of_below hb none) (by cases h' : (f p).ownBlock <;> simp), h.apart, h.ne⟩
theorem LL.put (h : LL enc w base F n T e size f ls) {x : Nat} (hx : x < n) {v : Value} {y : α} (hg : w.grownBy w1 (f x).ownBlock)
  (ho : w1.ownsRow base e size v ((ls x).length + 1) ((ls x).flatMap enc ++ enc y)) (hv : v.ownBlock = (f x).ownBlock ∨ v.ownBlock = some w.heap.size) :
  LL enc (w1.setCell ⟨F, x, none⟩ v) base F n T e size (fun j => if j = x then v else f j) (fun j => if j = x then ls x ++ [y] else ls j) := by
 have hFw := h.row.lt
 have hF1 : w1.heap[F]? = w.heap[F]? := hg.block F hFw (fun e => h.ne x hx e.symm)
 have hvF : v.ownBlock ≠ some F := by
  rcases hv with e | e <;> rw [e]
  ·exact h.ne x hx
  ·intro e; simp at e; omega
 have hlt : ∀ p, p < n → ∀ k, (f p).ownBlock = some k → k < w.heap.size := fun p hp k hk => ((h.own p hp).lt k hk).2
 refine ⟨(h.row.of_block hF1).set x v, h.ge, fun p hp => ?_, fun p q k hp hq hpq => ?_, fun p hp => ?_⟩
 ·by_cases e : p = x
  ·subst e
   simp only [if_pos]
   have : (ls p ++ [y]).length = (ls p).length + 1 := by simp
   rw [this, List.flatMap_append]
   have : [y].flatMap enc = enc y := by simp
   rw [this]
   exact World.ownsRow.kept ho (grown_setCell w1 ⟨F, p, none⟩ v) (.inr hvF)
  ·simp only [if_neg e]
   refine World.ownsRow.kept (World.ownsRow.kept (h.own p hp) hg ?_) (grown_setCell w1 ⟨F, x, none⟩ v) (.inr (h.ne p hp))
   cases hk : (f p).ownBlock
   ·exact .inl rfl
   ·rename_i k
    exact .inr (fun e' => h.apart p x k hp hx e hk e'.symm)
 ·by_cases e : p = x
  ·subst e
   simp only [if_pos, if_neg (Ne.symm hpq)]
   intro hk a0
   rcases hv with e | e
   ·exact h.apart p q k hp hq hpq (e ▸ hk) a0
   ·rw [e] at hk; simp at hk; have := hlt q hq k a0; omega
  ·by_cases e' : q = x
   ·subst e'
    simp only [if_pos, if_neg e]
    intro hk a0
    rcases hv with e2 | e2
    ·exact h.apart p q k hp hq hpq hk (e2 ▸ a0)
    ·rw [e2] at a0; simp at a0; have := hlt p hp k hk; omega
   ·simp only [if_neg e, if_neg e']
    exact h.apart p q k hp hq hpq
 ·by_cases e : p = x
  ·subst e; simp only [if_pos]; exact hvF
  ·simp only [if_neg e]; exact h.ne p hp
theorem LL.put_below {B : Nat} (h : LL enc w base F n T e size f ls) (hB : B ≤ base) (hBw : B ≤ w.heap.size) {x : Nat} (hx : x < n) {v : Value} (hg : w.grownBy w1 (f x).ownBlock) : Below B w (w1.setCell ⟨F, x, none⟩ v) := by
 have h1 : Below B w w1 := below_grown hg (fun k hk => by have := ((h.own x hx).lt k hk).1; omega) hBw
 exact h1.setCell (by have := h.ge; simp; omega) _
theorem LL.congr {ls' : Nat → List α} (h : LL enc w base F n T e size f ls) (hl : ∀ p, p < n → ls p = ls' p) : LL enc w base F n T e size f ls' :=
 ⟨h.row, h.ge, fun p hp => hl p hp ▸ h.own p hp, h.apart, h.ne⟩
theorem LL.start {w : World} {base n : Nat} {T e : TypeId} {size : Nat} (hb : base ≤ w.heap.size) :
  LL enc (w.alloc (.cells (madeCells #[.slice none 0 0] n) T)) base w.heap.size n T e size (fun _ => .slice none 0 0) (fun _ => []) :=
 ⟨World.rowIs_made _ _ _ _, hb, fun p _ => World.ownsRow_nil _ _ _ _, fun p q k _ _ _ h => by simp [Value.ownBlock] at h, fun p _ h => by simp [Value.ownBlock] at h⟩
theorem LL.slice (h : LL enc w base F n T e size f ls) {p : Nat} (hp : p < n) : (f p = .slice none 0 0 ∧ ls p = []) ∨ ∃ g cap, f p = .slice (some ⟨g, 0, none⟩) (ls p).length cap ∧ base ≤ g ∧ g < w.heap.size ∧ g ≠ F ∧ (ls p).length ≤ cap ∧ cap ≤ maxLen := by
 rcases (h.own p hp).2 with ⟨h1, h0⟩ | ⟨g, cap, cur, h1, hb, hg, hc, hm, _⟩
 ·exact .inl ⟨h1, List.eq_nil_of_length_eq_zero h0⟩
 ·refine .inr ⟨g, cap, h1, hb, (Array.getElem?_eq_some_iff.1 hg).1, fun e => h.ne p hp (by rw [h1, e]; rfl), hc, hm⟩
theorem LL.cell (h : LL enc w base F n T e size f ls) {p : Nat} (hp : p < n) {g cap : Nat} (hf : f p = .slice (some ⟨g, 0, none⟩) (ls p).length cap) {j : Nat} (hj : j < (ls p).length * size) : w.cell? ⟨g, j, none⟩ = ((ls p).flatMap enc)[j]? := by
 have := h.own p hp
 rw [hf] at this
 exact this.cellAt j hj
end
theorem fmS_get {α : Type} (enc : α → List Value) (s : Nat) (hs : ∀ x, (enc x).length = s) : ∀ (xs : List α) (k r : Nat) (h : k < xs.length), r < s → (xs.flatMap enc)[k * s + r]? = (enc xs[k])[r]?
 | [], k, r, h, _ => absurd h (by simp)
 | x :: xs, 0, r, _, hr => by
  rw [List.flatMap_cons, List.getElem?_append_left (by rw [hs]; omega)]; simp
 | x :: xs, k + 1, r, h, hr => by
  rw [List.flatMap_cons, List.getElem?_append_right (by rw [hs, Nat.succ_mul]; omega), hs, show (k + 1) * s + r - s = k * s + r by rw [Nat.succ_mul]; omega]
  exact fmS_get enc s hs xs k r (by simpa using h) hr
def enc1 (x : Int) : List Value := [.int .i64 x]
theorem fm1 (xs : List Int) : xs.flatMap enc1 = i64s xs := by
 induction xs with
 | nil => rfl
 | cons x xs ih => rw [List.flatMap_cons, ih]; rfl
end
section
open Go.RowKit
set_option maxRecDepth 100000
set_option maxHeartbeats 8000000
structure Edg where
 fr : Int
 te : Int
 kd : Int
 dst : Int
 arr : Int
 op : Int
 av : Int
 an : Int
 bv : Int
 bn : Int
def Edg.cells (e : Edg) : List Value := [.int .i64 e.fr, .int .i64 e.te, .int .i64 e.kd, .int .i64 e.dst, .int .i64 e.arr, .int .i64 e.op, .int .i64 e.av, .int .i64 e.an, .int .i64 e.bv, .int .i64 e.bn]
def Edg.val (e : Edg) : Value := .agg #[e.fr, e.te, e.kd, e.dst, e.arr, e.op, e.av, e.an, e.bv, e.bn]
structure Gr where
 nv : Nat
 tm : Int
 sz : List Int
 pts : Int
 ex : Int
 es : List Edg
def Gr.all (g : Gr) : Int := g.nv + g.tm
def wDst (k : Int) : Bool := decide (2 ≤ k ∧ k ≤ 10)
def wA (k : Int) : Bool := decide ((2 ≤ k ∧ k ≤ 8) ∨ (10 ≤ k ∧ k ≤ 12))
def wB (k : Int) : Bool := decide ((4 ≤ k ∧ k ≤ 8) ∨ (11 ≤ k ∧ k ≤ 12))
def wArr (k : Int) : Bool := decide (k = 10 ∨ k = 11)
def wOp (k : Int) : Bool := decide (k = 12)
def opdOk (n v m : Int) : Bool := decide (v = -1 ∨ (0 ≤ v ∧ v < n ∧ m = 0))
def opdNo (v m : Int) : Bool := decide (v = -1 ∧ m = 0)
def rightE (n na : Int) (e : Edg) : Bool :=
 decide (1 ≤ e.kd ∧ e.kd ≤ 14) && (bif wDst e.kd then decide (0 ≤ e.dst ∧ e.dst < n) else decide (e.dst = -1)) && (bif wArr e.kd then decide (0 ≤ e.arr ∧ e.arr < na) else decide (e.arr = -1)) &&
 (bif wOp e.kd then decide (1 ≤ e.op ∧ e.op ≤ 6) else decide (e.op = 0)) && (bif wA e.kd then opdOk n e.av e.an else opdNo e.av e.an) && (bif wB e.kd then opdOk n e.bv e.bn else opdNo e.bv e.bn)
def inE (pts ex : Int) (e : Edg) : Bool := decide (0 ≤ e.fr ∧ e.fr < pts ∧ 0 ≤ e.te ∧ e.te < pts ∧ e.fr ≠ ex)
def edgeOk (g : Gr) (e : Edg) : Bool := inE g.pts g.ex e && rightE g.all g.sz.length e
def notOp (op : Int) : Int := if op = 1 then 6 else if op = 2 then 5 else if op = 3 then 4 else if op = 4 then 3 else if op = 5 then 2 else if op = 6 then 1 else 0
def outsE (es : List Edg) (p : Int) : List Edg := es.filter (fun e => decide (e.fr = p))
def fork2 (a b : Edg) : Bool := decide (a.kd = 12) && decide (b.kd = 12) && decide (a.av = b.av ∧ a.an = b.an) && decide (a.bv = b.bv ∧ a.bn = b.bn) && decide (b.op = notOp a.op)
def forkE : List Edg → Bool
 | [] => true
 | [a] => decide (a.kd ≠ 12)
 | [a, b] => fork2 a b
 | _ => false
def arrOk (s : Int) : Bool := decide (1 ≤ s ∧ s ≤ 1024)
def forksOk (g : Gr) (k : Nat) : Bool := (List.range k).all (fun p => forkE (outsE g.es p))
def varsBad (g : Gr) : Bool := decide (g.tm < 0 ∨ 64 < g.tm ∨ 64 < g.all)
def ptsBad (g : Gr) : Bool := decide (g.pts < 1 ∨ 4096 < g.pts ∨ 8192 < g.es.length)
def formOk (g : Gr) : Bool := decide (g.sz.length ≤ 16) && g.sz.all arrOk && decide (0 ≤ g.ex ∧ g.ex < g.pts) && g.es.all (edgeOk g) && forksOk g g.pts.toNat
def chk (g : Gr) : Int := if varsBad g = true then 90 else if ptsBad g = true then 91 else if formOk g = true then 0 else 92
def RdD (w : World) (B : Nat) (A : Option Addr) (sz : List Int) : Prop :=
 ∀ k : Nat, k < sz.length → ∃ b off, A = some ⟨b, off, none⟩ ∧ b < B ∧ (∃ s, w.cell? ⟨b, off + k * 2, none⟩ = some (.string s)) ∧ w.cell? ⟨b, off + k * 2 + 1, none⟩ = some (.int .i64 (gI sz k))
def RdE (w : World) (B : Nat) (A : Option Addr) (es : List Edg) : Prop :=
 ∀ (k : Nat) (h : k < es.length), ∃ b off, A = some ⟨b, off, none⟩ ∧ b < B ∧ ∀ r, r < 10 → w.cell? ⟨b, off + k * 10 + r, none⟩ = es[k].cells[r]?
section
variable {w w' : World} {B B' : Nat} {A : Option Addr} {sz : List Int} {es : List Edg}
theorem RdD.below (h : RdD w B A sz) (hb : Below B w w') : RdD w' B A sz := fun k hk => by
 obtain ⟨b, off, hA, hB, ⟨s, hs⟩, hc⟩ := h k hk
 exact ⟨b, off, hA, hB, ⟨s, (hb.cell (p := ⟨b, _, none⟩) hB).trans hs⟩, (hb.cell (p := ⟨b, _, none⟩) hB).trans hc⟩
theorem RdD.more (h : RdD w B A sz) (hB : B ≤ B') : RdD w B' A sz := fun k hk => by
 obtain ⟨b, off, hA, hB', hc⟩ := h k hk
 exact ⟨b, off, hA, by omega, hc⟩
theorem RdE.below (h : RdE w B A es) (hb : Below B w w') : RdE w' B A es := fun k hk => by
 obtain ⟨b, off, hA, hB, hc⟩ := h k hk
 exact ⟨b, off, hA, hB, fun r hr => (hb.cell (p := ⟨b, _, none⟩) hB).trans (hc r hr)⟩
theorem RdE.more (h : RdE w B A es) (hB : B ≤ B') : RdE w B' A es := fun k hk => by
 obtain ⟨b, off, hA, hB', hc⟩ := h k hk
 exact ⟨b, off, hA, by omega, hc⟩
theorem RdD.up (h : RdD w w.heap.size A sz) (hb : Below w.heap.size w w') : RdD w' w'.heap.size A sz := (h.below hb).more hb.size
theorem RdE.up (h : RdE w w.heap.size A es) (hb : Below w.heap.size w w') : RdE w' w'.heap.size A es := (h.below hb).more hb.size
end
theorem outs_succ (es : List Edg) (k : Nat) (h : k < es.length) (p : Int) : outsE (es.take (k + 1)) p = outsE (es.take k) p ++ (if es[k].fr = p then [es[k]] else []) := by
 unfold outsE
 rw [List.take_succ_eq_append_getElem h, List.filter_append]
 congr 1
 by_cases e : es[k].fr = p <;> simp [e]
def idxE (es : List Edg) (k : Nat) (p : Int) : List Nat := (List.range k).filter (fun i => decide ((es.getD i ⟨0, 0, 0, 0, 0, 0, 0, 0, 0, 0⟩).fr = p))
theorem idx_succ (es : List Edg) (k : Nat) (h : k < es.length) (p : Int) : idxE es (k + 1) p = idxE es k p ++ (if es[k].fr = p then [k] else []) := by
 unfold idxE
 rw [List.range_succ, List.filter_append]
 congr 1
 by_cases e : es[k].fr = p <;> simp [h, e]
theorem idx_outs (es : List Edg) (k : Nat) (h : k ≤ es.length) (p : Int) : (idxE es k p).map (fun i => es.getD i ⟨0, 0, 0, 0, 0, 0, 0, 0, 0, 0⟩) = outsE (es.take k) p := by
 induction k with
 | zero => simp [idxE, outsE]
 | succ k ih =>
  rw [idx_succ es k h, outs_succ es k h, List.map_append, ih (by omega)]
  congr 1
  by_cases e : es[k].fr = p <;> simp [e, show k < es.length from h]
theorem idx_lt {es : List Edg} {k : Nat} {p : Int} {i : Nat} (h : i ∈ idxE es k p) : i < k := by
 unfold idxE at h
 simp at h
 exact h.1
end
section
open Go.RowKit
set_option maxRecDepth 100000
set_option maxHeartbeats 8000000
def edgeO (c : O) (e : Edg) : O :=
 if e.kd = 14 then emptyO c.n
 else if e.kd = 9 ∨ e.kd = 10 then forgetO c e.dst.toNat
 else if e.kd = 12 then assumesO c e.op e.av e.an e.bv e.bn
 else if e.kd = 2 then (if e.av < 0 then giveO c e.dst.toNat (oneR e.an) else if e.av = e.dst then c else linkO c (2 * e.dst.toNat) (2 * e.av.toNat) 0)
 else if e.kd = 3 then (if e.av < 0 then numberO c 3 e.dst.toNat e.an e.bn else if e.av = e.dst then turnsO c e.dst.toNat else linkO c (2 * e.dst.toNat) (2 * e.av.toNat + 1) 0)
 else if e.kd = 4 ∨ e.kd = 5 then (if e.av < 0 ∧ e.bv < 0 then numberO c e.kd e.dst.toNat e.an e.bn else addsO c (decide (e.kd = 5)) e.dst.toNat e.av e.an e.bv e.bn)
 else if e.kd = 6 ∨ e.kd = 7 ∨ e.kd = 8 then (if e.av < 0 ∧ e.bv < 0 then numberO c e.kd e.dst.toNat e.an e.bn else productsO c e.kd e.dst.toNat e.av e.an e.bv e.bn)
 else c
def transO (o : O) (e : Edg) : O := if (closeO o).e then closeO o else edgeO (closeO o) e
def rightT (n : Int) (e : Edg) : Bool := rightE n (if 0 ≤ e.arr then 1 else 0) { e with arr := if 0 ≤ e.arr then 0 else e.arr }
def transErr (o : O) (e : Edg) : Int := if check o ≠ 0 then check o else if rightT o.n e then 0 else 160
def transAns (o : O) (e : Edg) : O := if transErr o e = 0 then transO o e else ⟨0, false, []⟩
section
variable {n : Int} {o : O}
theorem OkO.unlikeVars (h : OkO n o) {av an bv bn : Int} (h0 : 0 ≤ av) (h1 : 0 ≤ bv) (ha : av < n) (hb : bv < n) : OkO n (unlikeVarsO o av an bv bn) := by
 unfold unlikeVarsO
 split
 ·rw [h.n_]; exact h.empty
 ·dsimp only
  have h2 : OkO n (if G (2 * o.n).toNat o.m (2 * av.toNat) (2 * bv.toNat) = 0 then atMostO o av an bv bn true else o) := by
   split
   ·exact h.atMost ha hb (.inl h0)
   ·exact h
  split
  ·exact h2.atMost hb ha (.inl h1)
  ·exact h2
theorem OkO.unlikeNum (h : OkO n o) {av an bv bn : Int} (h0 : 0 ≤ av) (ha : av < n) (hb : bv < n) : OkO n (unlikeNumO o av an bv bn) := by
 unfold unlikeNumO
 dsimp only
 have h2 : OkO n (if (varR (2 * o.n).toNat o.m av.toNat).hh && decide ((varR (2 * o.n).toNat o.m av.toNat).hi = bn) then atMostO o av an bv bn true else o) := by
  split
  ·exact h.atMost ha hb (.inl h0)
  ·exact h
 split
 ·exact h2.atMost hb ha (.inr h0)
 ·exact h2
theorem OkO.unlike (h : OkO n o) {av an bv bn : Int} (ha : av < n) (hb : bv < n) (hab : 0 ≤ av ∨ 0 ≤ bv) : OkO n (unlikeO o av an bv bn) := by
 unfold unlikeO
 split
 ·rw [if_neg (by omega)]
  exact h.unlikeNum (by omega) hb ha
 ·split
  ·exact h.unlikeVars (by omega) (by omega) ha hb
  ·exact h.unlikeNum (by omega) ha hb
end
theorem right_a {n na : Int} {e : Edg} (h : rightE n na e = true) : e.av = -1 ∨ (0 ≤ e.av ∧ e.av < n) := by
 unfold rightE at h
 simp only [Bool.and_eq_true] at h
 have := h.1.2
 cases hw : wA e.kd <;> rw [hw] at this <;> simp [opdNo, opdOk] at this <;> omega
theorem right_b {n na : Int} {e : Edg} (h : rightE n na e = true) : e.bv = -1 ∨ (0 ≤ e.bv ∧ e.bv < n) := by
 unfold rightE at h
 simp only [Bool.and_eq_true] at h
 have := h.2
 cases hw : wB e.kd <;> rw [hw] at this <;> simp [opdNo, opdOk] at this <;> omega
end
section
open Go.RowKit
set_option maxRecDepth 100000
set_option maxHeartbeats 8000000
def sideX (x : List Int) (i : Nat) : Int := if i % 2 = 0 then gI x ((i / 2 : Nat) : Int) else -gI x ((i / 2 : Nat) : Int)
theorem sideX_nx (x : List Int) (i : Nat) : sideX x (nx i) = -sideX x i := by
 unfold sideX nx
 by_cases h : i % 2 = 0
 ·rw [if_pos h, if_pos h, if_neg (by omega), show (i + 1) / 2 = i / 2 by omega]
 ·rw [if_neg h, if_neg h, if_pos (by omega), show (i - 1) / 2 = i / 2 by omega, Int.neg_neg]
def apartX (x : List Int) (i j : Nat) : Int := sideX x i - sideX x j
def Lets (c d : Int) : Prop := c = 9223372036854775807 ∨ d ≤ c
def HasM (N : Nat) (m x : List Int) : Prop := ∀ i j : Nat, i < N → j < N → Lets (G N m i j) (apartX x i j)
theorem bndS {a : Int} (h : isBound a = true) : a = 9223372036854775807 ∨ (-4611686018427387904 ≤ a ∧ a ≤ 4611686018427387904) := by
 unfold isBound at h; exact of_decide_eq_true h
theorem lets_min {a b d : Int} (h : Lets a d) (k : Lets b d) (ha : isBound a = true) (hb : isBound b = true) : Lets (min a b) d := by
 have := bndS ha
 have := bndS hb
 unfold Lets at *; omega
theorem lets_near {s d : Int} (h : d ≤ s) : Lets (near s) d := by
 unfold Lets near
 split
 ·omega
 ·split <;> omega
theorem lets_plus {a b d e : Int} (ha : isBound a = true) (hb : isBound b = true) (h : Lets a d) (k : Lets b e) : Lets (plus a b) (d + e) := by
 have h1 := near_of ha
 have h2 := near_of hb
 unfold plus
 rw [h1, h2]
 split
 ·exact .inl rfl
 ·unfold Lets at h k
  exact lets_near (by omega)
theorem lets_even {a d : Int} (ha : isBound a = true) (h : Lets a (2 * d)) : Lets (even a) (2 * d) := by
 have h1 := near_of ha
 unfold even Lets at *
 rw [h1]
 split <;> omega
theorem lets_half {a d : Int} (ha : isBound a = true) (h : Lets a (2 * d)) : Lets (half a) d := by
 have h1 := near_of ha
 unfold half Lets at *
 rw [h1]
 split <;> omega
section
variable {N : Nat} {xs x : List Int}
theorem HasM.set (hl : xs.length = N * N) (h : HasM N xs x) {i j : Nat} (hi : i < N) (hj : j < N) {v : Int} (hv : Lets v (apartX x i j)) : HasM N (xs.set (i * N + j) v) x := fun a b ha hb => by
 rw [G_set hl hi hj v hb]
 split
 ·rename_i e; rw [e.1, e.2]; exact hv
 ·exact h a b ha hb
def Keeps (N : Nat) (x xs ys : List Int) : Prop := xs.length = N * N → AllB xs → HasM N xs x → ys.length = N * N ∧ AllB ys ∧ HasM N ys x
theorem Keeps.rep {f : Nat → List Int → List Int} : ∀ (t : Nat) (_ : ∀ i zs, i < t → Keeps N x zs (f i zs)) (zs : List Int), Keeps N x zs (rep f t zs)
 | 0, _, _, hl, hb, hx => ⟨hl, hb, hx⟩
 | t + 1, hf, zs, hl, hb, hx => by
  obtain ⟨h1, h2, h3⟩ := Keeps.rep t (fun i zs hi => hf i zs (by omega)) zs hl hb hx
  exact hf t _ (by omega) h1 h2 h3
theorem pStep_keeps {k i j : Nat} (hk : k < N) (hi : i < N) (hj : j < N) (zs : List Int) : Keeps N x zs (pStep N k i j zs) := fun hl hb hx => by
 have h1 := pStep_low N k i j zs
 refine ⟨h1.len.trans hl, h1.all hb, hx.set hl hi hj (lets_min (hx i j hi hj) ?_ (hb _) (isBound_plus _ _))⟩
 have := lets_plus (hb (i * N + k)) (hb (k * N + j)) (hx i k hi hk) (hx k j hk hj)
 have e : apartX x i k + apartX x k j = apartX x i j := by unfold apartX; omega
 rwa [e] at this
theorem paths_keeps (zs : List Int) : Keeps N x zs (paths N N zs) :=
 Keeps.rep N (fun _k zs hk => Keeps.rep N (fun _i zs hi => Keeps.rep N (fun _j zs hj => pStep_keeps hk hi hj zs) zs) zs) zs
theorem apartX_nx (x : List Int) (i j : Nat) : apartX x (nx j) (nx i) = apartX x i j := by unfold apartX; rw [sideX_nx, sideX_nx]; omega
theorem mStep_keeps (hN : N % 2 = 0) {i j : Nat} (hi : i < N) (hj : j < N) (zs : List Int) : Keeps N x zs (mStep N i j zs) := fun hl hb hx => by
 have h1 := mStep_low N i j zs
 have k1 := hx i j hi hj
 have k2 := hx (nx j) (nx i) (nxl hN hj) (nxl hN hi)
 rw [apartX_nx] at k2
 have k3 := lets_min k1 k2 (hb _) (hb _)
 refine ⟨h1.len.trans hl, h1.all hb, (hx.set hl hi hj k3).set (by rw [List.length_set]; exact hl) (nxl hN hj) (nxl hN hi) (by rw [apartX_nx]; exact k3)⟩
theorem mirrors_keeps (hN : N % 2 = 0) (zs : List Int) : Keeps N x zs (mirrors N N zs) :=
 Keeps.rep N (fun _i zs hi => Keeps.rep N (fun _j zs hj => mStep_keeps hN hi hj zs) zs) zs
theorem apartX_two (x : List Int) (i : Nat) : apartX x i (nx i) = 2 * sideX x i := by unfold apartX; rw [sideX_nx]; omega
theorem eStep_keeps (hN : N % 2 = 0) {i : Nat} (hi : i < N) (zs : List Int) : Keeps N x zs (eStep N i zs) := fun hl hb hx => by
 have h1 := eStep_low N i zs
 have k1 := hx i (nx i) hi (nxl hN hi)
 rw [apartX_two] at k1
 exact ⟨h1.len.trans hl, h1.all hb, hx.set hl hi (nxl hN hi) (by rw [apartX_two]; exact lets_even (hb _) k1)⟩
theorem evens_keeps (hN : N % 2 = 0) (zs : List Int) : Keeps N x zs (evens N N zs) := Keeps.rep N (fun _i zs hi => eStep_keeps hN hi zs) zs
theorem sStep_keeps (hN : N % 2 = 0) {i j : Nat} (hi : i < N) (hj : j < N) (zs : List Int) : Keeps N x zs (sStep N i j zs) := fun hl hb hx => by
 have h1 := sStep_low N i j zs
 refine ⟨h1.len.trans hl, h1.all hb, ?_⟩
 unfold sStep
 split
 ·exact hx
 ·refine hx.set hl hi hj (lets_min (hx i j hi hj) (lets_half (isBound_plus _ _) ?_) (hb _) (isBound_half _))
  have k1 := hx i (nx i) hi (nxl hN hi)
  have k2 := hx (nx j) j (nxl hN hj) hj
  have := lets_plus (hb (i * N + nx i)) (hb (nx j * N + j)) k1 k2
  have e : apartX x i (nx i) + apartX x (nx j) j = 2 * apartX x i j := by unfold apartX; rw [sideX_nx, sideX_nx]; omega
  rwa [e] at this
theorem strengthens_keeps (hN : N % 2 = 0) (zs : List Int) : Keeps N x zs (strengthens N N zs) :=
 Keeps.rep N (fun _i zs hi => Keeps.rep N (fun _j zs hj => sStep_keeps hN hi hj zs) zs) zs
theorem negs_has (hx : HasM N xs x) : ∀ t, t ≤ N → negs N xs t = false
 | 0, _ => rfl
 | t + 1, ht => by
  unfold negs
  rw [negs_has hx t (by omega), Bool.false_or, decide_eq_false_iff_not]
  have := hx t t (by omega) (by omega)
  unfold Lets apartX G at this
  omega
theorem sideNegs_has (hN : N % 2 = 0) (hb : AllB xs) (hx : HasM N xs x) : ∀ t, t ≤ N → sideNegs N xs t = false
 | 0, _ => rfl
 | t + 1, ht => by
  unfold sideNegs
  rw [sideNegs_has hN hb hx t (by omega), Bool.or_false, decide_eq_false_iff_not]
  have h1 := hx t (nx t) (by omega) (nxl hN (by omega))
  have h2 := hx (nx t) t (nxl hN (by omega)) (by omega)
  have := lets_plus (hb (t * N + nx t)) (hb (nx t * N + t)) h1 h2
  have e : apartX x t (nx t) + apartX x (nx t) t = 0 := by unfold apartX; omega
  rw [e] at this
  unfold Lets at this
  omega
theorem closeM_has (hN : N % 2 = 0) (hl : xs.length = N * N) (hb : AllB xs) (hx : HasM N xs x) : ∃ ys, closeM N xs = some ys ∧ HasM N ys x := by
 obtain ⟨l1, b1, x1⟩ := paths_keeps (x := x) xs hl hb hx
 obtain ⟨l2, b2, x2⟩ := mirrors_keeps hN (x := x) _ l1 b1 x1
 obtain ⟨l3, b3, x3⟩ := evens_keeps hN (x := x) _ l2 b2 x2
 obtain ⟨_, _, x4⟩ := strengthens_keeps hN (x := x) _ l3 b3 x3
 unfold closeM
 rw [negs_has x2 N (Nat.le_refl _), sideNegs_has hN b3 x3 N (Nat.le_refl _)]
 exact ⟨_, rfl, x4⟩
end
def HasO (o : O) (x : List Int) : Prop := o.e = false ∧ (x.length : Int) = o.n ∧ HasM (2 * o.n).toNat o.m x
theorem closeO_has {o : O} {x : List Int} (hc : check o = 0) (h : HasO o x) : HasO (closeO o) x := by
 obtain ⟨he, hl, hx⟩ := h
 obtain ⟨n, e, m⟩ := o
 dsimp only at *
 subst he
 obtain ⟨h0, h1, _, _⟩ := check_ok hc
 dsimp only at h0 h1
 obtain ⟨N, hN⟩ : ∃ N : Nat, (N : Int) = 2 * n := ⟨(2 * n).toNat, by omega⟩
 have hNt : (2 * n).toNat = N := by omega
 rw [hNt] at hx
 have cs := cells_of hN hc
 obtain ⟨ys, hy, hx'⟩ := closeM_has (by omega) cs.len (check_bounds hc) hx
 rw [closeO_some (by rw [hNt]; exact hy)]
 exact ⟨rfl, hl, by dsimp only; rw [hNt]; exact hx'⟩
end
section
open Go.RowKit
set_option maxRecDepth 100000
set_option maxHeartbeats 8000000
theorem sideX_even (x : List Int) (v : Nat) : sideX x (2 * v) = gI x (v : Int) := by
 unfold sideX; rw [if_pos (by omega), show 2 * v / 2 = v by omega]
theorem sideX_odd (x : List Int) (v : Nat) : sideX x (2 * v + 1) = -gI x (v : Int) := by
 unfold sideX; rw [if_neg (by omega), show (2 * v + 1) / 2 = v by omega]
section
variable {n : Int} {o : O} {x : List Int}
theorem HasO.form (h : HasO o x) (ok : OkO n o) : ∃ (N : Nat) (m : List Int), (N : Int) = 2 * n ∧ N ≤ 128 ∧ o = ⟨n, false, m⟩ ∧ Cells N m ∧ HasM N m x ∧ (x.length : Int) = n := by
 rcases ok.form with rfl | ⟨N, m, hN, hn, rfl, hc⟩
 ·exact absurd h.1 (by simp [emptyO])
 ·have := h.2.2
  dsimp only at this
  rw [show (2 * n).toNat = N by omega] at this
  exact ⟨N, m, hN, hn, rfl, hc, this, h.2.1⟩
def InR (r : Rg) (u : Int) : Prop := (r.hl = true → r.lo ≤ u) ∧ (r.hh = true → u ≤ r.hi)
end
def opdX (x : List Int) (v n : Int) : Int := if 0 ≤ v then gI x v else n
end
section
open Go.RowKit
set_option maxRecDepth 100000
set_option maxHeartbeats 8000000
theorem bnd {a : Int} (h : isBound a = true) : a = 9223372036854775807 ∨ (-4611686018427387904 ≤ a ∧ a ≤ 4611686018427387904) := by
 unfold isBound at h; exact of_decide_eq_true h
section
variable {N : Nat} {xs : List Int}
theorem Cells.b (h : Cells N xs) {i j : Nat} (hi : i < N) (hj : j < N) : isBound (G N xs i j) = true := h.bd i j hi hj
end
end
section
open Go.RowKit
set_option maxRecDepth 100000
set_option maxHeartbeats 8000000
section
variable {n : Int} {o : O} {x : List Int}
theorem inR_sides {up down t : Int} (h : Lets up t) (k : Lets down (-t)) : InR (sidesR up down) t := by
 unfold InR sidesR
 refine ⟨fun q => ?_, fun q => ?_⟩
 ·simp only [Bool.not_eq_true', decide_eq_false_iff_not] at q
  dsimp only
  rw [if_neg q]
  have := k.resolve_left q
  omega
 ·simp only [Bool.not_eq_true', decide_eq_false_iff_not] at q
  dsimp only
  rw [if_neg q]
  exact h.resolve_left q
section
variable {N : Nat} {m : List Int} (hm : Cells N m) (hx : HasM N m x)
include hm hx
theorem inR_var {v : Nat} (hv : 2 * v + 1 < N) : InR (varR N m v) (gI x (v : Int)) := by
 refine inR_sides (lets_half (hm.bd _ _ (by omega) hv) ?_) (lets_half (hm.bd _ _ hv (by omega)) ?_)
 ·have e : apartX x (2 * v) (2 * v + 1) = 2 * gI x (v : Int) := by unfold apartX; rw [sideX_even, sideX_odd]; omega
  rw [← e]; exact hx _ _ (by omega) hv
 ·have e : apartX x (2 * v + 1) (2 * v) = 2 * -gI x (v : Int) := by unfold apartX; rw [sideX_even, sideX_odd]; omega
  rw [← e]; exact hx _ _ hv (by omega)
omit hm in
theorem inR_sum {u v : Nat} (hu : 2 * u + 1 < N) (hv : 2 * v + 1 < N) : InR (sumR N m u v) (gI x (u : Int) + gI x (v : Int)) := by
 refine inR_sides ?_ ?_
 ·have e : apartX x (2 * u) (2 * v + 1) = gI x (u : Int) + gI x (v : Int) := by unfold apartX; rw [sideX_even, sideX_odd]; omega
  rw [← e]; exact hx _ _ (by omega) hv
 ·have e : apartX x (2 * u + 1) (2 * v) = -(gI x (u : Int) + gI x (v : Int)) := by unfold apartX; rw [sideX_even, sideX_odd]; omega
  rw [← e]; exact hx _ _ hu (by omega)
omit hm in
theorem inR_diff {u v : Nat} (hu : 2 * u + 1 < N) (hv : 2 * v + 1 < N) : InR (diffR N m u v) (gI x (u : Int) - gI x (v : Int)) := by
 refine inR_sides ?_ ?_
 ·have e : apartX x (2 * u) (2 * v) = gI x (u : Int) - gI x (v : Int) := by unfold apartX; rw [sideX_even, sideX_even]
  rw [← e]; exact hx _ _ (by omega) (by omega)
 ·have e : apartX x (2 * u + 1) (2 * v + 1) = -(gI x (u : Int) - gI x (v : Int)) := by unfold apartX; rw [sideX_odd, sideX_odd]; omega
  rw [← e]; exact hx _ _ hu hv
theorem inR_opd {v k : Int} (hv : 0 ≤ v → 2 * v + 1 < (N : Int)) : InR (opdR N m v k) (opdX x v k) := by
 unfold opdR opdX
 split
 ·rename_i h0
  have := inR_var hm hx (v := v.toNat) (by have := hv h0; omega)
  rw [Int.toNat_of_nonneg h0] at this
  exact this
 ·exact ⟨fun _ => Int.le_refl _, fun _ => Int.le_refl _⟩
end
end
def Behind (e : Edg) (x y : List Int) : Prop :=
 e.kd ≠ 14 ∧ (e.kd = 12 → cmpB e.op (opdX x e.av e.an) (opdX x e.bv e.bn) = true) ∧
 (if e.kd = 9 ∨ e.kd = 10 then ∃ v, y = x.set e.dst.toNat v
  else if e.kd = 2 then y = x.set e.dst.toNat (opdX x e.av e.an)
  else if 3 ≤ e.kd ∧ e.kd ≤ 8 then (kindW e.kd (opdX x e.av e.an) (opdX x e.bv e.bn)).2 = 0 ∧ y = x.set e.dst.toNat (kindW e.kd (opdX x e.av e.an) (opdX x e.bv e.bn)).1
  else y = x)
def I64s (x : List Int) : Prop := ∀ i : Nat, -9223372036854775808 ≤ gI x (i : Int) ∧ gI x (i : Int) ≤ 9223372036854775807
theorem opdX_i64 {x : List Int} (hx : I64s x) {v k : Int} (hk : -9223372036854775808 ≤ k ∧ k ≤ 9223372036854775807) : -9223372036854775808 ≤ opdX x v k ∧ opdX x v k ≤ 9223372036854775807 := by
 unfold opdX
 split
 ·rename_i h
  have := hx v.toNat
  rwa [Int.toNat_of_nonneg h] at this
 ·exact hk
end
section
open Go.RowKit
set_option maxRecDepth 100000
set_option maxHeartbeats 8000000
attribute [local go_sem ↓] Go.wp_at_zero Go.wp_at_succ
theorem cmp1_any (a b : Int) (w : World) : Calls Tryz.prog 221 #[a, b] w (BoolRes (decide (a < b)) w) := by
 go_enter Tryz.func221, Tryz.ntmps221
 go_wp2
 go_ret
 exact ⟨retb (by first | rfl | (rw [Bool.eq_iff_iff]; simp)), rfl⟩
theorem cmp2_any (a b : Int) (w : World) : Calls Tryz.prog 222 #[a, b] w (BoolRes (decide (a ≤ b)) w) := by
 go_enter Tryz.func222, Tryz.ntmps222
 go_wp2
 go_ret
 exact ⟨retb (by first | rfl | (rw [Bool.eq_iff_iff]; simp)), rfl⟩
theorem cmp3_any (a b : Int) (w : World) : Calls Tryz.prog 223 #[a, b] w (BoolRes (decide (a = b)) w) := by
 go_enter Tryz.func223, Tryz.ntmps223
 go_wp2
 go_ret
 exact ⟨retb (by first | rfl | (rw [Bool.eq_iff_iff]; simp)), rfl⟩
theorem cmp4_any (a b : Int) (w : World) : Calls Tryz.prog 224 #[a, b] w (BoolRes (decide (a ≠ b)) w) := by
 go_enter Tryz.func224, Tryz.ntmps224
 go_wp2
 go_ret
 exact ⟨retb (by first | rfl | (rw [Bool.eq_iff_iff]; simp)), rfl⟩
theorem cmp5_any (a b : Int) (w : World) : Calls Tryz.prog 225 #[a, b] w (BoolRes (decide (b < a)) w) := by
 go_enter Tryz.func225, Tryz.ntmps225
 go_wp2
 go_ret
 exact ⟨retb (by first | rfl | (rw [Bool.eq_iff_iff]; simp)), rfl⟩
theorem cmp6_any (a b : Int) (w : World) : Calls Tryz.prog 226 #[a, b] w (BoolRes (decide (b ≤ a)) w) := by
 go_enter Tryz.func226, Tryz.ntmps226
 go_wp2
 go_ret
 exact ⟨retb (by first | rfl | (rw [Bool.eq_iff_iff]; simp)), rfl⟩
theorem ncompares_any (w : World) : Calls Tryz.prog 185 #[] w fun e w' => e = .returned (.agg #[.func (.func 220) #[] #[], .func (.func 221) #[] #[], .func (.func 222) #[] #[], .func (.func 223) #[] #[], .func (.func 224) #[] #[], .func (.func 225) #[] #[], .func (.func 226) #[] #[]]) ∧ Below w.heap.size w w' := by
 go_enter Tryz.func185, Tryz.ntmps185
 go_wp2
 refine bodyPost_ret (v := .agg #[.func (.func 220) #[] #[], .func (.func 221) #[] #[], .func (.func 222) #[] #[], .func (.func 223) #[] #[], .func (.func 224) #[] #[], .func (.func 225) #[] #[], .func (.func 226) #[] #[]]) (by simp [results, Tryz.results185, go_sem]) rfl (And.intro rfl ?_)
 repeat (first | exact Below.refl _ _ | refine Below.setCell ?_ (by simp) _ | refine Below.alloc ?_ (by simp) _)
theorem ix7_1 (f0 f1 f2 f3 f4 f5 f6 : Value) (W : World) : (Instr.index 199 (.agg #[f0, f1, f2, f3, f4, f5, f6]) (.int .i64 1)).run Tryz.prog W = .ok f1 W := by
 simp [Instr.index, run_underlying Tryz.underlying199, asIntOf, go_sem]
theorem ix7_2 (f0 f1 f2 f3 f4 f5 f6 : Value) (W : World) : (Instr.index 199 (.agg #[f0, f1, f2, f3, f4, f5, f6]) (.int .i64 2)).run Tryz.prog W = .ok f2 W := by
 simp [Instr.index, run_underlying Tryz.underlying199, asIntOf, go_sem]
theorem ix7_3 (f0 f1 f2 f3 f4 f5 f6 : Value) (W : World) : (Instr.index 199 (.agg #[f0, f1, f2, f3, f4, f5, f6]) (.int .i64 3)).run Tryz.prog W = .ok f3 W := by
 simp [Instr.index, run_underlying Tryz.underlying199, asIntOf, go_sem]
theorem ix7_4 (f0 f1 f2 f3 f4 f5 f6 : Value) (W : World) : (Instr.index 199 (.agg #[f0, f1, f2, f3, f4, f5, f6]) (.int .i64 4)).run Tryz.prog W = .ok f4 W := by
 simp [Instr.index, run_underlying Tryz.underlying199, asIntOf, go_sem]
theorem ix7_5 (f0 f1 f2 f3 f4 f5 f6 : Value) (W : World) : (Instr.index 199 (.agg #[f0, f1, f2, f3, f4, f5, f6]) (.int .i64 5)).run Tryz.prog W = .ok f5 W := by
 simp [Instr.index, run_underlying Tryz.underlying199, asIntOf, go_sem]
theorem ix7_6 (f0 f1 f2 f3 f4 f5 f6 : Value) (W : World) : (Instr.index 199 (.agg #[f0, f1, f2, f3, f4, f5, f6]) (.int .i64 6)).run Tryz.prog W = .ok f6 W := by
 simp [Instr.index, run_underlying Tryz.underlying199, asIntOf, go_sem]
def BoolBel (b : Bool) (w : World) (e : Ending) (w' : World) : Prop := e = .returned (.bool b) ∧ Below w.heap.size w w'
theorem ncmp_any (op a b : Int) (w : World) : Calls Tryz.prog 121 #[op, a, b] w (BoolBel (cmpB op a b) w) := by
 by_cases h : 1 ≤ op ∧ op ≤ 6
 ·obtain h1 | h2 | h3 | h4 | h5 | h6 : op = 1 ∨ op = 2 ∨ op = 3 ∨ op = 4 ∨ op = 5 ∨ op = 6 := by omega
  ·subst h1
   have HC := hid (ncompares_any w)
   have a0 := fun W => ix7_1 (.func (.func 220) #[] #[]) (.func (.func 221) #[] #[]) (.func (.func 222) #[] #[]) (.func (.func 223) #[] #[]) (.func (.func 224) #[] #[]) (.func (.func 225) #[] #[]) (.func (.func 226) #[] #[]) W
   clear h
   go_enter Tryz.func121, Tryz.ntmps121
   go_wp2_with fail
   refine HC.out.mono ?_
   rintro e w' ⟨rfl, hb⟩
   go_wp2_with fail
   refine (cmp1_any _ _ _).mono ?_
   rintro e w2 ⟨rfl, rfl⟩
   go_wp2
   go_ret
   exact ⟨retb (by first | rfl | (show _ = cmpB 1 a b; unfold cmpB; simp)), hb⟩
  ·subst h2
   have HC := hid (ncompares_any w)
   have a0 := fun W => ix7_2 (.func (.func 220) #[] #[]) (.func (.func 221) #[] #[]) (.func (.func 222) #[] #[]) (.func (.func 223) #[] #[]) (.func (.func 224) #[] #[]) (.func (.func 225) #[] #[]) (.func (.func 226) #[] #[]) W
   clear h
   go_enter Tryz.func121, Tryz.ntmps121
   go_wp2_with fail
   refine HC.out.mono ?_
   rintro e w' ⟨rfl, hb⟩
   go_wp2_with fail
   refine (cmp2_any _ _ _).mono ?_
   rintro e w2 ⟨rfl, rfl⟩
   go_wp2
   go_ret
   exact ⟨retb (by first | rfl | (show _ = cmpB 2 a b; unfold cmpB; simp)), hb⟩
  ·subst h3
   have HC := hid (ncompares_any w)
   have a0 := fun W => ix7_3 (.func (.func 220) #[] #[]) (.func (.func 221) #[] #[]) (.func (.func 222) #[] #[]) (.func (.func 223) #[] #[]) (.func (.func 224) #[] #[]) (.func (.func 225) #[] #[]) (.func (.func 226) #[] #[]) W
   clear h
   go_enter Tryz.func121, Tryz.ntmps121
   go_wp2_with fail
   refine HC.out.mono ?_
   rintro e w' ⟨rfl, hb⟩
   go_wp2_with fail
   refine (cmp3_any _ _ _).mono ?_
   rintro e w2 ⟨rfl, rfl⟩
   go_wp2
   go_ret
   exact ⟨retb (by first | rfl | (show _ = cmpB 3 a b; unfold cmpB; simp)), hb⟩
  ·subst h4
   have HC := hid (ncompares_any w)
   have a0 := fun W => ix7_4 (.func (.func 220) #[] #[]) (.func (.func 221) #[] #[]) (.func (.func 222) #[] #[]) (.func (.func 223) #[] #[]) (.func (.func 224) #[] #[]) (.func (.func 225) #[] #[]) (.func (.func 226) #[] #[]) W
   clear h
   go_enter Tryz.func121, Tryz.ntmps121
   go_wp2_with fail
   refine HC.out.mono ?_
   rintro e w' ⟨rfl, hb⟩
   go_wp2_with fail
   refine (cmp4_any _ _ _).mono ?_
   rintro e w2 ⟨rfl, rfl⟩
   go_wp2
   go_ret
   exact ⟨retb (by first | rfl | (show _ = cmpB 4 a b; unfold cmpB; simp)), hb⟩
  ·subst h5
   have HC := hid (ncompares_any w)
   have a0 := fun W => ix7_5 (.func (.func 220) #[] #[]) (.func (.func 221) #[] #[]) (.func (.func 222) #[] #[]) (.func (.func 223) #[] #[]) (.func (.func 224) #[] #[]) (.func (.func 225) #[] #[]) (.func (.func 226) #[] #[]) W
   clear h
   go_enter Tryz.func121, Tryz.ntmps121
   go_wp2_with fail
   refine HC.out.mono ?_
   rintro e w' ⟨rfl, hb⟩
   go_wp2_with fail
   refine (cmp5_any _ _ _).mono ?_
   rintro e w2 ⟨rfl, rfl⟩
   go_wp2
   go_ret
   exact ⟨retb (by first | rfl | (show _ = cmpB 5 a b; unfold cmpB; simp)), hb⟩
  ·subst h6
   have HC := hid (ncompares_any w)
   have a0 := fun W => ix7_6 (.func (.func 220) #[] #[]) (.func (.func 221) #[] #[]) (.func (.func 222) #[] #[]) (.func (.func 223) #[] #[]) (.func (.func 224) #[] #[]) (.func (.func 225) #[] #[]) (.func (.func 226) #[] #[]) W
   clear h
   go_enter Tryz.func121, Tryz.ntmps121
   go_wp2_with fail
   refine HC.out.mono ?_
   rintro e w' ⟨rfl, hb⟩
   go_wp2_with fail
   refine (cmp6_any _ _ _).mono ?_
   rintro e w2 ⟨rfl, rfl⟩
   go_wp2
   go_ret
   exact ⟨retb (by first | rfl | (show _ = cmpB 6 a b; unfold cmpB; simp)), hb⟩
 ·have HB : Hid (cmpB op a b = false) := hid (by unfold cmpB; repeat (rw [if_neg (by omega)]))
  cases t1 : decide (op < 1) <;> cases t2 : decide (6 < op)
  ·exfalso; simp at t1 t2; omega
  all_goals
   clear h
   go_enter Tryz.func121, Tryz.ntmps121
   go_wp2
   go_ret
   exact ⟨retb HB.out.symm, Below.refl _ _⟩
theorem rcmp_any (op a b : Int) (w : World) : Calls Tryz.prog 125 #[op, a, b] w (BoolRes (cmpB op a b) w) := by
 by_cases h : 1 ≤ op ∧ op ≤ 6
 ·obtain h1 | h2 | h3 | h4 | h5 | h6 : op = 1 ∨ op = 2 ∨ op = 3 ∨ op = 4 ∨ op = 5 ∨ op = 6 := by omega
  ·subst h1
   have HB : Hid (cmpB 1 a b = decide (a < b)) := hid rfl
   clear h
   go_enter Tryz.func125, Tryz.ntmps125
   go_wp2
   go_ret
   exact ⟨retb (Eq.trans (by first | rfl | (rw [Bool.eq_iff_iff]; simp)) HB.out.symm), rfl⟩
  ·subst h2
   have HB : Hid (cmpB 2 a b = decide (a ≤ b)) := hid rfl
   clear h
   go_enter Tryz.func125, Tryz.ntmps125
   go_wp2
   go_ret
   exact ⟨retb (Eq.trans (by first | rfl | (rw [Bool.eq_iff_iff]; simp)) HB.out.symm), rfl⟩
  ·subst h3
   have HB : Hid (cmpB 3 a b = decide (a = b)) := hid rfl
   clear h
   go_enter Tryz.func125, Tryz.ntmps125
   go_wp2
   go_ret
   exact ⟨retb (Eq.trans (by first | rfl | (rw [Bool.eq_iff_iff]; simp)) HB.out.symm), rfl⟩
  ·subst h4
   have HB : Hid (cmpB 4 a b = decide (a ≠ b)) := hid rfl
   clear h
   go_enter Tryz.func125, Tryz.ntmps125
   go_wp2
   go_ret
   exact ⟨retb (Eq.trans (by first | rfl | (rw [Bool.eq_iff_iff]; simp)) HB.out.symm), rfl⟩
  ·subst h5
   have HB : Hid (cmpB 5 a b = decide (b < a)) := hid rfl
   clear h
   go_enter Tryz.func125, Tryz.ntmps125
   go_wp2
   go_ret
   exact ⟨retb (Eq.trans (by first | rfl | (rw [Bool.eq_iff_iff]; simp)) HB.out.symm), rfl⟩
  ·subst h6
   have HB : Hid (cmpB 6 a b = decide (b ≤ a)) := hid rfl
   clear h
   go_enter Tryz.func125, Tryz.ntmps125
   go_wp2
   go_ret
   exact ⟨retb (Eq.trans (by first | rfl | (rw [Bool.eq_iff_iff]; simp)) HB.out.symm), rfl⟩
 ·have HB : Hid (cmpB op a b = false) := hid (by unfold cmpB; repeat (rw [if_neg (by omega)]))
  have t1 : (op == 1) = false := by rw [beq_eq_false_iff_ne]; omega
  have t2 : (op == 2) = false := by rw [beq_eq_false_iff_ne]; omega
  have t3 : (op == 3) = false := by rw [beq_eq_false_iff_ne]; omega
  have t4 : (op == 4) = false := by rw [beq_eq_false_iff_ne]; omega
  have t5 : (op == 5) = false := by rw [beq_eq_false_iff_ne]; omega
  have t6 : (op == 6) = false := by rw [beq_eq_false_iff_ne]; omega
  clear h
  go_enter Tryz.func125, Tryz.ntmps125
  go_wp2
  go_ret
  exact ⟨retb HB.out.symm, rfl⟩
end
end Go.Proofs.YtnmpgijiimglcaaGreat
