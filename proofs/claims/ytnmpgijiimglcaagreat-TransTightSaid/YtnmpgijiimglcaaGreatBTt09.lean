import Derived.Test.YtnmpgijiimglcaaGreatBTt01
import Derived.Deep.OwnRows
import Derived.Test.YtnmpgijiimglcaaGreatBTt08
import Derived.Test.YtnmpgijiimglcaaGreatBTt06
namespace Go.Proofs.YtnmpgijiimglcaaGreat
open Go.RowKit
set_option maxRecDepth 100000
set_option maxHeartbeats 8000000
section
structure LL {α : Type} (enc : α → List Value) (w : World) (base F n : Nat) (T e : TypeId) (size : Nat) (f : Nat → Value) (ls : Nat → List α) : Prop where
 row : w.rowIs F T n f
 ge : base ≤ F
 own : ∀ p, p < n → w.ownsRow base e size (f p) (ls p).length ((ls p).flatMap enc)
 apart : ∀ p q k, p < n → q < n → p ≠ q → (f p).ownBlock = some k → (f q).ownBlock ≠ some k
 ne : ∀ p, p < n → (f p).ownBlock ≠ some F
section
variable {α : Type} {enc : α → List Value} {w w' w1 : World} {base F n : Nat} {T e : TypeId} {size : Nat} {f : Nat → Value} {ls : Nat → List α}
theorem LL.below (h : LL enc w base F n T e size f ls) (hb : Below w.heap.size w w') : LL enc w' base F n T e size f ls :=
 ⟨h.row.of_block (hb.block _ h.row.lt), h.ge, fun p hp => World.ownsRow.kept (h.own p hp) (zar hb none) (by cases h' : (f p).ownBlock <;> simp), h.apart, h.ne⟩
theorem LL.put (h : LL enc w base F n T e size f ls) {x : Nat} (hx : x < n) {v : Value} {y : α} (hg : w.grownBy w1 (f x).ownBlock)
  (ho : w1.ownsRow base e size v ((ls x).length + 1) ((ls x).flatMap enc ++ enc y)) (hv : v.ownBlock = (f x).ownBlock ∨ v.ownBlock = some w.heap.size) :
  LL enc (w1.setCell ⟨F, x, none⟩ v) base F n T e size (fun j => if j = x then v else f j) (fun j => if j = x then ls x ++ [y] else ls j) := by
 have hFw := h.row.lt
 have hF1 : w1.heap[F]? = w.heap[F]? := hg.block F hFw (fun e => h.ne x hx e.symm)
 have hvF : v.ownBlock ≠ some F := by
  rcases hv with e | e <;> rw [e]
  ·exact h.ne x hx
  ·intro e; simp at e; omega
 have hlt : ∀ p, p < n → ∀ k, (f p).ownBlock = some k → k < w.heap.size := fun p hp k hk => ((h.own p hp).lt k hk).2
 refine ⟨(h.row.of_block hF1).set x v, h.ge, fun p hp => ?_, fun p q k hp hq hpq => ?_, fun p hp => ?_⟩
 ·by_cases e : p = x
  ·subst e
   simp only [if_pos]
   have : (ls p ++ [y]).length = (ls p).length + 1 := by simp
   rw [this, List.flatMap_append]
   have : [y].flatMap enc = enc y := by simp
   rw [this]
   exact World.ownsRow.kept ho (zal w1 ⟨F, p, none⟩ v) (.inr hvF)
  ·simp only [if_neg e]
   refine World.ownsRow.kept (World.ownsRow.kept (h.own p hp) hg ?_) (zal w1 ⟨F, x, none⟩ v) (.inr (h.ne p hp))
   cases hk : (f p).ownBlock
   ·exact .inl rfl
   ·rename_i k
    exact .inr (fun e' => h.apart p x k hp hx e hk e'.symm)
 ·by_cases e : p = x
  ·subst e
   simp only [if_pos, if_neg (Ne.symm hpq)]
   intro hk a0
   rcases hv with e | e
   ·exact h.apart p q k hp hq hpq (e ▸ hk) a0
   ·rw [e] at hk; simp at hk; have := hlt q hq k a0; omega
  ·by_cases e' : q = x
   ·subst e'
    simp only [if_pos, if_neg e]
    intro hk a0
    rcases hv with e2 | e2
    ·exact h.apart p q k hp hq hpq hk (e2 ▸ a0)
    ·rw [e2] at a0; simp at a0; have := hlt p hp k hk; omega
   ·simp only [if_neg e, if_neg e']
    exact h.apart p q k hp hq hpq
 ·by_cases e : p = x
  ·subst e; simp only [if_pos]; exact hvF
  ·simp only [if_neg e]; exact h.ne p hp
theorem LL.put_below {B : Nat} (h : LL enc w base F n T e size f ls) (hB : B ≤ base) (hBw : B ≤ w.heap.size) {x : Nat} (hx : x < n) {v : Value} (hg : w.grownBy w1 (f x).ownBlock) : Below B w (w1.setCell ⟨F, x, none⟩ v) := by
 have h1 : Below B w w1 := zat hg (fun k hk => by have := ((h.own x hx).lt k hk).1; omega) hBw
 exact h1.setCell (by have := h.ge; simp; omega) _
theorem LL.congr {ls' : Nat → List α} (h : LL enc w base F n T e size f ls) (hl : ∀ p, p < n → ls p = ls' p) : LL enc w base F n T e size f ls' :=
 ⟨h.row, h.ge, fun p hp => hl p hp ▸ h.own p hp, h.apart, h.ne⟩
theorem LL.start {w : World} {base n : Nat} {T e : TypeId} {size : Nat} (hb : base ≤ w.heap.size) :
  LL enc (w.alloc (.cells (madeCells #[.slice none 0 0] n) T)) base w.heap.size n T e size (fun _ => .slice none 0 0) (fun _ => []) :=
 ⟨World.rowIs_made _ _ _ _, hb, fun p _ => World.ownsRow_nil _ _ _ _, fun p q k _ _ _ h => by simp [Value.ownBlock] at h, fun p _ h => by simp [Value.ownBlock] at h⟩
theorem LL.slice (h : LL enc w base F n T e size f ls) {p : Nat} (hp : p < n) : (f p = .slice none 0 0 ∧ ls p = []) ∨ ∃ g cap, f p = .slice (some ⟨g, 0, none⟩) (ls p).length cap ∧ base ≤ g ∧ g < w.heap.size ∧ g ≠ F ∧ (ls p).length ≤ cap ∧ cap ≤ maxLen := by
 rcases (h.own p hp).2 with ⟨h1, h0⟩ | ⟨g, cap, cur, h1, hb, hg, hc, hm, _⟩
 ·exact .inl ⟨h1, List.eq_nil_of_length_eq_zero h0⟩
 ·refine .inr ⟨g, cap, h1, hb, (Array.getElem?_eq_some_iff.1 hg).1, fun e => h.ne p hp (by rw [h1, e]; rfl), hc, hm⟩
theorem LL.cell (h : LL enc w base F n T e size f ls) {p : Nat} (hp : p < n) {g cap : Nat} (hf : f p = .slice (some ⟨g, 0, none⟩) (ls p).length cap) {j : Nat} (hj : j < (ls p).length * size) : w.cell? ⟨g, j, none⟩ = ((ls p).flatMap enc)[j]? := by
 have := h.own p hp
 rw [hf] at this
 exact this.cellAt j hj
end
theorem zhc {α : Type} (enc : α → List Value) (s : Nat) (hs : ∀ x, (enc x).length = s) : ∀ (xs : List α) (k r : Nat) (h : k < xs.length), r < s → (xs.flatMap enc)[k * s + r]? = (enc xs[k])[r]?
 | [], k, r, h, _ => absurd h (by simp)
 | x :: xs, 0, r, _, hr => by
  rw [List.flatMap_cons, List.getElem?_append_left (by rw [hs]; omega)]; simp
 | x :: xs, k + 1, r, h, hr => by
  rw [List.flatMap_cons, List.getElem?_append_right (by rw [hs, Nat.succ_mul]; omega), hs, show (k + 1) * s + r - s = k * s + r by rw [Nat.succ_mul]; omega]
  exact zhc enc s hs xs k r (by simpa using h) hr
def enc1 (x : Int) : List Value := [.int .i64 x]
theorem fm1 (xs : List Int) : xs.flatMap enc1 = i64s xs := by
 induction xs with
 | nil => rfl
 | cons x xs ih => rw [List.flatMap_cons, ih]; rfl
end
section
structure Edg where
 fr : Int
 te : Int
 kd : Int
 dst : Int
 arr : Int
 op : Int
 av : Int
 an : Int
 bv : Int
 bn : Int
def Edg.cells (e : Edg) : List Value := [.int .i64 e.fr, .int .i64 e.te, .int .i64 e.kd, .int .i64 e.dst, .int .i64 e.arr, .int .i64 e.op, .int .i64 e.av, .int .i64 e.an, .int .i64 e.bv, .int .i64 e.bn]
def Edg.val (e : Edg) : Value := .agg #[e.fr, e.te, e.kd, e.dst, e.arr, e.op, e.av, e.an, e.bv, e.bn]
structure Gr where
 nv : Nat
 tm : Int
 sz : List Int
 pts : Int
 ex : Int
 es : List Edg
def Gr.all (g : Gr) : Int := g.nv + g.tm
def wDst (k : Int) : Bool := decide (2 ≤ k ∧ k ≤ 10)
def wA (k : Int) : Bool := decide ((2 ≤ k ∧ k ≤ 8) ∨ (10 ≤ k ∧ k ≤ 12))
def wB (k : Int) : Bool := decide ((4 ≤ k ∧ k ≤ 8) ∨ (11 ≤ k ∧ k ≤ 12))
def wArr (k : Int) : Bool := decide (k = 10 ∨ k = 11)
def wOp (k : Int) : Bool := decide (k = 12)
def opdOk (n v m : Int) : Bool := decide (v = -1 ∨ (0 ≤ v ∧ v < n ∧ m = 0))
def zaA (v m : Int) : Bool := decide (v = -1 ∧ m = 0)
def rightE (n na : Int) (e : Edg) : Bool :=
 decide (1 ≤ e.kd ∧ e.kd ≤ 14) && (bif wDst e.kd then decide (0 ≤ e.dst ∧ e.dst < n) else decide (e.dst = -1)) && (bif wArr e.kd then decide (0 ≤ e.arr ∧ e.arr < na) else decide (e.arr = -1)) &&
 (bif wOp e.kd then decide (1 ≤ e.op ∧ e.op ≤ 6) else decide (e.op = 0)) && (bif wA e.kd then opdOk n e.av e.an else zaA e.av e.an) && (bif wB e.kd then opdOk n e.bv e.bn else zaA e.bv e.bn)
def inE (pts ex : Int) (e : Edg) : Bool := decide (0 ≤ e.fr ∧ e.fr < pts ∧ 0 ≤ e.te ∧ e.te < pts ∧ e.fr ≠ ex)
def zbI (g : Gr) (e : Edg) : Bool := inE g.pts g.ex e && rightE g.all g.sz.length e
def notOp (op : Int) : Int := if op = 1 then 6 else if op = 2 then 5 else if op = 3 then 4 else if op = 4 then 3 else if op = 5 then 2 else if op = 6 then 1 else 0
def zeT (es : List Edg) (p : Int) : List Edg := es.filter (fun e => decide (e.fr = p))
def zhu (a b : Edg) : Bool := decide (a.kd = 12) && decide (b.kd = 12) && decide (a.av = b.av ∧ a.an = b.an) && decide (a.bv = b.bv ∧ a.bn = b.bn) && decide (b.op = notOp a.op)
def zfS : List Edg → Bool
 | [] => true
 | [a] => decide (a.kd ≠ 12)
 | [a, b] => zhu a b
 | _ => false
def zd1 (s : Int) : Bool := decide (1 ≤ s ∧ s ≤ 1024)
def zcs (g : Gr) (k : Nat) : Bool := (List.range k).all (fun p => zfS (zeT g.es p))
def zb8 (g : Gr) : Bool := decide (g.tm < 0 ∨ 64 < g.tm ∨ 64 < g.all)
def zdw (g : Gr) : Bool := decide (g.pts < 1 ∨ 4096 < g.pts ∨ 8192 < g.es.length)
def zbG (g : Gr) : Bool := decide (g.sz.length ≤ 16) && g.sz.all zd1 && decide (0 ≤ g.ex ∧ g.ex < g.pts) && g.es.all (zbI g) && zcs g g.pts.toNat
def chk (g : Gr) : Int := if zb8 g = true then 90 else if zdw g = true then 91 else if zbG g = true then 0 else 92
def RdD (w : World) (B : Nat) (A : Option Addr) (sz : List Int) : Prop :=
 ∀ k : Nat, k < sz.length → ∃ b off, A = some ⟨b, off, none⟩ ∧ b < B ∧ (∃ s, w.cell? ⟨b, off + k * 2, none⟩ = some (.string s)) ∧ w.cell? ⟨b, off + k * 2 + 1, none⟩ = some (.int .i64 (gI sz k))
def RdE (w : World) (B : Nat) (A : Option Addr) (es : List Edg) : Prop :=
 ∀ (k : Nat) (h : k < es.length), ∃ b off, A = some ⟨b, off, none⟩ ∧ b < B ∧ ∀ r, r < 10 → w.cell? ⟨b, off + k * 10 + r, none⟩ = es[k].cells[r]?
section
variable {w w' : World} {B B' : Nat} {A : Option Addr} {sz : List Int} {es : List Edg}
theorem RdD.below (h : RdD w B A sz) (hb : Below B w w') : RdD w' B A sz := fun k hk => by
 obtain ⟨b, off, hA, hB, ⟨s, hs⟩, hc⟩ := h k hk
 exact ⟨b, off, hA, hB, ⟨s, (hb.cell (p := ⟨b, _, none⟩) hB).trans hs⟩, (hb.cell (p := ⟨b, _, none⟩) hB).trans hc⟩
theorem RdD.more (h : RdD w B A sz) (hB : B ≤ B') : RdD w B' A sz := fun k hk => by
 obtain ⟨b, off, hA, hB', hc⟩ := h k hk
 exact ⟨b, off, hA, by omega, hc⟩
theorem RdE.below (h : RdE w B A es) (hb : Below B w w') : RdE w' B A es := fun k hk => by
 obtain ⟨b, off, hA, hB, hc⟩ := h k hk
 exact ⟨b, off, hA, hB, fun r hr => (hb.cell (p := ⟨b, _, none⟩) hB).trans (hc r hr)⟩
theorem RdE.more (h : RdE w B A es) (hB : B ≤ B') : RdE w B' A es := fun k hk => by
 obtain ⟨b, off, hA, hB', hc⟩ := h k hk
 exact ⟨b, off, hA, by omega, hc⟩
theorem RdD.up (h : RdD w w.heap.size A sz) (hb : Below w.heap.size w w') : RdD w' w'.heap.size A sz := (h.below hb).more hb.size
theorem RdE.up (h : RdE w w.heap.size A es) (hb : Below w.heap.size w w') : RdE w' w'.heap.size A es := (h.below hb).more hb.size
end
theorem zkn (es : List Edg) (k : Nat) (h : k < es.length) (p : Int) : zeT (es.take (k + 1)) p = zeT (es.take k) p ++ (if es[k].fr = p then [es[k]] else []) := by
 unfold zeT
 rw [List.take_succ_eq_append_getElem h, List.filter_append]
 congr 1
 by_cases e : es[k].fr = p <;> simp [e]
def idxE (es : List Edg) (k : Nat) (p : Int) : List Nat := (List.range k).filter (fun i => decide ((es.getD i ⟨0, 0, 0, 0, 0, 0, 0, 0, 0, 0⟩).fr = p))
theorem zh4 (es : List Edg) (k : Nat) (h : k < es.length) (p : Int) : idxE es (k + 1) p = idxE es k p ++ (if es[k].fr = p then [k] else []) := by
 unfold idxE
 rw [List.range_succ, List.filter_append]
 congr 1
 by_cases e : es[k].fr = p <;> simp [h, e]
theorem zmy (es : List Edg) (k : Nat) (h : k ≤ es.length) (p : Int) : (idxE es k p).map (fun i => es.getD i ⟨0, 0, 0, 0, 0, 0, 0, 0, 0, 0⟩) = zeT (es.take k) p := by
 induction k with
 | zero => simp [idxE, zeT]
 | succ k ih =>
  rw [zh4 es k h, zkn es k h, List.map_append, ih (by omega)]
  congr 1
  by_cases e : es[k].fr = p <;> simp [e, show k < es.length from h]
theorem znw {es : List Edg} {k : Nat} {p : Int} {i : Nat} (h : i ∈ idxE es k p) : i < k := by
 unfold idxE at h
 simp at h
 exact h.1
end
section
def zbx (c : O) (e : Edg) : O :=
 if e.kd = 14 then emptyO c.n
 else if e.kd = 9 ∨ e.kd = 10 then forgetO c e.dst.toNat
 else if e.kd = 12 then za2 c e.op e.av e.an e.bv e.bn
 else if e.kd = 2 then (if e.av < 0 then giveO c e.dst.toNat (oneR e.an) else if e.av = e.dst then c else linkO c (2 * e.dst.toNat) (2 * e.av.toNat) 0)
 else if e.kd = 3 then (if e.av < 0 then zaF c 3 e.dst.toNat e.an e.bn else if e.av = e.dst then zcF c e.dst.toNat else linkO c (2 * e.dst.toNat) (2 * e.av.toNat + 1) 0)
 else if e.kd = 4 ∨ e.kd = 5 then (if e.av < 0 ∧ e.bv < 0 then zaF c e.kd e.dst.toNat e.an e.bn else zhL c (decide (e.kd = 5)) e.dst.toNat e.av e.an e.bv e.bn)
 else if e.kd = 6 ∨ e.kd = 7 ∨ e.kd = 8 then (if e.av < 0 ∧ e.bv < 0 then zaF c e.kd e.dst.toNat e.an e.bn else productsO c e.kd e.dst.toNat e.av e.an e.bv e.bn)
 else c
def transO (o : O) (e : Edg) : O := if (closeO o).e then closeO o else zbx (closeO o) e
def zbd (n : Int) (e : Edg) : Bool := rightE n (if 0 ≤ e.arr then 1 else 0) { e with arr := if 0 ≤ e.arr then 0 else e.arr }
def transErr (o : O) (e : Edg) : Int := if check o ≠ 0 then check o else if zbd o.n e then 0 else 160
def transAns (o : O) (e : Edg) : O := if transErr o e = 0 then transO o e else ⟨0, false, []⟩
def assumeErr (o : O) (op av bv : Int) : Int := if check o ≠ 0 then check o else if 1 ≤ op ∧ op ≤ 6 ∧ av < o.n ∧ bv < o.n then 0 else 160
def zkV (o : O) (op av an bv bn : Int) : O := if (closeO o).e then closeO o else za2 (closeO o) op av an bv bn
def assumeAns (o : O) (op av an bv bn : Int) : O := if assumeErr o op av bv = 0 then zkV o op av an bv bn else ⟨0, false, []⟩
def nearT (v n : Int) : Bool := decide (0 ≤ v) || decide (-2305843009213693952 ≤ n ∧ n ≤ 2305843009213693952)
def zb6 (e : Edg) : Bool :=
 nearT e.av e.an && nearT e.bv e.bn &&
 (decide (e.kd = 1 ∨ e.kd = 11 ∨ e.kd = 13 ∨ e.kd = 14 ∨ e.kd = 9 ∨ e.kd = 10 ∨ e.kd = 2 ∨ e.kd = 3) ||
  (decide (e.kd = 12) && (decide (e.op ≠ 4) || (decide (e.av < 0) && decide (e.bv < 0)))) ||
  (decide (e.kd = 4) && (decide (e.av < 0) != decide (e.bv < 0))) || (decide (e.kd = 5) && (decide (0 ≤ e.av) && decide (e.bv < 0))))
section
variable {n : Int} {o : O}
theorem OkO.unlikeVars (h : OkO n o) {av an bv bn : Int} (h0 : 0 ≤ av) (h1 : 0 ≤ bv) (ha : av < n) (hb : bv < n) : OkO n (zby o av an bv bn) := by
 unfold zby
 split
 ·rw [h.n_]; exact h.empty
 ·dsimp only
  have h2 : OkO n (if G (2 * o.n).toNat o.m (2 * av.toNat) (2 * bv.toNat) = 0 then atMostO o av an bv bn true else o) := by
   split
   ·exact h.atMost ha hb (.inl h0)
   ·exact h
  split
  ·exact h2.atMost hb ha (.inl h1)
  ·exact h2
theorem OkO.unlikeNum (h : OkO n o) {av an bv bn : Int} (h0 : 0 ≤ av) (ha : av < n) (hb : bv < n) : OkO n (unlikeNumO o av an bv bn) := by
 unfold unlikeNumO
 dsimp only
 have h2 : OkO n (if (varR (2 * o.n).toNat o.m av.toNat).hh && decide ((varR (2 * o.n).toNat o.m av.toNat).hi = bn) then atMostO o av an bv bn true else o) := by
  split
  ·exact h.atMost ha hb (.inl h0)
  ·exact h
 split
 ·exact h2.atMost hb ha (.inr h0)
 ·exact h2
theorem OkO.unlike (h : OkO n o) {av an bv bn : Int} (ha : av < n) (hb : bv < n) (hab : 0 ≤ av ∨ 0 ≤ bv) : OkO n (unlikeO o av an bv bn) := by
 unfold unlikeO
 split
 ·rw [if_neg (by omega)]
  exact h.unlikeNum (by omega) hb ha
 ·split
  ·exact h.unlikeVars (by omega) (by omega) ha hb
  ·exact h.unlikeNum (by omega) ha hb
theorem OkO.assumes (h : OkO n o) {op av an bv bn : Int} (ha : av < n) (hb : bv < n) : OkO n (za2 o op av an bv bn) := by
 unfold za2
 split
 ·split
  ·exact h
  ·rw [h.n_]; exact h.empty
 ·split
  ·exact ((h.atMost ha hb (by omega)).atMost hb ha (by omega)).close
  ·split
   ·exact (h.unlike ha hb (by omega)).close
   ·split
    ·exact (h.atMost hb ha (by omega)).close
    ·split
     ·exact (h.atMost ha hb (by omega)).close
     ·split
      ·exact (h.atMost hb ha (by omega)).close
      ·exact (h.atMost ha hb (by omega)).close
theorem OkO.link (h : OkO n o) {i j : Nat} (hi : (i : Int) < 2 * n) (hj : (j : Int) < 2 * n) (k : Int) : OkO n (linkO o i j k) :=
 (((h.forget _).with_ hi hj _).with_ hj hi _).close
theorem OkO.shift (h : OkO n o) {dst y : Nat} (hd : (dst : Int) < n) (hy : (y : Int) < n) (he : o.e = false) (k : Int) : OkO n (zbL o dst y k) := by
 unfold zbL
 split
 ·exact h.forget _
 ·split
  ·exact h.link (by omega) (by omega) _
  ·rcases h.form with e | ⟨N, m, hN, hn, rfl, hc⟩
   ·rw [e] at he; cases he
   ·dsimp only
    rw [show (2 * n).toNat = N by omega]
    exact (OkO.of_cells hN hn (zb3 (by omega) hc)).close
theorem OkO.turns (h : OkO n o) (he : o.e = false) (v : Nat) : OkO n (zcF o v) := by
 unfold zcF
 rcases h.form with e | ⟨N, m, hN, hn, rfl, hc⟩
 ·rw [e] at he; cases he
 ·dsimp only
  rw [show (2 * n).toNat = N by omega]
  exact (OkO.of_cells hN hn (zcr (by omega) hc)).close
theorem OkO.sums (h : OkO n o) {dst u w : Nat} (hd : (dst : Int) < n) (hu : (u : Int) < n) (hw : (w : Int) < n) (b : Bool) : OkO n (sumsO o dst u w b) := by
 unfold sumsO
 dsimp only
 have h1 := fun r => (h.forget dst).ranged hd r
 have h2 : ∀ (x : O) (c : Prop) [Decidable c] (i j : Nat) (r : Rg), OkO n x → (i : Int) < 2 * n → (j : Int) < 2 * n → OkO n (if c then pairO x i j r else x) := fun x c _ i j r hx hi hj => by
  split
  ·exact hx.pair hi hj r
  ·exact hx
 refine (h2 _ _ _ _ _ (h2 _ _ _ _ _ (h1 _) (by omega) ?_) (by omega) (by omega)).close
 split <;> omega
theorem OkO.number (h : OkO n o) {dst : Nat} (hd : (dst : Int) < n) (kd a b : Int) : OkO n (zaF o kd dst a b) := by
 unfold zaF
 split
 ·exact h.give hd _
 ·rw [h.n_]; exact h.empty
theorem OkO.adds (h : OkO n o) (he : o.e = false) {dst : Nat} {av an bv bn : Int} (hd : (dst : Int) < n) (ha : av < n) (hb : bv < n) (_hab : 0 ≤ av ∨ 0 ≤ bv) (b : Bool) : OkO n (zhL o b dst av an bv bn) := by
 unfold zhL
 split
 ·split
  ·exact h.sums hd (by omega) (by omega) _
  ·split
   ·split
    ·exact h.shift hd (by omega) he _
    ·exact h.give hd _
   ·exact h.shift hd (by omega) he _
 ·split
  ·exact h.give hd _
  ·exact h.shift hd (by omega) he _
end
theorem zeF {n na : Int} {e : Edg} (h : rightE n na e = true) (hk : 2 ≤ e.kd ∧ e.kd ≤ 10) : 0 ≤ e.dst ∧ e.dst < n := by
 unfold rightE wDst at h
 simp only [Bool.and_eq_true] at h
 have := h.1.1.1.1.2
 rw [decide_eq_true hk] at this
 simpa using this
theorem zgi {n na : Int} {e : Edg} (h : rightE n na e = true) : e.av = -1 ∨ (0 ≤ e.av ∧ e.av < n) := by
 unfold rightE at h
 simp only [Bool.and_eq_true] at h
 have := h.1.2
 cases hw : wA e.kd <;> rw [hw] at this <;> simp [zaA, opdOk] at this <;> omega
theorem zfY {n na : Int} {e : Edg} (h : rightE n na e = true) : e.bv = -1 ∨ (0 ≤ e.bv ∧ e.bv < n) := by
 unfold rightE at h
 simp only [Bool.and_eq_true] at h
 have := h.2
 cases hw : wB e.kd <;> rw [hw] at this <;> simp [zaA, opdOk] at this <;> omega
theorem zlE {n : Int} {o : O} {e : Edg} (h : OkO n o) (he : o.e = false) (hn : 0 ≤ n) (hr : zbd n e = true) : OkO n (zbx o e) := by
 have ha := zgi hr
 have hb := zfY hr
 have hd := fun hk => zeF hr hk
 dsimp only at ha hb hd
 unfold zbx
 split
 ·rw [h.n_]; exact h.empty
 ·split
  ·exact h.forget _
  ·split
   ·exact h.assumes (by omega) (by omega)
   ·split
    ·have := hd (by omega)
     split
     ·exact h.give (by omega) _
     ·split
      ·exact h
      ·exact h.link (by omega) (by omega) _
    ·split
     ·have := hd (by omega)
      split
      ·exact h.number (by omega) _ _ _
      ·split
       ·exact h.turns he _
       ·exact h.link (by omega) (by omega) _
     ·split
      ·have := hd (by omega)
       split
       ·exact h.number (by omega) _ _ _
       ·exact h.adds he (by omega) (by omega) (by omega) (by omega) _
      ·split
       ·have := hd (by omega)
        split
        ·exact h.number (by omega) _ _ _
        ·exact h.give (by omega) _
       ·exact h
end
section
def zaC (x : List Int) (i : Nat) : Int := if i % 2 = 0 then gI x ((i / 2 : Nat) : Int) else -gI x ((i / 2 : Nat) : Int)
theorem zcq (x : List Int) (i : Nat) : zaC x (nx i) = -zaC x i := by
 unfold zaC nx
 by_cases h : i % 2 = 0
 ·rw [if_pos h, if_pos h, if_neg (by omega), show (i + 1) / 2 = i / 2 by omega]
 ·rw [if_neg h, if_neg h, if_pos (by omega), show (i - 1) / 2 = i / 2 by omega, Int.neg_neg]
def apartX (x : List Int) (i j : Nat) : Int := zaC x i - zaC x j
def Lets (c d : Int) : Prop := c = 9223372036854775807 ∨ d ≤ c
def HasM (N : Nat) (m x : List Int) : Prop := ∀ i j : Nat, i < N → j < N → Lets (G N m i j) (apartX x i j)
theorem bndS {a : Int} (h : zag a = true) : a = 9223372036854775807 ∨ (-4611686018427387904 ≤ a ∧ a ≤ 4611686018427387904) := by
 unfold zag at h; exact of_decide_eq_true h
theorem zei {a b d : Int} (h : Lets a d) (k : Lets b d) (ha : zag a = true) (hb : zag b = true) : Lets (min a b) d := by
 have := bndS ha
 have := bndS hb
 unfold Lets at *; omega
theorem zcn {s d : Int} (h : d ≤ s) : Lets (near s) d := by
 unfold Lets near
 split
 ·omega
 ·split <;> omega
theorem zdz {a b d e : Int} (ha : zag a = true) (hb : zag b = true) (h : Lets a d) (k : Lets b e) : Lets (plus a b) (d + e) := by
 have h1 := zbe ha
 have h2 := zbe hb
 unfold plus
 rw [h1, h2]
 split
 ·exact .inl rfl
 ·unfold Lets at h k
  exact zcn (by omega)
theorem zld {a d : Int} (ha : zag a = true) (h : Lets a (2 * d)) : Lets (even a) (2 * d) := by
 have h1 := zbe ha
 unfold even Lets at *
 rw [h1]
 split <;> omega
theorem zjt {a d : Int} (ha : zag a = true) (h : Lets a (2 * d)) : Lets (half a) d := by
 have h1 := zbe ha
 unfold half Lets at *
 rw [h1]
 split <;> omega
section
variable {N : Nat} {xs x : List Int}
theorem HasM.set (hl : xs.length = N * N) (h : HasM N xs x) {i j : Nat} (hi : i < N) (hj : j < N) {v : Int} (hv : Lets v (apartX x i j)) : HasM N (xs.set (i * N + j) v) x := fun a b ha hb => by
 rw [zdX hl hi hj v hb]
 split
 ·rename_i e; rw [e.1, e.2]; exact hv
 ·exact h a b ha hb
def zcf (N : Nat) (x xs ys : List Int) : Prop := xs.length = N * N → AllB xs → HasM N xs x → ys.length = N * N ∧ AllB ys ∧ HasM N ys x
theorem zcf.rep {f : Nat → List Int → List Int} : ∀ (t : Nat) (_ : ∀ i zs, i < t → zcf N x zs (f i zs)) (zs : List Int), zcf N x zs (rep f t zs)
 | 0, _, _, hl, hb, hx => ⟨hl, hb, hx⟩
 | t + 1, hf, zs, hl, hb, hx => by
  obtain ⟨h1, h2, h3⟩ := zcf.rep t (fun i zs hi => hf i zs (by omega)) zs hl hb hx
  exact hf t _ (by omega) h1 h2 h3
theorem zhb {k i j : Nat} (hk : k < N) (hi : i < N) (hj : j < N) (zs : List Int) : zcf N x zs (zhe N k i j zs) := fun hl hb hx => by
 have h1 := zeW N k i j zs
 refine ⟨h1.len.trans hl, h1.all hb, hx.set hl hi hj (zei (hx i j hi hj) ?_ (hb _) (zbi _ _))⟩
 have := zdz (hb (i * N + k)) (hb (k * N + j)) (hx i k hi hk) (hx k j hk hj)
 have e : apartX x i k + apartX x k j = apartX x i j := by unfold apartX; omega
 rwa [e] at this
theorem zhs (zs : List Int) : zcf N x zs (paths N N zs) :=
 zcf.rep N (fun _k zs hk => zcf.rep N (fun _i zs hi => zcf.rep N (fun _j zs hj => zhb hk hi hj zs) zs) zs) zs
theorem zfa (x : List Int) (i j : Nat) : apartX x (nx j) (nx i) = apartX x i j := by unfold apartX; rw [zcq, zcq]; omega
theorem zhw (hN : N % 2 = 0) {i j : Nat} (hi : i < N) (hj : j < N) (zs : List Int) : zcf N x zs (zgY N i j zs) := fun hl hb hx => by
 have h1 := zgv N i j zs
 have k1 := hx i j hi hj
 have k2 := hx (nx j) (nx i) (nxl hN hj) (nxl hN hi)
 rw [zfa] at k2
 have k3 := zei k1 k2 (hb _) (hb _)
 refine ⟨h1.len.trans hl, h1.all hb, (hx.set hl hi hj k3).set (by rw [List.length_set]; exact hl) (nxl hN hj) (nxl hN hi) (by rw [zfa]; exact k3)⟩
theorem zfT (hN : N % 2 = 0) (zs : List Int) : zcf N x zs (zaB N N zs) :=
 zcf.rep N (fun _i zs hi => zcf.rep N (fun _j zs hj => zhw hN hi hj zs) zs) zs
theorem zbP (x : List Int) (i : Nat) : apartX x i (nx i) = 2 * zaC x i := by unfold apartX; rw [zcq]; omega
theorem zg8 (hN : N % 2 = 0) {i : Nat} (hi : i < N) (zs : List Int) : zcf N x zs (zdm N i zs) := fun hl hb hx => by
 have h1 := zgF N i zs
 have k1 := hx i (nx i) hi (nxl hN hi)
 rw [zbP] at k1
 exact ⟨h1.len.trans hl, h1.all hb, hx.set hl hi (nxl hN hi) (by rw [zbP]; exact zld (hb _) k1)⟩
theorem zhK (hN : N % 2 = 0) (zs : List Int) : zcf N x zs (zaU N N zs) := zcf.rep N (fun _i zs hi => zg8 hN hi zs) zs
theorem zhF (hN : N % 2 = 0) {i j : Nat} (hi : i < N) (hj : j < N) (zs : List Int) : zcf N x zs (zdi N i j zs) := fun hl hb hx => by
 have h1 := zgj N i j zs
 refine ⟨h1.len.trans hl, h1.all hb, ?_⟩
 unfold zdi
 split
 ·exact hx
 ·refine hx.set hl hi hj (zei (hx i j hi hj) (zjt (zbi _ _) ?_) (hb _) (za6 _))
  have k1 := hx i (nx i) hi (nxl hN hi)
  have k2 := hx (nx j) j (nxl hN hj) hj
  have := zdz (hb (i * N + nx i)) (hb (nx j * N + j)) k1 k2
  have e : apartX x i (nx i) + apartX x (nx j) j = 2 * apartX x i j := by unfold apartX; rw [zcq, zcq]; omega
  rwa [e] at this
theorem zdT (hN : N % 2 = 0) (zs : List Int) : zcf N x zs (zaV N N zs) :=
 zcf.rep N (fun _i zs hi => zcf.rep N (fun _j zs hj => zhF hN hi hj zs) zs) zs
theorem zil (hx : HasM N xs x) : ∀ t, t ≤ N → negs N xs t = false
 | 0, _ => rfl
 | t + 1, ht => by
  unfold negs
  rw [zil hx t (by omega), Bool.false_or, decide_eq_false_iff_not]
  have := hx t t (by omega) (by omega)
  unfold Lets apartX G at this
  omega
theorem zee (hN : N % 2 = 0) (hb : AllB xs) (hx : HasM N xs x) : ∀ t, t ≤ N → zaT N xs t = false
 | 0, _ => rfl
 | t + 1, ht => by
  unfold zaT
  rw [zee hN hb hx t (by omega), Bool.or_false, decide_eq_false_iff_not]
  have h1 := hx t (nx t) (by omega) (nxl hN (by omega))
  have h2 := hx (nx t) t (nxl hN (by omega)) (by omega)
  have := zdz (hb (t * N + nx t)) (hb (nx t * N + t)) h1 h2
  have e : apartX x t (nx t) + apartX x (nx t) t = 0 := by unfold apartX; omega
  rw [e] at this
  unfold Lets at this
  omega
theorem ziz (hN : N % 2 = 0) (hl : xs.length = N * N) (hb : AllB xs) (hx : HasM N xs x) : ∃ ys, za3 N xs = some ys ∧ HasM N ys x := by
 obtain ⟨l1, b1, x1⟩ := zhs (x := x) xs hl hb hx
 obtain ⟨l2, b2, x2⟩ := zfT hN (x := x) _ l1 b1 x1
 obtain ⟨l3, b3, x3⟩ := zhK hN (x := x) _ l2 b2 x2
 obtain ⟨_, _, x4⟩ := zdT hN (x := x) _ l3 b3 x3
 unfold za3
 rw [zil x2 N (Nat.le_refl _), zee hN b3 x3 N (Nat.le_refl _)]
 exact ⟨_, rfl, x4⟩
end
def HasO (o : O) (x : List Int) : Prop := o.e = false ∧ (x.length : Int) = o.n ∧ HasM (2 * o.n).toNat o.m x
theorem zdQ {o : O} {x : List Int} (hc : check o = 0) (h : HasO o x) : HasO (closeO o) x := by
 obtain ⟨he, hl, hx⟩ := h
 obtain ⟨n, e, m⟩ := o
 dsimp only at *
 subst he
 obtain ⟨h0, h1, _, _⟩ := zbD hc
 dsimp only at h0 h1
 obtain ⟨N, hN⟩ : ∃ N : Nat, (N : Int) = 2 * n := ⟨(2 * n).toNat, by omega⟩
 have hNt : (2 * n).toNat = N := by omega
 rw [hNt] at hx
 have cs := zdM hN hc
 obtain ⟨ys, hy, hx'⟩ := ziz (by omega) cs.len (zcK hc) hx
 rw [zdd (by rw [hNt]; exact hy)]
 exact ⟨rfl, hl, by dsimp only; rw [hNt]; exact hx'⟩
end
end Go.Proofs.YtnmpgijiimglcaaGreat
