/-
  gnomonref12.Top, gnomonref12.Bound: what they answer.
  What trans and the document's transfer tell, in plain words.
  What trans makes of octagons that may be may be. Plain.
  A row of slices, each of which has a row of its own (a slice of slices that grow by append): generic in the element.
  Graphs as data; when a graph is one (P9.2), in plain words; how its edges lie in memory.
  What is known behind an edge, in plain words; it may be.
-/
import Derived.Test.YtkncebcekhfnfaaGreatBWT11
import Derived.Test.YtkncebcekhfnfaaGreatBWT10
import Derived.Test.YtkncebcekhfnfaaGreatBWT02
import Derived.Deep.OwnRows
namespace Go.Proofs.YtkncebcekhfnfaaGreat
section

end
section
open Go.RowKit

def emptyO (n : Int) : O := ⟨n, true, []⟩
/-- Of two numbers what a kind of edge makes. -/
def kindW (kd a b : Int) : Int × Int := if kd = 3 then negW a else if kd = 4 then addW a b else if kd = 5 then subW a b else if kd = 6 then mulW a b else if kd = 7 then divW a b else remW a b
end
section
open Go.RowKit

theorem at_div {N a b : Nat} (hb : b < N) : (a * N + b) / N = a := by
  rw [Nat.add_comm, Nat.add_mul_div_right _ _ (by omega), Nat.div_eq_of_lt hb, Nat.zero_add]
theorem at_mod {N a b : Nat} (hb : b < N) : (a * N + b) % N = b := by
  rw [Nat.add_comm, Nat.add_mul_mod_self_right, Nat.mod_eq_of_lt hb]
end
section
open Go.RowKit

/-- Block F holds n slices 'f p'; slice p has the elements 'ls p', in a row of its own; no two share one. -/
structure LL {α : Type} (enc : α → List Value) (w : World) (base F n : Nat) (T e : TypeId) (size : Nat) (f : Nat → Value) (ls : Nat → List α) : Prop where
  row : w.rowIs F T n f
  ge : base ≤ F
  own : ∀ p, p < n → w.ownsRow base e size (f p) (ls p).length ((ls p).flatMap enc)
  apart : ∀ p q k, p < n → q < n → p ≠ q → (f p).ownBlock = some k → (f q).ownBlock ≠ some k
  ne : ∀ p, p < n → (f p).ownBlock ≠ some F

section
variable {α : Type} {enc : α → List Value} {w w' w1 : World} {base F n : Nat} {T e : TypeId} {size : Nat} {f : Nat → Value} {ls : Nat → List α}
theorem LL.below (h : LL enc w base F n T e size f ls) (hb : Below w.heap.size w w') : LL enc w' base F n T e size f ls :=
  ⟨h.row.of_block (hb.block _ h.row.lt), h.ge, fun p hp => World.ownsRow.kept (h.own p hp) (grown_of_below hb none) (by cases h' : (f p).ownBlock <;> simp), h.apart, h.ne⟩
/-- One append onto slice x, stored back. -/
theorem LL.put (h : LL enc w base F n T e size f ls) {x : Nat} (hx : x < n) {v : Value} {y : α} (hg : w.grownBy w1 (f x).ownBlock)
    (ho : w1.ownsRow base e size v ((ls x).length + 1) ((ls x).flatMap enc ++ enc y)) (hv : v.ownBlock = (f x).ownBlock ∨ v.ownBlock = some w.heap.size) :
    LL enc (w1.setCell ⟨F, x, none⟩ v) base F n T e size (fun j => if j = x then v else f j) (fun j => if j = x then ls x ++ [y] else ls j) := by
  have hFw := h.row.lt
  have hF1 : w1.heap[F]? = w.heap[F]? := hg.block F hFw (fun e => h.ne x hx e.symm)
  have hvF : v.ownBlock ≠ some F := by
    rcases hv with e | e <;> rw [e]
    · exact h.ne x hx
    · intro e; simp at e; omega
  have hlt : ∀ p, p < n → ∀ k, (f p).ownBlock = some k → k < w.heap.size := fun p hp k hk => ((h.own p hp).lt k hk).2
  refine ⟨(h.row.of_block hF1).set x v, h.ge, fun p hp => ?_, fun p q k hp hq hpq => ?_, fun p hp => ?_⟩
  · by_cases e : p = x
    · subst e
      simp only [if_pos]
      have : (ls p ++ [y]).length = (ls p).length + 1 := by simp
      rw [this, List.flatMap_append]
      have : [y].flatMap enc = enc y := by simp
      rw [this]
      exact World.ownsRow.kept ho (grown_setCell w1 ⟨F, p, none⟩ v) (.inr hvF)
    · simp only [if_neg e]
      refine World.ownsRow.kept (World.ownsRow.kept (h.own p hp) hg ?_) (grown_setCell w1 ⟨F, x, none⟩ v) (.inr (h.ne p hp))
      cases hk : (f p).ownBlock
      · exact .inl rfl
      · rename_i k
        exact .inr (fun e' => h.apart p x k hp hx e hk e'.symm)
  · by_cases e : p = x
    · subst e
      simp only [if_pos, if_neg (Ne.symm hpq)]
      intro hk hk'
      rcases hv with e | e
      · exact h.apart p q k hp hq hpq (e ▸ hk) hk'
      · rw [e] at hk; simp at hk; have := hlt q hq k hk'; omega
    · by_cases e' : q = x
      · subst e'
        simp only [if_pos, if_neg e]
        intro hk hk'
        rcases hv with e2 | e2
        · exact h.apart p q k hp hq hpq hk (e2 ▸ hk')
        · rw [e2] at hk'; simp at hk'; have := hlt p hp k hk; omega
      · simp only [if_neg e, if_neg e']
        exact h.apart p q k hp hq hpq
  · by_cases e : p = x
    · subst e; simp only [if_pos]; exact hvF
    · simp only [if_neg e]; exact h.ne p hp
theorem LL.put_below {B : Nat} (h : LL enc w base F n T e size f ls) (hB : B ≤ base) (hBw : B ≤ w.heap.size) {x : Nat} (hx : x < n) {v : Value} (hg : w.grownBy w1 (f x).ownBlock) : Below B w (w1.setCell ⟨F, x, none⟩ v) := by
  have h1 : Below B w w1 := below_grown hg (fun k hk => by have := ((h.own x hx).lt k hk).1; omega) hBw
  exact h1.setCell (by have := h.ge; simp; omega) _
theorem LL.congr {ls' : Nat → List α} (h : LL enc w base F n T e size f ls) (hl : ∀ p, p < n → ls p = ls' p) : LL enc w base F n T e size f ls' :=
  ⟨h.row, h.ge, fun p hp => hl p hp ▸ h.own p hp, h.apart, h.ne⟩
theorem LL.less {b2 : Nat} (h : LL enc w base F n T e size f ls) (hb : b2 ≤ base) : LL enc w b2 F n T e size f ls :=
  ⟨h.row, by have := h.ge; omega, fun p hp => by
    refine ⟨(h.own p hp).1, ?_⟩
    rcases (h.own p hp).2 with h1 | ⟨g, cap', cur, h1, h2, h3⟩
    · exact .inl h1
    · exact .inr ⟨g, cap', cur, h1, by omega, h3⟩, h.apart, h.ne⟩
theorem LL.start {w : World} {base n : Nat} {T e : TypeId} {size : Nat} (hb : base ≤ w.heap.size) :
    LL enc (w.alloc (.cells (madeCells #[.slice none 0 0] n) T)) base w.heap.size n T e size (fun _ => .slice none 0 0) (fun _ => []) :=
  ⟨World.rowIs_made _ _ _ _, hb, fun p _ => World.ownsRow_nil _ _ _ _, fun p q k _ _ _ h => by simp [Value.ownBlock] at h, fun p _ h => by simp [Value.ownBlock] at h⟩
/-- Slice p as it stands: nil, or a row of its own. -/
theorem LL.slice (h : LL enc w base F n T e size f ls) {p : Nat} (hp : p < n) : (f p = .slice none 0 0 ∧ ls p = []) ∨ ∃ g cap, f p = .slice (some ⟨g, 0, none⟩) (ls p).length cap ∧ base ≤ g ∧ g < w.heap.size ∧ g ≠ F ∧ (ls p).length ≤ cap ∧ cap ≤ maxLen := by
  rcases (h.own p hp).2 with ⟨h1, h0⟩ | ⟨g, cap, cur, h1, hb, hg, hc, hm, _⟩
  · exact .inl ⟨h1, List.eq_nil_of_length_eq_zero h0⟩
  · refine .inr ⟨g, cap, h1, hb, (Array.getElem?_eq_some_iff.1 hg).1, fun e => h.ne p hp (by rw [h1, e]; rfl), hc, hm⟩
theorem LL.cell (h : LL enc w base F n T e size f ls) {p : Nat} (hp : p < n) {g cap : Nat} (hf : f p = .slice (some ⟨g, 0, none⟩) (ls p).length cap) {j : Nat} (hj : j < (ls p).length * size) : w.cell? ⟨g, j, none⟩ = ((ls p).flatMap enc)[j]? := by
  have := h.own p hp
  rw [hf] at this
  exact this.cellAt j hj
end

theorem fmS_len {α : Type} (enc : α → List Value) (s : Nat) (hs : ∀ x, (enc x).length = s) (xs : List α) : (xs.flatMap enc).length = xs.length * s := by
  induction xs with
  | nil => simp
  | cons x xs ih => rw [List.flatMap_cons, List.length_append, ih, hs, List.length_cons, Nat.succ_mul, Nat.add_comm]
theorem fmS_get {α : Type} (enc : α → List Value) (s : Nat) (hs : ∀ x, (enc x).length = s) : ∀ (xs : List α) (k r : Nat) (h : k < xs.length), r < s → (xs.flatMap enc)[k * s + r]? = (enc xs[k])[r]?
  | [], k, r, h, _ => absurd h (by simp)
  | x :: xs, 0, r, _, hr => by
    rw [List.flatMap_cons, List.getElem?_append_left (by rw [hs]; omega)]; simp
  | x :: xs, k + 1, r, h, hr => by
    rw [List.flatMap_cons, List.getElem?_append_right (by rw [hs, Nat.succ_mul]; omega), hs, show (k + 1) * s + r - s = k * s + r by rw [Nat.succ_mul]; omega]
    exact fmS_get enc s hs xs k r (by simpa using h) hr
/-- Ints as elements. -/
def enc1 (x : Int) : List Value := [.int .i64 x]
theorem fm1 (xs : List Int) : xs.flatMap enc1 = i64s xs := by
  induction xs with
  | nil => rfl
  | cons x xs ih => rw [List.flatMap_cons, ih]; rfl
end
section
open Go.RowKit

/-- An edge: ten numbers. -/
structure Edg where
  fr : Int
  te : Int
  kd : Int
  dst : Int
  arr : Int
  op : Int
  av : Int
  an : Int
  bv : Int
  bn : Int
def Edg.cells (e : Edg) : List Value := [.int .i64 e.fr, .int .i64 e.te, .int .i64 e.kd, .int .i64 e.dst, .int .i64 e.arr, .int .i64 e.op, .int .i64 e.av, .int .i64 e.an, .int .i64 e.bv, .int .i64 e.bn]
def Edg.val (e : Edg) : Value := .agg #[.int .i64 e.fr, .int .i64 e.te, .int .i64 e.kd, .int .i64 e.dst, .int .i64 e.arr, .int .i64 e.op, .int .i64 e.av, .int .i64 e.an, .int .i64 e.bv, .int .i64 e.bn]
/-- A graph: how many variables, temporaries, the arrays' sizes, points, exit, edges. -/
structure Gr where
  nv : Nat
  tm : Int
  sz : List Int
  pts : Int
  ex : Int
  es : List Edg
def Gr.all (g : Gr) : Int := g.nv + g.tm

def wDst (k : Int) : Bool := decide (2 ≤ k ∧ k ≤ 10)
def wA (k : Int) : Bool := decide ((2 ≤ k ∧ k ≤ 8) ∨ (10 ≤ k ∧ k ≤ 12))
def wB (k : Int) : Bool := decide ((4 ≤ k ∧ k ≤ 8) ∨ (11 ≤ k ∧ k ≤ 12))
def wArr (k : Int) : Bool := decide (k = 10 ∨ k = 11)
def wOp (k : Int) : Bool := decide (k = 12)
def opdOk (n v m : Int) : Bool := decide (v = -1 ∨ (0 ≤ v ∧ v < n ∧ m = 0))
def opdNo (v m : Int) : Bool := decide (v = -1 ∧ m = 0)
/-- All but From and To. -/
def rightE (n na : Int) (e : Edg) : Bool :=
  decide (1 ≤ e.kd ∧ e.kd ≤ 14) && (bif wDst e.kd then decide (0 ≤ e.dst ∧ e.dst < n) else decide (e.dst = -1)) && (bif wArr e.kd then decide (0 ≤ e.arr ∧ e.arr < na) else decide (e.arr = -1)) &&
  (bif wOp e.kd then decide (1 ≤ e.op ∧ e.op ≤ 6) else decide (e.op = 0)) && (bif wA e.kd then opdOk n e.av e.an else opdNo e.av e.an) && (bif wB e.kd then opdOk n e.bv e.bn else opdNo e.bv e.bn)
def inE (pts ex : Int) (e : Edg) : Bool := decide (0 ≤ e.fr ∧ e.fr < pts ∧ 0 ≤ e.te ∧ e.te < pts ∧ e.fr ≠ ex)
def edgeOk (g : Gr) (e : Edg) : Bool := inE g.pts g.ex e && rightE g.all g.sz.length e
def notOp (op : Int) : Int := if op = 1 then 6 else if op = 2 then 5 else if op = 3 then 4 else if op = 4 then 3 else if op = 5 then 2 else if op = 6 then 1 else 0
/-- The edges from a point. -/
def outsE (es : List Edg) (p : Int) : List Edg := es.filter (fun e => decide (e.fr = p))
def fork2 (a b : Edg) : Bool := decide (a.kd = 12) && decide (b.kd = 12) && decide (a.av = b.av ∧ a.an = b.an) && decide (a.bv = b.bv ∧ a.bn = b.bn) && decide (b.op = notOp a.op)
def forkE : List Edg → Bool
  | [] => true
  | [a] => decide (a.kd ≠ 12)
  | [a, b] => fork2 a b
  | _ => false
def arrOk (s : Int) : Bool := decide (1 ≤ s ∧ s ≤ 1024)
def forksOk (g : Gr) (k : Nat) : Bool := (List.range k).all (fun p => forkE (outsE g.es p))
def varsBad (g : Gr) : Bool := decide (g.tm < 0 ∨ 64 < g.tm ∨ 64 < g.all)
def ptsBad (g : Gr) : Bool := decide (g.pts < 1 ∨ 4096 < g.pts ∨ 8192 < g.es.length)
def formOk (g : Gr) : Bool := decide (g.sz.length ≤ 16) && g.sz.all arrOk && decide (0 ≤ g.ex ∧ g.ex < g.pts) && g.es.all (edgeOk g) && forksOk g g.pts.toNat
/-- What is wrong with a graph. -/
def chk (g : Gr) : Int := if varsBad g = true then 90 else if ptsBad g = true then 91 else if formOk g = true then 0 else 92

/-- The slice of declarations at A: their sizes read as sz. -/
def RdD (w : World) (B : Nat) (A : Option Addr) (sz : List Int) : Prop :=
  ∀ k : Nat, k < sz.length → ∃ b off, A = some ⟨b, off, none⟩ ∧ b < B ∧ (∃ s, w.cell? ⟨b, off + k * 2, none⟩ = some (.string s)) ∧ w.cell? ⟨b, off + k * 2 + 1, none⟩ = some (.int .i64 (gI sz k))
/-- The slice of edges at A reads as es. -/
def RdE (w : World) (B : Nat) (A : Option Addr) (es : List Edg) : Prop :=
  ∀ (k : Nat) (h : k < es.length), ∃ b off, A = some ⟨b, off, none⟩ ∧ b < B ∧ ∀ r, r < 10 → w.cell? ⟨b, off + k * 10 + r, none⟩ = es[k].cells[r]?
section
variable {w w' : World} {B B' : Nat} {A : Option Addr} {sz : List Int} {es : List Edg}
theorem RdD.below (h : RdD w B A sz) (hb : Below B w w') : RdD w' B A sz := fun k hk => by
  obtain ⟨b, off, hA, hB, ⟨s, hs⟩, hc⟩ := h k hk
  exact ⟨b, off, hA, hB, ⟨s, (hb.cell (p := ⟨b, _, none⟩) hB).trans hs⟩, (hb.cell (p := ⟨b, _, none⟩) hB).trans hc⟩
theorem RdD.more (h : RdD w B A sz) (hB : B ≤ B') : RdD w B' A sz := fun k hk => by
  obtain ⟨b, off, hA, hB', hc⟩ := h k hk
  exact ⟨b, off, hA, by omega, hc⟩
theorem RdE.below (h : RdE w B A es) (hb : Below B w w') : RdE w' B A es := fun k hk => by
  obtain ⟨b, off, hA, hB, hc⟩ := h k hk
  exact ⟨b, off, hA, hB, fun r hr => (hb.cell (p := ⟨b, _, none⟩) hB).trans (hc r hr)⟩
theorem RdE.more (h : RdE w B A es) (hB : B ≤ B') : RdE w B' A es := fun k hk => by
  obtain ⟨b, off, hA, hB', hc⟩ := h k hk
  exact ⟨b, off, hA, by omega, hc⟩
theorem RdD.up (h : RdD w w.heap.size A sz) (hb : Below w.heap.size w w') : RdD w' w'.heap.size A sz := (h.below hb).more hb.size
theorem RdE.up (h : RdE w w.heap.size A es) (hb : Below w.heap.size w w') : RdE w' w'.heap.size A es := (h.below hb).more hb.size
end
/-! ### Prefixes of the edges -/
theorem outs_succ (es : List Edg) (k : Nat) (h : k < es.length) (p : Int) : outsE (es.take (k + 1)) p = outsE (es.take k) p ++ (if es[k].fr = p then [es[k]] else []) := by
  unfold outsE
  rw [List.take_succ_eq_append_getElem h, List.filter_append]
  congr 1
  by_cases e : es[k].fr = p <;> simp [e]
/-- The numbers of the edges from a point, of the first k. -/
def idxE (es : List Edg) (k : Nat) (p : Int) : List Nat := (List.range k).filter (fun i => decide ((es.getD i ⟨0, 0, 0, 0, 0, 0, 0, 0, 0, 0⟩).fr = p))
theorem idx_succ (es : List Edg) (k : Nat) (h : k < es.length) (p : Int) : idxE es (k + 1) p = idxE es k p ++ (if es[k].fr = p then [k] else []) := by
  unfold idxE
  rw [List.range_succ, List.filter_append]
  congr 1
  by_cases e : es[k].fr = p <;> simp [h, e]
theorem idx_outs (es : List Edg) (k : Nat) (h : k ≤ es.length) (p : Int) : (idxE es k p).map (fun i => es.getD i ⟨0, 0, 0, 0, 0, 0, 0, 0, 0, 0⟩) = outsE (es.take k) p := by
  induction k with
  | zero => simp [idxE, outsE]
  | succ k ih =>
    rw [idx_succ es k h, outs_succ es k h, List.map_append, ih (by omega)]
    congr 1
    by_cases e : es[k].fr = p <;> simp [e, show k < es.length from h]
theorem idx_lt {es : List Edg} {k : Nat} {p : Int} {i : Nat} (h : i ∈ idxE es k p) : i < k := by
  unfold idxE at h
  simp at h
  exact h.1
end
section
open Go.RowKit

theorem right_a {n na : Int} {e : Edg} (h : rightE n na e = true) : e.av = -1 ∨ (0 ≤ e.av ∧ e.av < n) := by
  unfold rightE at h
  simp only [Bool.and_eq_true] at h
  have := h.1.2
  cases hw : wA e.kd <;> rw [hw] at this <;> simp [opdNo, opdOk] at this <;> omega
theorem right_b {n na : Int} {e : Edg} (h : rightE n na e = true) : e.bv = -1 ∨ (0 ≤ e.bv ∧ e.bv < n) := by
  unfold rightE at h
  simp only [Bool.and_eq_true] at h
  have := h.2
  cases hw : wB e.kd <;> rw [hw] at this <;> simp [opdNo, opdOk] at this <;> omega
end
end Go.Proofs.YtkncebcekhfnfaaGreat
