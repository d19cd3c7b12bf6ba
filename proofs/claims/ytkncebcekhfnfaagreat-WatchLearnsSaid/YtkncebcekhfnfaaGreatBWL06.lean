/-
  gnomonref12.Top, gnomonref12.Bound: what they answer.
  What trans and the document's transfer tell, in plain words.
  What trans makes of octagons that may be may be. Plain.
  Graphs as data; when a graph is one (P9.2), in plain words; how its edges lie in memory.
  What is known behind an edge, in plain words; it may be.
-/
import Derived.Test.YtkncebcekhfnfaaGreatBWL05
import Derived.Test.YtkncebcekhfnfaaGreatBWL02
namespace Go.Proofs.YtkncebcekhfnfaaGreat
open Go.RowKit
section
attribute [local go_sem ↓] Go.wp_at_zero Go.wp_at_succ

def topR (N : Nat) (m : List Int) (i : Nat) : Nat → List Int
  | 0 => m
  | l + 1 => if i = l then topR N m i l else (topR N m i l).set (i * N + l) 9223372036854775807
def topM (N : Nat) : Nat → List Int
  | 0 => List.replicate (N * N) 0
  | k + 1 => topR N (topM N k) k N
theorem topR_len (N : Nat) (m : List Int) (i : Nat) : ∀ l, (topR N m i l).length = m.length
  | 0 => rfl
  | l + 1 => by unfold topR; split <;> simp [topR_len N m i l]
theorem topM_len (N : Nat) : ∀ k, (topM N k).length = N * N
  | 0 => by simp [topM]
  | k + 1 => by unfold topM; rw [topR_len, topM_len N k]

set_option maxRecDepth 8000 in
set_option maxHeartbeats 2000000 in
theorem rtop_any (d N : Nat) (w : World) (hd : d ≤ 64) (hNN : (N : Int) = 2 * (d : Int)) :
    Calls Tryz.prog 100 #[.int .i64 (d : Int)] w (OctOwn w ⟨(d : Int), false, topM N N⟩) := by
  have hM0 : 4 * (d : Int) * (d : Int) = ((N * N : Nat) : Int) := by rw [Int.natCast_mul, hNN, Int.mul_assoc, Int.mul_assoc, Int.mul_left_comm (d : Int) 2 (d : Int), ← Int.mul_assoc 2 2]; rfl
  have hN1 : N ≤ 128 := by omega
  have hqb : N * N ≤ 128 * 128 := Nat.mul_le_mul hN1 hN1
  have hmk := run_make64 (N * N) (by omega)
  have hd4 : 0 ≤ 4 * (d : Int) * (d : Int) := by rw [hM0]; omega
  have hd5 : 4 * (d : Int) * (d : Int) ≤ 16384 := by rw [hM0]; omega
  rw [← hM0] at hmk
  have HN := hid hNN
  have hn0 : 0 ≤ 2 * (d : Int) := by omega
  have hn1 : 2 * (d : Int) ≤ 128 := by omega
  have HM0 := hid hM0
  have hb0 := new1 w (Obj.cells #[.int .i64 0, .bool false, .slice none 0 0] 53)
  have p0 := Blk.new w 53 #[.int .i64 0, .bool false, .slice none 0 0]
  have hom := own_made (w.alloc (Obj.cells #[.int .i64 0, .bool false, .slice none 0 0] 53)) (n := N * N) (Nat.le_refl _) (by omega)
  clear hM0 hNN
  go_enter Tryz.func100, Tryz.ntmps100
  go_wp2
  have hsz1 : (w.alloc (Obj.cells #[.int .i64 0, .bool false, .slice none 0 0] 53)).heap.size = w.heap.size + 1 := by simp
  rw [hsz1] at hom
  have n2 := new1 (w.alloc (Obj.cells #[.int .i64 0, .bool false, .slice none 0 0] 53)) (Obj.cells (zcells (N * N)) 2)
  have hsz2 : ((w.alloc (Obj.cells #[.int .i64 0, .bool false, .slice none 0 0] 53)).alloc (Obj.cells (zcells (N * N)) 2)).heap.size = w.heap.size + 2 := by simp
  replace p0 := p0.later n2
  replace hb0 := bup hb0 n2
  have n3 := new1 ((w.alloc (Obj.cells #[.int .i64 0, .bool false, .slice none 0 0] 53)).alloc (Obj.cells (zcells (N * N)) 2)) (Obj.cells #[.int .i64 (d : Int), .bool false, .slice (some ⟨w.heap.size + 1, 0, none⟩) (N * N) (N * N)] 53)
  have k3 := Blk.new ((w.alloc (Obj.cells #[.int .i64 0, .bool false, .slice none 0 0] 53)).alloc (Obj.cells (zcells (N * N)) 2)) 53 #[.int .i64 (d : Int), .bool false, .slice (some ⟨w.heap.size + 1, 0, none⟩) (N * N) (N * N)]
  replace hom := hom.below n3
  replace p0 := p0.later n3
  replace hb0 := bup hb0 n3
  rw [hsz2] at k3
  clear n2 n3 hsz1 hsz2
  generalize ((w.alloc (Obj.cells #[.int .i64 0, .bool false, .slice none 0 0] 53)).alloc (Obj.cells (zcells (N * N)) 2)).alloc (Obj.cells #[.int .i64 (d : Int), .bool false, .slice (some ⟨w.heap.size + 1, 0, none⟩) (N * N) (N * N)] 53) = w3 at *
  have HLM : Hid (∀ k, (topM N k).length = N * N) := hid (topM_len N)
  have HLR : Hid (∀ m i l, (topR N m i l).length = m.length) := hid (topR_len N)
  go_loopw [4] (fun i wr => ∃ k : Nat, k ≤ N ∧ i = .int .i64 k ∧ Blk wr (w.heap.size + 2) 53 #[.int .i64 (d : Int), .bool false, .slice (some ⟨w.heap.size + 1, 0, none⟩) (N * N) (N * N)] ∧ Own wr (w.heap.size + 1) (some ⟨w.heap.size + 1, 0, none⟩) (N * N) (topM N k) ∧ Blk wr w.heap.size 53 #[.int .i64 0, .bool false, .slice none 0 0] ∧ Below w.heap.size w wr) (fun i _ => N - (Go.RowKit.intOf i).toNat)
  case atStart => exact ⟨0, by omega, rfl, k3, hom, p0, hb0⟩
  case round =>
    obtain ⟨k, hkN, rfl, kr, ownr, pr, hbr⟩ := hrel
    by_cases hlt : k < N
    · have hltn : (k : Int) < 2 * (d : Int) := by have := HN.out; omega
      have HMS : Hid (topM N (k + 1) = topR N (topM N k) k N) := hid rfl
      have hml := HLM.out k
      have HML := hid hml
      clear hml
      generalize topM N k = m at *
      go_wp2
      go_loopw [5] (fun j wr => ∃ l : Nat, l ≤ N ∧ j = .int .i64 l ∧ Blk wr (w.heap.size + 2) 53 #[.int .i64 (d : Int), .bool false, .slice (some ⟨w.heap.size + 1, 0, none⟩) (N * N) (N * N)] ∧ Own wr (w.heap.size + 1) (some ⟨w.heap.size + 1, 0, none⟩) (N * N) (topR N m k l) ∧ Blk wr w.heap.size 53 #[.int .i64 0, .bool false, .slice none 0 0] ∧ Below w.heap.size w wr) (fun j _ => N - (Go.RowKit.intOf j).toNat)
      case atStart => exact ⟨0, by omega, rfl, kr, ownr, pr, hbr⟩
      case round =>
        clear kr ownr pr hbr
        obtain ⟨l, hlN, rfl, kr, ownr, pr, hbr⟩ := hrel
        by_cases hlt2 : l < N
        · have hltn2 : (l : Int) < 2 * (d : Int) := by have := HN.out; omega
          obtain ⟨a1, a2, a3, a4, a5, a6⟩ := idxr_ok HN.out hlt hlt2 hN1
          rw [← Int.mul_assoc] at a1 a2 a3 a5 a6
          have HRL := hid ((HLR.out m k l).trans HML.out)
          cases t1 : ((k : Int) != (l : Int))
          · have hkl : k = l := by
                have : (k : Int) = (l : Int) := by simpa using t1
                omega
            have HRS : Hid (topR N m k (l + 1) = topR N m k l) := hid (by rw [topR, if_pos hkl])
            clear hkl
            go_wp2
            go_roundw
            case rel => exact ⟨l + 1, by omega, by go_num, kr, by rw [HRS.out]; exact ownr, pr, hbr⟩
            case measure => simp [Go.RowKit.intOf]; omega
          · have hkl : k ≠ l := by have := bne_iff_ne.1 t1; omega
            have HRS : Hid (topR N m k (l + 1) = (topR N m k l).set (k * N + l) 9223372036854775807) := hid (by rw [topR, if_neg hkl])
            generalize topR N m k l = r at *
            obtain ⟨g1, o1, e1, _, c4⟩ := ownr.rd (k * N + l) (by rw [HRL.out]; exact a4)
            obtain ⟨rfl, rfl⟩ : w.heap.size + 1 = g1 ∧ 0 = o1 := by simpa using e1
            clear e1
            have f4 := ownr.frozen (k * N + l)
            rw [Nat.zero_add] at c4
            obtain ⟨x0, x1, x2, fx⟩ := octbox kr
            go_wp2
            clear x0 x1 x2 fx c4 f4
            go_roundw
            case rel => exact ⟨l + 1, by omega, by go_num, kr.far (p := ⟨w.heap.size + 1, k * N + l, none⟩) (by simp) _, by rw [HRS.out]; exact ownr.store (k * N + l) 9223372036854775807, pr.far (p := ⟨w.heap.size + 1, k * N + l, none⟩) (by simp) _, hbr.trans (below1 (by omega) hbr.size)⟩
            case measure => simp [Go.RowKit.intOf]; omega
        · obtain rfl : l = N := by omega
          have hge : ¬ ((l : Int) < 2 * (d : Int)) := by have := HN.out; omega
          rw [← HMS.out] at ownr
          go_wp2
          go_roundw
          case rel => exact ⟨k + 1, by omega, by go_num, kr, ownr, pr, hbr⟩
          case measure => simp [Go.RowKit.intOf]; omega
    · obtain rfl : k = N := by omega
      have hge : ¬ ((k : Int) < 2 * (d : Int)) := by have := HN.out; omega
      have HML := hid (HLM.out k)
      generalize topM k k = m at *
      obtain ⟨x0, x1, x2, fx⟩ := octbox kr
      obtain ⟨y0, y1, y2, fy⟩ := octbox pr
      go_wp2
      clear x0 x1 x2 fx y0 y1 y2 fy
      have q3 := pr.set3 (v0 := .int .i64 (d : Int)) (v1 := .bool false) (v2 := .slice (some ⟨w.heap.size + 1, 0, none⟩) (k * k) (k * k))
      have o3 := ownr.far3 (g := w.heap.size) (v0 := .int .i64 (d : Int)) (v1 := .bool false) (v2 := .slice (some ⟨w.heap.size + 1, 0, none⟩) (k * k) (k * k)) (own_blk' ownr pr (by decide))
      obtain ⟨z0, z1, z2, fz⟩ := octbox q3
      refine bodyPost_ret (v := .agg #[.int .i64 (d : Int), .bool false, .slice (some ⟨w.heap.size + 1, 0, none⟩) (k * k) (k * k)]) (by simp [results, Tryz.results100, go_sem, z0, z1, z2]) rfl ⟨_, _, by rw [HML.out], o3.less (by omega), hbr.trans (below3 (by omega) hbr.size)⟩
end
section

def emptyO (n : Int) : O := ⟨n, true, []⟩
/-- Of two numbers what a kind of edge makes. -/
def kindW (kd a b : Int) : Int × Int := if kd = 3 then negW a else if kd = 4 then addW a b else if kd = 5 then subW a b else if kd = 6 then mulW a b else if kd = 7 then divW a b else remW a b
end
section

theorem at_div {N a b : Nat} (hb : b < N) : (a * N + b) / N = a := by
  rw [Nat.add_comm, Nat.add_mul_div_right _ _ (by omega), Nat.div_eq_of_lt hb, Nat.zero_add]
theorem at_mod {N a b : Nat} (hb : b < N) : (a * N + b) % N = b := by
  rw [Nat.add_comm, Nat.add_mul_mod_self_right, Nat.mod_eq_of_lt hb]
end
section

/-- An edge: ten numbers. -/
structure Edg where
  fr : Int
  te : Int
  kd : Int
  dst : Int
  arr : Int
  op : Int
  av : Int
  an : Int
  bv : Int
  bn : Int
def Edg.cells (e : Edg) : List Value := [.int .i64 e.fr, .int .i64 e.te, .int .i64 e.kd, .int .i64 e.dst, .int .i64 e.arr, .int .i64 e.op, .int .i64 e.av, .int .i64 e.an, .int .i64 e.bv, .int .i64 e.bn]
def Edg.val (e : Edg) : Value := .agg #[.int .i64 e.fr, .int .i64 e.te, .int .i64 e.kd, .int .i64 e.dst, .int .i64 e.arr, .int .i64 e.op, .int .i64 e.av, .int .i64 e.an, .int .i64 e.bv, .int .i64 e.bn]
/-- A graph: how many variables, temporaries, the arrays' sizes, points, exit, edges. -/
structure Gr where
  nv : Nat
  tm : Int
  sz : List Int
  pts : Int
  ex : Int
  es : List Edg
def Gr.all (g : Gr) : Int := g.nv + g.tm

def wDst (k : Int) : Bool := decide (2 ≤ k ∧ k ≤ 10)
def wA (k : Int) : Bool := decide ((2 ≤ k ∧ k ≤ 8) ∨ (10 ≤ k ∧ k ≤ 12))
def wB (k : Int) : Bool := decide ((4 ≤ k ∧ k ≤ 8) ∨ (11 ≤ k ∧ k ≤ 12))
def wArr (k : Int) : Bool := decide (k = 10 ∨ k = 11)
def wOp (k : Int) : Bool := decide (k = 12)
def opdOk (n v m : Int) : Bool := decide (v = -1 ∨ (0 ≤ v ∧ v < n ∧ m = 0))
def opdNo (v m : Int) : Bool := decide (v = -1 ∧ m = 0)
/-- All but From and To. -/
def rightE (n na : Int) (e : Edg) : Bool :=
  decide (1 ≤ e.kd ∧ e.kd ≤ 14) && (bif wDst e.kd then decide (0 ≤ e.dst ∧ e.dst < n) else decide (e.dst = -1)) && (bif wArr e.kd then decide (0 ≤ e.arr ∧ e.arr < na) else decide (e.arr = -1)) &&
  (bif wOp e.kd then decide (1 ≤ e.op ∧ e.op ≤ 6) else decide (e.op = 0)) && (bif wA e.kd then opdOk n e.av e.an else opdNo e.av e.an) && (bif wB e.kd then opdOk n e.bv e.bn else opdNo e.bv e.bn)
def inE (pts ex : Int) (e : Edg) : Bool := decide (0 ≤ e.fr ∧ e.fr < pts ∧ 0 ≤ e.te ∧ e.te < pts ∧ e.fr ≠ ex)
def edgeOk (g : Gr) (e : Edg) : Bool := inE g.pts g.ex e && rightE g.all g.sz.length e
def notOp (op : Int) : Int := if op = 1 then 6 else if op = 2 then 5 else if op = 3 then 4 else if op = 4 then 3 else if op = 5 then 2 else if op = 6 then 1 else 0
/-- The edges from a point. -/
def outsE (es : List Edg) (p : Int) : List Edg := es.filter (fun e => decide (e.fr = p))
def fork2 (a b : Edg) : Bool := decide (a.kd = 12) && decide (b.kd = 12) && decide (a.av = b.av ∧ a.an = b.an) && decide (a.bv = b.bv ∧ a.bn = b.bn) && decide (b.op = notOp a.op)
def forkE : List Edg → Bool
  | [] => true
  | [a] => decide (a.kd ≠ 12)
  | [a, b] => fork2 a b
  | _ => false
def arrOk (s : Int) : Bool := decide (1 ≤ s ∧ s ≤ 1024)
def forksOk (g : Gr) (k : Nat) : Bool := (List.range k).all (fun p => forkE (outsE g.es p))
def varsBad (g : Gr) : Bool := decide (g.tm < 0 ∨ 64 < g.tm ∨ 64 < g.all)
def ptsBad (g : Gr) : Bool := decide (g.pts < 1 ∨ 4096 < g.pts ∨ 8192 < g.es.length)
def formOk (g : Gr) : Bool := decide (g.sz.length ≤ 16) && g.sz.all arrOk && decide (0 ≤ g.ex ∧ g.ex < g.pts) && g.es.all (edgeOk g) && forksOk g g.pts.toNat
/-- What is wrong with a graph. -/
def chk (g : Gr) : Int := if varsBad g = true then 90 else if ptsBad g = true then 91 else if formOk g = true then 0 else 92

/-- The slice of declarations at A: their sizes read as sz. -/
def RdD (w : World) (B : Nat) (A : Option Addr) (sz : List Int) : Prop :=
  ∀ k : Nat, k < sz.length → ∃ b off, A = some ⟨b, off, none⟩ ∧ b < B ∧ (∃ s, w.cell? ⟨b, off + k * 2, none⟩ = some (.string s)) ∧ w.cell? ⟨b, off + k * 2 + 1, none⟩ = some (.int .i64 (gI sz k))
/-- The slice of edges at A reads as es. -/
def RdE (w : World) (B : Nat) (A : Option Addr) (es : List Edg) : Prop :=
  ∀ (k : Nat) (h : k < es.length), ∃ b off, A = some ⟨b, off, none⟩ ∧ b < B ∧ ∀ r, r < 10 → w.cell? ⟨b, off + k * 10 + r, none⟩ = es[k].cells[r]?
section
variable {w w' : World} {B B' : Nat} {A : Option Addr} {sz : List Int} {es : List Edg}
theorem RdD.below (h : RdD w B A sz) (hb : Below B w w') : RdD w' B A sz := fun k hk => by
  obtain ⟨b, off, hA, hB, ⟨s, hs⟩, hc⟩ := h k hk
  exact ⟨b, off, hA, hB, ⟨s, (hb.cell (p := ⟨b, _, none⟩) hB).trans hs⟩, (hb.cell (p := ⟨b, _, none⟩) hB).trans hc⟩
theorem RdD.more (h : RdD w B A sz) (hB : B ≤ B') : RdD w B' A sz := fun k hk => by
  obtain ⟨b, off, hA, hB', hc⟩ := h k hk
  exact ⟨b, off, hA, by omega, hc⟩
theorem RdE.below (h : RdE w B A es) (hb : Below B w w') : RdE w' B A es := fun k hk => by
  obtain ⟨b, off, hA, hB, hc⟩ := h k hk
  exact ⟨b, off, hA, hB, fun r hr => (hb.cell (p := ⟨b, _, none⟩) hB).trans (hc r hr)⟩
theorem RdE.more (h : RdE w B A es) (hB : B ≤ B') : RdE w B' A es := fun k hk => by
  obtain ⟨b, off, hA, hB', hc⟩ := h k hk
  exact ⟨b, off, hA, by omega, hc⟩
theorem RdD.up (h : RdD w w.heap.size A sz) (hb : Below w.heap.size w w') : RdD w' w'.heap.size A sz := (h.below hb).more hb.size
theorem RdE.up (h : RdE w w.heap.size A es) (hb : Below w.heap.size w w') : RdE w' w'.heap.size A es := (h.below hb).more hb.size
end
/-! ### Prefixes of the edges -/
theorem outs_succ (es : List Edg) (k : Nat) (h : k < es.length) (p : Int) : outsE (es.take (k + 1)) p = outsE (es.take k) p ++ (if es[k].fr = p then [es[k]] else []) := by
  unfold outsE
  rw [List.take_succ_eq_append_getElem h, List.filter_append]
  congr 1
  by_cases e : es[k].fr = p <;> simp [e]
/-- The numbers of the edges from a point, of the first k. -/
def idxE (es : List Edg) (k : Nat) (p : Int) : List Nat := (List.range k).filter (fun i => decide ((es.getD i ⟨0, 0, 0, 0, 0, 0, 0, 0, 0, 0⟩).fr = p))
theorem idx_succ (es : List Edg) (k : Nat) (h : k < es.length) (p : Int) : idxE es (k + 1) p = idxE es k p ++ (if es[k].fr = p then [k] else []) := by
  unfold idxE
  rw [List.range_succ, List.filter_append]
  congr 1
  by_cases e : es[k].fr = p <;> simp [h, e]
theorem idx_outs (es : List Edg) (k : Nat) (h : k ≤ es.length) (p : Int) : (idxE es k p).map (fun i => es.getD i ⟨0, 0, 0, 0, 0, 0, 0, 0, 0, 0⟩) = outsE (es.take k) p := by
  induction k with
  | zero => simp [idxE, outsE]
  | succ k ih =>
    rw [idx_succ es k h, outs_succ es k h, List.map_append, ih (by omega)]
    congr 1
    by_cases e : es[k].fr = p <;> simp [e, show k < es.length from h]
theorem idx_lt {es : List Edg} {k : Nat} {p : Int} {i : Nat} (h : i ∈ idxE es k p) : i < k := by
  unfold idxE at h
  simp at h
  exact h.1
end
section

theorem right_a {n na : Int} {e : Edg} (h : rightE n na e = true) : e.av = -1 ∨ (0 ≤ e.av ∧ e.av < n) := by
  unfold rightE at h
  simp only [Bool.and_eq_true] at h
  have := h.1.2
  cases hw : wA e.kd <;> rw [hw] at this <;> simp [opdNo, opdOk] at this <;> omega
theorem right_b {n na : Int} {e : Edg} (h : rightE n na e = true) : e.bv = -1 ∨ (0 ≤ e.bv ∧ e.bv < n) := by
  unfold rightE at h
  simp only [Bool.and_eq_true] at h
  have := h.2
  cases hw : wB e.kd <;> rw [hw] at this <;> simp [opdNo, opdOk] at this <;> omega
end
end Go.Proofs.YtkncebcekhfnfaaGreat
