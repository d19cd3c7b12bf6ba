/-
  Three stores into an octagon's block.
  A row of octagons of one's own; an append to it.
  close.matrix: a matrix in memory; its methods at and sum.
  close.matrix.paths: what it makes of a matrix of bounds.
  close.matrix.mirrors, loops, evens: what each makes of a matrix of bounds.
  close.matrix.sides, strengthens: what each makes of a matrix of bounds.
  close.Close: what it answers.
  What closing does to the cells: as many, all bounds, none raised.
  order.Entails: what it answers.
  What an octagon is narrowed to may be, and is entailed by what entails it: plain.
  An octagon that may be, closed, may be: plain.
  Numbers of 64 bits: what num and the document's numbers tell, in plain words.
  Ranges, and what an octagon tells of them, in plain words.
  gnomonref13: a matrix being closed; plus; Across.
  gnomonref13.Of, Close: what they answer, of octagons that may be.
-/
import Derived.Test.YtkncebcekhfnfaaGreatBWL04
import Derived.Test.YtkncebcekhfnfaaGreatBWL02
import Derived.Test.YtkncebcekhfnfaaGreatBWL00
namespace Go.Proofs.YtkncebcekhfnfaaGreat
section
open Go.RowKit

section
variable {W : World} {g k : Nat} {t : TypeId} {cs : Array Value} {a0 a1 a2 v0 v1 v2 : Value} {base cap B : Nat} {A : Option Addr} {m : List Int}
theorem Blk.set3 (h : Blk W g t #[a0, a1, a2]) : Blk (((W.setCell ⟨g, 0, none⟩ v0).setCell ⟨g, 1, none⟩ v1).setCell ⟨g, 2, none⟩ v2) g t #[v0, v1, v2] :=
  ((h.set_ 0 v0).set_ 1 v1).set_ 2 v2
theorem Own.far1 {i : Nat} {v : Value} (h : Own W base A cap m) (hn : ∀ k, A = some ⟨k, 0, none⟩ → k ≠ g) : Own (W.setCell ⟨g, i, none⟩ v) base A cap m := by
  refine h.grown (grown_setCell W ⟨g, i, none⟩ v) ?_
  rcases h.form with ⟨rfl, _⟩ | ⟨g', rfl, _⟩
  · exact .inl rfl
  · refine .inr fun e => hn g' rfl ?_
    simpa [Value.ownBlock] using e
theorem Own.far3 (h : Own W base A cap m) (hn : ∀ k, A = some ⟨k, 0, none⟩ → k ≠ g) : Own (((W.setCell ⟨g, 0, none⟩ v0).setCell ⟨g, 1, none⟩ v1).setCell ⟨g, 2, none⟩ v2) base A cap m :=
  ((h.far1 hn).far1 hn).far1 hn
theorem below1 {i : Nat} {v : Value} (hg : B ≤ g) (hB : B ≤ W.heap.size) : Below B W (W.setCell ⟨g, i, none⟩ v) :=
  below_grown (grown_setCell W ⟨g, i, none⟩ v) (fun k hk => by injection hk with hk; subst hk; exact hg) hB
theorem below3 (hg : B ≤ g) (hB : B ≤ W.heap.size) : Below B W (((W.setCell ⟨g, 0, none⟩ v0).setCell ⟨g, 1, none⟩ v1).setCell ⟨g, 2, none⟩ v2) :=
  (below1 hg hB).trans ((below1 hg (by simpa using hB)).trans (below1 hg (by simpa using hB)))
end

theorem own_blk {w : World} {base cap g k : Nat} {xs : List Int} {t : TypeId} {cs : Array Value} (h : Own w base (some ⟨g, 0, none⟩) cap xs) (hk : Blk w k t cs) (ht : t ≠ 2) : g ≠ k := by
  rintro rfl
  rcases h.2 with ⟨h0, _⟩ | ⟨g', cap', cur, h1, _, h3, _⟩
  · cases h0
  · simp only [Value.slice.injEq, Option.some.injEq, Addr.mk.injEq] at h1
    obtain ⟨⟨rfl, _⟩, _⟩ := h1
    unfold Blk at hk
    rw [h3] at hk
    injection hk with hk
    injection hk with _ hk
    exact ht hk.symm
theorem own_blk' {w : World} {base cap k : Nat} {A : Option Addr} {xs : List Int} {t : TypeId} {cs : Array Value} (h : Own w base A cap xs) (hk : Blk w k t cs) (ht : t ≠ 2) : ∀ g, A = some ⟨g, 0, none⟩ → g ≠ k := by
  rintro g rfl
  exact own_blk h hk ht

/-- A region that stores three cells into block g: before (false), and behind (true). -/
def SB (w0 : World) (g : Nat) (v0 v1 v2 : Value) : Bool → World → Prop
  | false => fun W => Below w0.heap.size w0 W
  | true => fun W => ∃ W0, Below w0.heap.size w0 W0 ∧ W = ((W0.setCell ⟨g, 0, none⟩ v0).setCell ⟨g, 1, none⟩ v1).setCell ⟨g, 2, none⟩ v2
end
section
open Go.RowKit

theorem oct_info : (Tryz.prog.info? 53).map (fun i => (i.zero, i.size, i.bytes)) = some (some (.agg #[.int .i64 0, .bool false, .slice none 0 0]), 3, 40) := by kernel_rfl
/-- A row of octagons of the call's own, each with cells of its own. -/
structure OwnZ (w : World) (base : Nat) (A : Option Addr) (cap : Nat) (zs : List Z) : Prop where
  row : w.ownsRow base 53 3 (.slice A zs.length cap) zs.length (zs.flatMap o3)
  own : ∀ z ∈ zs, Own w base z.2.1 z.2.2 z.1.m
  le : ∀ z ∈ zs, z.1.m.length ≤ 17592186044416
section
variable {w w' : World} {base cap : Nat} {A : Option Addr} {zs : List Z}
theorem OwnZ.nil (w : World) (base : Nat) : OwnZ w base none 0 [] := ⟨World.ownsRow_nil _ _ _ _, fun _ h => absurd h (by simp), fun _ h => absurd h (by simp)⟩
theorem OwnZ.below (h : OwnZ w base A cap zs) (hb : Below w.heap.size w w') : OwnZ w' base A cap zs :=
  ⟨World.ownsRow.kept h.row (grown_of_below hb none) (by cases h' : (Value.slice A zs.length cap).ownBlock <;> simp), fun z hz => (h.own z hz).below hb, h.le⟩
theorem OwnZ.form (h : OwnZ w base A cap zs) : (A = none ∧ zs = [] ∧ cap = 0) ∨ ∃ g cs, A = some ⟨g, 0, none⟩ ∧ base ≤ g ∧ g < w.heap.size ∧ w.heap[g]? = some (.cells cs 53 (0, 0)) := by
  rcases h.row.2 with ⟨h1, h0⟩ | ⟨g, cap', cur, h1, hb, hg, _⟩
  · injection h1 with h1 _ h3
    exact .inl ⟨h1, List.eq_nil_of_length_eq_zero h0, h3⟩
  · injection h1 with h1
    exact .inr ⟨g, cur, h1, hb, (Array.getElem?_eq_some_iff.1 hg).1, hg⟩
theorem OwnZ.setFar (h : OwnZ w base A cap zs) {p : Addr} (hp : p.block < base) (u : Value) : OwnZ (w.setCell p u) base A cap zs :=
  ⟨World.ownsRow.kept h.row (grown_setCell w p u) (by
    rcases h.form with ⟨rfl, _⟩ | ⟨g, cs, rfl, h1, _⟩
    · exact .inl rfl
    · exact .inr (fun e => by simp [Value.ownBlock] at e; omega)), fun z hz => (h.own z hz).setFar hp u, h.le⟩
theorem OwnZ.rows (h : OwnZ w base A cap zs) : RowZ w A zs := by
  refine ⟨fun k hk => ?_, fun k hk => (h.own _ (List.getElem_mem hk)).rd, fun k hk => h.le _ (List.getElem_mem hk)⟩
  rcases h.form with ⟨_, rfl, _⟩ | ⟨g, cs, rfl, h1, h2, _⟩
  · simp at hk
  · have e := fun r (hr : r < 3) => (World.ownsRow.cellAt (w := w) (xs := zs.flatMap o3) h.row (k * 3 + r) (by omega)).trans (fmS_get o3 3 (fun _ => rfl) zs k r hk hr)
    refine ⟨g, 0, rfl, h2, ?_, ?_, ?_⟩
    · rw [Nat.zero_add]; exact e 0 (by omega)
    · rw [Nat.zero_add]; exact e 1 (by omega)
    · rw [Nat.zero_add]; exact e 2 (by omega)
end
theorem run_append_oct (w : World) (base : Nat) (ty : TypeId) (A : Option Addr) (c : Nat) (zs : List Z) (z : Z) (h : OwnZ w base A c zs) (g : Nat)
    (hk : Blk w g 53 (o3 z).toArray) (hz : Own w base z.2.1 z.2.2 z.1.m) (hzl : z.1.m.length ≤ 17592186044416) (hl : zs.length + 1 ≤ 1000000) (hbase : base ≤ w.heap.size) :
    ∃ A' c' w', (Builtin.append_ #[27, 27] ty #[.slice A zs.length c, .slice (some ⟨g, 0, none⟩) 1 1]).run Tryz.prog w = .ok (.slice A' (zs ++ [z]).length c') w' ∧ OwnZ w' base A' c' (zs ++ [z]) ∧ w.grownBy w' (Value.slice A zs.length c).ownBlock := by
  obtain ⟨i0, hi, hz0, hz1, hz2⟩ := info_parts oct_info
  obtain ⟨v', w', hrun, h2, h3, _, h5⟩ := run_append_own_at (P := Tryz.prog) w base 27 ty _ i0 _ 3 40 Tryz.underlying27 hi hz0 hz1 hz2 rfl (by omega) _ zs.length (zs.flatMap o3) h.row ⟨g, 0, none⟩ 1 1 (o3 z) rfl
    (fun j u hu => by rw [add_mk, Nat.zero_add, hk.cell j]; simpa using hu) (fun u hu => by simp [o3] at hu; rcases hu with rfl | rfl | rfl <;> rfl) (by unfold maxLen; omega) (by omega) hbase
  have hl2 : (zs ++ [z]).length = zs.length + 1 := by simp
  have hf2 : (zs ++ [z]).flatMap o3 = zs.flatMap o3 ++ o3 z := by simp
  have keep : ∀ y : Z, Own w base y.2.1 y.2.2 y.1.m → Own w' base y.2.1 y.2.2 y.1.m := fun y hy => by
    refine hy.grown h3 ?_
    rcases h.form with ⟨rfl, _⟩ | ⟨gr, cs, rfl, _, _, hgr⟩
    · cases h' : (Value.slice y.2.1 y.1.m.length y.2.2).ownBlock <;> simp [Value.ownBlock]
    · rcases hy.form with ⟨e, _⟩ | ⟨gy, e, _⟩
      · rw [e]; exact .inl rfl
      · rw [e]
        rw [e] at hy
        exact .inr (fun e' => own_blk hy (show Blk w gr 53 cs from hgr) (by decide) (by simpa [Value.ownBlock] using e'))
  rcases h2.2 with ⟨_, h0⟩ | ⟨g', cap', cur, rfl, h4⟩
  · omega
  · refine ⟨_, cap', w', by rw [hl2]; exact hrun, ⟨by rw [hf2, hl2]; exact h2, fun y hy => ?_, fun y hy => ?_⟩, h3⟩
    · rcases List.mem_append.1 hy with hy | hy
      · exact keep y (h.own y hy)
      · rw [List.mem_singleton] at hy; subst hy; exact keep y hz
    · rcases List.mem_append.1 hy with hy | hy
      · exact h.le y hy
      · rw [List.mem_singleton] at hy; subst hy; exact hzl
theorem wpList_append_oct {ops : Array Oper} {rest : List Oper} {o : Oper} {a : Act} {Q : Exit → Act → World → Prop} {w : World} (s x : Operand)
    (ho : o.op = .call { callee := .builtin .append, args := #[s, x], argTypes := #[27, 27] }) (hgd : o.guard = none)
    (base : Nat) (A0 : Option Addr) (c0 : Nat) (zs : List Z) (z : Z) (hs : a.eval s = .slice A0 zs.length c0) (hown : OwnZ w base A0 c0 zs) (g : Nat)
    (hx : a.eval x = .slice (some ⟨g, 0, none⟩) 1 1) (hr : Blk w g 53 (o3 z).toArray) (hz : Own w base z.2.1 z.2.2 z.1.m) (hzl : z.1.m.length ≤ 17592186044416) (hl : zs.length + 1 ≤ 1000000) (hbase : base ≤ w.heap.size)
    (h : ∀ A' cap' w', OwnZ w' base A' cap' (zs ++ [z]) → w.grownBy w' (Value.slice A0 zs.length c0).ownBlock → wpList Tryz.prog ops Q rest (a.put o.dst (.slice A' (zs ++ [z]).length cap')) w') :
    wpList Tryz.prog ops Q (o :: rest) a w :=
  wpList_plain hgd fun K hK => by
    obtain ⟨A', c', w', hrun, h2, h3⟩ := run_append_oct w base o.type A0 c0 zs z hown g hr hz hzl hl hbase
    unfold Oper.wp execOp
    simp only [ho, resolve, invoke, builtin, Sem.run_bind, Sem.run_pure, Result.andThen_ok, List.map_toArray, List.map_cons, List.map_nil, hs, hx, hrun]
    exact hK _ _ (h A' c' w' h2 h3)
end
section
open Go.RowKit
attribute [local go_sem ↓] Go.wp_at_zero Go.wp_at_succ

theorem idx_ok {n : Int} {N i j : Nat} (hN : (N : Int) = 2 * n) (hi : i < N) (hj : j < N) (hn : N ≤ 128) :
    0 ≤ 2 * n * (i : Int) ∧ 2 * n * (i : Int) ≤ 16384 ∧ (2 * n * (i : Int) + (j : Int)).toNat = i * N + j ∧ i * N + j < N * N ∧ 0 ≤ 2 * n * (i : Int) + (j : Int) ∧ 2 * n * (i : Int) + (j : Int) < ((N * N : Nat) : Int) := by
  rw [← hN]
  have e1 : (N : Int) * (i : Int) = ((i * N : Nat) : Int) := by rw [Int.natCast_mul, Int.mul_comm]
  have h1 : i * N + N ≤ N * N := by
    have := Nat.mul_le_mul_right N (show i + 1 ≤ N from hi)
    rw [Nat.add_mul] at this; omega
  have h2 : N * N ≤ 128 * 128 := Nat.mul_le_mul hn hn
  rw [e1]
  refine ⟨by omega, by omega, by omega, by omega, by omega, by omega⟩
end
section

end
section
open Go.RowKit
attribute [local go_sem ↓] Go.wp_at_zero Go.wp_at_succ

/-- The number across. -/
def nx (i : Nat) : Nat := if i % 2 = 0 then i + 1 else i - 1
theorem xor1_nx (i : Nat) : xor1 (i : Int) = ((nx i : Nat) : Int) := by
  unfold xor1 nx
  split <;> split <;> omega
end
section

end
section
open Go.RowKit
attribute [local go_sem ↓] Go.wp_at_zero Go.wp_at_succ

set_option maxHeartbeats 400000 in
theorem dempty_any (n : Int) (w : World) (h0 : 0 ≤ n) (h1 : n ≤ 64) :
    Calls Tryz.prog 35 #[.int .i64 n] w fun e w' => e = .returned (.tuple #[.agg #[.int .i64 n, .bool true, .slice none 0 0], .int .i64 0]) ∧ Below w.heap.size w w' := by
  have hd : decide (0 ≤ n ∧ n ≤ 64) = true := by simp [h0, h1]
  go_enter Tryz.func35, Tryz.ntmps35
  go_wp2_with fail
  refine (dright_any n _).mono ?_
  rintro e1 w1 ⟨rfl, rfl⟩
  rw [hd]
  go_wp2
  refine bodyPost_ret (v := .tuple #[.agg #[.int .i64 n, .bool true, .slice none 0 0], .int .i64 0]) (by simp [results, Tryz.results35, go_sem]) rfl ⟨rfl, ?_⟩
  exact new1 _ _
end
section
open Go.RowKit

theorem gI_set (xs : List Int) (k : Nat) (v : Int) (i : Nat) : gI (xs.set k v) i = if i = k ∧ k < xs.length then v else gI xs i := by
  unfold gI
  simp only [Int.toNat_natCast, List.getD, List.getElem?_set]
  by_cases h : k = i
  · subst h
    by_cases hk : k < xs.length
    · simp [hk]
    · simp [hk]
  · rw [if_neg h, if_neg (fun e => h e.1.symm)]
/-- An octagon of the call's own memory. -/
def OctOwn (w : World) (o : O) (e : Ending) (w' : World) : Prop := ∃ A1 c1, e = .returned (.agg #[.int .i64 o.n, .bool o.e, .slice A1 o.m.length c1]) ∧ Own w' w.heap.size A1 c1 o.m ∧ Below w.heap.size w w'
end
section

end
section
open Go.RowKit

theorem check_rows {n : Int} {m : List Int} (h : check ⟨n, false, m⟩ = 0) : rowsOk ⟨n, false, m⟩ (2 * n).toNat = true := by
  unfold check at h
  split at h
  · omega
  · rw [if_neg (by simp)] at h
    split at h
    · assumption
    · omega
theorem idxc_ok {n : Int} {N i j : Nat} (hN : (N : Int) = 2 * n) : 2 * n * (i : Int) + (j : Int) = ((i * N + j : Nat) : Int) := by
  rw [← hN, Int.natCast_add, Int.natCast_mul, Int.mul_comm]
theorem cellOk_nat {n : Int} {e : Bool} {m : List Int} {N : Nat} (hN : (N : Int) = 2 * n) (i j : Nat) :
    cellOk ⟨n, e, m⟩ (i : Int) (j : Int) = (isBound (gI m ((i * N + j : Nat) : Int)) && !(decide (i = j) && (gI m ((i * N + j : Nat) : Int) != 0)) && (gI m ((i * N + j : Nat) : Int) == gI m ((nx j * N + nx i : Nat) : Int))) := by
  unfold cellOk
  dsimp only
  rw [xor1_nx, xor1_nx, idxc_ok hN, idxc_ok hN]
  have e : decide ((i : Int) = (j : Int)) = decide (i = j) := by rw [decide_eq_decide]; omega
  rw [e]
/-- The cells of an octagon that may be. -/
structure Cells (N : Nat) (m : List Int) : Prop where
  len : m.length = N * N
  bd : ∀ i j : Nat, i < N → j < N → isBound (gI m ((i * N + j : Nat) : Int)) = true
  diag : ∀ i : Nat, i < N → gI m ((i * N + i : Nat) : Int) = 0
  mir : ∀ i j : Nat, i < N → j < N → gI m ((i * N + j : Nat) : Int) = gI m ((nx j * N + nx i : Nat) : Int)
theorem size_nat {n : Int} {N : Nat} (hN : (N : Int) = 2 * n) : 4 * n * n = ((N * N : Nat) : Int) := by
  rw [Int.natCast_mul, hN]; rw [show (4 : Int) = 2 * 2 from rfl]; simp only [Int.mul_assoc, Int.mul_left_comm]
theorem cells_of {n : Int} {m : List Int} {N : Nat} (hN : (N : Int) = 2 * n) (h : check ⟨n, false, m⟩ = 0) : Cells N m := by
  obtain ⟨h0, h1, _, h3⟩ := check_ok h
  have hl := h3 rfl
  dsimp only at h0 h1 hl
  have hr := check_rows h
  have hNt : (2 * n).toNat = N := by omega
  rw [hNt] at hr
  have key : ∀ i j : Nat, i < N → j < N → cellOk ⟨n, false, m⟩ (i : Int) (j : Int) = true := fun i j hi hj => by
    unfold rowsOk at hr
    have hrow := List.all_eq_true.1 hr i (List.mem_range.2 hi)
    unfold rowOk at hrow
    rw [hNt] at hrow
    exact List.all_eq_true.1 hrow j (List.mem_range.2 hj)
  refine ⟨by have := size_nat hN; omega, fun i j hi hj => ?_, fun i hi => ?_, fun i j hi hj => ?_⟩
  · have := key i j hi hj
    rw [cellOk_nat hN] at this
    simp only [Bool.and_eq_true] at this
    exact this.1.1
  · have := key i i hi hi
    rw [cellOk_nat hN] at this
    simp only [Bool.and_eq_true, Bool.not_eq_true', Bool.and_eq_false_imp, decide_eq_true_eq, forall_const, bne_eq_false_iff_eq] at this
    exact this.1.2
  · have := key i j hi hj
    rw [cellOk_nat hN] at this
    simp only [Bool.and_eq_true, beq_iff_eq] at this
    exact this.2
end
section
open Go.RowKit

/-- The cell (i, j) of N rows. -/
def G (N : Nat) (xs : List Int) (i j : Nat) : Int := gI xs ((i * N + j : Nat) : Int)
theorem idx_inj {N i j a b : Nat} (hj : j < N) (hb : b < N) (h : i * N + j = a * N + b) : i = a ∧ j = b := by
  rcases Nat.lt_trichotomy i a with h1 | h1 | h1
  · exfalso
    have := Nat.mul_le_mul_right N (show i + 1 ≤ a from h1)
    rw [Nat.add_mul] at this; omega
  · subst h1; exact ⟨rfl, by omega⟩
  · exfalso
    have := Nat.mul_le_mul_right N (show a + 1 ≤ i from h1)
    rw [Nat.add_mul] at this; omega
end
section
open Go.RowKit

def inI (a : Int) : Bool := decide (-9223372036854775808 ≤ a ∧ a ≤ 9223372036854775807)
/-- A number that an int64 holds, or what goes wrong. -/
def fit (a : Int) : Int × Int := if inI a then (a, 0) else (0, 1)
def addW (a b : Int) : Int × Int := fit (a + b)
def subW (a b : Int) : Int × Int := fit (a - b)
def negW (a : Int) : Int × Int := fit (-a)
def mulW (a b : Int) : Int × Int := fit (a * b)
def divErr (a b : Int) : Int := if b = 0 then 2 else if a = -9223372036854775808 ∧ b = -1 then 1 else 0
def divW (a b : Int) : Int × Int := if divErr a b = 0 then (a.tdiv b, 0) else (0, divErr a b)
def remW (a b : Int) : Int × Int := if divErr a b = 0 then (a.tmod b, 0) else (0, divErr a b)
/-- Two numbers held against each other. -/
def cmpB (op a b : Int) : Bool := if op = 1 then decide (a < b) else if op = 2 then decide (a ≤ b) else if op = 3 then decide (a = b) else if op = 4 then decide (a ≠ b) else if op = 5 then decide (b < a) else if op = 6 then decide (b ≤ a) else false
def pairV (p : Int × Int) : Value := .tuple #[.int .i64 p.1, .int .i64 p.2]
end
section

end
section
open Go.RowKit
attribute [local go_sem ↓] Go.wp_at_zero Go.wp_at_succ

theorem idxr_ok {n : Int} {N i j : Nat} (hN : (N : Int) = 2 * n) (hi : i < N) (hj : j < N) (hn : N ≤ 128) :
    0 ≤ (i : Int) * (2 * n) ∧ (i : Int) * (2 * n) ≤ 16384 ∧ ((i : Int) * (2 * n) + (j : Int)).toNat = i * N + j ∧ i * N + j < N * N ∧ 0 ≤ (i : Int) * (2 * n) + (j : Int) ∧ (i : Int) * (2 * n) + (j : Int) < ((N * N : Nat) : Int) := by
  have h := idx_ok hN hi hj hn
  rw [Int.mul_comm (2 * n) (i : Int)] at h
  exact h
end
section

end
end Go.Proofs.YtkncebcekhfnfaaGreat
