/-
  Whether edges from a point go together: gnomonref9.fork: what each call answers.
  When an edge is right: gnomonref9.Right: what each call answers.
  When a graph is one: gnomonref9.Check: what it answers: chk.
  pack.Of: what it answers (under way).
-/
import Derived.Test.YtjmmegnonlbdnaaGoes
import Derived.Test.YtjmmegnonlbdnaaEdge
import Derived.Test.YtjmmegnonlbdnaaGCheck
import Derived.Test.YtjmmegnonlbdnaaBPP21
import Derived.Test.YtjmmegnonlbdnaaCut
namespace Go.Proofs.Ytjmmegnonlbdnaa
section
open Go.RowKit
attribute [local go_sem ↓] Go.wp_at_zero Go.wp_at_succ
attribute [local go_sem ↓] run_opeq run_opeq2
def ints (ix : List Nat) : List Int := ix.map Int.ofNat
end
section
open Go.RowKit
attribute [local go_sem ↓] Go.wp_at_zero Go.wp_at_succ
attribute [local go_sem ↓] run_opeq run_opeq2

theorem ten {w : World} {g : Nat} {t : TypeId} {a b c d e f h i j k : Value} (x : Blk w g t #[a, b, c, d, e, f, h, i, j, k]) :
    w.cell? ⟨g, 0, none⟩ = some a ∧ w.cell? ⟨g, 1, none⟩ = some b ∧ w.cell? ⟨g, 2, none⟩ = some c ∧ w.cell? ⟨g, 3, none⟩ = some d ∧ w.cell? ⟨g, 4, none⟩ = some e ∧ w.cell? ⟨g, 5, none⟩ = some f ∧ w.cell? ⟨g, 6, none⟩ = some h ∧ w.cell? ⟨g, 7, none⟩ = some i ∧ w.cell? ⟨g, 8, none⟩ = some j ∧ w.cell? ⟨g, 9, none⟩ = some k ∧ ∀ j, w.frozen? ⟨g, j, none⟩ = false :=
  ⟨x.cell 0, x.cell 1, x.cell 2, x.cell 3, x.cell 4, x.cell 5, x.cell 6, x.cell 7, x.cell 8, x.cell 9, x.fr⟩
end
section
open Go.RowKit
attribute [local go_sem ↓] Go.wp_at_zero Go.wp_at_succ

theorem int_info9 : (Try.prog.info? 3).map (fun i => (i.zero, i.size, i.bytes)) = some (some (.int .i64 0), 1, 8) := by kernel_rfl
theorem ints_info : (Try.prog.info? 48).map (fun i => (i.zero, i.size, i.bytes)) = some (some (.slice none 0 0), 1, 24) := by kernel_rfl
/-- One int appended. -/
theorem run_append_int (w : World) (base : Nat) (ty : TypeId) (v : Value) (n : Nat) (xs : List Value) (y : Int) (h : w.ownsRow base 3 1 v n xs) (g : Nat)
    (hk : Blk w g 3 #[.int .i64 y]) (hl : n + 1 ≤ 1000000) (hbase : base ≤ w.heap.size) :
    ∃ v' w', (Builtin.append_ #[48, 48] ty #[v, .slice (some ⟨g, 0, none⟩) 1 1]).run Try.prog w = .ok v' w' ∧ w'.ownsRow base 3 1 v' (n + 1) (xs ++ enc1 y) ∧ w.grownBy w' v.ownBlock ∧ (v'.ownBlock = v.ownBlock ∨ v'.ownBlock = some w.heap.size) := by
  obtain ⟨i0, hi, hz0, hz1, hz2⟩ := info_parts int_info9
  obtain ⟨v', w', hrun, h2, h3, _, h5⟩ := run_append_own_at (P := Try.prog) w base 48 ty _ i0 _ 1 8 Try.underlying48 hi hz0 hz1 hz2 rfl (by omega) v n xs h ⟨g, 0, none⟩ 1 1 (enc1 y) rfl
    (fun j u hu => by rw [add_mk, Nat.zero_add, hk.cell j]; simpa [enc1] using hu) (fun u hu => by simp [enc1] at hu; subst hu; rfl) (by unfold maxLen; omega) (by omega) hbase
  exact ⟨v', w', hrun, h2, h3, h5⟩
/-- A slice of numbers of one's own reads. -/
theorem LL.rdI {w : World} {base F n : Nat} {T : TypeId} {f : Nat → Value} {ls : Nat → List Int} (h : LL enc1 w base F n T 3 1 f ls) {p : Nat} (hp : p < n) : ∃ A c, f p = .slice A (ls p).length c ∧ Rd w w.heap.size A (ls p) := by
  rcases h.slice hp with ⟨h1, h2⟩ | ⟨g, cap, h1, _, hg, _⟩
  · exact ⟨none, 0, by rw [h1, h2]; rfl, by rw [h2]; intro k hk; simp at hk⟩
  · refine ⟨_, _, h1, fun k hk => ⟨g, 0, rfl, hg, ?_⟩⟩
    rw [Nat.zero_add, h.cell hp h1 (by omega), fm1]
    exact i64s_get _ hk
end
section
open Go.RowKit
attribute [local go_sem ↓] Go.wp_at_zero Go.wp_at_succ

/-- What a graph that is one has. -/
theorem chk_zero {g : Gr} (h : chk g = 0) : 0 ≤ g.tm ∧ g.tm ≤ 64 ∧ g.all ≤ 64 ∧ g.es.length ≤ 8192 ∧ ∀ k (hk : k < g.es.length), (g.es[k].dst = -1 ∨ (0 ≤ g.es[k].dst ∧ g.es[k].dst < g.all)) ∧ (g.es[k].av = -1 ∨ (0 ≤ g.es[k].av ∧ g.es[k].av < g.all)) ∧ (g.es[k].bv = -1 ∨ (0 ≤ g.es[k].bv ∧ g.es[k].bv < g.all)) := by
  cases h1 : varsBad g
  · cases h2 : ptsBad g
    · cases h3 : formOk g
      · rw [chk_form h1 h2 h3] at h; simp at h
      · have q1 := of_decide_eq_false h1
        have q2 := of_decide_eq_false h2
        refine ⟨by omega, by omega, by omega, by omega, fun k hk => ?_⟩
        unfold formOk at h3
        simp only [Bool.and_eq_true] at h3
        have h4 := List.all_eq_true.1 h3.1.2 _ (List.getElem_mem hk)
        unfold edgeOk rightE at h4
        simp only [Bool.and_eq_true] at h4
        obtain ⟨_, ⟨⟨⟨⟨⟨_, hd⟩, _⟩, _⟩, ha⟩, hb⟩⟩ := h4
        refine ⟨?_, ?_, ?_⟩
        · cases hw : wDst g.es[k].kd <;> rw [hw] at hd <;> simp only [cond_true, cond_false, decide_eq_true_eq] at hd
          · exact .inl hd
          · exact .inr hd
        · cases hw : wA g.es[k].kd <;> rw [hw] at ha <;> simp only [cond_true, cond_false, opdOk, opdNo, decide_eq_true_eq] at ha <;> omega
        · cases hw : wB g.es[k].kd <;> rw [hw] at hb <;> simp only [cond_true, cond_false, opdOk, opdNo, decide_eq_true_eq] at hb <;> omega
    · rw [chk_pts h1 h2] at h; simp at h
  · rw [chk_vars h1] at h; simp at h

theorem links_start (w : World) : (w.alloc (.cells #[.int .i64 0, .int .i64 0, .int .i64 0, .int .i64 0, .int .i64 0, .int .i64 0, .int .i64 0, .int .i64 0, .int .i64 0, .int .i64 0, .int .i64 0, .int .i64 0, .int .i64 0, .int .i64 0, .int .i64 0, .int .i64 0, .int .i64 0, .int .i64 0, .int .i64 0, .int .i64 0, .int .i64 0, .int .i64 0, .int .i64 0, .int .i64 0, .int .i64 0, .int .i64 0, .int .i64 0, .int .i64 0, .int .i64 0, .int .i64 0, .int .i64 0, .int .i64 0, .int .i64 0, .int .i64 0, .int .i64 0, .int .i64 0, .int .i64 0, .int .i64 0, .int .i64 0, .int .i64 0, .int .i64 0, .int .i64 0, .int .i64 0, .int .i64 0, .int .i64 0, .int .i64 0, .int .i64 0, .int .i64 0, .int .i64 0, .int .i64 0, .int .i64 0, .int .i64 0, .int .i64 0, .int .i64 0, .int .i64 0, .int .i64 0, .int .i64 0, .int .i64 0, .int .i64 0, .int .i64 0, .int .i64 0, .int .i64 0, .int .i64 0, .int .i64 0] 59)).rowIs w.heap.size 59 64 (fun _ => .int .i64 0) :=
  World.rowIs_alloc w (Array.replicate 64 (Value.int .i64 0)) 59 (fun _ => .int .i64 0) (fun i hi => by simp at hi; simp [hi])
theorem idx3 {m : Nat} (h : m < 3) (a b c : Int) (W : World) : (Instr.index 60 (.agg #[.int .i64 a, .int .i64 b, .int .i64 c]) (.int .i64 (m : Int))).run Try.prog W = .ok (.int .i64 (gI [a, b, c] m)) W := by
  have : m = 0 ∨ m = 1 ∨ m = 2 := by omega
  rcases this with rfl | rfl | rfl <;> simp [Instr.index, run_underlying Try.underlying60, asIntOf, go_sem, gI]
/-- Roots, and the variable that came last (or -1), behind one more. -/
def stepV (s : (Nat → Nat) × Int) (v : Int) : (Nat → Nat) × Int := if v < 0 then s else (if 0 ≤ s.2 then joinR s.1 s.2.toNat v.toNat else s.1, v)
def trio (e : Edg) : List Int := [e.dst, e.av, e.bv]
/-- Behind the first m of an edge's three. -/
def stepsV (R : Nat → Nat) (e : Edg) (m : Nat) : (Nat → Nat) × Int := ((trio e).take m).foldl stepV (R, -1)
theorem stepsV_succ (R : Nat → Nat) (e : Edg) (m : Nat) (h : m < 3) : stepsV R e (m + 1) = stepV (stepsV R e m) (gI (trio e) m) := by
  unfold stepsV
  rw [List.take_succ_eq_append_getElem (show m < (trio e).length from h), List.foldl_append]
  unfold gI
  simp [show m < (trio e).length from h]
def rootsE (R : Nat → Nat) (e : Edg) : Nat → Nat := ((trio e).foldl stepV (R, -1)).1
def rootsOf (es : List Edg) (k : Nat) : Nat → Nat := (es.take k).foldl rootsE (fun x => x)
theorem rootsOf_succ (es : List Edg) (k : Nat) (h : k < es.length) : rootsOf es (k + 1) = rootsE (rootsOf es k) es[k] := by
  unfold rootsOf
  rw [List.take_succ_eq_append_getElem h, List.foldl_append]; rfl
/-- The variables below k with the root p. -/
def classL (R : Nat → Nat) (k : Nat) (p : Nat) : List Int := ((List.range k).filter (fun v => decide (R v = p))).map Int.ofNat
theorem classL_succ (R : Nat → Nat) (k p : Nat) : classL R (k + 1) p = classL R k p ++ (if R k = p then [(k : Int)] else []) := by
  unfold classL
  rw [List.range_succ, List.filter_append, List.map_append]
  congr 1
  by_cases e : R k = p <;> simp [e]
theorem classL_len (R : Nat → Nat) (k p : Nat) : (classL R k p).length ≤ k := by
  unfold classL; rw [List.length_map]; exact Nat.le_trans (List.length_filter_le _ _) (by simp)

theorem with_start (w : World) : LL enc1 (w.alloc (.cells #[.slice none 0 0, .slice none 0 0, .slice none 0 0, .slice none 0 0, .slice none 0 0, .slice none 0 0, .slice none 0 0, .slice none 0 0, .slice none 0 0, .slice none 0 0, .slice none 0 0, .slice none 0 0, .slice none 0 0, .slice none 0 0, .slice none 0 0, .slice none 0 0, .slice none 0 0, .slice none 0 0, .slice none 0 0, .slice none 0 0, .slice none 0 0, .slice none 0 0, .slice none 0 0, .slice none 0 0, .slice none 0 0, .slice none 0 0, .slice none 0 0, .slice none 0 0, .slice none 0 0, .slice none 0 0, .slice none 0 0, .slice none 0 0, .slice none 0 0, .slice none 0 0, .slice none 0 0, .slice none 0 0, .slice none 0 0, .slice none 0 0, .slice none 0 0, .slice none 0 0, .slice none 0 0, .slice none 0 0, .slice none 0 0, .slice none 0 0, .slice none 0 0, .slice none 0 0, .slice none 0 0, .slice none 0 0, .slice none 0 0, .slice none 0 0, .slice none 0 0, .slice none 0 0, .slice none 0 0, .slice none 0 0, .slice none 0 0, .slice none 0 0, .slice none 0 0, .slice none 0 0, .slice none 0 0, .slice none 0 0, .slice none 0 0, .slice none 0 0, .slice none 0 0, .slice none 0 0] 62)) w.heap.size w.heap.size 64 62 3 1 (fun _ => .slice none 0 0) (fun _ => []) :=
  ⟨World.rowIs_alloc w (Array.replicate 64 (Value.slice none 0 0)) 62 (fun _ => .slice none 0 0) (fun i hi => by simp at hi; simp [hi]), Nat.le_refl _, fun p _ => World.ownsRow_nil _ _ _ _, fun p q k _ _ _ h => by simp [Value.ownBlock] at h, fun p _ h => by simp [Value.ownBlock] at h⟩
theorem wpList_append_int1 {ops : Array Oper} {rest : List Oper} {o : Oper} {a : Act} {Q : Exit → Act → World → Prop} {w : World} (s x : Operand)
    (ho : o.op = .call { callee := .builtin .append, args := #[s, x], argTypes := #[48, 48] }) (hgd : o.guard = none)
    (base : Nat) (v : Value) (n : Nat) (xs : List Value) (y : Int) (hs : a.eval s = v) (hown : w.ownsRow base 3 1 v n xs) (g : Nat)
    (hx : a.eval x = .slice (some ⟨g, 0, none⟩) 1 1) (hr : Blk w g 3 #[.int .i64 y]) (hl : n + 1 ≤ 1000000) (hbase : base ≤ w.heap.size)
    (h : ∀ g2 cap2 w', w'.ownsRow base 3 1 (.slice (some ⟨g2, 0, none⟩) (n + 1) cap2) (n + 1) (xs ++ enc1 y) → w.grownBy w' v.ownBlock → (Value.ownBlock (.slice (some ⟨g2, 0, none⟩) (n + 1) cap2) = v.ownBlock ∨ Value.ownBlock (.slice (some ⟨g2, 0, none⟩) (n + 1) cap2) = some w.heap.size) → wpList Try.prog ops Q rest (a.put o.dst (.slice (some ⟨g2, 0, none⟩) (n + 1) cap2)) w') :
    wpList Try.prog ops Q (o :: rest) a w :=
  wpList_plain hgd fun K hK => by
    obtain ⟨v', w', hrun, h2, h3, h5⟩ := run_append_int w base o.type v n xs y hown g hr hl hbase
    obtain ⟨g2, cap2, rfl, -, -⟩ := h2.form (by omega)
    have := exec_append (P := Try.prog) (a := a) s x 48 ho hs hx hrun
    unfold Oper.wp
    rw [this]
    exact hK _ _ (h g2 cap2 w' h2 h3 h5)
end
end Go.Proofs.Ytjmmegnonlbdnaa
