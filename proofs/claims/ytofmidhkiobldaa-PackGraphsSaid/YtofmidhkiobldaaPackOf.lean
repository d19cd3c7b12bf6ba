/-
  pack.Of: what it answers (under way).
-/
import Derived.Test.YtofmidhkiobldaaLinks
import Derived.Test.YtofmidhkiobldaaCut
import Derived.Test.YtofmidhkiobldaaGCheck
import Derived.Test.YtofmidhkiobldaaRGCheck
namespace Go.Proofs.Ytofmidhkiobldaa
open Go.RowKit
attribute [local go_sem ↓] Go.wp_at_zero Go.wp_at_succ

/-- What a graph that is one has. -/
theorem chk_zero {g : Gr} (h : chk g = 0) : 0 ≤ g.tm ∧ g.tm ≤ 64 ∧ g.all ≤ 64 ∧ g.es.length ≤ 8192 ∧ ∀ k (hk : k < g.es.length), (g.es[k].dst = -1 ∨ (0 ≤ g.es[k].dst ∧ g.es[k].dst < g.all)) ∧ (g.es[k].av = -1 ∨ (0 ≤ g.es[k].av ∧ g.es[k].av < g.all)) ∧ (g.es[k].bv = -1 ∨ (0 ≤ g.es[k].bv ∧ g.es[k].bv < g.all)) := by
  cases h1 : varsBad g
  · cases h2 : ptsBad g
    · cases h3 : formOk g
      · rw [chk_form h1 h2 h3] at h; simp at h
      · have q1 := of_decide_eq_false h1
        have q2 := of_decide_eq_false h2
        refine ⟨by omega, by omega, by omega, by omega, fun k hk => ?_⟩
        unfold formOk at h3
        simp only [Bool.and_eq_true] at h3
        have h4 := List.all_eq_true.1 h3.1.2 _ (List.getElem_mem hk)
        unfold edgeOk rightE at h4
        simp only [Bool.and_eq_true] at h4
        obtain ⟨_, ⟨⟨⟨⟨⟨_, hd⟩, _⟩, _⟩, ha⟩, hb⟩⟩ := h4
        refine ⟨?_, ?_, ?_⟩
        · cases hw : wDst g.es[k].kd <;> rw [hw] at hd <;> simp only [cond_true, cond_false, decide_eq_true_eq] at hd
          · exact .inl hd
          · exact .inr hd
        · cases hw : wA g.es[k].kd <;> rw [hw] at ha <;> simp only [cond_true, cond_false, opdOk, opdNo, decide_eq_true_eq] at ha <;> omega
        · cases hw : wB g.es[k].kd <;> rw [hw] at hb <;> simp only [cond_true, cond_false, opdOk, opdNo, decide_eq_true_eq] at hb <;> omega
    · rw [chk_pts h1 h2] at h; simp at h
  · rw [chk_vars h1] at h; simp at h

theorem links_start (w : World) : (w.alloc (.cells #[.int .i64 0, .int .i64 0, .int .i64 0, .int .i64 0, .int .i64 0, .int .i64 0, .int .i64 0, .int .i64 0, .int .i64 0, .int .i64 0, .int .i64 0, .int .i64 0, .int .i64 0, .int .i64 0, .int .i64 0, .int .i64 0, .int .i64 0, .int .i64 0, .int .i64 0, .int .i64 0, .int .i64 0, .int .i64 0, .int .i64 0, .int .i64 0, .int .i64 0, .int .i64 0, .int .i64 0, .int .i64 0, .int .i64 0, .int .i64 0, .int .i64 0, .int .i64 0, .int .i64 0, .int .i64 0, .int .i64 0, .int .i64 0, .int .i64 0, .int .i64 0, .int .i64 0, .int .i64 0, .int .i64 0, .int .i64 0, .int .i64 0, .int .i64 0, .int .i64 0, .int .i64 0, .int .i64 0, .int .i64 0, .int .i64 0, .int .i64 0, .int .i64 0, .int .i64 0, .int .i64 0, .int .i64 0, .int .i64 0, .int .i64 0, .int .i64 0, .int .i64 0, .int .i64 0, .int .i64 0, .int .i64 0, .int .i64 0, .int .i64 0, .int .i64 0] 59)).rowIs w.heap.size 59 64 (fun _ => .int .i64 0) :=
  World.rowIs_alloc w (Array.replicate 64 (Value.int .i64 0)) 59 (fun _ => .int .i64 0) (fun i hi => by simp at hi; simp [hi])
theorem idx3 {m : Nat} (h : m < 3) (a b c : Int) (W : World) : (Instr.index 60 (.agg #[.int .i64 a, .int .i64 b, .int .i64 c]) (.int .i64 (m : Int))).run Try.prog W = .ok (.int .i64 (gI [a, b, c] m)) W := by
  have : m = 0 ∨ m = 1 ∨ m = 2 := by omega
  rcases this with rfl | rfl | rfl <;> simp [Instr.index, run_underlying Try.underlying60, asIntOf, go_sem, gI]
/-- Roots, and the variable that came last (or -1), behind one more. -/
def stepV (s : (Nat → Nat) × Int) (v : Int) : (Nat → Nat) × Int := if v < 0 then s else (if 0 ≤ s.2 then joinR s.1 s.2.toNat v.toNat else s.1, v)
def trio (e : Edg) : List Int := [e.dst, e.av, e.bv]
/-- Behind the first m of an edge's three. -/
def stepsV (R : Nat → Nat) (e : Edg) (m : Nat) : (Nat → Nat) × Int := ((trio e).take m).foldl stepV (R, -1)
theorem stepsV_succ (R : Nat → Nat) (e : Edg) (m : Nat) (h : m < 3) : stepsV R e (m + 1) = stepV (stepsV R e m) (gI (trio e) m) := by
  unfold stepsV
  rw [List.take_succ_eq_append_getElem (show m < (trio e).length from h), List.foldl_append]
  unfold gI
  simp [show m < (trio e).length from h]
def rootsE (R : Nat → Nat) (e : Edg) : Nat → Nat := ((trio e).foldl stepV (R, -1)).1
def rootsOf (es : List Edg) (k : Nat) : Nat → Nat := (es.take k).foldl rootsE (fun x => x)
theorem rootsOf_succ (es : List Edg) (k : Nat) (h : k < es.length) : rootsOf es (k + 1) = rootsE (rootsOf es k) es[k] := by
  unfold rootsOf
  rw [List.take_succ_eq_append_getElem h, List.foldl_append]; rfl
/-- The variables below k with the root p. -/
def classL (R : Nat → Nat) (k : Nat) (p : Nat) : List Int := ((List.range k).filter (fun v => decide (R v = p))).map Int.ofNat
theorem classL_succ (R : Nat → Nat) (k p : Nat) : classL R (k + 1) p = classL R k p ++ (if R k = p then [(k : Int)] else []) := by
  unfold classL
  rw [List.range_succ, List.filter_append, List.map_append]
  congr 1
  by_cases e : R k = p <;> simp [e]
theorem classL_len (R : Nat → Nat) (k p : Nat) : (classL R k p).length ≤ k := by
  unfold classL; rw [List.length_map]; exact Nat.le_trans (List.length_filter_le _ _) (by simp)

theorem with_start (w : World) : LL enc1 (w.alloc (.cells #[.slice none 0 0, .slice none 0 0, .slice none 0 0, .slice none 0 0, .slice none 0 0, .slice none 0 0, .slice none 0 0, .slice none 0 0, .slice none 0 0, .slice none 0 0, .slice none 0 0, .slice none 0 0, .slice none 0 0, .slice none 0 0, .slice none 0 0, .slice none 0 0, .slice none 0 0, .slice none 0 0, .slice none 0 0, .slice none 0 0, .slice none 0 0, .slice none 0 0, .slice none 0 0, .slice none 0 0, .slice none 0 0, .slice none 0 0, .slice none 0 0, .slice none 0 0, .slice none 0 0, .slice none 0 0, .slice none 0 0, .slice none 0 0, .slice none 0 0, .slice none 0 0, .slice none 0 0, .slice none 0 0, .slice none 0 0, .slice none 0 0, .slice none 0 0, .slice none 0 0, .slice none 0 0, .slice none 0 0, .slice none 0 0, .slice none 0 0, .slice none 0 0, .slice none 0 0, .slice none 0 0, .slice none 0 0, .slice none 0 0, .slice none 0 0, .slice none 0 0, .slice none 0 0, .slice none 0 0, .slice none 0 0, .slice none 0 0, .slice none 0 0, .slice none 0 0, .slice none 0 0, .slice none 0 0, .slice none 0 0, .slice none 0 0, .slice none 0 0, .slice none 0 0, .slice none 0 0] 62)) w.heap.size w.heap.size 64 62 3 1 (fun _ => .slice none 0 0) (fun _ => []) :=
  ⟨World.rowIs_alloc w (Array.replicate 64 (Value.slice none 0 0)) 62 (fun _ => .slice none 0 0) (fun i hi => by simp at hi; simp [hi]), Nat.le_refl _, fun p _ => World.ownsRow_nil _ _ _ _, fun p q k _ _ _ h => by simp [Value.ownBlock] at h, fun p _ h => by simp [Value.ownBlock] at h⟩
theorem wpList_append_int1 {ops : Array Oper} {rest : List Oper} {o : Oper} {a : Act} {Q : Exit → Act → World → Prop} {w : World} (s x : Operand)
    (ho : o.op = .call { callee := .builtin .append, args := #[s, x], argTypes := #[48, 48] }) (hgd : o.guard = none)
    (base : Nat) (v : Value) (n : Nat) (xs : List Value) (y : Int) (hs : a.eval s = v) (hown : w.ownsRow base 3 1 v n xs) (g : Nat)
    (hx : a.eval x = .slice (some ⟨g, 0, none⟩) 1 1) (hr : Blk w g 3 #[.int .i64 y]) (hl : n + 1 ≤ 1000000) (hbase : base ≤ w.heap.size)
    (h : ∀ g2 cap2 w', w'.ownsRow base 3 1 (.slice (some ⟨g2, 0, none⟩) (n + 1) cap2) (n + 1) (xs ++ enc1 y) → w.grownBy w' v.ownBlock → (Value.ownBlock (.slice (some ⟨g2, 0, none⟩) (n + 1) cap2) = v.ownBlock ∨ Value.ownBlock (.slice (some ⟨g2, 0, none⟩) (n + 1) cap2) = some w.heap.size) → wpList Try.prog ops Q rest (a.put o.dst (.slice (some ⟨g2, 0, none⟩) (n + 1) cap2)) w') :
    wpList Try.prog ops Q (o :: rest) a w :=
  wpList_plain hgd fun K hK => by
    obtain ⟨v', w', hrun, h2, h3, h5⟩ := run_append_int w base o.type v n xs y hown g hr hl hbase
    obtain ⟨g2, cap2, rfl, -, -⟩ := h2.form (by omega)
    have := exec_append (P := Try.prog) (a := a) s x 48 ho hs hx hrun
    unfold Oper.wp
    rw [this]
    exact hK _ _ (h g2 cap2 w' h2 h3 h5)

set_option maxRecDepth 8000 in
set_option maxHeartbeats 8000000 in
theorem packof_bad (g : Gr) (V D E : Option Addr) (cv cd ce : Nat) (w : World) (hD : RdD w w.heap.size D g.sz) (hE : RdE w w.heap.size E g.es) (lv : g.nv ≤ 17592186044416) (ls : g.sz.length ≤ 17592186044416) (le : g.es.length ≤ 17592186044416) (hk : chk g ≠ 0) :
    Calls Try.prog 7 #[grV g V D E cv cd ce] w fun e w' => e = .returned (.tuple #[.slice none 0 0, .int .i64 (chk g)]) ∧ Below w.heap.size w w' := by
  have n0 := new1 w (.cells #[.slice V g.nv cv, .int .i64 g.tm, .slice D g.sz.length cd, .int .i64 g.pts, .int .i64 g.ex, .slice E g.es.length ce] 26)
  have k0 := Blk.new w 26 #[.slice V g.nv cv, .int .i64 g.tm, .slice D g.sz.length cd, .int .i64 g.pts, .int .i64 g.ex, .slice E g.es.length ce]
  have HC := hid (gcheck_any g V D E cv cd ce _ (hD.up n0) (hE.up n0) lv ls le)
  have t : (chk g != 0) = true := by simpa using hk
  clear hk
  unfold grV at *
  obtain ⟨x0, x1, x2, x3, x4, x5, fx⟩ := blk6 k0
  go_enter Try.func7, Try.ntmps7
  go_wp2_with fail
  refine HC.out.mono ?_
  clear HC x0 x1 x2 x3 x4 x5 fx
  generalize w.alloc (.cells #[.slice V g.nv cv, .int .i64 g.tm, .slice D g.sz.length cd, .int .i64 g.pts, .int .i64 g.ex, .slice E g.es.length ce] 26) = w0 at *
  rintro e1 w1 ⟨rfl, hb1⟩
  go_wp2
  exact bodyPost_ret (v := .tuple #[.slice none 0 0, .int .i64 (chk g)]) (by simp [results, Try.results7, go_sem]) rfl ⟨rfl, bup n0 hb1⟩
end Go.Proofs.Ytofmidhkiobldaa
