/-
  Thin octagons as data; an octagon without a cell may be; thin.Oct's closure.
-/
import Derived.Test.YtanbplidigokgaaDCells
import Derived.Test.YtanbplidigokgaaWithout
namespace Go.Proofs.Ytanbplidigokgaa
open Go.RowKit
attribute [local go_sem ↓] Go.wp_at_zero Go.wp_at_succ

theorem openM_cells {N : Nat} (hN : N % 2 = 0) {m : List Int} (h : Cells N m) {i j : Nat} (hi : i < N) (hj : j < N) (hij : i ≠ j) : Cells N (openM N i j m) := by
  have hni := nxl hN hi
  have hnj := nxl hN hj
  have g : ∀ a b : Nat, a < N → b < N → G N (openM N i j m) a b = if (a = nx j ∧ b = nx i) ∨ (a = i ∧ b = j) then 9223372036854775807 else G N m a b := fun a b _ hb => by
    unfold openM
    rw [G_set (by rw [List.length_set]; exact h.len) hnj hni _ hb, G_set h.len hi hj _ hb]
    by_cases e1 : a = nx j ∧ b = nx i
    · rw [if_pos e1, if_pos (.inl e1)]
    · rw [if_neg e1]
      by_cases e2 : a = i ∧ b = j
      · rw [if_pos e2, if_pos (.inr e2)]
      · rw [if_neg e2, if_neg (fun e => e.elim e1 e2)]
  refine ⟨by rw [openM_len]; exact h.len, fun a b ha hb => ?_, fun a ha => ?_, fun a b ha hb => ?_⟩
  · have := g a b ha hb
    unfold G at this
    rw [this]
    split
    · decide
    · exact h.bd a b ha hb
  · have := g a a ha ha
    unfold G at this
    rw [this, if_neg]
    · exact h.diag a ha
    · rintro (⟨e1, e2⟩ | ⟨e1, e2⟩)
      · exact hij (nx_inj (e2.symm.trans e1))
      · exact hij (e1.symm.trans e2)
  · have e1 := g a b ha hb
    have e2 := g (nx b) (nx a) (nxl hN hb) (nxl hN ha)
    have e3 := h.mir a b ha hb
    unfold G at e1 e2
    rw [e1, e2, e3]
    by_cases q : (a = nx j ∧ b = nx i) ∨ (a = i ∧ b = j)
    · rw [if_pos q, if_pos]
      rcases q with ⟨rfl, rfl⟩ | ⟨rfl, rfl⟩
      · rw [nx_nx, nx_nx]; exact .inr ⟨rfl, rfl⟩
      · exact .inl ⟨rfl, rfl⟩
    · rw [if_neg q, if_neg]
      rintro (⟨k1, k2⟩ | ⟨k1, k2⟩)
      · exact q (.inr ⟨nx_inj k2, nx_inj k1⟩)
      · exact q (.inl ⟨by rw [← k2, nx_nx], by rw [← k1, nx_nx]⟩)

/-- One cell tried: let go, if it comes back. -/
def stepT (n : Int) (N : Nat) (cm : List Int) (out : List Int) (x : Cel N) : List Int :=
  if eqO (closeO ⟨n, false, openM N x.1.1 x.1.2 out⟩) ⟨n, false, cm⟩ then openM N x.1.1 x.1.2 out else out
def thinM (n : Int) (N : Nat) (cm : List Int) (xs : List (Cel N)) : List Int := xs.foldl (stepT n N cm) cm
theorem thinM_snoc (n : Int) (N : Nat) (cm : List Int) (xs : List (Cel N)) (x : Cel N) : thinM n N cm (xs ++ [x]) = stepT n N cm (thinM n N cm xs) x := by
  unfold thinM; rw [List.foldl_append]; rfl
theorem stepT_cells {n : Int} {N : Nat} (hN : N % 2 = 0) {cm out : List Int} (h : Cells N out) (x : Cel N) : Cells N (stepT n N cm out x) := by
  unfold stepT
  split
  · exact openM_cells hN h x.2.1 x.2.2.1 x.2.2.2
  · exact h
theorem thinM_cells {n : Int} {N : Nat} (hN : N % 2 = 0) {cm : List Int} (h : Cells N cm) : ∀ xs : List (Cel N), Cells N (thinM n N cm xs) := by
  intro xs
  have : ∀ (xs : List (Cel N)) (out : List Int), Cells N out → Cells N (xs.foldl (stepT n N cm) out) := by
    intro xs
    induction xs with
    | nil => intro out ho; exact ho
    | cons x xs ih => intro out ho; exact ih _ (stepT_cells hN ho x)
  exact this xs cm h
/-- Of an octagon that may be. -/
def thinO (o : O) : O := if (closeO o).e then closeO o else ⟨o.n, false, thinM o.n (2 * o.n).toNat (closeO o).m (matC (2 * o.n).toNat (closeO o).m (2 * o.n).toNat)⟩
def thinAns (o : O) : O := if check o = 0 then thinO o else ⟨0, false, []⟩

set_option maxRecDepth 8000 in
set_option maxHeartbeats 2000000 in
theorem back_any (x q : O) (A A4 : Option Addr) (c c4 g4 : Nat) (w : World) (hx : Rd w w.heap.size A x.m) (hm : x.m.length ≤ 17592186044416) (k4 : Blk w g4 24 #[.int .i64 q.n, .bool q.e, .slice A4 q.m.length c4]) (hq : Rd w w.heap.size A4 q.m) (hmq : q.m.length ≤ 17592186044416) :
    Calls Try.prog 56 #[.agg #[.int .i64 x.n, .bool x.e, .slice A x.m.length c], .pointer (some ⟨g4, 0, none⟩)] w (SomeB (equalB (closedO x) q) w) := by
  have hb0 : Below w.heap.size w (w.alloc (Obj.cells #[.int .i64 x.n, .bool x.e, .slice A x.m.length c] 24)) := new1 _ _
  have p0 := Blk.new w 24 #[.int .i64 x.n, .bool x.e, .slice A x.m.length c]
  have hcm : Hid ((closedO x).m.length ≤ 17592186044416) := hid (Nat.le_trans (closedO_m_le x) hm)
  replace hx := hx.up hb0
  replace hq := hq.up hb0
  replace k4 := k4.later hb0
  go_enter Try.func56, Try.ntmps56
  go_wp2
  generalize w.alloc (Obj.cells #[.int .i64 x.n, .bool x.e, .slice A x.m.length c] 24) = w0 at *
  obtain ⟨x0, x1, x2, fx⟩ := octbox p0
  obtain ⟨y0, y1, y2, fy⟩ := octbox k4
  have f0 := laterE x0
  have f1 := laterE x1
  have f2 := laterE x2
  have g0 := laterE y0
  have g1 := laterE y1
  have g2 := laterE y2
  clear x0 x1 x2 fx y0 y1 y2 fy
  refine wp_region_flowE 3 [Sp.val (.agg #[.int .i64 x.n, .bool x.e, .slice A x.m.length c]), Sp.any (IsOct (closedO x)), Sp.val (.agg #[.int .i64 q.n, .bool q.e, .slice A4 q.m.length c4])] (by kernel_rfl) (by kernel_rfl) ?_
  (refine FlowE.take (by rfl) (fun W hW R hR => ?_) (fun _ _ => ?_); (go_simp; (try go_bits); with_reducible exact hR); simp only [Act.put, List.setIfInBounds_toArray, List.set_cons_zero, List.set_cons_succ])
  refine FlowE.call 58 #[.agg #[.int .i64 x.n, .bool x.e, .slice A x.m.length c]] (by rfl) (fun W hW => by go_simp) (fun W hW => (thclosed_any x A c W (hx.up (Ext.trans (Below.refl _ _).drew hW)) hm).mono fun _ _ ⟨A1, c1, he, ho, hb⟩ => ⟨_, he, hb, A1, c1, rfl, ho⟩) (fun v1 l1 h1 => ?_)
  simp only [Act.put, List.setIfInBounds_toArray, List.set_cons_zero, List.set_cons_succ]
  (refine FlowE.take (by rfl) (fun W hW R hR => ?_) (fun _ _ => ?_); (go_simp; (try go_bits); with_reducible exact hR); simp only [Act.put, List.setIfInBounds_toArray, List.set_cons_zero, List.set_cons_succ])
  refine FlowE.tail (fun W hW hf hd => ?_)
  replace hW : Below w0.heap.size w0 W := Ext.trans (Below.refl _ _).drew hW
  obtain ⟨A1, c1, rfl, o1, _, _, _⟩ := fact_oct (show Sp.fact w0.drew (Sp.any (IsOct (closedO x))) v1 l1 h1 W from hf 1)
  clear hf hd f0 f1 f2 g0 g1 g2
  have hr1 := o1.rd
  generalize closedO x = z at *
  go_wp2_with fail
  refine (dequal_any z q A1 A4 c1 c4 W hr1 (hq.up hW) hcm.out hmq).mono ?_
  rintro e2 w2 ⟨rfl, hb2⟩
  go_wp2
  go_ret
  exact ⟨rfl, bup (bup hb0 hW) hb2⟩

set_option maxHeartbeats 400000 in
theorem dbmcells_any (v : Value) (w : World) (hv : ∃ n e A L c, v = .agg #[.int .i64 n, .bool e, .slice A L c]) :
    Calls Try.prog 30 #[v] w fun e w' => e = .returned (.func (.func 71) #[] #[.pointer (some ⟨w.heap.size, 0, none⟩)]) ∧ ∃ cs, v = .agg cs ∧ w' = w.alloc (.cells cs 24) := by
  obtain ⟨n, e, A, L, c, rfl⟩ := hv
  go_enter Try.func30, Try.ntmps30
  go_wp2
  go_ret
  exact ⟨rfl, _, rfl, rfl⟩
theorem dcells_stops (nn gb : Nat) (n : Int) (m : List Int) (N : Nat) (A : Option Addr) (c : Nat) (p : Nat → Prop) (hpb : p gb) (hpA : ∀ a, A = some a → p a.block)
    (hN : (N : Int) = 2 * n) (hn : N ≤ 128) (hl : m.length = N * N) (hm : m.length ≤ 17592186044416) (hk : check ⟨n, false, m⟩ = 0) (w : World)
    (hb : Blk w gb 24 #[.int .i64 n, .bool false, .slice A m.length c]) (hr : Rd w w.heap.size A m) :
    SeqStopsK (wideAt none) nn Try.prog 71 #[.pointer (some ⟨gb, 0, none⟩)] (encC N m) (Same p) (fun xs => xs = matC N m N) (fun pre => pre <+: matC N m N) (N * N + 1) w :=
  fun l J Jx W hW hJ _ hY h0 => dcells1_in nn l gb n m N A c p hpb hpA hN hn hl hm hk J Jx W hJ hY (hb.below hW hb.lt) (hr.up hW) h0
end Go.Proofs.Ytanbplidigokgaa
