/-
  gnomonlaw17.steady; gnomonref15.One, Operand; gnomonref16.Right.
  gnomonref10: value, place, does: what they answer, of a state that may be.
  A region that draws its order and has TWO operations that turn the world, the second of which waits for the first (a slice that is built, an append): each other operation yields one value at each time. Then the operations may be taken in the order of the text.
-/
import Derived.Test.YtkncebcekhfnfaaGreatBWL11
import Derived.Test.YtkncebcekhfnfaaGreatBWL12
import Derived.Test.YtkncebcekhfnfaaGreatEdge2
import Derived.Test.YtkncebcekhfnfaaGreatBWL06
import Derived.Test.YtkncebcekhfnfaaGreatBWL09
import Derived.Test.YtkncebcekhfnfaaGreatBWL04
namespace Go.Proofs.YtkncebcekhfnfaaGreat
section

end
section
open Go.RowKit
attribute [local go_sem ↓] Go.wp_at_zero Go.wp_at_succ

/-- A state of a run: its variables and its arrays, all in memory of its own. -/
structure StAt (w : World) (b0 gs : Nat) (V R : Option Addr) (vc rc : Nat) (xs : List Int) (zs : List At64.R1) : Prop where
  blk : Blk w gs 117 #[.slice V xs.length vc, .slice R zs.length rc]
  le : b0 ≤ gs
  vars : Own w b0 V vc xs
  vlt : ∀ g, V = some ⟨g, 0, none⟩ → g < gs
  rows : At64.OwnR w (gs + 1) R rc zs
section
variable {w w' : World} {b0 gs vc rc : Nat} {V R : Option Addr} {xs : List Int} {zs : List At64.R1}
theorem StAt.up (h : StAt w b0 gs V R vc rc xs zs) (hb : Below w.heap.size w w') : StAt w' b0 gs V R vc rc xs zs :=
  ⟨h.blk.later hb, h.le, h.vars.below hb, h.vlt, h.rows.below hb⟩
end

theorem opdbox {w : World} {g : Nat} {t : TypeId} {a b : Value} (h : Blk w g t #[a, b]) : w.cell? ⟨g, 0, none⟩ = some a ∧ w.cell? ⟨g, 1, none⟩ = some b ∧ ∀ j, w.frozen? ⟨g, j, none⟩ = false := ⟨h.cell 0, h.cell 1, h.fr⟩
set_option maxRecDepth 8000 in
set_option maxHeartbeats 4000000 in
theorem value_ok (gs : Nat) (V : Option Addr) (vc : Nat) (r : Value) (xs : List Int) (av an : Int) (w : World) (hk : Blk w gs 117 #[.slice V xs.length vc, r]) (hx : Rd w w.heap.size V xs) (ha : av < xs.length) (_hl : xs.length ≤ 17592186044416) :
    Calls Tryz.prog 95 #[.pointer (some ⟨gs, 0, none⟩), .agg #[.int .i64 av, .int .i64 an]] w fun e w' => e = .returned (.int .i64 (opdX xs av an)) ∧ Below w.heap.size w w' := by
  have HO := hid (show opdX xs av an = if 0 ≤ av then gI xs av else an from rfl)
  obtain ⟨p3, hb0, -⟩ := new_one w #[.int .i64 av, .int .i64 an] 63
  replace hk := hk.later hb0
  replace hx := hx.up hb0
  go_enter Tryz.func95, Tryz.ntmps95
  by_cases h0 : av < 0
  · obtain ⟨x0, x1, fx⟩ := opdbox p3
    go_wp2
    go_ret
    exact ⟨ret64 (by rw [HO.out, if_neg (by omega)]), hb0⟩
  · obtain ⟨x0, x1, fx⟩ := opdbox p3
    obtain ⟨b, off, rfl, hB, hc⟩ := hx.at_ (i := av) (by omega) ha
    obtain ⟨n, rfl⟩ := Int.eq_ofNat_of_zero_le (show 0 ≤ av by omega)
    have y0 := hk.cell 0
    replace y0 := y0.trans (show _ = some (Value.slice (some ⟨b, off, none⟩) xs.length vc) from rfl)
    rw [Int.toNat_natCast] at hc
    go_wp2
    have l0 := later x0
    have ly := later y0
    have lc := later hc
    clear x0 x1 fx y0 hc
    generalize w.alloc (Obj.cells #[.int .i64 n, .int .i64 an] 63) = w1 at *
    refine wp_region_flow 6 (fun W => Below w1.heap.size w1 W) (by kernel_rfl) (by kernel_rfl) (Below.refl _ _).drew ?_
    (repeat (first | (refine Flow.skip (by rfl) ?_; simp only [Act.put, List.setIfInBounds_toArray, List.set_cons_zero, List.set_cons_succ]) | (refine' Flow.take _ (by rfl) (fun W hW R hR => ?_) ?_; rotate_left; (go_simp; (try go_bits); with_reducible exact hR); simp only [Act.put, List.setIfInBounds_toArray, List.set_cons_zero, List.set_cons_succ])))
    intro w9 hb9
    go_wp2
    go_ret
    replace hb0 := bup hb0 hb9
    exact ⟨ret64 (by rw [HO.out, if_pos (by omega)]), hb0⟩

def isPlace (n : Nat) (a : Int) : Bool := decide (0 ≤ a ∧ a < (n : Int))
/-- What an edge does, an input being at hand: what goes wrong, and the variables behind it. -/
def doesW (ls : List (List Int)) (e : Edg) (xs : List Int) (input : Int) : Int × List Int :=
  if e.kd = 2 then (0, xs.set e.dst.toNat (opdX xs e.av e.an))
  else if e.kd = 9 then (0, xs.set e.dst.toNat input)
  else if 3 ≤ e.kd ∧ e.kd ≤ 8 then
    if (kindW e.kd (opdX xs e.av e.an) (opdX xs e.bv e.bn)).2 = 0 then (0, xs.set e.dst.toNat (kindW e.kd (opdX xs e.av e.an) (opdX xs e.bv e.bn)).1) else ((kindW e.kd (opdX xs e.av e.an) (opdX xs e.bv e.bn)).2, xs)
  else if e.kd = 10 then
    if isPlace (ls.getD e.arr.toNat []).length (opdX xs e.av e.an) = true then (0, xs.set e.dst.toNat (gI (ls.getD e.arr.toNat []) (opdX xs e.av e.an))) else (3, xs)
  else if e.kd = 11 then
    if isPlace (ls.getD e.arr.toNat []).length (opdX xs e.av e.an) = true then (0, xs) else (3, xs)
  else if e.kd = 14 then (4, xs) else (0, xs)

set_option maxRecDepth 8000 in
set_option maxHeartbeats 4000000 in
theorem place_ok (b0 gs : Nat) (V R : Option Addr) (vc rc : Nat) (xs : List Int) (zs : List At64.R1) (arr : Nat) (a : Int) (w : World) (h : StAt w b0 gs V R vc rc xs zs) (ha : arr < zs.length) (_hl : zs[arr].1.length ≤ 17592186044416) :
    Calls Tryz.prog 97 #[.pointer (some ⟨gs, 0, none⟩), .int .i64 (arr : Int), .int .i64 a] w fun e w' => e = .returned (.bool (isPlace zs[arr].1.length a)) ∧ Below w.heap.size w w' := by
  have HO := hid (show isPlace zs[arr].1.length a = (decide (0 ≤ a) && decide (a < (zs[arr].1.length : Int))) from by unfold isPlace; rw [Bool.decide_and])
  have hk := h.blk
  obtain ⟨g, rfl, -, -, hc⟩ := h.rows.cell ha
  generalize zs[arr].1.length = n at *
  obtain ⟨x0, x1, fx⟩ := opdbox hk
  have b0 := Below.refl w.heap.size w
  have ha' : (arr : Int) < (zs.length : Int) := by omega
  clear h hk
  go_enter Tryz.func97, Tryz.ntmps97
  by_cases c1 : 0 ≤ a
  · by_cases c2 : a < (n : Int)
    · go_wp2
      go_ret
      exact ⟨retb (by rw [HO.out, decide_eq_true c1, decide_eq_true c2]; rfl), b0⟩
    · go_wp2
      go_ret
      exact ⟨retb (by rw [HO.out, decide_eq_true c1, decide_eq_false (by omega)]; rfl), b0⟩
  · go_wp2
    go_ret
    exact ⟨retb (by rw [HO.out, decide_eq_false (by omega)]; rfl), b0⟩

theorem StAt.store {w : World} {b0 gs gv vc rc : Nat} {R : Option Addr} {xs : List Int} {zs : List At64.R1} (h : StAt w b0 gs (some ⟨gv, 0, none⟩) R vc rc xs zs) (k : Nat) (x : Int) :
    Blk (w.setCell ⟨gv, k, none⟩ (.int .i64 x)) gs 117 #[.slice (some ⟨gv, 0, none⟩) xs.length vc, .slice R zs.length rc] ∧ Own (w.setCell ⟨gv, k, none⟩ (.int .i64 x)) b0 (some ⟨gv, 0, none⟩) vc (xs.set k x) ∧ Below b0 w (w.setCell ⟨gv, k, none⟩ (.int .i64 x)) := by
  have h1 := h.vlt gv rfl
  have h2 := h.blk.lt
  have h3 : b0 ≤ gv := by
    rcases h.vars.form with ⟨e, _⟩ | ⟨g, e, hg, _⟩
    · cases e
    · injection e with e; injection e with e; omega
  exact ⟨h.blk.far (by show gv ≠ gs; omega) _, h.vars.store k x, below1 h3 (by have := h.le; omega)⟩
theorem StAt.storeR {w : World} {b0 gs gr vc rc : Nat} {V R : Option Addr} {xs : List Int} {zs : List At64.R1} (h : StAt w b0 gs V R vc rc xs zs) (hg : gs + 1 ≤ gr) (k : Nat) (x : Value) :
    Blk (w.setCell ⟨gr, k, none⟩ x) gs 117 #[.slice V xs.length vc, .slice R zs.length rc] ∧ Own (w.setCell ⟨gr, k, none⟩ x) b0 V vc xs ∧ Below b0 w (w.setCell ⟨gr, k, none⟩ x) := by
  have h2 := h.blk.lt
  exact ⟨h.blk.far (by show gr ≠ gs; omega) _, h.vars.far1 (fun g e => by have := h.vlt g e; omega), below1 (by have := h.le; omega) (by have := h.le; omega)⟩

theorem kind_do (kd a b : Int) : kindW kd a b = doW (kd + 2) a b := by
  unfold kindW doW
  rw [ite_congr (propext ⟨fun h => by omega, fun h => by omega⟩ : (kd = 3) = (kd + 2 = 5)) (fun _ => rfl) (fun _ => rfl)]
  rw [ite_congr (propext ⟨fun h => by omega, fun h => by omega⟩ : (kd = 4) = (kd + 2 = 6)) (fun _ => rfl) (fun _ => rfl)]
  rw [ite_congr (propext ⟨fun h => by omega, fun h => by omega⟩ : (kd = 5) = (kd + 2 = 7)) (fun _ => rfl) (fun _ => rfl)]
  rw [ite_congr (propext ⟨fun h => by omega, fun h => by omega⟩ : (kd = 6) = (kd + 2 = 8)) (fun _ => rfl) (fun _ => rfl)]
  rw [ite_congr (propext ⟨fun h => by omega, fun h => by omega⟩ : (kd = 7) = (kd + 2 = 9)) (fun _ => rfl) (fun _ => rfl)]
theorem opd_lt {b : Bool} {n v m : Int} (hn : 0 ≤ n) (h : (bif b then opdOk n v m else opdNo v m) = true) : v < n := by
  cases b
  · simp only [cond_false, opdNo, decide_eq_true_eq] at h; omega
  · simp only [cond_true, opdOk, decide_eq_true_eq] at h; omega
end
section
section
variable {P : Program} {ops : Array Oper} {Q : Exit → Act → World → Prop} {S : Bool → Bool → World → Prop} {md : Region.Mode} {j1 j2 : Nat}

/-- Operation i leads from S b1 b2 on, for all that may be. -/
def StepN (P : Program) (_md : Region.Mode) (ops : Array Oper) (S : Bool → Bool → World → Prop) (j1 j2 i : Nat) (o : Oper) (v : Value) (a : Act) : Prop :=
  ∀ b1 b2, (i = j1 → b1 = false ∧ b2 = false) → (i = j2 → b1 = true ∧ b2 = false) → StepM P ops (S b1 b2) (S (b1 || i == j1) (b2 || i == j2)) o v a
/-- The second waits for the first. -/
def Waits (md : Region.Mode) (ops : Array Oper) (j1 j2 : Nat) : Prop :=
  ∀ listed, closedL md ops listed → (∀ o, ops[j2]? = some o → ∀ e ∈ o.after, Region.binds md e = true → listed.getD e.on false = true) → listed.getD j1 false = true
theorem waits_of (h : reachB md ops j1 ops.size j2 = true) : Waits md ops j1 j2 := fun _ hc hall => reachB_spec hc _ _ h hall

def AnyN (P : Program) (md : Region.Mode) (ops : Array Oper) (Q : Exit → Act → World → Prop) (S : Bool → Bool → World → Prop) (j1 j2 m : Nat) : Nat → Array Bool → Act → Prop
  | 0, listed, a => earlyDone m listed ∧ ∀ w, S (listed.getD j1 false) (listed.getD j2 false) w → wpAny P md ops Q 0 listed a w
  | fuel + 1, listed, a => (earlyDone m listed ∧ ∀ w, S (listed.getD j1 false) (listed.getD j2 false) w → wpAny P md ops Q (fuel + 1) listed a w) ∨
    (Region.ready md ops listed ≠ [] ∧ ∀ i ∈ Region.ready md ops listed, i < m ∧ ∃ o v, ops[i]? = some o ∧ StepN P md ops S j1 j2 i o v a ∧ AnyN P md ops Q S j1 j2 m fuel (listed.setIfInBounds i true) (a.put o.dst v))

theorem AnyN.wpAny (hwt : Waits md ops j1 j2) (hQ : ∀ e a w, Never e a w → Q e a w) {m : Nat} : ∀ (fuel : Nat) (listed : Array Bool) (a : Act), closedL md ops listed → AnyN P md ops Q S j1 j2 m fuel listed a → ∀ w, S (listed.getD j1 false) (listed.getD j2 false) w → Go.wpAny P md ops Q fuel listed a w
  | 0, _, _, _, h, w, hS => h.2 w hS
  | fuel + 1, listed, a, hcl, h, w, hS => by
    rcases h with ⟨_, h⟩ | ⟨hne, h⟩
    · exact h w hS
    · refine ⟨fun h0 => absurd h0 hne, fun i hi => ?_⟩
      obtain ⟨_, o, v, ho, hst, hrest⟩ := h i hi
      obtain ⟨g1, g2⟩ := ready_getD hi
      obtain ⟨_, oi, hoi, hall⟩ := mem_ready.1 hi
      refine (hst _ _ (fun e => ⟨by rw [← e]; exact g2, ?_⟩) (fun e => ⟨?_, by rw [← e]; exact g2⟩)).wpOp ho hS (fun w2 hS2 => AnyN.wpAny hwt hQ fuel _ _ (hcl.set hi) hrest w2 ?_) hQ
      · cases hj : listed.getD j2 false with
        | false => rfl
        | true =>
          have := hwt listed hcl (fun oj hoj e he hb => hcl j2 oj hoj hj e he hb)
          rw [← e, g2] at this; cases this
      · subst e
        exact hwt listed hcl (fun oj hoj e he hb => by rw [hoi] at hoj; injection hoj with hoj; subst hoj; exact hall e he hb)
      · rw [getD_mark g1, getD_mark g1]; exact hS2

theorem AnyN.first (hsel : ∀ (j : Nat) (o : Oper) cs b, ops[j]? = some o → o.op ≠ .select cs b) {m : Nat} (htail : tailOk md ops m = true) {i : Nat} {oi : Oper} {v : Value} (hi : ops[i]? = some oi) (him : i < m) :
    ∀ (fuel : Nat) (listed : Array Bool) (a : Act), closedL md ops listed →
      (∀ j oj, ops[j]? = some oj → j ≠ i → listed.getD j true = false → (∀ e ∈ oj.after, Region.binds md e = true → e.on ≠ i) → oi.apart ops oj = true) →
      i ∈ Region.ready md ops listed → StepN P md ops S j1 j2 i oi v a →
      AnyN P md ops Q S j1 j2 m fuel (listed.setIfInBounds i true) (a.put oi.dst v) → AnyN P md ops Q S j1 j2 m (fuel + 1) listed a := by
  intro fuel
  have early : ∀ (listed : Array Bool) (k : Nat), closedL md ops listed → i ∈ Region.ready md ops listed → k ∈ Region.ready md ops listed → k < m := by
    intro listed k hc hr hk
    rcases Nat.lt_or_ge k m with h | h
    · exact h
    · exfalso
      obtain ⟨_, oj, hoj, hall⟩ := mem_ready.1 hk
      have hjs : k < ops.size := (Array.getElem?_eq_some_iff.1 hoj).1
      have h1 := List.all_eq_true.1 htail k (List.mem_range.2 hjs)
      simp only [Bool.or_eq_true, decide_eq_true_eq] at h1
      have h2 := List.all_eq_true.1 (h1.resolve_left (by omega)) i (List.mem_range.2 him)
      have h3 := reachB_spec hc _ _ h2 (fun o ho e he hb => by rw [hoj] at ho; injection ho with ho; subst ho; exact hall e he hb)
      rw [(ready_getD hr).2] at h3; cases h3
  induction fuel with
  | zero =>
    intro listed a hc hfree hr hy H
    refine .inr ⟨fun h => (by rw [h] at hr; cases hr), fun k hk => ?_⟩
    by_cases hji : k = i
    · subst hji; exact ⟨him, oi, v, hi, hy, H⟩
    · exfalso
      have h1 := H.1 k (early listed k hc hr hk)
      rw [getD_set_ne false (Ne.symm hji), (ready_getD hk).2] at h1; cases h1
  | succ fuel ih =>
    intro listed a hc hfree hr hy H
    refine .inr ⟨fun h => (by rw [h] at hr; cases hr), fun k hk => ?_⟩
    by_cases hji : k = i
    · subst hji; exact ⟨him, oi, v, hi, hy, H⟩
    · have hjm := early listed k hc hr hk
      rcases H with ⟨hd, _⟩ | ⟨_, H⟩
      · exfalso
        have h1 := hd k hjm
        rw [getD_set_ne false (Ne.symm hji), (ready_getD hk).2] at h1; cases h1
      · obtain ⟨_, oj, u, hoj, hst, hrest⟩ := H k (ready_mono hk hji)
        obtain ⟨hjun, oj', hoj', hall⟩ := mem_ready.1 hk
        rw [hoj] at hoj'; injection hoj' with hoj'; subst hoj'
        have hnot : ∀ e ∈ oj.after, Region.binds md e = true → e.on ≠ i := fun e he hb heq => by
          have h1 := hall e he hb
          rw [heq, (ready_getD hr).2] at h1; cases h1
        obtain ⟨h1, h2, h3⟩ := Oper.apart_spec (hfree k oj hoj hji hjun hnot)
        refine ⟨hjm, oj, u, hoj, fun b1 b2 hb hb' => (hst b1 b2 hb hb').unputApart (hsel k oj · · hoj) _ _ h1, ih _ _ (hc.set hk) ?_ (ready_mono hr (Ne.symm hji)) (fun b1 b2 hb hb' => (hy b1 b2 hb hb').putApart (hsel i oi · · hi) _ _ h3) ?_⟩
        · intro k' ok hk' hki hun hno
          refine hfree k' ok hk' hki ?_ hno
          by_cases hjk : k = k'
          · subst hjk; exact hjun
          · rw [getD_set_ne true hjk] at hun; exact hun
        · rw [Array.setIfInBounds_comm _ _ hji, ← Act.put_comm a v u h2]
          exact hrest

def FlowN (P : Program) (ops : Array Oper) (Q : Exit → Act → World → Prop) (S : Bool → Bool → World → Prop) (j1 j2 : Nat) : Nat → Nat → List Oper → Act → Prop
  | 0, _, l, a => ∀ w, S true true w → wpList P ops Q l a w
  | _ + 1, _, [], a => ∀ w, S true true w → Q .normal a w
  | m + 1, k, o :: rest, a => ∃ v, StepN P .any ops S j1 j2 k o v a ∧ FlowN P ops Q S j1 j2 m (k + 1) rest (a.put o.dst v)

theorem FlowN.anyN {m0 : Nat} (hsel : ∀ (j : Nat) (o : Oper) cs b, ops[j]? = some o → o.op ≠ .select cs b) (htail : tailOk .any ops m0 = true) (hm0 : m0 ≤ ops.size) (hj1 : j1 < m0) (hj2 : j2 < m0)
    (hr : ∀ i, i < m0 → i ∈ Region.ready .any ops (pre ops.size i)) (hfr : ∀ i, i < m0 → Region.free .any ops (pre ops.size i) i = true)
    (hf : ∀ i, i < ops.size → m0 ≤ i → Region.ready .any ops (pre ops.size i) = [i]) (hend : Region.ready .any ops (pre ops.size ops.size) = []) :
    ∀ (m k : Nat) (l : List Oper), k + m = m0 → closedL .any ops (pre ops.size k) → (∀ j, l[j]? = ops[k + j]?) → ∀ (a : Act), FlowN P ops Q S j1 j2 m k l a → AnyN P .any ops Q S j1 j2 m0 (ops.size - k) (pre ops.size k) a
  | 0, k, l, hk, _, hl, a, h => by
    have hk' : k = m0 := by omega
    subst hk'
    have he : earlyDone k (pre ops.size k) := fun i hi => by rw [pre_getD _ _ _ _ (by omega) (by omega)]; simpa using hi
    have hjt1 : (pre ops.size k).getD j1 false = true := he j1 hj1
    have hjt2 : (pre ops.size k).getD j2 false = true := he j2 hj2
    have h1 : ∀ w, S ((pre ops.size k).getD j1 false) ((pre ops.size k).getD j2 false) w → Go.wpAny P .any ops Q (ops.size - k) (pre ops.size k) a w := fun w hS => wpAny_tail hf hend _ _ l (Nat.le_refl _) (by omega) hl a w (h w (by rw [hjt1, hjt2] at hS; exact hS))
    generalize hn : ops.size - k = n at h1
    cases n with
    | zero => exact ⟨he, h1⟩
    | succ n => exact .inl ⟨he, h1⟩
  | m + 1, k, l, hk, hc, hl, a, h => by
    have hks : k < ops.size := by omega
    cases l with
    | nil => have := hl 0; simp [Array.getElem?_eq_getElem hks] at this
    | cons o l =>
      have ho : ops[k]? = some o := by simpa using (hl 0).symm
      have hl' : ∀ j, l[j]? = ops[k + 1 + j]? := fun j => by have := hl (j + 1); simpa [Nat.add_assoc, Nat.add_comm 1 j] using this
      obtain ⟨v, hst, hrest⟩ := h
      have hn : ops.size - k = (ops.size - (k + 1)) + 1 := by omega
      rw [hn]
      refine AnyN.first hsel htail ho (by omega) _ _ _ hc (Region.free_spec ho (hfr k (by omega))) (hr k (by omega)) hst ?_
      rw [pre_set _ _ hks]
      refine FlowN.anyN hsel htail hm0 hj1 hj2 hr hfr hf hend m (k + 1) l (by omega) ?_ hl' _ hrest
      rw [← pre_set _ _ hks]
      exact hc.set (hr k (by omega))

theorem wp_region_flowN {id : Nat} {l : List Oper} {a : Act} {w : World} (m j1 j2 : Nat) (S : Bool → Bool → World → Prop) (hm : P.follows .mixedOrders = true) (hc : flowOk l.toArray m = true) (hwt : reachB .any l.toArray j1 l.toArray.size j2 = true) (hj1 : j1 < m) (hj2 : j2 < m) (hS : S false false w.drew)
    (h : FlowN P l.toArray Q S j1 j2 m 0 l a) : (Code.region id l.toArray true).wp P Q a w := by
  simp only [flowOk, Bool.and_eq_true, decide_eq_true_eq, beq_iff_eq, List.all_eq_true, List.mem_range] at hc
  obtain ⟨⟨⟨⟨⟨c1, c2⟩, c3⟩, c4⟩, c5⟩, c6⟩ := hc
  have hQ : ∀ e a w, Never e a w → Q e a w := fun _ _ _ h => (h : False).elim
  refine wp_region_any hm ?_
  have hp : Array.replicate l.toArray.size false = pre l.toArray.size 0 := by simp [pre, ← List.toArray_replicate]
  rw [hp]
  have hr : ∀ i, i < m → i ∈ Region.ready .any l.toArray (pre l.toArray.size i) := fun i hi => by simpa using (c4 i hi).1
  refine AnyN.wpAny (waits_of hwt) hQ _ _ _ ?_ (FlowN.anyN (m0 := m) (k := 0) (Region.noSelect_spec c1) c3 c2 hj1 hj2 hr (fun i hi => (c4 i hi).2) ?_ c6 m l (by omega) ?_ (by simp) a h) w.drew ?_
  rotate_left
  · intro i hi hmi
    have := c5 (i - m) (by omega)
    rwa [show m + (i - m) = i by omega] at this
  · intro k o _ hk
    exfalso
    rcases Nat.lt_or_ge k l.toArray.size with h' | h'
    · rw [pre_getD _ _ _ _ (by omega) h'] at hk; simp at hk
    · rw [Array.getD, dif_neg (by rw [pre_size _ _ (by omega)]; omega)] at hk; cases hk
  · rw [pre_getD _ _ _ _ (by omega) (by omega), pre_getD _ _ _ _ (by omega) (by omega)]; simpa using hS
  · intro k o _ hk
    exfalso
    rcases Nat.lt_or_ge k l.toArray.size with h' | h'
    · rw [pre_getD _ _ _ _ (by omega) h'] at hk; simp at hk
    · rw [Array.getD, dif_neg (by rw [pre_size _ _ (by omega)]; omega)] at hk; cases hk

/-! The moves. -/
def AnyBB (S : Bool → Bool → World → Prop) (w : World) : Prop := ∃ b1 b2, S b1 b2 w
theorem FlowN.take {m k : Nat} {o : Oper} {rest : List Oper} {a : Act} (v : Value) (hk : (k == j1) = false) (hk2 : (k == j2) = false) (hw : Region.wanted o (yielded ops a.tmps) = true) (h : ∀ w, AnyBB S w → ∀ R : Value → Prop, R v → Yl R w ((execOp a.eval o).run P w)) (hr : FlowN P ops Q S j1 j2 m (k + 1) rest (a.put o.dst v)) :
    FlowN P ops Q S j1 j2 (m + 1) k (o :: rest) a :=
  ⟨v, fun b1 b2 _ _ => .inl ⟨hw, fun w hS K hK => by
    rw [hk, hk2, Bool.or_false, Bool.or_false] at hK
    have h1 := h w ⟨b1, b2, hS⟩ (fun x => x = v) rfl
    unfold Oper.wp
    generalize (execOp a.eval o).run P w = r at *
    cases r with
    | ok n w' =>
      cases n with
      | value x => obtain ⟨e1, e2⟩ := h1; subst e1; subst e2; exact hK _ _ rfl hS
      | _ => exact h1.elim
    | halt x w' => exact h1.elim⟩, hr⟩
theorem FlowN.skip {m k : Nat} {o : Oper} {rest : List Oper} {a : Act} (hk : (k == j1) = false) (hk2 : (k == j2) = false) (hw : Region.wanted o (yielded ops a.tmps) = false) (hr : FlowN P ops Q S j1 j2 m (k + 1) rest (a.put o.dst undef)) :
    FlowN P ops Q S j1 j2 (m + 1) k (o :: rest) a :=
  ⟨undef, fun b1 b2 _ _ => .inr ⟨hw, rfl, fun w hS => by rw [hk, hk2, Bool.or_false, Bool.or_false]; exact hS⟩, hr⟩
theorem FlowN.mark1 {m k : Nat} {o : Oper} {rest : List Oper} {a : Act} (v : Value) (hk : (k == j1) = true) (hk2 : (k == j2) = false) (hw : Region.wanted o (yielded ops a.tmps) = true)
    (h : ∀ w, S false false w → ∃ w2, (execOp a.eval o).run P w = .ok (.value v) w2 ∧ S true false w2) (hr : FlowN P ops Q S j1 j2 m (k + 1) rest (a.put o.dst v)) :
    FlowN P ops Q S j1 j2 (m + 1) k (o :: rest) a :=
  ⟨v, fun b1 b2 hb _ => .inl ⟨hw, fun w hS K hK => by
    obtain ⟨rfl, rfl⟩ := hb (by simpa using hk)
    rw [hk, hk2] at hK
    obtain ⟨w2, h1, h2⟩ := h w hS
    unfold Oper.wp; rw [h1]; exact hK _ _ rfl h2⟩, hr⟩
theorem FlowN.mark2 {m k : Nat} {o : Oper} {rest : List Oper} {a : Act} (v : Value) (hk : (k == j1) = false) (hk2 : (k == j2) = true) (hw : Region.wanted o (yielded ops a.tmps) = true)
    (h : ∀ w, S true false w → ∃ w2, (execOp a.eval o).run P w = .ok (.value v) w2 ∧ S true true w2) (hr : FlowN P ops Q S j1 j2 m (k + 1) rest (a.put o.dst v)) :
    FlowN P ops Q S j1 j2 (m + 1) k (o :: rest) a :=
  ⟨v, fun b1 b2 _ hb => .inl ⟨hw, fun w hS K hK => by
    obtain ⟨rfl, rfl⟩ := hb (by simpa using hk2)
    rw [hk, hk2] at hK
    obtain ⟨w2, h1, h2⟩ := h w hS
    unfold Oper.wp; rw [h1]; exact hK _ _ rfl h2⟩, hr⟩
/-- Three worlds, one behind the other. -/
def SN (w0 w1 w2 : World) : Bool → Bool → World → Prop
  | false, false => fun W => W = w0
  | true, false => fun W => W = w1
  | true, true => fun W => W = w2
  | false, true => fun _ => False
theorem SN.any {w0 w1 w2 W : World} (h : AnyBB (SN w0 w1 w2) W) : W = w0 ∨ W = w1 ∨ W = w2 := by
  obtain ⟨b1, b2, h⟩ := h
  cases b1 <;> cases b2
  · exact .inl h
  · exact h.elim
  · exact .inr (.inl h)
  · exact .inr (.inr h)
end
end
end Go.Proofs.YtkncebcekhfnfaaGreat
