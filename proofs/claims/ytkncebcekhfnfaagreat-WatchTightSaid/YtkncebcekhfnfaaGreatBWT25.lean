/-
  step.state: how it lies in memory; what its methods answer. (Printed by gen_machs.py.)
-/
import Derived.Test.YtkncebcekhfnfaaGreatBWT24
import Derived.Test.YtkncebcekhfnfaaGreatBWT16
namespace Go.Proofs.YtkncebcekhfnfaaGreat
open Go.RowKit
attribute [local go_sem ↓] Go.wp_at_zero Go.wp_at_succ

/-- What stays as it is in a run: the graph, and where things lie. -/
structure RP where
  g : Gr
  Vn : Option Addr
  Dn : Option Addr
  En : Option Addr
  cv : Nat
  cd : Nat
  ce : Nat
  F : Nat
  N : Nat
  f : Nat → Value
  ks : List (Nat × TypeId × Array Value)
/-- Blocks of other types, that stay as they are. -/
def Keep (w : World) (ks : List (Nat × TypeId × Array Value)) : Prop := ∀ k ∈ ks, Blk w k.1 k.2.1 k.2.2 ∧ k.2.1 ≠ 147 ∧ k.2.1 ≠ 2 ∧ k.2.1 ≠ 186 ∧ k.2.1 ≠ 28
theorem Keep.up {w w' : World} {ks : List (Nat × TypeId × Array Value)} (h : Keep w ks) (hb : Below w.heap.size w w') : Keep w' ks := fun k hk => ⟨(h k hk).1.later hb, (h k hk).2⟩
theorem Keep.only {t : TypeId} {w w' : World} {ks : List (Nat × TypeId × Array Value)} (h : Keep w ks) (hO : OnlyT t w w') (ht : t = 147 ∨ t = 2 ∨ t = 186 ∨ t = 28) : Keep w' ks := fun k hk => by
  obtain ⟨h1, h2, h3, h4, h5⟩ := h k hk
  refine ⟨h1.only hO ?_, h2, h3, h4, h5⟩
  rcases ht with rfl | rfl | rfl | rfl <;> assumption
/-- What changes. -/
structure MS where
  p : Int
  V : Option Addr
  R : Option Addr
  S : Option Addr
  vc : Nat
  rc : Nat
  sc : Nat
  xs : List Int
  zs : List At64.R1
  inp : List Int
def MS.ls (m : MS) : List (List Int) := m.zs.map (·.1)
/-- A row of at most so many events. -/
def EvOk (w : World) (b0 : Nat) (ev : Value) (n : Nat) : Prop := ∃ k cells, w.ownsRow b0 186 3 ev k cells ∧ k ≤ n
structure StA (w : World) (b0 gs : Nat) (r : RP) (m : MS) (ev : Value) (n : Nat) : Prop where
  blk : Blk w gs 147 #[.slice r.Vn r.g.nv r.cv, .int .i64 r.g.tm, .slice r.Dn r.g.sz.length r.cd, .int .i64 r.g.pts, .int .i64 r.g.ex, .slice r.En r.g.es.length r.ce, .slice (some ⟨r.F, 0, none⟩) r.N r.N, .int .i64 m.p, .slice m.V m.xs.length m.vc, .slice m.R m.zs.length m.rc, .slice m.S m.inp.length m.sc, ev]
  ge : b0 ≤ gs
  mem : MemR w b0 r.F r.N r.f r.g.es m.V m.R m.vc m.rc m.xs m.zs
  edges : RdE w b0 r.En r.g.es
  scr : Rd w b0 m.S m.inp
  scap : m.inp.length ≤ m.sc
  evs : EvOk w b0 ev n
  keep : Keep w r.ks
section
variable {w w' : World} {b0 gs n : Nat} {r : RP} {m : MS} {ev : Value}
theorem EvOk.up (h : EvOk w b0 ev n) (hb : Below w.heap.size w w') : EvOk w' b0 ev n := by
  obtain ⟨k, cells, h1, h2⟩ := h
  exact ⟨k, cells, World.ownsRow.kept h1 (grown_of_below hb none) (by cases h' : ev.ownBlock <;> simp), h2⟩
theorem EvOk.only {t : TypeId} (h : EvOk w b0 ev n) (hO : OnlyT t w w') (ne : 186 ≠ t) : EvOk w' b0 ev n := by
  obtain ⟨k, cells, h1, h2⟩ := h
  exact ⟨k, cells, ownsRow_only h1 hO ne, h2⟩
theorem EvOk.more {n' : Nat} (h : EvOk w b0 ev n) (hn : n ≤ n') : EvOk w b0 ev n' := by
  obtain ⟨k, cells, h1, h2⟩ := h
  exact ⟨k, cells, h1, by omega⟩
theorem StA.le (h : StA w b0 gs r m ev n) : b0 ≤ w.heap.size := by have := h.blk.lt; have := h.ge; omega
theorem StA.up (h : StA w b0 gs r m ev n) (hb : Below w.heap.size w w') : StA w' b0 gs r m ev n :=
  ⟨h.blk.later hb, h.ge, h.mem.up hb, h.edges.below (hb.mono h.le), h.scr.below (hb.mono h.le), h.scap, h.evs.up hb, h.keep.up hb⟩
theorem StA.more {n' : Nat} (h : StA w b0 gs r m ev n) (hn : n ≤ n') : StA w b0 gs r m ev n' := ⟨h.blk, h.ge, h.mem, h.edges, h.scr, h.scap, h.evs.more hn, h.keep⟩
theorem stbox {g : Nat} {t : TypeId} {a0 a1 a2 a3 a4 a5 a6 a7 a8 a9 a10 a11 : Value} (h : Blk w g t #[a0, a1, a2, a3, a4, a5, a6, a7, a8, a9, a10, a11]) :
    w.cell? ⟨g, 0, none⟩ = some a0 ∧ w.cell? ⟨g, 1, none⟩ = some a1 ∧ w.cell? ⟨g, 2, none⟩ = some a2 ∧ w.cell? ⟨g, 3, none⟩ = some a3 ∧ w.cell? ⟨g, 4, none⟩ = some a4 ∧ w.cell? ⟨g, 5, none⟩ = some a5 ∧ w.cell? ⟨g, 6, none⟩ = some a6 ∧ w.cell? ⟨g, 7, none⟩ = some a7 ∧ w.cell? ⟨g, 8, none⟩ = some a8 ∧ w.cell? ⟨g, 9, none⟩ = some a9 ∧ w.cell? ⟨g, 10, none⟩ = some a10 ∧ w.cell? ⟨g, 11, none⟩ = some a11 ∧ ∀ j, w.frozen? ⟨g, j, none⟩ = false :=
  ⟨h.cell 0, h.cell 1, h.cell 2, h.cell 3, h.cell 4, h.cell 5, h.cell 6, h.cell 7, h.cell 8, h.cell 9, h.cell 10, h.cell 11, h.fr⟩
end
theorem StA.storeV {w : World} {b0 gs n gv : Nat} {r : RP} {p : Int} {R S : Option Addr} {vc rc sc : Nat} {xs : List Int} {zs : List At64.R1} {inp : List Int} {ev : Value} (h : StA w b0 gs r ⟨p, some ⟨gv, 0, none⟩, R, S, vc, rc, sc, xs, zs, inp⟩ ev n) (k : Nat) (x : Int) :
    StA (w.setCell ⟨gv, k, none⟩ (.int .i64 x)) b0 gs r ⟨p, some ⟨gv, 0, none⟩, R, S, vc, rc, sc, xs.set k x, zs, inp⟩ ev n ∧ Below b0 w (w.setCell ⟨gv, k, none⟩ (.int .i64 x)) := by
  obtain ⟨cs, hk⟩ := h.mem.vars.blk
  have hO := OnlyT.of_set hk k (.int .i64 x)
  have hb : Below b0 w (w.setCell ⟨gv, k, none⟩ (.int .i64 x)) := below1 h.mem.ge_v h.le
  refine ⟨⟨?_, h.ge, h.mem.storeV k x, h.edges.below hb, h.scr.below hb, h.scap, h.evs.only hO (by decide), h.keep.only hO (by decide)⟩, hb⟩
  have := h.blk.only hO (by decide)
  dsimp only at *
  rw [List.length_set]; exact this
theorem StA.storeA {w : World} {b0 gs n a g : Nat} {r : RP} {p : Int} {V R S : Option Addr} {vc rc sc : Nat} {xs : List Int} {zs : List At64.R1} {inp : List Int} {ev : Value} (h : StA w b0 gs r ⟨p, V, R, S, vc, rc, sc, xs, zs, inp⟩ ev n) (ha : a < zs.length) (hg : zs[a].2.1 = some ⟨g, 0, none⟩) (k : Nat) (x : Int) :
    StA (w.setCell ⟨g, k, none⟩ (.int .i64 x)) b0 gs r ⟨p, V, R, S, vc, rc, sc, xs, setR zs a (zs[a].1.set k x), inp⟩ ev n ∧ Below b0 w (w.setCell ⟨g, k, none⟩ (.int .i64 x)) := by
  have hok := h.mem.rows.own _ (List.getElem_mem ha)
  rw [hg] at hok
  obtain ⟨cs, hk⟩ := hok.blk
  have hO := OnlyT.of_set hk k (.int .i64 x)
  have hb : Below b0 w (w.setCell ⟨g, k, none⟩ (.int .i64 x)) := below1 (h.mem.ge_a ha hg) h.le
  refine ⟨⟨?_, h.ge, h.mem.storeA ha hg k x, h.edges.below hb, h.scr.below hb, h.scap, h.evs.only hO (by decide), h.keep.only hO (by decide)⟩, hb⟩
  have := h.blk.only hO (by decide)
  dsimp only at *
  rw [setR_len]; exact this
set_option maxRecDepth 8000 in
set_option maxHeartbeats 4000000 in
theorem svalue_ok (b0 gs n : Nat) (r : RP) (m : MS) (ev : Value) (av an : Int) (w : World) (h : StA w b0 gs r m ev n) (ha : av < m.xs.length) (hl : m.xs.length ≤ 64) :
    Calls Tryz.prog 125 #[.pointer (some ⟨gs, 0, none⟩), .agg #[.int .i64 av, .int .i64 an]] w fun e w' => e = .returned (.int .i64 (opdX m.xs av an)) ∧ Below w.heap.size w w' := by
  have HO := hid (show opdX m.xs av an = if 0 ≤ av then gI m.xs av else an from rfl)
  have hk := h.blk
  have hx := h.mem.vars.rd
  clear h
  obtain ⟨p, V, R, S, vc, rc, sc, xs, zs, inp⟩ := m
  dsimp only at *
  obtain ⟨p3, hb0, -⟩ := new_one w #[.int .i64 av, .int .i64 an] 63
  replace hk := hk.later hb0
  replace hx := hx.up hb0
  go_enter Tryz.func125, Tryz.ntmps125
  by_cases h0 : av < 0
  · obtain ⟨x0, x1, fx⟩ := opdbox p3
    go_wp2
    go_ret
    exact ⟨ret64 (by rw [HO.out, if_neg (by omega)]), hb0⟩
  · obtain ⟨x0, x1, fx⟩ := opdbox p3
    obtain ⟨b, off, rfl, hB, hc⟩ := hx.at_ (i := av) (by omega) ha
    obtain ⟨k, rfl⟩ := Int.eq_ofNat_of_zero_le (show 0 ≤ av by omega)
    have y0 := hk.cell 8
    replace y0 := y0.trans (show _ = some (Value.slice (some ⟨b, off, none⟩) xs.length vc) from rfl)
    rw [Int.toNat_natCast] at hc
    go_wp2
    have l0 := later x0
    have ly := later y0
    have lc := later hc
    clear x0 x1 fx y0 hc
    generalize w.alloc (Obj.cells #[.int .i64 k, .int .i64 an] 63) = w1 at *
    refine wp_region_flow 6 (fun W => Below w1.heap.size w1 W) (by kernel_rfl) (by kernel_rfl) (Below.refl _ _).drew ?_
    (repeat (first | (refine Flow.skip (by rfl) ?_; simp only [Act.put, List.setIfInBounds_toArray, List.set_cons_zero, List.set_cons_succ]) | (refine' Flow.take _ (by rfl) (fun W hW R hR => ?_) ?_; rotate_left; (go_simp; (try go_bits); with_reducible exact hR); simp only [Act.put, List.setIfInBounds_toArray, List.set_cons_zero, List.set_cons_succ])))
    intro w9 hb9
    go_wp2
    go_ret
    replace hb0 := bup hb0 hb9
    exact ⟨ret64 (by rw [HO.out, if_pos (by omega)]), hb0⟩

/-- What a method answers: what goes wrong, and the state behind it. -/
def MRes (w : World) (b0 gs : Nat) (r : RP) (m : MS) (n : Nat) (q : Int × List Int) (ls : List (List Int)) (inp : List Int) (e : Ending) (w' : World) : Prop :=
  e = .returned (.int .i64 q.1) ∧ ∃ m' ev', StA w' b0 gs r m' ev' n ∧ m'.xs = q.2 ∧ m'.ls = ls ∧ m'.inp = inp ∧ m'.p = m.p ∧ Below b0 w w'

set_option maxRecDepth 8000 in
set_option maxHeartbeats 8000000 in
theorem snothing_ok (b0 gs n : Nat) (r : RP) (m : MS) (ev : Value) (x : Edg) (w : World) (h : StA w b0 gs r m ev n) :
    Calls Tryz.prog 111 #[.pointer (some ⟨gs, 0, none⟩), x.val] w (MRes w b0 gs r m (n + 1) (0, m.xs) m.ls m.inp) := by
  obtain ⟨fr, te, kd, dst, arr, op, av, an, bv, bn⟩ := x
  obtain ⟨p, V, R, S, vc, rc, sc, xs, zs, inp⟩ := m
  unfold Edg.val at *
  try unfold MS.ls at *
  dsimp only at *
  obtain ⟨p4, hb0, -⟩ := new_one w #[.int .i64 fr, .int .i64 te, .int .i64 kd, .int .i64 dst, .int .i64 arr, .int .i64 op, .int .i64 av, .int .i64 an, .int .i64 bv, .int .i64 bn] 65
  have hst := h.up hb0
  have hle := h.le
  clear h
  go_enter Tryz.func111, Tryz.ntmps111
  go_wp2
  go_ret
  exact ⟨rfl, ⟨p, V, R, S, vc, rc, sc, xs, zs, inp⟩, ev, hst.more (by omega), rfl, rfl, rfl, rfl, hb0.mono hle⟩

set_option maxRecDepth 8000 in
set_option maxHeartbeats 8000000 in
theorem scopies_ok (b0 gs n : Nat) (r : RP) (m : MS) (ev : Value) (x : Edg) (w : World) (h : StA w b0 gs r m ev n) (hd : 0 ≤ x.dst ∧ x.dst < m.xs.length) (ha : x.av < m.xs.length) (hl : m.xs.length ≤ 64) :
    Calls Tryz.prog 112 #[.pointer (some ⟨gs, 0, none⟩), x.val] w (MRes w b0 gs r m (n + 1) (0, m.xs.set x.dst.toNat (opdX m.xs x.av x.an)) m.ls m.inp) := by
  obtain ⟨fr, te, kd, dst, arr, op, av, an, bv, bn⟩ := x
  obtain ⟨p, V, R, S, vc, rc, sc, xs, zs, inp⟩ := m
  unfold Edg.val at *
  try unfold MS.ls at *
  dsimp only at *
  obtain ⟨p4, hb0, -⟩ := new_one w #[.int .i64 fr, .int .i64 te, .int .i64 kd, .int .i64 dst, .int .i64 arr, .int .i64 op, .int .i64 av, .int .i64 an, .int .i64 bv, .int .i64 bn] 65
  have hst := h.up hb0
  have hle := h.le
  clear h
  go_enter Tryz.func112, Tryz.ntmps112
  obtain ⟨dn, rfl⟩ := Int.eq_ofNat_of_zero_le hd.1
  have hdn : dn < xs.length := by omega
  obtain ⟨gv, rfl⟩ : ∃ g, V = some ⟨g, 0, none⟩ := by
    rcases hst.mem.vars.form with ⟨_, h, _⟩ | ⟨g, h, _⟩
    · exfalso
      have h : xs = [] := h
      rw [h] at hdn; simp at hdn
    · exact ⟨g, h⟩
  go_wp2
  generalize w.alloc (Obj.cells #[.int .i64 fr, .int .i64 te, .int .i64 kd, .int .i64 (dn : Int), .int .i64 arr, .int .i64 op, .int .i64 av, .int .i64 an, .int .i64 bv, .int .i64 bn] 65) = w1 at *
  have HVA := hid (fun X (hX : Below w1.heap.size w1 X) => svalue_ok b0 gs n r _ ev av an X (hst.up hX) ha hl)
  dsimp only at HVA
  have HST := hid hst
  have ks := hst.blk
  dsimp only at ks
  obtain ⟨s0, s1, s2, s3, s4, s5, s6, s7, s8, s9, s10, s11, fs⟩ := stbox ks
  clear ks
  obtain ⟨e0, e1, e2, e3, e4, e5, e6, e7, e8, e9, fe⟩ := edgbox p4
  clear hst
  have l8 := later s8
  have q3 := later e3
  have q6 := later e6
  have q7 := later e7
  clear s0 s1 s2 s3 s4 s5 s6 s7 s8 s9 s10 s11 fs e0 e1 e2 e3 e4 e5 e6 e7 e8 e9 fe
  refine wp_region_flow 10 (fun W => Below w1.heap.size w1 W) (by kernel_rfl) (by kernel_rfl) (Below.refl _ _).drew ?_
  (repeat (first | (refine Flow.skip (by rfl) ?_; simp only [Act.put, List.setIfInBounds_toArray, List.set_cons_zero, List.set_cons_succ]) | (refine' Flow.take _ (by rfl) (fun W hW R hR => ?_) ?_; rotate_left; (go_simp; (try go_bits); with_reducible exact hR); simp only [Act.put, List.setIfInBounds_toArray, List.set_cons_zero, List.set_cons_succ])))
  (refine Flow.call 125 #[.pointer (some ⟨gs, 0, none⟩), .agg #[.int .i64 av, .int .i64 an]] (.int .i64 (opdX xs av an)) (by rfl) (fun X hX => by go_simp) (fun X hX => (HVA.out X hX).mono fun e' w' ⟨he, hb'⟩ => ⟨he, bstep hX hX.size hb'⟩) ?_; simp only [Act.put, List.setIfInBounds_toArray, List.set_cons_zero, List.set_cons_succ])
  (repeat (first | (refine Flow.skip (by rfl) ?_; simp only [Act.put, List.setIfInBounds_toArray, List.set_cons_zero, List.set_cons_succ]) | (refine' Flow.take _ (by rfl) (fun W hW R hR => ?_) ?_; rotate_left; (go_simp; (try go_bits); with_reducible exact hR); simp only [Act.put, List.setIfInBounds_toArray, List.set_cons_zero, List.set_cons_succ])))
  intro w9 hb9
  have hst9 := HST.out.up hb9
  have hfv := hst9.mem.vars.frozen dn
  obtain ⟨_, _, eA, _, cA⟩ := hst9.mem.vars.rd dn hdn
  injection eA with eA; injection eA with eA1 eA2; subst eA1; subst eA2
  rw [Nat.zero_add] at cA
  have hgv := hid (hst9.storeV dn (opdX xs av an))
  replace hb0 := hid (bup hb0 hb9)
  clear hst9 hb9
  clear l8 q3 q6 q7 HVA
  go_wp2
  go_ret
  exact ⟨rfl, ⟨p, some ⟨gv, 0, none⟩, R, S, vc, rc, sc, _, zs, inp⟩, ev, (hgv.out.1.more (by omega)), rfl, rfl, rfl, rfl, (hb0.out.mono hle).trans hgv.out.2⟩

set_option maxRecDepth 8000 in
set_option maxHeartbeats 8000000 in
theorem sgives_ok (fid : FuncId) (pr : Int × Int) (b0 gs n : Nat) (r : RP) (m : MS) (ev : Value) (x : Edg) (w : World) (h : StA w b0 gs r m ev n) (hd : 0 ≤ x.dst ∧ x.dst < m.xs.length) (ha : x.av < m.xs.length) (hb : x.bv < m.xs.length) (hl : m.xs.length ≤ 64) (HCF : ∀ X, (callFunc fid #[.int .i64 (opdX m.xs x.av x.an), .int .i64 (opdX m.xs x.bv x.bn)]).run Tryz.prog X = .ok (.enter fid #[.int .i64 (opdX m.xs x.av x.an), .int .i64 (opdX m.xs x.bv x.bn)]) X) (HF : ∀ X, Calls Tryz.prog fid #[.int .i64 (opdX m.xs x.av x.an), .int .i64 (opdX m.xs x.bv x.bn)] X (PairRes pr X)) :
    Calls Tryz.prog 147 #[.pointer (some ⟨gs, 0, none⟩), x.val, .func (.func fid) #[] #[]] w (MRes w b0 gs r m (n + 1) (if pr.2 = 0 then (0, m.xs.set x.dst.toNat pr.1) else (pr.2, m.xs)) m.ls m.inp) := by
  obtain ⟨pa, pb⟩ := pr
  unfold PairRes pairV at HF
  replace HF := hid HF
  replace HCF := hid HCF
  obtain ⟨fr, te, kd, dst, arr, op, av, an, bv, bn⟩ := x
  obtain ⟨p, V, R, S, vc, rc, sc, xs, zs, inp⟩ := m
  unfold Edg.val at *
  try unfold MS.ls at *
  dsimp only at *
  obtain ⟨p4, hb0, -⟩ := new_one w #[.int .i64 fr, .int .i64 te, .int .i64 kd, .int .i64 dst, .int .i64 arr, .int .i64 op, .int .i64 av, .int .i64 an, .int .i64 bv, .int .i64 bn] 65
  have hst := h.up hb0
  have hle := h.le
  clear h
  go_enter Tryz.func147, Tryz.ntmps147
  obtain ⟨dn, rfl⟩ := Int.eq_ofNat_of_zero_le hd.1
  have hdn : dn < xs.length := by omega
  obtain ⟨gv, rfl⟩ : ∃ g, V = some ⟨g, 0, none⟩ := by
    rcases hst.mem.vars.form with ⟨_, h, _⟩ | ⟨g, h, _⟩
    · exfalso
      have h : xs = [] := h
      rw [h] at hdn; simp at hdn
    · exact ⟨g, h⟩
  go_wp2
  generalize w.alloc (Obj.cells #[.int .i64 fr, .int .i64 te, .int .i64 kd, .int .i64 (dn : Int), .int .i64 arr, .int .i64 op, .int .i64 av, .int .i64 an, .int .i64 bv, .int .i64 bn] 65) = w1 at *
  have HVA := hid (fun X (hX : Below w1.heap.size w1 X) => svalue_ok b0 gs n r _ ev av an X (hst.up hX) ha hl)
  have HVB := hid (fun X (hX : Below w1.heap.size w1 X) => svalue_ok b0 gs n r _ ev bv bn X (hst.up hX) hb hl)
  dsimp only at HVA HVB
  have HST := hid hst
  have ks := hst.blk
  dsimp only at ks
  obtain ⟨s0, s1, s2, s3, s4, s5, s6, s7, s8, s9, s10, s11, fs⟩ := stbox ks
  clear ks
  obtain ⟨e0, e1, e2, e3, e4, e5, e6, e7, e8, e9, fe⟩ := edgbox p4
  clear hst
  have q6 := later e6
  have q7 := later e7
  have q8 := later e8
  have q9 := later e9
  clear s0 s1 s2 s3 s4 s5 s6 s7 s8 s9 s10 s11 fs e0 e1 e2 e3 e4 e5 e6 e7 e8 e9 fe
  generalize opdX xs av an = a at *
  generalize opdX xs bv bn = b at *
  refine wp_region_flow 14 (fun W => Below w1.heap.size w1 W) (by kernel_rfl) (by kernel_rfl) (Below.refl _ _).drew ?_
  (repeat (first | (refine Flow.skip (by rfl) ?_; simp only [Act.put, List.setIfInBounds_toArray, List.set_cons_zero, List.set_cons_succ]) | (refine' Flow.take _ (by rfl) (fun W hW R hR => ?_) ?_; rotate_left; (go_simp; (try go_bits); with_reducible exact hR); simp only [Act.put, List.setIfInBounds_toArray, List.set_cons_zero, List.set_cons_succ])))
  (refine Flow.call 125 #[.pointer (some ⟨gs, 0, none⟩), .agg #[.int .i64 av, .int .i64 an]] (.int .i64 a) (by rfl) (fun X hX => by go_simp) (fun X hX => (HVA.out X hX).mono fun e' w' ⟨he, hb'⟩ => ⟨he, bstep hX hX.size hb'⟩) ?_; simp only [Act.put, List.setIfInBounds_toArray, List.set_cons_zero, List.set_cons_succ])
  (repeat (first | (refine Flow.skip (by rfl) ?_; simp only [Act.put, List.setIfInBounds_toArray, List.set_cons_zero, List.set_cons_succ]) | (refine' Flow.take _ (by rfl) (fun W hW R hR => ?_) ?_; rotate_left; (go_simp; (try go_bits); with_reducible exact hR); simp only [Act.put, List.setIfInBounds_toArray, List.set_cons_zero, List.set_cons_succ])))
  (refine Flow.call 125 #[.pointer (some ⟨gs, 0, none⟩), .agg #[.int .i64 bv, .int .i64 bn]] (.int .i64 b) (by rfl) (fun X hX => by go_simp) (fun X hX => (HVB.out X hX).mono fun e' w' ⟨he, hb'⟩ => ⟨he, bstep hX hX.size hb'⟩) ?_; simp only [Act.put, List.setIfInBounds_toArray, List.set_cons_zero, List.set_cons_succ])
  (repeat (first | (refine Flow.skip (by rfl) ?_; simp only [Act.put, List.setIfInBounds_toArray, List.set_cons_zero, List.set_cons_succ]) | (refine' Flow.take _ (by rfl) (fun W hW R hR => ?_) ?_; rotate_left; (go_simp; (try go_bits); with_reducible exact hR); simp only [Act.put, List.setIfInBounds_toArray, List.set_cons_zero, List.set_cons_succ])))
  (refine Flow.call fid #[.int .i64 a, .int .i64 b] (.tuple #[.int .i64 pa, .int .i64 pb]) (by rfl) (fun X hX => by go_simp; exact HCF.out X) (fun X hX => (HF.out X).mono fun e' w' ⟨he, hw⟩ => ⟨he, hw ▸ hX⟩) ?_; simp only [Act.put, List.setIfInBounds_toArray, List.set_cons_zero, List.set_cons_succ])
  (repeat (first | (refine Flow.skip (by rfl) ?_; simp only [Act.put, List.setIfInBounds_toArray, List.set_cons_zero, List.set_cons_succ]) | (refine' Flow.take _ (by rfl) (fun W hW R hR => ?_) ?_; rotate_left; (go_simp; (try go_bits); with_reducible exact hR); simp only [Act.put, List.setIfInBounds_toArray, List.set_cons_zero, List.set_cons_succ])))
  intro w2 hb2
  replace p4 := p4.later hb2
  have hst := HST.out.up hb2
  replace hb0 := bup hb0 hb2
  clear HVA HVB HF HST q6 q7 q8 q9 hb2
  have HST := hid hst
  have ks := hst.blk
  dsimp only at ks
  obtain ⟨s0, s1, s2, s3, s4, s5, s6, s7, s8, s9, s10, s11, fs⟩ := stbox ks
  clear ks
  obtain ⟨e0, e1, e2, e3, e4, e5, e6, e7, e8, e9, fe⟩ := edgbox p4
  by_cases hq : pb = 0
  rotate_left
  · clear s0 s1 s2 s3 s4 s5 s6 s7 s8 s9 s10 s11 fs e0 e1 e2 e3 e4 e5 e6 e7 e8 e9 fe
    have t1 : (pb == 0) = false := by simpa using hq
    have HQ := hid hq
    clear hq hst
    go_wp2
    go_ret
    exact ⟨rfl, ⟨p, some ⟨gv, 0, none⟩, R, S, vc, rc, sc, xs, zs, inp⟩, ev, HST.out.more (by omega), rfl, rfl, rfl, rfl, hb0.mono hle⟩
  subst hq
  go_wp2
  clear hst
  have l8 := later s8
  have q3 := later e3
  clear s0 s1 s2 s3 s4 s5 s6 s7 s8 s9 s10 s11 fs e0 e1 e2 e3 e4 e5 e6 e7 e8 e9 fe
  refine wp_region_flow 7 (fun W => Below w2.heap.size w2 W) (by kernel_rfl) (by kernel_rfl) (Below.refl _ _).drew ?_
  (repeat (first | (refine Flow.skip (by rfl) ?_; simp only [Act.put, List.setIfInBounds_toArray, List.set_cons_zero, List.set_cons_succ]) | (refine' Flow.take _ (by rfl) (fun W hW R hR => ?_) ?_; rotate_left; (go_simp; (try go_bits); with_reducible exact hR); simp only [Act.put, List.setIfInBounds_toArray, List.set_cons_zero, List.set_cons_succ])))
  intro w9 hb9
  have hst9 := HST.out.up hb9
  have hfv := hst9.mem.vars.frozen dn
  obtain ⟨_, _, eA, _, cA⟩ := hst9.mem.vars.rd dn hdn
  injection eA with eA; injection eA with eA1 eA2; subst eA1; subst eA2
  rw [Nat.zero_add] at cA
  have hgv := hid (hst9.storeV dn pa)
  replace hb0 := hid (bup hb0 hb9)
  clear hst9 hb9
  clear l8 q3
  go_wp2
  go_ret
  exact ⟨rfl, ⟨p, some ⟨gv, 0, none⟩, R, S, vc, rc, sc, _, zs, inp⟩, ev, (hgv.out.1.more (by omega)), rfl, rfl, rfl, rfl, (hb0.out.mono hle).trans hgv.out.2⟩

set_option maxHeartbeats 800000 in
theorem sneg1_any (a b : Int) (w : World) (ha : I64 a) : Calls Tryz.prog 148 #[.int .i64 a, .int .i64 b] w (PairRes (negW a) w) := by
  have HC := hid (nneg_any a w ha)
  generalize negW a = p at *
  clear ha
  go_enter Tryz.func148, Tryz.ntmps148
  go_wp2_with fail
  refine HC.out.mono ?_
  rintro e w' ⟨rfl, rfl⟩
  obtain ⟨p, q⟩ := p
  unfold pairV
  go_wp2
  go_ret2
  exact prok rfl

set_option maxRecDepth 8000 in
set_option maxHeartbeats 8000000 in
theorem snegates_ok (b0 gs n : Nat) (r : RP) (m : MS) (ev : Value) (x : Edg) (w : World) (h : StA w b0 gs r m ev n) (hd : 0 ≤ x.dst ∧ x.dst < m.xs.length) (ha : x.av < m.xs.length) (hb : x.bv < m.xs.length) (hl : m.xs.length ≤ 64) (ia : I64 (opdX m.xs x.av x.an)) (ib : I64 (opdX m.xs x.bv x.bn)) :
    Calls Tryz.prog 113 #[.pointer (some ⟨gs, 0, none⟩), x.val] w (MRes w b0 gs r m (n + 1) (if (kindW 3 (opdX m.xs x.av x.an) (opdX m.xs x.bv x.bn)).2 = 0 then (0, m.xs.set x.dst.toNat (kindW 3 (opdX m.xs x.av x.an) (opdX m.xs x.bv x.bn)).1) else ((kindW 3 (opdX m.xs x.av x.an) (opdX m.xs x.bv x.bn)).2, m.xs)) m.ls m.inp) := by
  have HG := hid (fun X hX => sgives_ok 148 (kindW 3 (opdX m.xs x.av x.an) (opdX m.xs x.bv x.bn)) b0 gs n r m ev x X hX hd ha hb hl (fun X => by go_simp) (fun X => (show Calls Tryz.prog 148 #[.int .i64 (opdX m.xs x.av x.an), .int .i64 (opdX m.xs x.bv x.bn)] X (PairRes (kindW 3 (opdX m.xs x.av x.an) (opdX m.xs x.bv x.bn)) X) from sneg1_any _ _ X ia)))
  generalize kindW 3 (opdX m.xs x.av x.an) (opdX m.xs x.bv x.bn) = pr at *
  generalize (if pr.2 = 0 then ((0 : Int), m.xs.set x.dst.toNat pr.1) else (pr.2, m.xs)) = q at *
  clear ia ib hd ha hb hl
  obtain ⟨p4, hb0, -⟩ := new_one w #[.int .i64 x.fr, .int .i64 x.te, .int .i64 x.kd, .int .i64 x.dst, .int .i64 x.arr, .int .i64 x.op, .int .i64 x.av, .int .i64 x.an, .int .i64 x.bv, .int .i64 x.bn] 65
  have hst := h.up hb0
  have hle := h.le
  clear h
  unfold Edg.val at *
  go_enter Tryz.func113, Tryz.ntmps113
  obtain ⟨e0, e1, e2, e3, e4, e5, e6, e7, e8, e9, fe⟩ := edgbox p4
  go_wp2_with fail
  (with_reducible refine (HG.out _ hst).mono ?_)
  rintro e' w2 ⟨rfl, m', ev', hst2, k1, k2, k3, k4, hb2⟩
  have HK := hid (And.intro k1 (And.intro k2 (And.intro k3 k4)))
  clear k1 k2 k3 k4 HG
  go_wp2
  go_ret
  exact ⟨rfl, m', ev', hst2, HK.out.1, HK.out.2.1, HK.out.2.2.1, HK.out.2.2.2, (hb0.mono hle).trans hb2⟩

set_option maxRecDepth 8000 in
set_option maxHeartbeats 8000000 in
theorem sadds_ok (b0 gs n : Nat) (r : RP) (m : MS) (ev : Value) (x : Edg) (w : World) (h : StA w b0 gs r m ev n) (hd : 0 ≤ x.dst ∧ x.dst < m.xs.length) (ha : x.av < m.xs.length) (hb : x.bv < m.xs.length) (hl : m.xs.length ≤ 64) (ia : I64 (opdX m.xs x.av x.an)) (ib : I64 (opdX m.xs x.bv x.bn)) :
    Calls Tryz.prog 114 #[.pointer (some ⟨gs, 0, none⟩), x.val] w (MRes w b0 gs r m (n + 1) (if (kindW 4 (opdX m.xs x.av x.an) (opdX m.xs x.bv x.bn)).2 = 0 then (0, m.xs.set x.dst.toNat (kindW 4 (opdX m.xs x.av x.an) (opdX m.xs x.bv x.bn)).1) else ((kindW 4 (opdX m.xs x.av x.an) (opdX m.xs x.bv x.bn)).2, m.xs)) m.ls m.inp) := by
  have HG := hid (fun X hX => sgives_ok 127 (kindW 4 (opdX m.xs x.av x.an) (opdX m.xs x.bv x.bn)) b0 gs n r m ev x X hX hd ha hb hl (fun X => by go_simp) (fun X => (show Calls Tryz.prog 127 #[.int .i64 (opdX m.xs x.av x.an), .int .i64 (opdX m.xs x.bv x.bn)] X (PairRes (kindW 4 (opdX m.xs x.av x.an) (opdX m.xs x.bv x.bn)) X) from nadd_any _ _ X ia ib)))
  generalize kindW 4 (opdX m.xs x.av x.an) (opdX m.xs x.bv x.bn) = pr at *
  generalize (if pr.2 = 0 then ((0 : Int), m.xs.set x.dst.toNat pr.1) else (pr.2, m.xs)) = q at *
  clear ia ib hd ha hb hl
  obtain ⟨p4, hb0, -⟩ := new_one w #[.int .i64 x.fr, .int .i64 x.te, .int .i64 x.kd, .int .i64 x.dst, .int .i64 x.arr, .int .i64 x.op, .int .i64 x.av, .int .i64 x.an, .int .i64 x.bv, .int .i64 x.bn] 65
  have hst := h.up hb0
  have hle := h.le
  clear h
  unfold Edg.val at *
  go_enter Tryz.func114, Tryz.ntmps114
  obtain ⟨e0, e1, e2, e3, e4, e5, e6, e7, e8, e9, fe⟩ := edgbox p4
  go_wp2_with fail
  (with_reducible refine (HG.out _ hst).mono ?_)
  rintro e' w2 ⟨rfl, m', ev', hst2, k1, k2, k3, k4, hb2⟩
  have HK := hid (And.intro k1 (And.intro k2 (And.intro k3 k4)))
  clear k1 k2 k3 k4 HG
  go_wp2
  go_ret
  exact ⟨rfl, m', ev', hst2, HK.out.1, HK.out.2.1, HK.out.2.2.1, HK.out.2.2.2, (hb0.mono hle).trans hb2⟩

set_option maxRecDepth 8000 in
set_option maxHeartbeats 8000000 in
theorem ssubtracts_ok (b0 gs n : Nat) (r : RP) (m : MS) (ev : Value) (x : Edg) (w : World) (h : StA w b0 gs r m ev n) (hd : 0 ≤ x.dst ∧ x.dst < m.xs.length) (ha : x.av < m.xs.length) (hb : x.bv < m.xs.length) (hl : m.xs.length ≤ 64) (ia : I64 (opdX m.xs x.av x.an)) (ib : I64 (opdX m.xs x.bv x.bn)) :
    Calls Tryz.prog 115 #[.pointer (some ⟨gs, 0, none⟩), x.val] w (MRes w b0 gs r m (n + 1) (if (kindW 5 (opdX m.xs x.av x.an) (opdX m.xs x.bv x.bn)).2 = 0 then (0, m.xs.set x.dst.toNat (kindW 5 (opdX m.xs x.av x.an) (opdX m.xs x.bv x.bn)).1) else ((kindW 5 (opdX m.xs x.av x.an) (opdX m.xs x.bv x.bn)).2, m.xs)) m.ls m.inp) := by
  have HG := hid (fun X hX => sgives_ok 128 (kindW 5 (opdX m.xs x.av x.an) (opdX m.xs x.bv x.bn)) b0 gs n r m ev x X hX hd ha hb hl (fun X => by go_simp) (fun X => (show Calls Tryz.prog 128 #[.int .i64 (opdX m.xs x.av x.an), .int .i64 (opdX m.xs x.bv x.bn)] X (PairRes (kindW 5 (opdX m.xs x.av x.an) (opdX m.xs x.bv x.bn)) X) from nsub_any _ _ X ia ib)))
  generalize kindW 5 (opdX m.xs x.av x.an) (opdX m.xs x.bv x.bn) = pr at *
  generalize (if pr.2 = 0 then ((0 : Int), m.xs.set x.dst.toNat pr.1) else (pr.2, m.xs)) = q at *
  clear ia ib hd ha hb hl
  obtain ⟨p4, hb0, -⟩ := new_one w #[.int .i64 x.fr, .int .i64 x.te, .int .i64 x.kd, .int .i64 x.dst, .int .i64 x.arr, .int .i64 x.op, .int .i64 x.av, .int .i64 x.an, .int .i64 x.bv, .int .i64 x.bn] 65
  have hst := h.up hb0
  have hle := h.le
  clear h
  unfold Edg.val at *
  go_enter Tryz.func115, Tryz.ntmps115
  obtain ⟨e0, e1, e2, e3, e4, e5, e6, e7, e8, e9, fe⟩ := edgbox p4
  go_wp2_with fail
  (with_reducible refine (HG.out _ hst).mono ?_)
  rintro e' w2 ⟨rfl, m', ev', hst2, k1, k2, k3, k4, hb2⟩
  have HK := hid (And.intro k1 (And.intro k2 (And.intro k3 k4)))
  clear k1 k2 k3 k4 HG
  go_wp2
  go_ret
  exact ⟨rfl, m', ev', hst2, HK.out.1, HK.out.2.1, HK.out.2.2.1, HK.out.2.2.2, (hb0.mono hle).trans hb2⟩

set_option maxRecDepth 8000 in
set_option maxHeartbeats 8000000 in
theorem smultiplies_ok (b0 gs n : Nat) (r : RP) (m : MS) (ev : Value) (x : Edg) (w : World) (h : StA w b0 gs r m ev n) (hd : 0 ≤ x.dst ∧ x.dst < m.xs.length) (ha : x.av < m.xs.length) (hb : x.bv < m.xs.length) (hl : m.xs.length ≤ 64) (ia : I64 (opdX m.xs x.av x.an)) (ib : I64 (opdX m.xs x.bv x.bn)) :
    Calls Tryz.prog 116 #[.pointer (some ⟨gs, 0, none⟩), x.val] w (MRes w b0 gs r m (n + 1) (if (kindW 6 (opdX m.xs x.av x.an) (opdX m.xs x.bv x.bn)).2 = 0 then (0, m.xs.set x.dst.toNat (kindW 6 (opdX m.xs x.av x.an) (opdX m.xs x.bv x.bn)).1) else ((kindW 6 (opdX m.xs x.av x.an) (opdX m.xs x.bv x.bn)).2, m.xs)) m.ls m.inp) := by
  have HG := hid (fun X hX => sgives_ok 129 (kindW 6 (opdX m.xs x.av x.an) (opdX m.xs x.bv x.bn)) b0 gs n r m ev x X hX hd ha hb hl (fun X => by go_simp) (fun X => (show Calls Tryz.prog 129 #[.int .i64 (opdX m.xs x.av x.an), .int .i64 (opdX m.xs x.bv x.bn)] X (PairRes (kindW 6 (opdX m.xs x.av x.an) (opdX m.xs x.bv x.bn)) X) from nmul_any _ _ X ia ib)))
  generalize kindW 6 (opdX m.xs x.av x.an) (opdX m.xs x.bv x.bn) = pr at *
  generalize (if pr.2 = 0 then ((0 : Int), m.xs.set x.dst.toNat pr.1) else (pr.2, m.xs)) = q at *
  clear ia ib hd ha hb hl
  obtain ⟨p4, hb0, -⟩ := new_one w #[.int .i64 x.fr, .int .i64 x.te, .int .i64 x.kd, .int .i64 x.dst, .int .i64 x.arr, .int .i64 x.op, .int .i64 x.av, .int .i64 x.an, .int .i64 x.bv, .int .i64 x.bn] 65
  have hst := h.up hb0
  have hle := h.le
  clear h
  unfold Edg.val at *
  go_enter Tryz.func116, Tryz.ntmps116
  obtain ⟨e0, e1, e2, e3, e4, e5, e6, e7, e8, e9, fe⟩ := edgbox p4
  go_wp2_with fail
  (with_reducible refine (HG.out _ hst).mono ?_)
  rintro e' w2 ⟨rfl, m', ev', hst2, k1, k2, k3, k4, hb2⟩
  have HK := hid (And.intro k1 (And.intro k2 (And.intro k3 k4)))
  clear k1 k2 k3 k4 HG
  go_wp2
  go_ret
  exact ⟨rfl, m', ev', hst2, HK.out.1, HK.out.2.1, HK.out.2.2.1, HK.out.2.2.2, (hb0.mono hle).trans hb2⟩

set_option maxRecDepth 8000 in
set_option maxHeartbeats 8000000 in
theorem sdivides_ok (b0 gs n : Nat) (r : RP) (m : MS) (ev : Value) (x : Edg) (w : World) (h : StA w b0 gs r m ev n) (hd : 0 ≤ x.dst ∧ x.dst < m.xs.length) (ha : x.av < m.xs.length) (hb : x.bv < m.xs.length) (hl : m.xs.length ≤ 64) (ia : I64 (opdX m.xs x.av x.an)) (ib : I64 (opdX m.xs x.bv x.bn)) :
    Calls Tryz.prog 117 #[.pointer (some ⟨gs, 0, none⟩), x.val] w (MRes w b0 gs r m (n + 1) (if (kindW 7 (opdX m.xs x.av x.an) (opdX m.xs x.bv x.bn)).2 = 0 then (0, m.xs.set x.dst.toNat (kindW 7 (opdX m.xs x.av x.an) (opdX m.xs x.bv x.bn)).1) else ((kindW 7 (opdX m.xs x.av x.an) (opdX m.xs x.bv x.bn)).2, m.xs)) m.ls m.inp) := by
  have HG := hid (fun X hX => sgives_ok 130 (kindW 7 (opdX m.xs x.av x.an) (opdX m.xs x.bv x.bn)) b0 gs n r m ev x X hX hd ha hb hl (fun X => by go_simp) (fun X => (show Calls Tryz.prog 130 #[.int .i64 (opdX m.xs x.av x.an), .int .i64 (opdX m.xs x.bv x.bn)] X (PairRes (kindW 7 (opdX m.xs x.av x.an) (opdX m.xs x.bv x.bn)) X) from ndiv_any _ _ X ia ib)))
  generalize kindW 7 (opdX m.xs x.av x.an) (opdX m.xs x.bv x.bn) = pr at *
  generalize (if pr.2 = 0 then ((0 : Int), m.xs.set x.dst.toNat pr.1) else (pr.2, m.xs)) = q at *
  clear ia ib hd ha hb hl
  obtain ⟨p4, hb0, -⟩ := new_one w #[.int .i64 x.fr, .int .i64 x.te, .int .i64 x.kd, .int .i64 x.dst, .int .i64 x.arr, .int .i64 x.op, .int .i64 x.av, .int .i64 x.an, .int .i64 x.bv, .int .i64 x.bn] 65
  have hst := h.up hb0
  have hle := h.le
  clear h
  unfold Edg.val at *
  go_enter Tryz.func117, Tryz.ntmps117
  obtain ⟨e0, e1, e2, e3, e4, e5, e6, e7, e8, e9, fe⟩ := edgbox p4
  go_wp2_with fail
  (with_reducible refine (HG.out _ hst).mono ?_)
  rintro e' w2 ⟨rfl, m', ev', hst2, k1, k2, k3, k4, hb2⟩
  have HK := hid (And.intro k1 (And.intro k2 (And.intro k3 k4)))
  clear k1 k2 k3 k4 HG
  go_wp2
  go_ret
  exact ⟨rfl, m', ev', hst2, HK.out.1, HK.out.2.1, HK.out.2.2.1, HK.out.2.2.2, (hb0.mono hle).trans hb2⟩

set_option maxRecDepth 8000 in
set_option maxHeartbeats 8000000 in
theorem srests_ok (b0 gs n : Nat) (r : RP) (m : MS) (ev : Value) (x : Edg) (w : World) (h : StA w b0 gs r m ev n) (hd : 0 ≤ x.dst ∧ x.dst < m.xs.length) (ha : x.av < m.xs.length) (hb : x.bv < m.xs.length) (hl : m.xs.length ≤ 64) (ia : I64 (opdX m.xs x.av x.an)) (ib : I64 (opdX m.xs x.bv x.bn)) :
    Calls Tryz.prog 118 #[.pointer (some ⟨gs, 0, none⟩), x.val] w (MRes w b0 gs r m (n + 1) (if (kindW 8 (opdX m.xs x.av x.an) (opdX m.xs x.bv x.bn)).2 = 0 then (0, m.xs.set x.dst.toNat (kindW 8 (opdX m.xs x.av x.an) (opdX m.xs x.bv x.bn)).1) else ((kindW 8 (opdX m.xs x.av x.an) (opdX m.xs x.bv x.bn)).2, m.xs)) m.ls m.inp) := by
  have HG := hid (fun X hX => sgives_ok 131 (kindW 8 (opdX m.xs x.av x.an) (opdX m.xs x.bv x.bn)) b0 gs n r m ev x X hX hd ha hb hl (fun X => by go_simp) (fun X => (show Calls Tryz.prog 131 #[.int .i64 (opdX m.xs x.av x.an), .int .i64 (opdX m.xs x.bv x.bn)] X (PairRes (kindW 8 (opdX m.xs x.av x.an) (opdX m.xs x.bv x.bn)) X) from nrem_any _ _ X ia ib)))
  generalize kindW 8 (opdX m.xs x.av x.an) (opdX m.xs x.bv x.bn) = pr at *
  generalize (if pr.2 = 0 then ((0 : Int), m.xs.set x.dst.toNat pr.1) else (pr.2, m.xs)) = q at *
  clear ia ib hd ha hb hl
  obtain ⟨p4, hb0, -⟩ := new_one w #[.int .i64 x.fr, .int .i64 x.te, .int .i64 x.kd, .int .i64 x.dst, .int .i64 x.arr, .int .i64 x.op, .int .i64 x.av, .int .i64 x.an, .int .i64 x.bv, .int .i64 x.bn] 65
  have hst := h.up hb0
  have hle := h.le
  clear h
  unfold Edg.val at *
  go_enter Tryz.func118, Tryz.ntmps118
  obtain ⟨e0, e1, e2, e3, e4, e5, e6, e7, e8, e9, fe⟩ := edgbox p4
  go_wp2_with fail
  (with_reducible refine (HG.out _ hst).mono ?_)
  rintro e' w2 ⟨rfl, m', ev', hst2, k1, k2, k3, k4, hb2⟩
  have HK := hid (And.intro k1 (And.intro k2 (And.intro k3 k4)))
  clear k1 k2 k3 k4 HG
  go_wp2
  go_ret
  exact ⟨rfl, m', ev', hst2, HK.out.1, HK.out.2.1, HK.out.2.2.1, HK.out.2.2.2, (hb0.mono hle).trans hb2⟩

theorem event_info : (Tryz.prog.info? 186).map (fun i => (i.zero, i.size, i.bytes)) = some (some (.agg #[.bool false, .int .i64 0, .bool false]), 3, 24) := by kernel_rfl
/-- One event appended. -/
theorem wpList_append_event {ops : Array Oper} {rest : List Oper} {o : Oper} {a : Act} {Q : Exit → Act → World → Prop} {w : World} (s x : Operand)
    (ho : o.op = .call { callee := .builtin .append, args := #[s, x], argTypes := #[97, 97] }) (hgd : o.guard = none)
    (b0 n : Nat) (ev : Value) (h0 : EvOk w b0 ev n) (hs : a.eval s = ev) (g : Nat) (y0 y2 : Bool) (y1 : Int)
    (hx : a.eval x = .slice (some ⟨g, 0, none⟩) 1 1) (hr : Blk w g 186 #[.bool y0, .int .i64 y1, .bool y2]) (hl : n + 1 ≤ 1000000) (hbase : b0 ≤ w.heap.size)
    (h : ∀ g' n' c' w', EvOk w' b0 (.slice (some ⟨g', 0, none⟩) n' c') (n + 1) → OnlyT 186 w w' → Below b0 w w' → wpList Tryz.prog ops Q rest (a.put o.dst (.slice (some ⟨g', 0, none⟩) n' c')) w') :
    wpList Tryz.prog ops Q (o :: rest) a w :=
  wpList_plain hgd fun K hK => by
    obtain ⟨k, cells, hown, hk⟩ := h0
    obtain ⟨i0, hi, hz0, hz1, hz2⟩ := info_parts event_info
    obtain ⟨v', w', hrun, h2, h3, _, h5⟩ := run_append_own_at (P := Tryz.prog) w b0 97 o.type _ i0 _ 3 24 Tryz.underlying97 hi hz0 hz1 hz2 rfl (by omega) ev k cells hown ⟨g, 0, none⟩ 1 1 [.bool y0, .int .i64 y1, .bool y2] rfl
      (fun j u hu => by rw [add_mk, Nat.zero_add, hr.cell j]; simpa using hu) (fun u hu => by simp at hu; rcases hu with rfl | rfl | rfl <;> rfl) (by unfold maxLen; omega) (by omega) hbase
    unfold Oper.wp execOp
    simp only [ho, resolve, invoke, builtin, Sem.run_bind, Sem.run_pure, Result.andThen_ok, List.map_toArray, List.map_cons, List.map_nil, hs, hx, hrun]
    obtain ⟨g2, c2, rfl⟩ : ∃ g2 c2, v' = .slice (some ⟨g2, 0, none⟩) (k + 1) c2 := by
      rcases h2.2 with ⟨_, h0⟩ | ⟨g', cap', cur, e, _⟩
      · omega
      · exact ⟨g', cap', e⟩
    refine hK _ _ (h g2 (k + 1) c2 w' ⟨k + 1, _, h2, by omega⟩ (OnlyT.of_grown h3 fun k' hk' => ?_) (below_grown h3 (fun k' hk' => ((hown.lt k' hk').1)) hbase))
    rcases hown.2 with ⟨rfl, _⟩ | ⟨g', cap', cur, rfl, _, hg', _⟩
    · simp [Value.ownBlock] at hk'
    · simp [Value.ownBlock] at hk'
      subst hk'
      exact ⟨cur, hg'⟩
theorem run_tail (bS oS n c : Nat) (W : World) : (Instr.slice 28 (.slice (some ⟨bS, oS, none⟩) (n + 1) c) (some (.int .i64 1)) none none).run Tryz.prog W = .ok (.slice (if c = 1 then some ⟨bS, oS, none⟩ else some ⟨bS, oS + 1, none⟩) n (c - 1)) W := by
  have e : Tryz.prog.underlying 28 = some (.slice (Tryz.prog.elem 28)) := by kernel_rfl
  have e2 : (sizeOf (Tryz.prog.elem 28)).run Tryz.prog W = .ok 1 W := by kernel_rfl
  rw [run_slice_l W 28 (some ⟨bS, oS, none⟩) (n + 1) c e .i64 1 (by omega) (by omega), e2]
  simp only [Result.andThen_ok, sliced, Option.map_some, add_mk]
  rfl

theorem StA.event {w w2 : World} {b0 gs n n' : Nat} {r : RP} {m : MS} {ev ev' : Value} (h : StA w b0 gs r m ev n) (hO : OnlyT 186 w w2) (hb : Below b0 w w2) (he : EvOk w2 b0 ev' n') :
    StA (w2.setCell ⟨gs, 11, none⟩ ev') b0 gs r m ev' n' ∧ Below b0 w2 (w2.setCell ⟨gs, 11, none⟩ ev') := by
  have k2 := h.blk.only hO (by decide)
  have hO2 := OnlyT.of_set k2 11 ev'
  have hb2 : Below b0 w2 (w2.setCell ⟨gs, 11, none⟩ ev') := below1 h.ge (Nat.le_trans h.le hb.size)
  refine ⟨⟨k2.set_ 11 ev', h.ge, (h.mem.only hO (by decide) (by decide) (by decide) (by decide)).only hO2 (by decide) (by decide) (by decide) (by decide), (h.edges.below hb).below hb2, (h.scr.below hb).below hb2, h.scap, he.only hO2 (by decide), (h.keep.only hO (by decide)).only hO2 (by decide)⟩, hb2⟩
theorem StA.slide {w : World} {b0 gs n : Nat} {r : RP} {p : Int} {V R S S' : Option Addr} {vc rc sc sc' : Nat} {xs : List Int} {zs : List At64.R1} {inp inp' : List Int} {ev : Value} (h : StA w b0 gs r ⟨p, V, R, S, vc, rc, sc, xs, zs, inp⟩ ev n) (hs : Rd w b0 S' inp') (hc : inp'.length ≤ sc') :
    StA (w.setCell ⟨gs, 10, none⟩ (.slice S' inp'.length sc')) b0 gs r ⟨p, V, R, S', vc, rc, sc', xs, zs, inp'⟩ ev n ∧ Below b0 w (w.setCell ⟨gs, 10, none⟩ (.slice S' inp'.length sc')) := by
  have hO := OnlyT.of_set h.blk 10 (.slice S' inp'.length sc')
  have hb : Below b0 w (w.setCell ⟨gs, 10, none⟩ (.slice S' inp'.length sc')) := below1 h.ge h.le
  exact ⟨⟨h.blk.set_ 10 _, h.ge, h.mem.only hO (by decide) (by decide) (by decide) (by decide), h.edges.below hb, hs.below hb, hc, h.evs.only hO (by decide), h.keep.only hO (by decide)⟩, hb⟩
theorem StA.rekeep {w : World} {b0 gs n : Nat} {r : RP} {m : MS} {ev : Value} (h : StA w b0 gs r m ev n) (ks : List (Nat × TypeId × Array Value)) (hk : Keep w ks) : StA w b0 gs { r with ks := ks } m ev n :=
  ⟨h.blk, h.ge, h.mem, h.edges, h.scr, h.scap, h.evs, hk⟩
theorem StA.goto {w : World} {b0 gs n : Nat} {r : RP} {p p' : Int} {V R S : Option Addr} {vc rc sc : Nat} {xs : List Int} {zs : List At64.R1} {inp : List Int} {ev : Value} (h : StA w b0 gs r ⟨p, V, R, S, vc, rc, sc, xs, zs, inp⟩ ev n) :
    StA (w.setCell ⟨gs, 7, none⟩ (.int .i64 p')) b0 gs r ⟨p', V, R, S, vc, rc, sc, xs, zs, inp⟩ ev n ∧ Below b0 w (w.setCell ⟨gs, 7, none⟩ (.int .i64 p')) := by
  have hO := OnlyT.of_set h.blk 7 (.int .i64 p')
  have hb : Below b0 w (w.setCell ⟨gs, 7, none⟩ (.int .i64 p')) := below1 h.ge h.le
  exact ⟨⟨h.blk.set_ 7 _, h.ge, h.mem.only hO (by decide) (by decide) (by decide) (by decide), h.edges.below hb, h.scr.below hb, h.scap, h.evs.only hO (by decide), h.keep.only hO (by decide)⟩, hb⟩

set_option maxRecDepth 8000 in
set_option maxHeartbeats 8000000 in
theorem spasses_ok (b0 gs n : Nat) (r : RP) (m : MS) (ev : Value) (x : Edg) (w : World) (h : StA w b0 gs r m ev n) (hn : n ≤ 70000) :
    Calls Tryz.prog 122 #[.pointer (some ⟨gs, 0, none⟩), x.val] w (MRes w b0 gs r m (n + 1) (0, m.xs) m.ls m.inp) := by
  obtain ⟨fr, te, kd, dst, arr, op, av, an, bv, bn⟩ := x
  obtain ⟨p, V, R, S, vc, rc, sc, xs, zs, inp⟩ := m
  unfold Edg.val at *
  try unfold MS.ls at *
  dsimp only at *
  obtain ⟨p4, hb0, -⟩ := new_one w #[.int .i64 fr, .int .i64 te, .int .i64 kd, .int .i64 dst, .int .i64 arr, .int .i64 op, .int .i64 av, .int .i64 an, .int .i64 bv, .int .i64 bn] 65
  have hst := h.up hb0
  have hle := h.le
  clear h
  go_enter Tryz.func122, Tryz.ntmps122
  go_upto_region 1 with fail
  generalize w.alloc (Obj.cells #[.int .i64 fr, .int .i64 te, .int .i64 kd, .int .i64 dst, .int .i64 arr, .int .i64 op, .int .i64 av, .int .i64 an, .int .i64 bv, .int .i64 bn] 65) = w1 at *
  have HST := hid hst
  have ks := hst.blk
  dsimp only at ks
  obtain ⟨s0, s1, s2, s3, s4, s5, s6, s7, s8, s9, s10, s11, fs⟩ := stbox ks
  clear ks
  obtain ⟨e0, e1, e2, e3, e4, e5, e6, e7, e8, e9, fe⟩ := edgbox p4
  have hev := hid (hst.evs.up (new1 w1 (.cells #[.bool false, .int .i64 0, .bool true] 186)))
  have kk := hid (Blk.new w1 186 #[.bool false, .int .i64 0, .bool true])
  have nn := hid (new1 w1 (.cells #[.bool false, .int .i64 0, .bool true] 186))
  have HB := hid (hb0.mono hle)
  clear hst hb0 p4
  go_wp2_with (at_builtin; go_loud (refine wpList_append_event _ _ rfl rfl b0 n ev hev.out rfl w1.heap.size false true 0 rfl kk.out (by omega) (by have := HST.out.le; have := nn.out.size; omega) ?_); intro ge ne ce w2 hev2 hO2 hb2; have hst2 := hid (HST.out.up nn.out); have k2 := hst2.out.blk.only hO2 (by decide); dsimp only at k2; obtain ⟨z0, z1, z2, z3, z4, z5, z6, z7, z8, z9, z10, z11, fz⟩ := stbox k2; have K2 := hid k2; have HEV := hid hev2; have HO2 := hid hO2; have HB2 := hid hb2; clear hev2 hO2 hb2 k2 s0 s1 s2 s3 s4 s5 s6 s7 s8 s9 s10 s11 fs e0 e1 e2 e3 e4 e5 e6 e7 e8 e9 fe)
  have hst3 := hid (hst2.out.event HO2.out HB2.out HEV.out)
  go_wp2
  go_ret
  exact ⟨rfl, ⟨p, V, R, S, vc, rc, sc, xs, zs, inp⟩, _, hst3.out.1, rfl, rfl, rfl, rfl, ((HB.out.trans (nn.out.mono HST.out.le)).trans HB2.out).trans hst3.out.2⟩

set_option maxRecDepth 8000 in
set_option maxHeartbeats 8000000 in
theorem sfails_ok (b0 gs n : Nat) (r : RP) (m : MS) (ev : Value) (x : Edg) (w : World) (h : StA w b0 gs r m ev n) (hn : n ≤ 70000) :
    Calls Tryz.prog 123 #[.pointer (some ⟨gs, 0, none⟩), x.val] w (MRes w b0 gs r m (n + 1) (4, m.xs) m.ls m.inp) := by
  obtain ⟨fr, te, kd, dst, arr, op, av, an, bv, bn⟩ := x
  obtain ⟨p, V, R, S, vc, rc, sc, xs, zs, inp⟩ := m
  unfold Edg.val at *
  try unfold MS.ls at *
  dsimp only at *
  obtain ⟨p4, hb0, -⟩ := new_one w #[.int .i64 fr, .int .i64 te, .int .i64 kd, .int .i64 dst, .int .i64 arr, .int .i64 op, .int .i64 av, .int .i64 an, .int .i64 bv, .int .i64 bn] 65
  have hst := h.up hb0
  have hle := h.le
  clear h
  go_enter Tryz.func123, Tryz.ntmps123
  go_upto_region 1 with fail
  generalize w.alloc (Obj.cells #[.int .i64 fr, .int .i64 te, .int .i64 kd, .int .i64 dst, .int .i64 arr, .int .i64 op, .int .i64 av, .int .i64 an, .int .i64 bv, .int .i64 bn] 65) = w1 at *
  have HST := hid hst
  have ks := hst.blk
  dsimp only at ks
  obtain ⟨s0, s1, s2, s3, s4, s5, s6, s7, s8, s9, s10, s11, fs⟩ := stbox ks
  clear ks
  obtain ⟨e0, e1, e2, e3, e4, e5, e6, e7, e8, e9, fe⟩ := edgbox p4
  have hev := hid (hst.evs.up (new1 w1 (.cells #[.bool false, .int .i64 0, .bool false] 186)))
  have kk := hid (Blk.new w1 186 #[.bool false, .int .i64 0, .bool false])
  have nn := hid (new1 w1 (.cells #[.bool false, .int .i64 0, .bool false] 186))
  have HB := hid (hb0.mono hle)
  clear hst hb0 p4
  go_wp2_with (at_builtin; go_loud (refine wpList_append_event _ _ rfl rfl b0 n ev hev.out rfl w1.heap.size false false 0 rfl kk.out (by omega) (by have := HST.out.le; have := nn.out.size; omega) ?_); intro ge ne ce w2 hev2 hO2 hb2; have hst2 := hid (HST.out.up nn.out); have k2 := hst2.out.blk.only hO2 (by decide); dsimp only at k2; obtain ⟨z0, z1, z2, z3, z4, z5, z6, z7, z8, z9, z10, z11, fz⟩ := stbox k2; have K2 := hid k2; have HEV := hid hev2; have HO2 := hid hO2; have HB2 := hid hb2; clear hev2 hO2 hb2 k2 s0 s1 s2 s3 s4 s5 s6 s7 s8 s9 s10 s11 fs e0 e1 e2 e3 e4 e5 e6 e7 e8 e9 fe)
  have hst3 := hid (hst2.out.event HO2.out HB2.out HEV.out)
  go_wp2
  go_ret
  exact ⟨rfl, ⟨p, V, R, S, vc, rc, sc, xs, zs, inp⟩, _, hst3.out.1, rfl, rfl, rfl, rfl, ((HB.out.trans (nn.out.mono HST.out.le)).trans HB2.out).trans hst3.out.2⟩

set_option maxRecDepth 8000 in
set_option maxHeartbeats 8000000 in
theorem stakes_ok (b0 gs n : Nat) (r : RP) (m : MS) (ev : Value) (x : Edg) (w : World) (h : StA w b0 gs r m ev n) (hd : 0 ≤ x.dst ∧ x.dst < m.xs.length) (hne : m.inp ≠ []) (hn : n ≤ 70000) :
    Calls Tryz.prog 119 #[.pointer (some ⟨gs, 0, none⟩), x.val] w (MRes w b0 gs r m (n + 1) (0, m.xs.set x.dst.toNat (m.inp.headD 0)) m.ls m.inp.tail) := by
  obtain ⟨fr, te, kd, dst, arr, op, av, an, bv, bn⟩ := x
  obtain ⟨p, V, R, S, vc, rc, sc, xs, zs, inp⟩ := m
  unfold Edg.val at *
  try unfold MS.ls at *
  dsimp only at *
  obtain ⟨p4, hb0, -⟩ := new_one w #[.int .i64 fr, .int .i64 te, .int .i64 kd, .int .i64 dst, .int .i64 arr, .int .i64 op, .int .i64 av, .int .i64 an, .int .i64 bv, .int .i64 bn] 65
  have hst := h.up hb0
  have hle := h.le
  clear h
  go_enter Tryz.func119, Tryz.ntmps119
  obtain ⟨dn, rfl⟩ := Int.eq_ofNat_of_zero_le hd.1
  have hdn : dn < xs.length := by omega
  obtain ⟨gv, rfl⟩ : ∃ g, V = some ⟨g, 0, none⟩ := by
    rcases hst.mem.vars.form with ⟨_, h, _⟩ | ⟨g, h, _⟩
    · exfalso
      have h : xs = [] := h
      rw [h] at hdn; simp at hdn
    · exact ⟨g, h⟩
  obtain ⟨n0, rest, rfl⟩ : ∃ a l, inp = a :: l := by
    cases inp with
    | nil => exact absurd rfl hne
    | cons a l => exact ⟨a, l, rfl⟩
  clear hne
  have hsc := hst.scr
  have hcp := hst.scap
  dsimp only at hsc hcp
  obtain ⟨bS, oS, hS, hB, hcS⟩ := hsc 0 (by simp)
  subst hS
  have hcS : (w.alloc (Obj.cells #[.int .i64 fr, .int .i64 te, .int .i64 kd, .int .i64 (dn : Int), .int .i64 arr, .int .i64 op, .int .i64 av, .int .i64 an, .int .i64 bv, .int .i64 bn] 65)).cell? ⟨bS, oS, none⟩ = some (.int .i64 n0) := hcS
  obtain ⟨S', hS'⟩ : ∃ S', (if sc = 1 then some ⟨bS, oS, none⟩ else some ⟨bS, oS + 1, none⟩ : Option Addr) = S' := ⟨_, rfl⟩
  have hsl := fun W => run_tail bS oS rest.length sc W
  rw [hS'] at hsl
  have hrd : Rd (w.alloc (Obj.cells #[.int .i64 fr, .int .i64 te, .int .i64 kd, .int .i64 (dn : Int), .int .i64 arr, .int .i64 op, .int .i64 av, .int .i64 an, .int .i64 bv, .int .i64 bn] 65)) b0 S' rest := fun k hk => by
    rw [List.length_cons] at hcp
    have h1 : sc ≠ 1 := by omega
    rw [if_neg h1] at hS'
    obtain ⟨b, o, e, hb, hc⟩ := hsc (k + 1) (by rw [List.length_cons]; omega)
    injection e with e
    injection e with e1 e2
    subst e1; subst e2
    refine ⟨bS, oS + 1, hS'.symm, hb, ?_⟩
    rw [show oS + 1 + k = oS + (k + 1) by omega, hc]
    simp [gI]
  have hcp' : rest.length ≤ sc - 1 := by rw [List.length_cons] at hcp; omega
  have HSL := hid (hst.slide hrd hcp')
  clear hsc hcp hrd hcp' hS' hB
  go_upto_region 1 with fail
  generalize w.alloc (Obj.cells #[.int .i64 fr, .int .i64 te, .int .i64 kd, .int .i64 (dn : Int), .int .i64 arr, .int .i64 op, .int .i64 av, .int .i64 an, .int .i64 bv, .int .i64 bn] 65) = w1 at *
  have P4 := hid (p4.only (OnlyT.of_set hst.blk 10 (.slice S' rest.length (sc - 1))) (by decide))
  have ks := hst.blk
  dsimp only at ks
  obtain ⟨s0, s1, s2, s3, s4, s5, s6, s7, s8, s9, s10, s11, fs⟩ := stbox ks
  clear ks
  obtain ⟨e0, e1, e2, e3, e4, e5, e6, e7, e8, e9, fe⟩ := edgbox p4
  simp only [List.length_cons] at s10
  clear hst p4
  go_wp2
  clear s0 s1 s2 s3 s4 s5 s6 s7 s8 s9 s10 s11 fs e0 e1 e2 e3 e4 e5 e6 e7 e8 e9 fe hcS hsl
  have hst := HSL.out.1
  have p4 := P4.out
  have hb2 := hb0.mono hle |>.trans HSL.out.2
  clear HSL P4 hb0
  generalize w1.setCell ⟨gs, 10, none⟩ (.slice S' rest.length (sc - 1)) = w2 at *
  have HST := hid hst
  have ks := hst.blk
  dsimp only at ks
  obtain ⟨s0, s1, s2, s3, s4, s5, s6, s7, s8, s9, s10, s11, fs⟩ := stbox ks
  clear ks
  obtain ⟨e0, e1, e2, e3, e4, e5, e6, e7, e8, e9, fe⟩ := edgbox p4
  clear hst
  have l8 := later s8
  have q3 := later e3
  clear s0 s1 s2 s3 s4 s5 s6 s7 s8 s9 s10 s11 fs e0 e1 e2 e3 e4 e5 e6 e7 e8 e9 fe
  refine wp_region_flow 7 (fun W => Below w2.heap.size w2 W) (by kernel_rfl) (by kernel_rfl) (Below.refl _ _).drew ?_
  (repeat (first | (refine Flow.skip (by rfl) ?_; simp only [Act.put, List.setIfInBounds_toArray, List.set_cons_zero, List.set_cons_succ]) | (refine' Flow.take _ (by rfl) (fun W hW R hR => ?_) ?_; rotate_left; (go_simp; (try go_bits); with_reducible exact hR); simp only [Act.put, List.setIfInBounds_toArray, List.set_cons_zero, List.set_cons_succ])))
  intro w9 hb9
  have hst9 := HST.out.up hb9
  have hfv := hst9.mem.vars.frozen dn
  obtain ⟨_, _, eA, _, cA⟩ := hst9.mem.vars.rd dn hdn
  injection eA with eA; injection eA with eA1 eA2; subst eA1; subst eA2
  rw [Nat.zero_add] at cA
  have hgv := hid (hst9.storeV dn n0)
  have hb0 := hid (hb2.trans ((hb9.mono HST.out.le).trans hgv.out.2))
  clear hst9 hb9 l8 q3 hb2
  go_upto_region 4 with fail
  clear cA hfv HST
  have hst := hgv.out.1
  generalize w9.setCell ⟨gv, dn, none⟩ (.int .i64 n0) = w5 at *
  have HST := hid hst
  clear hgv
  have ks := hst.blk
  dsimp only at ks
  obtain ⟨s0, s1, s2, s3, s4, s5, s6, s7, s8, s9, s10, s11, fs⟩ := stbox ks
  have hev := hid (hst.evs.up (new1 w5 (.cells #[.bool true, .int .i64 n0, .bool false] 186)))
  have kk := hid (Blk.new w5 186 #[.bool true, .int .i64 n0, .bool false])
  have nn := hid (new1 w5 (.cells #[.bool true, .int .i64 n0, .bool false] 186))
  clear hst ks
  go_wp2_with (at_builtin; go_loud (refine wpList_append_event _ _ rfl rfl b0 n ev hev.out rfl w5.heap.size true false n0 rfl kk.out (by omega) (by have := HST.out.le; have := nn.out.size; omega) ?_); intro ge ne ce w6 hev6 hO6 hb6; have hst6 := hid (HST.out.up nn.out); have k6 := hst6.out.blk.only hO6 (by decide); dsimp only at k6; obtain ⟨z0, z1, z2, z3, z4, z5, z6, z7, z8, z9, z10, z11, fz⟩ := stbox k6; have HEV := hid hev6; have HO2 := hid hO6; have HB2 := hid hb6; clear hev6 hO6 hb6 k6 s0 s1 s2 s3 s4 s5 s6 s7 s8 s9 s10 s11 fs)
  have hst3 := hid (hst6.out.event HO2.out HB2.out HEV.out)
  go_wp2
  go_ret
  exact ⟨rfl, ⟨p, some ⟨gv, 0, none⟩, R, S', vc, rc, sc - 1, xs.set dn n0, zs, rest⟩, _, hst3.out.1, rfl, rfl, rfl, rfl, ((hb0.out.trans (nn.out.mono HST.out.le)).trans HB2.out).trans hst3.out.2⟩

/-- A place of an array, if it is one. -/
def PlRes (w : World) (l : List Int) (A0 : Option Addr) (a : Int) (e : Ending) (w' : World) : Prop :=
  ∃ A, e = .returned (.pointer A) ∧ (isPlace l.length a = true → ∃ g, A0 = some ⟨g, 0, none⟩ ∧ A = some ⟨g, a.toNat, none⟩) ∧ (isPlace l.length a = false → A = none) ∧ Below w.heap.size w w'
set_option maxRecDepth 8000 in
set_option maxHeartbeats 8000000 in
theorem splace_ok (b0 gs n : Nat) (r : RP) (m : MS) (ev : Value) (x : Edg) (an' : Nat) (w : World) (h : StA w b0 gs r m ev n) (ha : x.av < m.xs.length) (hl : m.xs.length ≤ 64) (harr : x.arr = (an' : Int)) (hal : an' < m.zs.length) (hzl : ∀ z ∈ m.zs, z.1.length ≤ 1024) :
    Calls Tryz.prog 149 #[.pointer (some ⟨gs, 0, none⟩), x.val] w (PlRes w m.zs[an'].1 m.zs[an'].2.1 (opdX m.xs x.av x.an)) := by
  obtain ⟨fr, te, kd, dst, arr, op, av, an, bv, bn⟩ := x
  obtain ⟨p, V, R, S, vc, rc, sc, xs, zs, inp⟩ := m
  unfold Edg.val at *
  try unfold MS.ls at *
  dsimp only at *
  obtain ⟨p4, hb0, -⟩ := new_one w #[.int .i64 fr, .int .i64 te, .int .i64 kd, .int .i64 dst, .int .i64 arr, .int .i64 op, .int .i64 av, .int .i64 an, .int .i64 bv, .int .i64 bn] 65
  have hst := h.up hb0
  have hle := h.le
  clear h
  go_enter Tryz.func149, Tryz.ntmps149
  subst harr
  obtain ⟨gz, rfl, -, -, hcz⟩ := hst.mem.rows.cell hal
  have hrow := hst.mem.rows.own _ (List.getElem_mem hal)
  have hzl' := hzl _ (List.getElem_mem hal)
  generalize zs[an'] = z at *
  obtain ⟨l, A0, c0⟩ := z
  dsimp only at *
  go_upto_region 1 with fail
  generalize w.alloc (Obj.cells #[.int .i64 fr, .int .i64 te, .int .i64 kd, .int .i64 dst, .int .i64 (an' : Int), .int .i64 op, .int .i64 av, .int .i64 an, .int .i64 bv, .int .i64 bn] 65) = w1 at *
  have HVA := hid (fun X (hX : Below w1.heap.size w1 X) => svalue_ok b0 gs n r _ ev av an X (hst.up hX) ha hl)
  dsimp only at HVA
  have hal' : (an' : Int) < (zs.length : Int) := by omega
  have ks := hst.blk
  dsimp only at ks
  obtain ⟨s0, s1, s2, s3, s4, s5, s6, s7, s8, s9, s10, s11, fs⟩ := stbox ks
  clear ks
  obtain ⟨e0, e1, e2, e3, e4, e5, e6, e7, e8, e9, fe⟩ := edgbox p4
  clear hst hzl
  have lz := later hcz
  clear hcz
  have l9 := later s9
  have q4 := later e4
  have q6 := later e6
  have q7 := later e7
  clear s0 s1 s2 s3 s4 s5 s6 s7 s8 s9 s10 s11 fs e0 e1 e2 e3 e4 e5 e6 e7 e8 e9 fe
  generalize opdX xs av an = a at *
  refine wp_region_flow 13 (fun W => Below w1.heap.size w1 W) (by kernel_rfl) (by kernel_rfl) (Below.refl _ _).drew ?_
  (repeat (first | (refine Flow.skip (by rfl) ?_; simp only [Act.put, List.setIfInBounds_toArray, List.set_cons_zero, List.set_cons_succ]) | (refine' Flow.take _ (by rfl) (fun W hW R hR => ?_) ?_; rotate_left; (go_simp; (try go_bits); with_reducible exact hR); simp only [Act.put, List.setIfInBounds_toArray, List.set_cons_zero, List.set_cons_succ])))
  (refine Flow.call 125 #[.pointer (some ⟨gs, 0, none⟩), .agg #[.int .i64 av, .int .i64 an]] (.int .i64 a) (by rfl) (fun X hX => by go_simp) (fun X hX => (HVA.out X hX).mono fun e' w' ⟨he, hb'⟩ => ⟨he, bstep hX hX.size hb'⟩) ?_; simp only [Act.put, List.setIfInBounds_toArray, List.set_cons_zero, List.set_cons_succ])
  (repeat (first | (refine Flow.skip (by rfl) ?_; simp only [Act.put, List.setIfInBounds_toArray, List.set_cons_zero, List.set_cons_succ]) | (refine' Flow.take _ (by rfl) (fun W hW R hR => ?_) ?_; rotate_left; (go_simp; (try go_bits); with_reducible exact hR); simp only [Act.put, List.setIfInBounds_toArray, List.set_cons_zero, List.set_cons_succ])))
  intro w9 hb9
  replace hb0 := hid (bup hb0 hb9)
  clear HVA lz l9 q4 q6 q7 hb9
  by_cases c1 : a < 0
  · have HI : Hid (isPlace l.length a = false) := hid (decide_eq_false (by omega))
    have t1 : decide (a < 0) = true := decide_eq_true c1
    clear c1
    go_wp2
    go_ret
    exact ⟨none, rfl, (fun q => by rw [HI.out] at q; cases q), fun _ => rfl, hb0.out⟩
  have t1 : decide (a < 0) = false := decide_eq_false c1
  by_cases c2 : (l.length : Int) ≤ a
  · have HI : Hid (isPlace l.length a = false) := hid (decide_eq_false (by omega))
    have t2 : decide ((l.length : Int) ≤ a) = true := decide_eq_true c2
    clear c1 c2
    go_wp2
    go_ret
    exact ⟨none, rfl, (fun q => by rw [HI.out] at q; cases q), fun _ => rfl, hb0.out⟩
  have t2 : decide ((l.length : Int) ≤ a) = false := decide_eq_false c2
  have HI : Hid (isPlace l.length a = true) := hid (decide_eq_true (by omega))
  obtain ⟨k, rfl⟩ := Int.eq_ofNat_of_zero_le (show 0 ≤ a by omega)
  have hk : k < l.length := by omega
  obtain ⟨g0, hA⟩ : ∃ g, A0 = some ⟨g, 0, none⟩ := by
    rcases hrow.form with ⟨_, h, _⟩ | ⟨g, h, _⟩
    · exfalso
      have h : l = [] := h
      rw [h] at hk; simp at hk
    · exact ⟨g, h⟩
  subst hA
  clear c1 c2 hrow
  go_wp2
  go_ret
  exact ⟨some ⟨g0, k, none⟩, rfl, fun _ => ⟨g0, rfl, by rw [Int.toNat_natCast]⟩, (fun q => by rw [HI.out] at q; cases q), hb0.out⟩

set_option maxRecDepth 8000 in
set_option maxHeartbeats 8000000 in
theorem sloads_ok (b0 gs n : Nat) (r : RP) (m : MS) (ev : Value) (x : Edg) (an' : Nat) (harr : x.arr = (an' : Int)) (hal : an' < m.zs.length) (hzl : ∀ z ∈ m.zs, z.1.length ≤ 1024) (w : World) (h : StA w b0 gs r m ev n) (hd : 0 ≤ x.dst ∧ x.dst < m.xs.length) (ha : x.av < m.xs.length) (hl : m.xs.length ≤ 64) :
    Calls Tryz.prog 120 #[.pointer (some ⟨gs, 0, none⟩), x.val] w (MRes w b0 gs r m (n + 1) (if isPlace m.zs[an'].1.length (opdX m.xs x.av x.an) = true then (0, m.xs.set x.dst.toNat (gI m.zs[an'].1 (opdX m.xs x.av x.an))) else (3, m.xs)) m.ls m.inp) := by
  have HP := hid (fun X (hX : StA X b0 gs r m ev n) => splace_ok b0 gs n r m ev x an' X hX ha hl harr hal hzl)
  obtain ⟨q, HQ⟩ : ∃ q : Int × List Int, Hid ((if isPlace m.zs[an'].1.length (opdX m.xs x.av x.an) = true then (0, m.xs.set x.dst.toNat (gI m.zs[an'].1 (opdX m.xs x.av x.an))) else (3, m.xs)) = q) := ⟨_, hid rfl⟩
  rw [HQ.out]
  have HOWN := hid (fun (W : World) (hW : StA W b0 gs r m ev n) => hW.mem.rows.own _ (List.getElem_mem hal))
  obtain ⟨z, hz⟩ : ∃ z, m.zs[an'] = z := ⟨_, rfl⟩
  simp only [hz] at HP HQ HOWN
  have HZE := hid hz
  clear hz
  obtain ⟨l, A0, c0⟩ := z
  obtain ⟨fr, te, kd, dst, arr, op, av, an, bv, bn⟩ := x
  obtain ⟨p, V, R, S, vc, rc, sc, xs, zs, inp⟩ := m
  unfold Edg.val at *
  try unfold MS.ls at *
  dsimp only at *
  obtain ⟨p4, hb0, -⟩ := new_one w #[.int .i64 fr, .int .i64 te, .int .i64 kd, .int .i64 dst, .int .i64 arr, .int .i64 op, .int .i64 av, .int .i64 an, .int .i64 bv, .int .i64 bn] 65
  have hst := h.up hb0
  have hle := h.le
  clear h
  go_enter Tryz.func120, Tryz.ntmps120
  subst harr
  obtain ⟨dn, rfl⟩ := Int.eq_ofNat_of_zero_le hd.1
  have hdn : dn < xs.length := by omega
  obtain ⟨gv, rfl⟩ : ∃ g, V = some ⟨g, 0, none⟩ := by
    rcases hst.mem.vars.form with ⟨_, h, _⟩ | ⟨g, h, _⟩
    · exfalso
      have h : xs = [] := h
      rw [h] at hdn; simp at hdn
    · exact ⟨g, h⟩
  go_upto_region 1 with fail
  generalize w.alloc (Obj.cells #[.int .i64 fr, .int .i64 te, .int .i64 kd, .int .i64 (dn : Int), .int .i64 (an' : Int), .int .i64 op, .int .i64 av, .int .i64 an, .int .i64 bv, .int .i64 bn] 65) = w1 at *
  have HST := hid hst
  obtain ⟨e0, e1, e2, e3, e4, e5, e6, e7, e8, e9, fe⟩ := edgbox p4
  go_wp2_with fail
  clear e0 e1 e2 e3 e4 e5 e6 e7 e8 e9 fe
  (with_reducible refine (HP.out _ HST.out).mono ?_)
  rintro e' w2 ⟨A, rfl, h1, h2, hb2⟩
  replace p4 := p4.later hb2
  have hst2 := HST.out.up hb2
  replace hb0 := hid (bup hb0 hb2)
  clear HP HST hb2
  have HAL := hid hal
  cases cp : isPlace l.length (opdX xs av an)
  · have hA := h2 cp
    subst hA
    rw [if_neg (by rw [cp]; simp)] at HQ
    have HS2 := hid hst2
    clear cp h1 h2 hst2
    go_wp2
    go_ret
    exact ⟨ret64 (by rw [← HQ.out]), ⟨p, some ⟨gv, 0, none⟩, R, S, vc, rc, sc, xs, zs, inp⟩, ev, HS2.out.more (by omega), by rw [← HQ.out], rfl, rfl, rfl, hb0.out.mono hle⟩
  obtain ⟨g, hg, hA⟩ := h1 cp
  subst hA
  have hp := cp
  unfold isPlace at hp
  rw [decide_eq_true_eq] at hp
  rw [if_pos cp] at HQ
  have hro := HOWN.out _ hst2
  subst hg
  clear cp h1 h2 HOWN
  obtain ⟨_, _, eR, _, cR⟩ := hro.rd (opdX xs av an).toNat (by omega)
  injection eR with eR; injection eR with eR1 eR2; subst eR1; subst eR2
  rw [Nat.zero_add, Int.toNat_of_nonneg hp.1] at cR
  clear hro hp
  generalize (opdX xs av an).toNat = kk at *
  generalize gI l (opdX xs av an) = u at *
  have hst := hst2
  have HST := hid hst
  clear hst2
  go_wp2
  have ks := hst.blk
  dsimp only at ks
  obtain ⟨s0, s1, s2, s3, s4, s5, s6, s7, s8, s9, s10, s11, fs⟩ := stbox ks
  clear ks
  obtain ⟨e0, e1, e2, e3, e4, e5, e6, e7, e8, e9, fe⟩ := edgbox p4
  clear hst
  have lr := later cR
  clear cR
  have l8 := later s8
  have q3 := later e3
  clear s0 s1 s2 s3 s4 s5 s6 s7 s8 s9 s10 s11 fs e0 e1 e2 e3 e4 e5 e6 e7 e8 e9 fe
  refine wp_region_flow 9 (fun W => Below w2.heap.size w2 W) (by kernel_rfl) (by kernel_rfl) (Below.refl _ _).drew ?_
  (repeat (first | (refine Flow.skip (by rfl) ?_; simp only [Act.put, List.setIfInBounds_toArray, List.set_cons_zero, List.set_cons_succ]) | (refine' Flow.take _ (by rfl) (fun W hW R hR => ?_) ?_; rotate_left; (go_simp; (try go_bits); with_reducible exact hR); simp only [Act.put, List.setIfInBounds_toArray, List.set_cons_zero, List.set_cons_succ])))
  intro w9 hb9
  have hst9 := HST.out.up hb9
  have hfv := hst9.mem.vars.frozen dn
  obtain ⟨_, _, eA, _, cA⟩ := hst9.mem.vars.rd dn hdn
  injection eA with eA; injection eA with eA1 eA2; subst eA1; subst eA2
  rw [Nat.zero_add] at cA
  have hgv := hid (hst9.storeV dn u)
  replace hb0 := hid (bup hb0.out hb9)
  clear hst9 hb9 l8 q3 lr
  go_wp2
  go_ret
  exact ⟨ret64 (by rw [← HQ.out]), ⟨p, some ⟨gv, 0, none⟩, R, S, vc, rc, sc, _, zs, inp⟩, ev, hgv.out.1.more (by omega), by rw [← HQ.out, Int.toNat_natCast], rfl, rfl, rfl, (hb0.out.mono hle).trans hgv.out.2⟩

set_option maxRecDepth 8000 in
set_option maxHeartbeats 8000000 in
theorem sstores_ok (b0 gs n : Nat) (r : RP) (m : MS) (ev : Value) (x : Edg) (an' : Nat) (harr : x.arr = (an' : Int)) (hal : an' < m.zs.length) (hzl : ∀ z ∈ m.zs, z.1.length ≤ 1024) (w : World) (h : StA w b0 gs r m ev n) (ha : x.av < m.xs.length) (hb : x.bv < m.xs.length) (hl : m.xs.length ≤ 64) :
    Calls Tryz.prog 121 #[.pointer (some ⟨gs, 0, none⟩), x.val] w (MRes w b0 gs r m (n + 1) (if isPlace m.zs[an'].1.length (opdX m.xs x.av x.an) = true then 0 else 3, m.xs) (if isPlace m.zs[an'].1.length (opdX m.xs x.av x.an) = true then m.ls.set an' (m.zs[an'].1.set (opdX m.xs x.av x.an).toNat (opdX m.xs x.bv x.bn)) else m.ls) m.inp) := by
  have HP := hid (fun X (hX : StA X b0 gs r m ev n) => splace_ok b0 gs n r m ev x an' X hX ha hl harr hal hzl)
  obtain ⟨q, HQ⟩ : ∃ q : Int × List Int, Hid ((if isPlace m.zs[an'].1.length (opdX m.xs x.av x.an) = true then 0 else 3, m.xs) = q) := ⟨_, hid rfl⟩
  obtain ⟨Ls, HLS⟩ : ∃ ls : List (List Int), Hid ((if isPlace m.zs[an'].1.length (opdX m.xs x.av x.an) = true then m.ls.set an' (m.zs[an'].1.set (opdX m.xs x.av x.an).toNat (opdX m.xs x.bv x.bn)) else m.ls) = ls) := ⟨_, hid rfl⟩
  rw [HQ.out, HLS.out]
  have HOWN := hid (fun (W : World) (hW : StA W b0 gs r m ev n) => hW.mem.rows.own _ (List.getElem_mem hal))
  obtain ⟨z, hz⟩ : ∃ z, m.zs[an'] = z := ⟨_, rfl⟩
  simp only [hz] at HP HQ HOWN HLS
  have HZE := hid hz
  clear hz
  obtain ⟨l, A0, c0⟩ := z
  obtain ⟨fr, te, kd, dst, arr, op, av, an, bv, bn⟩ := x
  obtain ⟨p, V, R, S, vc, rc, sc, xs, zs, inp⟩ := m
  unfold Edg.val at *
  try unfold MS.ls at *
  dsimp only at *
  obtain ⟨p4, hb0, -⟩ := new_one w #[.int .i64 fr, .int .i64 te, .int .i64 kd, .int .i64 dst, .int .i64 arr, .int .i64 op, .int .i64 av, .int .i64 an, .int .i64 bv, .int .i64 bn] 65
  have hst := h.up hb0
  have hle := h.le
  clear h
  go_enter Tryz.func121, Tryz.ntmps121
  subst harr
  go_upto_region 1 with fail
  generalize w.alloc (Obj.cells #[.int .i64 fr, .int .i64 te, .int .i64 kd, .int .i64 dst, .int .i64 (an' : Int), .int .i64 op, .int .i64 av, .int .i64 an, .int .i64 bv, .int .i64 bn] 65) = w1 at *
  have HST := hid hst
  obtain ⟨e0, e1, e2, e3, e4, e5, e6, e7, e8, e9, fe⟩ := edgbox p4
  go_wp2_with fail
  clear e0 e1 e2 e3 e4 e5 e6 e7 e8 e9 fe
  (with_reducible refine (HP.out _ HST.out).mono ?_)
  rintro e' w2 ⟨A, rfl, h1, h2, hb2⟩
  replace p4 := p4.later hb2
  have hst2 := HST.out.up hb2
  replace hb0 := hid (bup hb0 hb2)
  clear HP HST hb2
  have HAL := hid hal
  cases cp : isPlace l.length (opdX xs av an)
  · have hA := h2 cp
    subst hA
    rw [if_neg (by rw [cp]; simp)] at HQ
    rw [if_neg (by rw [cp]; simp)] at HLS
    have HS2 := hid hst2
    clear cp h1 h2 hst2
    go_wp2
    go_ret
    exact ⟨ret64 (by rw [← HQ.out]), ⟨p, V, R, S, vc, rc, sc, xs, zs, inp⟩, ev, HS2.out.more (by omega), by rw [← HQ.out], HLS.out, rfl, rfl, hb0.out.mono hle⟩
  obtain ⟨g, hg, hA⟩ := h1 cp
  subst hA
  have hp := cp
  unfold isPlace at hp
  rw [decide_eq_true_eq] at hp
  rw [if_pos cp] at HQ
  rw [if_pos cp] at HLS
  have hro := HOWN.out _ hst2
  subst hg
  clear cp h1 h2 HOWN
  have HVB := hid (svalue_ok b0 gs n r _ ev bv bn w2 hst2 hb hl)
  dsimp only at HVB
  have hst := hst2
  have HST := hid hst
  obtain ⟨e0, e1, e2, e3, e4, e5, e6, e7, e8, e9, fe⟩ := edgbox p4
  have HP := hid hp
  have HRO := hid hro
  clear hp hro hst2 hst
  generalize hkk : (opdX xs av an).toNat = kk at *
  have HKK := hid hkk
  clear hkk
  generalize opdX xs bv bn = b at *
  go_wp2_with fail
  (with_reducible refine HVB.out.mono ?_)
  rintro e' w3 ⟨rfl, hb3⟩
  clear e0 e1 e2 e3 e4 e5 e6 e7 e8 e9 fe HVB
  have hst3 := HST.out.up hb3
  have hro3 := HRO.out.below hb3
  have hfv := hro3.frozen kk
  obtain ⟨_, _, eR, _, cR⟩ := hro3.rd kk (by have := HP.out; have := HKK.out; omega)
  injection eR with eR; injection eR with eR1 eR2; subst eR1; subst eR2
  rw [Nat.zero_add] at cR
  have hgv := hid (hst3.storeA HAL.out (g := g) (by rw [HZE.out]) kk b)
  replace hb0 := hid (bup hb0.out hb3)
  clear hst3 hro3 hb3 HRO HST
  go_wp2
  go_ret
  exact ⟨ret64 (by rw [← HQ.out]), ⟨p, V, R, S, vc, rc, sc, xs, setR zs an' ((zs[an']'HAL.out).1.set kk b), inp⟩, ev, hgv.out.1.more (by omega), by rw [← HQ.out], by show (setR zs an' ((zs[an']'HAL.out).1.set kk b)).map _ = _; rw [show zs[an']'HAL.out = _ from HZE.out, setR_map]; exact HLS.out, rfl, rfl, (hb0.out.mono hle).trans hgv.out.2⟩
end Go.Proofs.YtkncebcekhfnfaaGreat
