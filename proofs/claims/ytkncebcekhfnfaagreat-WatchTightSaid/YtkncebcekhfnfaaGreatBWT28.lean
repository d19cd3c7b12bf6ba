/-
  Small laws on blocks for the run of a graph: a row of arrays that grows; facts on what an operation of a drawn region made.
  watch.runner: how it lies in memory; value, next, reckons: what they answer. (Printed by gen_machr.py.)
-/
import Derived.Test.YtkncebcekhfnfaaGreatBWT27
import Derived.Test.YtkncebcekhfnfaaGreatBWT08
import Derived.Test.YtkncebcekhfnfaaGreatBWT24
namespace Go.Proofs.YtkncebcekhfnfaaGreat
open Go.RowKit
section

theorem Blk.set6 {W : World} {g : Nat} {t : TypeId} {a0 a1 a2 a3 a4 a5 v0 v1 v2 v3 v4 v5 : Value} (h : Blk W g t #[a0, a1, a2, a3, a4, a5]) :
    Blk ((((((W.setCell ⟨g, 0, none⟩ v0).setCell ⟨g, 1, none⟩ v1).setCell ⟨g, 2, none⟩ v2).setCell ⟨g, 3, none⟩ v3).setCell ⟨g, 4, none⟩ v4).setCell ⟨g, 5, none⟩ v5) g t #[v0, v1, v2, v3, v4, v5] := by
  have h0 : Blk _ g t #[v0, a1, a2, a3, a4, a5] := h.set_ 0 v0
  have h1 : Blk _ g t #[v0, v1, a2, a3, a4, a5] := h0.set_ 1 v1
  have h2 : Blk _ g t #[v0, v1, v2, a3, a4, a5] := h1.set_ 2 v2
  have h3 : Blk _ g t #[v0, v1, v2, v3, a4, a5] := h2.set_ 3 v3
  have h4 : Blk _ g t #[v0, v1, v2, v3, v4, a5] := h3.set_ 4 v4
  have h5 : Blk _ g t #[v0, v1, v2, v3, v4, v5] := h4.set_ 5 v5
  exact h5
theorem below6 {W : World} {B g : Nat} {v0 v1 v2 v3 v4 v5 : Value} (hg : B ≤ g) (hB : B ≤ W.heap.size) :
    Below B W ((((((W.setCell ⟨g, 0, none⟩ v0).setCell ⟨g, 1, none⟩ v1).setCell ⟨g, 2, none⟩ v2).setCell ⟨g, 3, none⟩ v3).setCell ⟨g, 4, none⟩ v4).setCell ⟨g, 5, none⟩ v5) := by
  have h0 := below1 (W := W) (B := B) (g := g) (i := 0) (v := v0) hg hB
  have h1 := h0.setCell (p := ⟨g, 1, none⟩) hg v1
  have h2 := h1.setCell (p := ⟨g, 2, none⟩) hg v2
  have h3 := h2.setCell (p := ⟨g, 3, none⟩) hg v3
  have h4 := h3.setCell (p := ⟨g, 4, none⟩) hg v4
  exact h4.setCell (p := ⟨g, 5, none⟩) hg v5
/-- The lists of edges that a call made. -/
def IsOuts (B : Nat) (g : Gr) (v : Value) (_ wb : World) : Prop := ∃ (N F : Nat) (f : Nat → Value), g.pts = (N : Int) ∧ v = .slice (some ⟨F, 0, none⟩) N N ∧ LL enc1 wb B F N 34 3 1 f (fun p => idxI g.es g.es.length p)
theorem fact_outs {w0 W : World} {B : Nat} {g : Gr} {v : Value} {lo hi : Nat} (h : Sp.fact w0 (Sp.any (IsOuts B g)) v lo hi W) : ∃ (N F : Nat) (f : Nat → Value), g.pts = (N : Int) ∧ v = .slice (some ⟨F, 0, none⟩) N N ∧ LL enc1 W B F N 34 3 1 f (fun p => idxI g.es g.es.length p) := by
  obtain ⟨wa, wb, _, _, h3, _, _, N, F, f, e1, e2, e3⟩ := h
  exact ⟨N, F, f, e1, e2, e3.below h3⟩
/-- One array more. -/
theorem MemR.put_row {w w9 : World} {b0 F N n : Nat} {f : Nat → Value} {es : List Edg} {V R A3 : Option Addr} {vc rc c3 : Nat} {xs : List Int} {zs : List At64.R1} {l : List Int} {c : Nat}
    (h : MemR w b0 F N f es V R vc rc xs zs) (hO : OnlyT 28 w w9) (h3 : At64.OwnR w9 b0 A3 c3 (zs ++ [(l, some ⟨n, 0, none⟩, c)])) (hlt : ∀ z ∈ zs, ∀ g, z.2.1 = some ⟨g, 0, none⟩ → g < n) (hv : ∀ g, V = some ⟨g, 0, none⟩ → g < n) :
    MemR w9 b0 F N f es V A3 vc c3 xs (zs ++ [(l, some ⟨n, 0, none⟩, c)]) :=
  ⟨h.outs.only hO (by decide) (by decide), h.vars.only hO (by decide), h3, h.apart.snoc hlt, fun z hz g e => by
    rcases List.mem_append.1 hz with hz | hz
    · exact h.va z hz g e
    · rw [List.mem_singleton] at hz; subst hz
      intro e2
      have := hv g e2
      injection e with e; injection e with e
      omega⟩
theorem MemR.lt_v {w : World} {b0 F N : Nat} {f : Nat → Value} {es : List Edg} {V R : Option Addr} {vc rc : Nat} {xs : List Int} {zs : List At64.R1} (h : MemR w b0 F N f es V R vc rc xs zs) : ∀ g, V = some ⟨g, 0, none⟩ → g < w.heap.size := fun g e => by
  rcases h.vars.form with ⟨h1, _⟩ | ⟨g', h1, _, h2⟩
  · rw [h1] at e; cases e
  · rw [h1] at e; injection e with e; injection e with e; omega
theorem MemR.lt_a {w : World} {b0 F N : Nat} {f : Nat → Value} {es : List Edg} {V R : Option Addr} {vc rc : Nat} {xs : List Int} {zs : List At64.R1} (h : MemR w b0 F N f es V R vc rc xs zs) : ∀ z ∈ zs, ∀ g, z.2.1 = some ⟨g, 0, none⟩ → g < w.heap.size := fun z hz g e => by
  rcases (h.rows.own z hz).form with ⟨h1, _⟩ | ⟨g', h1, _, h2⟩
  · rw [h1] at e; cases e
  · rw [h1] at e; injection e with e; injection e with e; omega
/-- A new row of zeros, in a slice of its own, appended: three steps. -/
theorem new_row {w : World} {b0 F N : Nat} {f : Nat → Value} {es : List Edg} {V R : Option Addr} {vc rc : Nat} {xs : List Int} {zs : List At64.R1} (h : MemR w b0 F N f es V R vc rc xs zs) (hb : b0 ≤ w.heap.size) (n : Nat) (hn : n ≤ 1024) (hz : zs.length ≤ 1000) :
    ∃ A3 c3 w9, (Builtin.append_ #[45, 45] 45 #[.slice R zs.length rc, .slice (some ⟨w.heap.size + 1, 0, none⟩) 1 1]).run Tryz.prog ((w.alloc (.cells (zcells n) 2)).alloc (.cells #[.slice (some ⟨w.heap.size, 0, none⟩) n n] 28)) = .ok (.slice A3 (zs.length + 1) c3) w9 ∧
      MemR w9 b0 F N f es V A3 vc c3 xs (zs ++ [(List.replicate n 0, some ⟨w.heap.size, 0, none⟩, n)]) ∧ OnlyT 28 w w9 ∧ Below b0 w w9 ∧ OnlyT 28 ((w.alloc (.cells (zcells n) 2)).alloc (.cells #[.slice (some ⟨w.heap.size, 0, none⟩) n n] 28)) w9 := by
  have hA := new1 w (.cells (zcells n) 2)
  have n8 := new1 (w.alloc (.cells (zcells n) 2)) (.cells #[.slice (some ⟨w.heap.size, 0, none⟩) n n] 28)
  have k8 := Blk.new (w.alloc (.cells (zcells n) 2)) 28 #[.slice (some ⟨w.heap.size, 0, none⟩) n n]
  have hs8 : (w.alloc (.cells (zcells n) 2)).heap.size = w.heap.size + 1 := by simp
  have hb8 := bup hA n8
  have hm := (own_made w hb (show n ≤ 17592186044416 by omega)).below n8
  have rows8 := h.rows.below hb8
  rw [hs8] at k8
  have hl : (List.replicate n (0 : Int)).length = n := List.length_replicate
  obtain ⟨A3, c3, w9, hrun, rows9, hg⟩ := At64.run_append_row _ b0 45 R rc zs (List.replicate n 0, some ⟨w.heap.size, 0, none⟩, n) rows8 (w.heap.size + 1) (by dsimp only; rw [hl]; exact k8) hm (by omega) (Nat.le_trans hb hb8.size)
  have hrow : ∀ k, (Value.slice R zs.length rc).ownBlock = some k → b0 ≤ k ∧ ∃ cs, Blk w k 28 cs := fun k hk => by
    rcases h.rows.form with ⟨rfl, _⟩ | ⟨g', cs, rfl, hg, _, hc⟩
    · simp [Value.ownBlock] at hk
    · simp [Value.ownBlock] at hk; subst hk; exact ⟨hg, cs, hc⟩
  have hO8 : OnlyT 28 w _ := OnlyT.of_below _ hb8
  have hO9 : OnlyT 28 _ w9 := OnlyT.of_grown hg (fun k hk => by
    obtain ⟨_, cs, hc⟩ := hrow k hk
    exact ⟨cs, hc.later hb8⟩)
  have hb9 : Below b0 _ w9 := below_grown hg (fun k hk => (hrow k hk).1) (Nat.le_trans hb hb8.size)
  rw [List.length_append, List.length_singleton] at hrun
  exact ⟨A3, c3, w9, hrun, h.put_row (hO8.trans hO9) rows9 h.lt_a h.lt_v, hO8.trans hO9, (hb8.mono hb).trans hb9, hO9⟩
theorem StA.rowed {w w9 : World} {b0 gs n n' : Nat} {r : RP} {p : Int} {V R S A3 : Option Addr} {vc rc sc c3 : Nat} {xs : List Int} {zs zs' : List At64.R1} {inp : List Int} {ev : Value} (h : StA w b0 gs r ⟨p, V, R, S, vc, rc, sc, xs, zs, inp⟩ ev n)
    (hm : MemR w9 b0 r.F r.N r.f r.g.es V A3 vc c3 xs zs') (hO : OnlyT 28 w w9) (hb : Below b0 w w9) (hl : zs'.length = n') :
    StA (w9.setCell ⟨gs, 9, none⟩ (.slice A3 n' c3)) b0 gs r ⟨p, V, A3, S, vc, c3, sc, xs, zs', inp⟩ ev n ∧ Below b0 w9 (w9.setCell ⟨gs, 9, none⟩ (.slice A3 n' c3)) := by
  subst hl
  have k9 := h.blk.only hO (by decide)
  have hO2 := OnlyT.of_set k9 9 (.slice A3 zs'.length c3)
  have hb2 : Below b0 w9 (w9.setCell ⟨gs, 9, none⟩ (.slice A3 zs'.length c3)) := below1 h.ge (Nat.le_trans h.le hb.size)
  exact ⟨⟨k9.set_ 9 _, h.ge, hm.only hO2 (by decide) (by decide) (by decide) (by decide), (h.edges.below hb).below hb2, (h.scr.below hb).below hb2, h.scap, (h.evs.only hO (by decide)).only hO2 (by decide), (h.keep.only hO (by decide)).only hO2 (by decide)⟩, hb2⟩
/-- A store into a block of another type. -/
theorem StA.far {w : World} {b0 gs n : Nat} {r : RP} {m : MS} {ev : Value} (h : StA w b0 gs r m ev n) {t : TypeId} {cs : Array Value} {k : Nat} (hk : Blk w k t cs) (hg : b0 ≤ k) (i : Nat) (v : Value) (h0 : r.ks = [])
    (n1 : 34 ≠ t) (n2 : 3 ≠ t) (n3 : 2 ≠ t) (n4 : 28 ≠ t) (n5 : 147 ≠ t) (n6 : 186 ≠ t) :
    StA (w.setCell ⟨k, i, none⟩ v) b0 gs r m ev n ∧ Below b0 w (w.setCell ⟨k, i, none⟩ v) := by
  have hO := OnlyT.of_set hk i v
  have hb : Below b0 w (w.setCell ⟨k, i, none⟩ v) := below1 hg h.le
  exact ⟨⟨h.blk.only hO n5, h.ge, h.mem.only hO n1 n2 n3 n4, h.edges.below hb, h.scr.below hb, h.scap, h.evs.only hO n6, fun q hq => by rw [h0] at hq; exact absurd hq (by simp)⟩, hb⟩
theorem doesW_in {ls : List (List Int)} {e : Edg} {xs : List Int} {a b : Int} (h : e.kd ≠ 9) : doesW ls e xs a = doesW ls e xs b := by
  unfold doesW
  by_cases h2 : e.kd = 2
  · rw [if_pos h2, if_pos h2]
  · rw [if_neg h2, if_neg h2, if_neg h, if_neg h]
/-- A store of six cells in a drawn region: before, behind. -/
def SB6 (w : World) (g : Nat) (v0 v1 v2 v3 v4 v5 : Value) : Bool → World → Prop
  | false => fun W => Below w.heap.size w W
  | true => fun W => ∃ W0, Below w.heap.size w W0 ∧ W = (((((W0.setCell ⟨g, 0, none⟩ v0).setCell ⟨g, 1, none⟩ v1).setCell ⟨g, 2, none⟩ v2).setCell ⟨g, 3, none⟩ v3).setCell ⟨g, 4, none⟩ v4).setCell ⟨g, 5, none⟩ v5
theorem Blk.far6 {W : World} {g g' : Nat} {t : TypeId} {cs : Array Value} {v0 v1 v2 v3 v4 v5 : Value} (h : Blk W g' t cs) (hne : g ≠ g') : Blk ((((((W.setCell ⟨g, 0, none⟩ v0).setCell ⟨g, 1, none⟩ v1).setCell ⟨g, 2, none⟩ v2).setCell ⟨g, 3, none⟩ v3).setCell ⟨g, 4, none⟩ v4).setCell ⟨g, 5, none⟩ v5) g' t cs := by
  have h0 : Blk (W.setCell ⟨g, 0, none⟩ v0) g' t cs := h.far hne v0
  have h1 := h0.far (p := ⟨g, 1, none⟩) hne v1
  have h2 := h1.far (p := ⟨g, 2, none⟩) hne v2
  have h3 := h2.far (p := ⟨g, 3, none⟩) hne v3
  have h4 := h3.far (p := ⟨g, 4, none⟩) hne v4
  exact h4.far (p := ⟨g, 5, none⟩) hne v5
theorem SB6.cell {w : World} {g g' : Nat} {t : TypeId} {cs : Array Value} {v0 v1 v2 v3 v4 v5 : Value} (h : Blk w g' t cs) (hne : g ≠ g') (i : Nat) : ∀ W, AnyB (SB6 w g v0 v1 v2 v3 v4 v5) W → W.cell? ⟨g', i, none⟩ = cs[i]? := fun W hW => by
  obtain ⟨b, hW⟩ := hW
  cases b with
  | false => exact (h.later (show Below w.heap.size w W from hW)).cell i
  | true =>
    obtain ⟨W0, hb, rfl⟩ := hW
    exact ((h.later hb).far6 hne).cell i
theorem SB6.own {w : World} {g : Nat} {t : TypeId} {cs : Array Value} {v0 v1 v2 v3 v4 v5 : Value} (h : Blk w g t cs) : ∀ W, SB6 w g v0 v1 v2 v3 v4 v5 false W → Blk W g t cs := fun W hW => h.later (show Below w.heap.size w W from hW)
/-- A slice of all that is ahead of a number, and no more room. -/
theorem run_slice_max (A : Option Addr) (n c h : Nat) (hh : h ≤ c) : ∃ A', ∀ W : World, (Instr.slice 28 (.slice A n c) none (some (.int .i64 (h : Int))) (some (.int .i64 (h : Int)))).run Tryz.prog W = .ok (.slice A' h h) W := by
  refine ⟨if h = 0 then A else A.map (·.add 0), fun W => ?_⟩
  have e : Tryz.prog.underlying 28 = some (.slice (Tryz.prog.elem 28)) := by kernel_rfl
  have e2 : (sizeOf (Tryz.prog.elem 28)).run Tryz.prog W = .ok 1 W := by kernel_rfl
  rw [run_slice_hm W 28 A n c e .i64 .i64 (h : Int) (h : Int) (by omega) (Int.le_refl _) (by omega), e2]
  simp only [Result.andThen_ok, sliced, Int.toNat_natCast, Nat.zero_mul, Nat.sub_zero]
theorem EvOk.slice {w : World} {b0 n : Nat} {ev : Value} (h : EvOk w b0 ev n) : ∃ A k c, ev = .slice A k c := by
  obtain ⟨k, cells, h1, _⟩ := h
  rcases h1.2 with ⟨e, _⟩ | ⟨g, cap, cur, e, _⟩
  · exact ⟨none, 0, 0, e⟩
  · exact ⟨_, _, _, e⟩
theorem Own.capa {w : World} {base cap : Nat} {A : Option Addr} {m : List Int} (h : Own w base A cap m) : m.length ≤ cap := by
  rcases h.2 with ⟨_, h0⟩ | ⟨g, cap', cur, e, _, _, hc, _⟩
  · rw [h0]; exact Nat.zero_le _
  · injection e with e1 e2 e3
    omega
end
section
attribute [local go_sem ↓] Go.wp_at_zero Go.wp_at_succ

structure StR (w : World) (b0 gs : Nat) (r : RP) (m : MS) : Prop where
  blk : Blk w gs 105 #[.slice r.Vn r.g.nv r.cv, .int .i64 r.g.tm, .slice r.Dn r.g.sz.length r.cd, .int .i64 r.g.pts, .int .i64 r.g.ex, .slice r.En r.g.es.length r.ce, .slice (some ⟨r.F, 0, none⟩) r.N r.N, .int .i64 m.p, .slice m.V m.xs.length m.vc, .slice m.R m.zs.length m.rc, .slice m.S m.inp.length m.sc]
  ge : b0 ≤ gs
  mem : MemR w b0 r.F r.N r.f r.g.es m.V m.R m.vc m.rc m.xs m.zs
  edges : RdE w b0 r.En r.g.es
  scr : Rd w b0 m.S m.inp
  scap : m.inp.length ≤ m.sc
section
variable {w w' : World} {b0 gs : Nat} {r : RP} {m : MS}
theorem StR.le (h : StR w b0 gs r m) : b0 ≤ w.heap.size := by have := h.blk.lt; have := h.ge; omega
theorem StR.up (h : StR w b0 gs r m) (hb : Below w.heap.size w w') : StR w' b0 gs r m :=
  ⟨h.blk.later hb, h.ge, h.mem.up hb, h.edges.below (hb.mono h.le), h.scr.below (hb.mono h.le), h.scap⟩
end
/-- The runner's own blocks lie below b1. -/
structure StLt (b1 gs : Nat) (m : MS) : Prop where
  gs : gs < b1
  V : ∀ g, m.V = some ⟨g, 0, none⟩ → g < b1
  R : ∀ z ∈ m.zs, ∀ g, z.2.1 = some ⟨g, 0, none⟩ → g < b1
  RR : ∀ g, m.R = some ⟨g, 0, none⟩ → g < b1
theorem setR_lt {zs : List At64.R1} {b1 a : Nat} {l : List Int} (h : ∀ z ∈ zs, ∀ g, z.2.1 = some ⟨g, 0, none⟩ → g < b1) (ha : a < zs.length) : ∀ z ∈ setR zs a l, ∀ g, z.2.1 = some ⟨g, 0, none⟩ → g < b1 := fun z hz g hg => by
  unfold setR at hz
  rcases List.mem_or_eq_of_mem_set hz with q | q
  · exact h z q g hg
  · subst q
    rw [List.getD_eq_getElem?_getD, List.getElem?_eq_getElem ha] at hg
    exact h _ (List.getElem_mem ha) g hg
theorem rubox {w : World} {g : Nat} {t : TypeId} {a0 a1 a2 a3 a4 a5 a6 a7 a8 a9 a10 : Value} (h : Blk w g t #[a0, a1, a2, a3, a4, a5, a6, a7, a8, a9, a10]) :
    w.cell? ⟨g, 0, none⟩ = some a0 ∧ w.cell? ⟨g, 1, none⟩ = some a1 ∧ w.cell? ⟨g, 2, none⟩ = some a2 ∧ w.cell? ⟨g, 3, none⟩ = some a3 ∧ w.cell? ⟨g, 4, none⟩ = some a4 ∧ w.cell? ⟨g, 5, none⟩ = some a5 ∧ w.cell? ⟨g, 6, none⟩ = some a6 ∧ w.cell? ⟨g, 7, none⟩ = some a7 ∧ w.cell? ⟨g, 8, none⟩ = some a8 ∧ w.cell? ⟨g, 9, none⟩ = some a9 ∧ w.cell? ⟨g, 10, none⟩ = some a10 ∧ ∀ j, w.frozen? ⟨g, j, none⟩ = false :=
  ⟨h.cell 0, h.cell 1, h.cell 2, h.cell 3, h.cell 4, h.cell 5, h.cell 6, h.cell 7, h.cell 8, h.cell 9, h.cell 10, h.fr⟩
theorem StR.storeV {w : World} {b0 gs gv : Nat} {r : RP} {p : Int} {R S : Option Addr} {vc rc sc : Nat} {xs : List Int} {zs : List At64.R1} {inp : List Int} (h : StR w b0 gs r ⟨p, some ⟨gv, 0, none⟩, R, S, vc, rc, sc, xs, zs, inp⟩) (k : Nat) (x : Int) :
    StR (w.setCell ⟨gv, k, none⟩ (.int .i64 x)) b0 gs r ⟨p, some ⟨gv, 0, none⟩, R, S, vc, rc, sc, xs.set k x, zs, inp⟩ ∧ Below b0 w (w.setCell ⟨gv, k, none⟩ (.int .i64 x)) := by
  obtain ⟨cs, hk⟩ := h.mem.vars.blk
  have hO := OnlyT.of_set hk k (.int .i64 x)
  have hb : Below b0 w (w.setCell ⟨gv, k, none⟩ (.int .i64 x)) := below1 h.mem.ge_v h.le
  refine ⟨⟨?_, h.ge, h.mem.storeV k x, h.edges.below hb, h.scr.below hb, h.scap⟩, hb⟩
  have := h.blk.only hO (by decide)
  dsimp only at *
  rw [List.length_set]; exact this
theorem StR.storeA {w : World} {b0 gs a g : Nat} {r : RP} {p : Int} {V R S : Option Addr} {vc rc sc : Nat} {xs : List Int} {zs : List At64.R1} {inp : List Int} (h : StR w b0 gs r ⟨p, V, R, S, vc, rc, sc, xs, zs, inp⟩) (ha : a < zs.length) (hg : zs[a].2.1 = some ⟨g, 0, none⟩) (k : Nat) (x : Int) :
    StR (w.setCell ⟨g, k, none⟩ (.int .i64 x)) b0 gs r ⟨p, V, R, S, vc, rc, sc, xs, setR zs a (zs[a].1.set k x), inp⟩ ∧ Below b0 w (w.setCell ⟨g, k, none⟩ (.int .i64 x)) := by
  have hok := h.mem.rows.own _ (List.getElem_mem ha)
  rw [hg] at hok
  obtain ⟨cs, hk⟩ := hok.blk
  have hO := OnlyT.of_set hk k (.int .i64 x)
  have hb : Below b0 w (w.setCell ⟨g, k, none⟩ (.int .i64 x)) := below1 (h.mem.ge_a ha hg) h.le
  refine ⟨⟨?_, h.ge, h.mem.storeA ha hg k x, h.edges.below hb, h.scr.below hb, h.scap⟩, hb⟩
  have := h.blk.only hO (by decide)
  dsimp only at *
  rw [setR_len]; exact this
theorem StR.slide {w : World} {b0 gs : Nat} {r : RP} {p : Int} {V R S S' : Option Addr} {vc rc sc sc' : Nat} {xs : List Int} {zs : List At64.R1} {inp inp' : List Int} (h : StR w b0 gs r ⟨p, V, R, S, vc, rc, sc, xs, zs, inp⟩) (hs : Rd w b0 S' inp') (hc : inp'.length ≤ sc') :
    StR (w.setCell ⟨gs, 10, none⟩ (.slice S' inp'.length sc')) b0 gs r ⟨p, V, R, S', vc, rc, sc', xs, zs, inp'⟩ ∧ Below b0 w (w.setCell ⟨gs, 10, none⟩ (.slice S' inp'.length sc')) := by
  have hO := OnlyT.of_set h.blk 10 (.slice S' inp'.length sc')
  have hb : Below b0 w (w.setCell ⟨gs, 10, none⟩ (.slice S' inp'.length sc')) := below1 h.ge h.le
  exact ⟨⟨h.blk.set_ 10 _, h.ge, h.mem.only hO (by decide) (by decide) (by decide) (by decide), h.edges.below hb, hs.below hb, hc⟩, hb⟩
theorem StR.goto {w : World} {b0 gs : Nat} {r : RP} {p p' : Int} {V R S : Option Addr} {vc rc sc : Nat} {xs : List Int} {zs : List At64.R1} {inp : List Int} (h : StR w b0 gs r ⟨p, V, R, S, vc, rc, sc, xs, zs, inp⟩) :
    StR (w.setCell ⟨gs, 7, none⟩ (.int .i64 p')) b0 gs r ⟨p', V, R, S, vc, rc, sc, xs, zs, inp⟩ ∧ Below b0 w (w.setCell ⟨gs, 7, none⟩ (.int .i64 p')) := by
  have hO := OnlyT.of_set h.blk 7 (.int .i64 p')
  have hb : Below b0 w (w.setCell ⟨gs, 7, none⟩ (.int .i64 p')) := below1 h.ge h.le
  exact ⟨⟨h.blk.set_ 7 _, h.ge, h.mem.only hO (by decide) (by decide) (by decide) (by decide), h.edges.below hb, h.scr.below hb, h.scap⟩, hb⟩
theorem StR.rowed {w w9 : World} {b0 gs n' : Nat} {r : RP} {p : Int} {V R S A3 : Option Addr} {vc rc sc c3 : Nat} {xs : List Int} {zs zs' : List At64.R1} {inp : List Int} (h : StR w b0 gs r ⟨p, V, R, S, vc, rc, sc, xs, zs, inp⟩)
    (hm : MemR w9 b0 r.F r.N r.f r.g.es V A3 vc c3 xs zs') (hO : OnlyT 28 w w9) (hb : Below b0 w w9) (hl : zs'.length = n') :
    StR (w9.setCell ⟨gs, 9, none⟩ (.slice A3 n' c3)) b0 gs r ⟨p, V, A3, S, vc, c3, sc, xs, zs', inp⟩ ∧ Below b0 w9 (w9.setCell ⟨gs, 9, none⟩ (.slice A3 n' c3)) := by
  subst hl
  have k9 := h.blk.only hO (by decide)
  have hO2 := OnlyT.of_set k9 9 (.slice A3 zs'.length c3)
  have hb2 : Below b0 w9 (w9.setCell ⟨gs, 9, none⟩ (.slice A3 zs'.length c3)) := below1 h.ge (Nat.le_trans h.le hb.size)
  exact ⟨⟨k9.set_ 9 _, h.ge, hm.only hO2 (by decide) (by decide) (by decide) (by decide), (h.edges.below hb).below hb2, (h.scr.below hb).below hb2, h.scap⟩, hb2⟩

set_option maxRecDepth 8000 in
set_option maxHeartbeats 4000000 in
theorem rvalue_ok (b0 gs : Nat) (r : RP) (m : MS) (av an : Int) (w : World) (h : StR w b0 gs r m) (ha : av < m.xs.length) (hl : m.xs.length ≤ 64) :
    Calls Tryz.prog 86 #[.pointer (some ⟨gs, 0, none⟩), .agg #[.int .i64 av, .int .i64 an]] w fun e w' => e = .returned (.int .i64 (opdX m.xs av an)) ∧ Below w.heap.size w w' := by
  have HO := hid (show opdX m.xs av an = if 0 ≤ av then gI m.xs av else an from rfl)
  have hk := h.blk
  have hx := h.mem.vars.rd
  clear h
  obtain ⟨p, V, R, S, vc, rc, sc, xs, zs, inp⟩ := m
  dsimp only at *
  obtain ⟨p3, hb0, -⟩ := new_one w #[.int .i64 av, .int .i64 an] 63
  replace hk := hk.later hb0
  replace hx := hx.up hb0
  go_enter Tryz.func86, Tryz.ntmps86
  by_cases h0 : av < 0
  · obtain ⟨x0, x1, fx⟩ := opdbox p3
    go_wp2
    go_ret
    exact ⟨ret64 (by rw [HO.out, if_neg (by omega)]), hb0⟩
  · obtain ⟨x0, x1, fx⟩ := opdbox p3
    obtain ⟨b, off, rfl, hB, hc⟩ := hx.at_ (i := av) (by omega) ha
    obtain ⟨k, rfl⟩ := Int.eq_ofNat_of_zero_le (show 0 ≤ av by omega)
    have y0 := hk.cell 8
    replace y0 := y0.trans (show _ = some (Value.slice (some ⟨b, off, none⟩) xs.length vc) from rfl)
    rw [Int.toNat_natCast] at hc
    go_wp2
    have l0 := later x0
    have ly := later y0
    have lc := later hc
    clear x0 x1 fx y0 hc
    generalize w.alloc (Obj.cells #[.int .i64 k, .int .i64 an] 63) = w1 at *
    refine wp_region_flow 6 (fun W => Below w1.heap.size w1 W) (by kernel_rfl) (by kernel_rfl) (Below.refl _ _).drew ?_
    (repeat (first | (refine Flow.skip (by rfl) ?_; simp only [Act.put, List.setIfInBounds_toArray, List.set_cons_zero, List.set_cons_succ]) | (refine' Flow.take _ (by rfl) (fun W hW R hR => ?_) ?_; rotate_left; (go_simp; (try go_bits); with_reducible exact hR); simp only [Act.put, List.setIfInBounds_toArray, List.set_cons_zero, List.set_cons_succ])))
    intro w9 hb9
    go_wp2
    go_ret
    replace hb0 := bup hb0 hb9
    exact ⟨ret64 (by rw [HO.out, if_pos (by omega)]), hb0⟩


set_option maxRecDepth 8000 in
set_option maxHeartbeats 4000000 in
theorem rreckons_ok (kd a b : Int) (w : World) (hk : 3 ≤ kd ∧ kd ≤ 8) (ia : I64 a) (ib : I64 b) : Calls Tryz.prog 87 #[.int .i64 kd, .int .i64 a, .int .i64 b] w (IntRes (kindW kd a b).1 w) := by
  have hkk : kd = 3 ∨ kd = 4 ∨ kd = 5 ∨ kd = 6 ∨ kd = 7 ∨ kd = 8 := by omega
  clear hk
  rcases hkk with rfl | rfl | rfl | rfl | rfl | rfl
  · have HC := hid (nneg_any a w ia)
    have HK : Hid ((kindW 3 a b).1 = (negW a).1) := hid rfl
    rw [HK.out]
    generalize negW a = p at *
    clear ia ib
    go_enter Tryz.func87, Tryz.ntmps87
    go_wp2_with fail
    (with_reducible refine HC.out.mono ?_)
    rintro e w' ⟨rfl, rfl⟩
    obtain ⟨p, q⟩ := p
    unfold pairV
    go_wp2
    go_ret
    exact ⟨rfl, rfl⟩
  · have HC := hid (nadd_any a b w ia ib)
    have HK : Hid ((kindW 4 a b).1 = (addW a b).1) := hid rfl
    rw [HK.out]
    generalize addW a b = p at *
    clear ia ib
    go_enter Tryz.func87, Tryz.ntmps87
    go_wp2_with fail
    (with_reducible refine HC.out.mono ?_)
    rintro e w' ⟨rfl, rfl⟩
    obtain ⟨p, q⟩ := p
    unfold pairV
    go_wp2
    go_ret
    exact ⟨rfl, rfl⟩
  · have HC := hid (nsub_any a b w ia ib)
    have HK : Hid ((kindW 5 a b).1 = (subW a b).1) := hid rfl
    rw [HK.out]
    generalize subW a b = p at *
    clear ia ib
    go_enter Tryz.func87, Tryz.ntmps87
    go_wp2_with fail
    (with_reducible refine HC.out.mono ?_)
    rintro e w' ⟨rfl, rfl⟩
    obtain ⟨p, q⟩ := p
    unfold pairV
    go_wp2
    go_ret
    exact ⟨rfl, rfl⟩
  · have HC := hid (nmul_any a b w ia ib)
    have HK : Hid ((kindW 6 a b).1 = (mulW a b).1) := hid rfl
    rw [HK.out]
    generalize mulW a b = p at *
    clear ia ib
    go_enter Tryz.func87, Tryz.ntmps87
    go_wp2_with fail
    (with_reducible refine HC.out.mono ?_)
    rintro e w' ⟨rfl, rfl⟩
    obtain ⟨p, q⟩ := p
    unfold pairV
    go_wp2
    go_ret
    exact ⟨rfl, rfl⟩
  · have HC := hid (ndiv_any a b w ia ib)
    have HK : Hid ((kindW 7 a b).1 = (divW a b).1) := hid rfl
    rw [HK.out]
    generalize divW a b = p at *
    clear ia ib
    go_enter Tryz.func87, Tryz.ntmps87
    go_wp2_with fail
    (with_reducible refine HC.out.mono ?_)
    rintro e w' ⟨rfl, rfl⟩
    obtain ⟨p, q⟩ := p
    unfold pairV
    go_wp2
    go_ret
    exact ⟨rfl, rfl⟩
  · have HC := hid (nrem_any a b w ia ib)
    have HK : Hid ((kindW 8 a b).1 = (remW a b).1) := hid rfl
    rw [HK.out]
    generalize remW a b = p at *
    clear ia ib
    go_enter Tryz.func87, Tryz.ntmps87
    go_wp2_with fail
    (with_reducible refine HC.out.mono ?_)
    rintro e w' ⟨rfl, rfl⟩
    obtain ⟨p, q⟩ := p
    unfold pairV
    go_wp2
    go_ret
    exact ⟨rfl, rfl⟩
end
end Go.Proofs.YtkncebcekhfnfaaGreat
