/-
  watch.begun: the runner at the beginning of a run. (Printed by gen_begun.py.)
-/
import Derived.Test.YtkncebcekhfnfaaGreatBWT30
import Derived.Test.YtkncebcekhfnfaaGreatBWT31
namespace Go.Proofs.YtkncebcekhfnfaaGreat
open Go.RowKit
attribute [local go_sem ↓] Go.wp_at_zero Go.wp_at_succ

theorem MemR.less {w : World} {b0 b2 F N : Nat} {f : Nat → Value} {es : List Edg} {V R : Option Addr} {vc rc : Nat} {xs : List Int} {zs : List At64.R1} (h : MemR w b0 F N f es V R vc rc xs zs) (hb : b2 ≤ b0) : MemR w b2 F N f es V R vc rc xs zs :=
  ⟨h.outs.less hb, h.vars.less hb, h.rows.less hb, h.apart, h.va⟩
/-- From a lesser block on: what lies ahead is told anew. -/
theorem StR.lessE {w : World} {b0 b2 gs : Nat} {r : RP} {m : MS} (h : StR w b0 gs r m) (hb : b2 ≤ b0) (hE : RdE w b2 r.En r.g.es) (hS : Rd w b2 m.S m.inp) : StR w b2 gs r m :=
  ⟨h.blk, Nat.le_trans hb h.ge, h.mem.less hb, hE, hS, h.scap⟩
/-- A slice of no slices that was made. -/
def IsRow0 (B N : Nat) (v : Value) (_ wb : World) : Prop := ∃ F, v = .slice (some ⟨F, 0, none⟩) N N ∧ LL enc1 wb B F N 34 3 1 (fun _ => .slice none 0 0) (fun _ => ([] : List Int))
theorem fact_row0 {w0 W : World} {B N : Nat} {v : Value} {lo hi : Nat} (h : Sp.fact w0 (Sp.any (IsRow0 B N)) v lo hi W) : ∃ F, v = .slice (some ⟨F, 0, none⟩) N N ∧ LL enc1 W B F N 34 3 1 (fun _ => .slice none 0 0) (fun _ => ([] : List Int)) := by
  obtain ⟨wa, wb, _, _, h3, _, _, F, e1, e2⟩ := h
  exact ⟨F, e1, e2.below h3⟩
/-- A runner that matches a machine. -/
def MsIs (m : MS) (M : Mach) : Prop := m.p = (M.p : Int) ∧ m.xs = M.xs ∧ m.ls = M.ls ∧ m.inp = M.inp
def BegunRes (g : Gr) (V D E S : Option Addr) (cv cd ce : Nat) (inp : List Int) (w : World) (e : Ending) (w' : World) : Prop :=
  ∃ (gs F N : Nat) (f : Nat → Value) (m : MS), e = .returned (.pointer (some ⟨gs, 0, none⟩)) ∧ g.pts = (N : Int) ∧ StR w' w.heap.size gs ⟨g, V, D, E, cv, cd, ce, F, N, f, []⟩ m ∧ MsIs m (mZero g inp) ∧ m.S = S ∧ Below w.heap.size w w'
set_option maxRecDepth 8000 in
set_option maxHeartbeats 16000000 in
theorem begun_ok (g : Gr) (V D E : Option Addr) (cv cd ce : Nat) (inp : List Int) (S : Option Addr) (sc : Nat) (w : World) (hD : RdD w w.heap.size D g.sz) (hE : RdE w w.heap.size E g.es) (hS : Rd w w.heap.size S inp) (hcap : inp.length ≤ sc) (hc : chk g = 0) :
    Calls Tryz.prog 50 #[grV g V D E cv cd ce, .slice S inp.length sc] w (BegunRes g V D E S cv cd ce inp w) := by
  obtain ⟨ct0, ct1, ca, ces, csz, cz, cr⟩ := chk_parts hc
  obtain ⟨p1, p2, hin, -⟩ := chk_in hc
  have hall : g.all = g.nv + g.tm := rfl
  obtain ⟨na, hna⟩ : ∃ na : Nat, (g.nv : Int) + g.tm = (na : Int) := ⟨((g.nv : Int) + g.tm).toNat, by omega⟩
  obtain ⟨N, hN⟩ : ∃ N : Nat, g.pts = (N : Int) := ⟨g.pts.toNat, by omega⟩
  have HNA := hid hna
  have HN := hid hN
  have hna64 : na ≤ 64 := by omega
  have hnv : (g.nv : Int) ≤ 64 := by omega
  have hs0 : 0 ≤ (g.nv : Int) + g.tm := by omega
  have hs1 : (g.nv : Int) + g.tm ≤ 64 := by omega
  have hNb : (N : Int) ≤ 4096 := by omega
  have HC := hid hc
  have HCZ := hid cz
  have HCAP := hid hcap
  have HIN := hid (fun k (hk : k < g.es.length) => (show 0 ≤ (g.es[k]).fr ∧ (g.es[k]).fr < (N : Int) from by
    have := hin _ (List.getElem_mem hk)
    unfold inE at this
    rw [decide_eq_true_eq] at this
    omega))
  have hmk := run_make64 na (by omega)
  rw [← hna] at hmk
  have hmr := run_make_row' (P := Tryz.prog) 61 34 (.slice none 0 0) 24 Tryz.underlying61 ints_info rfl .i64 .i64 N (by omega) (by omega)
  rw [← hN] at hmr
  have n0 := new1 w (.cells #[.slice V g.nv cv, .int .i64 g.tm, .slice D g.sz.length cd, .int .i64 g.pts, .int .i64 g.ex, .slice E g.es.length ce] 26)
  have k0 := Blk.new w 26 #[.slice V g.nv cv, .int .i64 g.tm, .slice D g.sz.length cd, .int .i64 g.pts, .int .i64 g.ex, .slice E g.es.length ce]
  have hb0 := n0
  have HE0 := hid hE
  have HS0 := hid hS
  replace hD := hD.up hb0
  replace hE := hE.up hb0
  replace hS := hS.up hb0
  clear n0 hc cz cr hna hall ca hin hN hcap
  unfold grV
  go_enter Tryz.func50, Tryz.ntmps50
  go_upto_region 1 with fail
  generalize w.alloc (.cells #[.slice V g.nv cv, .int .i64 g.tm, .slice D g.sz.length cd, .int .i64 g.pts, .int .i64 g.ex, .slice E g.es.length ce] 26) = w2 at *
  obtain ⟨f0, f1, f2, f3, f4, f5, ff⟩ := blk6 k0
  have l0 := laterE f0
  have l1 := laterE f1
  have l2 := laterE f2
  have l3 := laterE f3
  have l4 := laterE f4
  have l5 := laterE f5
  clear f0 f1 f2 f3 f4 f5 ff
  refine wp_region_flowE 12 [Sp.val (.agg #[.slice V g.nv cv, .int .i64 g.tm, .slice D g.sz.length cd, .int .i64 g.pts, .int .i64 g.ex, .slice E g.es.length ce]), Sp.val (.pointer (some ⟨w.heap.size, 3, none⟩)), Sp.val (.int .i64 g.pts), Sp.any (IsRow0 w2.heap.size N), Sp.val (.pointer (some ⟨w.heap.size, 0, none⟩)), Sp.val (.slice V g.nv cv), Sp.val (.int .i64 (g.nv : Int)), Sp.val (.pointer (some ⟨w.heap.size, 1, none⟩)), Sp.val (.int .i64 g.tm), Sp.val (.int .i64 ((g.nv : Int) + g.tm)), Sp.any (IsIntsB w2.heap.size (List.replicate na 0)), Sp.val (.slice S inp.length sc)] (by kernel_rfl) (by kernel_rfl) ?_
  (refine FlowE.take (by rfl) (fun W hW R hR => ?_) (fun _ _ => ?_); (go_simp; (try go_bits); with_reducible exact hR); simp only [Act.put, List.setIfInBounds_toArray, List.set_cons_zero, List.set_cons_succ])
  (refine FlowE.take (by rfl) (fun W hW R hR => ?_) (fun _ _ => ?_); (go_simp; (try go_bits); with_reducible exact hR); simp only [Act.put, List.setIfInBounds_toArray, List.set_cons_zero, List.set_cons_succ])
  (refine FlowE.take (by rfl) (fun W hW R hR => ?_) (fun _ _ => ?_); (go_simp; (try go_bits); with_reducible exact hR); simp only [Act.put, List.setIfInBounds_toArray, List.set_cons_zero, List.set_cons_succ])
  refine FlowE.step (by rfl) (fun W hW K hK => ?_) (fun v3 lo3 hi3 => ?_)
  · go_simp
    exact hK _ _ (new1 _ _) ⟨_, rfl, LL.start (Ext.trans (Below.refl _ _).drew hW).size⟩
  simp only [Act.put, List.setIfInBounds_toArray, List.set_cons_zero, List.set_cons_succ]
  (refine FlowE.take (by rfl) (fun W hW R hR => ?_) (fun _ _ => ?_); (go_simp; (try go_bits); with_reducible exact hR); simp only [Act.put, List.setIfInBounds_toArray, List.set_cons_zero, List.set_cons_succ])
  (refine FlowE.take (by rfl) (fun W hW R hR => ?_) (fun _ _ => ?_); (go_simp; (try go_bits); with_reducible exact hR); simp only [Act.put, List.setIfInBounds_toArray, List.set_cons_zero, List.set_cons_succ])
  (refine FlowE.take (by rfl) (fun W hW R hR => ?_) (fun _ _ => ?_); (go_simp; (try go_bits); with_reducible exact hR); simp only [Act.put, List.setIfInBounds_toArray, List.set_cons_zero, List.set_cons_succ])
  (refine FlowE.take (by rfl) (fun W hW R hR => ?_) (fun _ _ => ?_); (go_simp; (try go_bits); with_reducible exact hR); simp only [Act.put, List.setIfInBounds_toArray, List.set_cons_zero, List.set_cons_succ])
  (refine FlowE.take (by rfl) (fun W hW R hR => ?_) (fun _ _ => ?_); (go_simp; (try go_bits); with_reducible exact hR); simp only [Act.put, List.setIfInBounds_toArray, List.set_cons_zero, List.set_cons_succ])
  (refine FlowE.take (by rfl) (fun W hW R hR => ?_) (fun _ _ => ?_); (go_simp; (try go_bits); with_reducible exact hR); simp only [Act.put, List.setIfInBounds_toArray, List.set_cons_zero, List.set_cons_succ])
  refine FlowE.step (by rfl) (fun W hW K hK => ?_) (fun v9 lo9 hi9 => ?_)
  · go_simp
    exact hK _ _ (new1 _ _) ⟨_, _, by rw [List.length_replicate], own_made W (Ext.trans (Below.refl _ _).drew hW).size (by omega)⟩
  simp only [Act.put, List.setIfInBounds_toArray, List.set_cons_zero, List.set_cons_succ]
  (refine FlowE.take (by rfl) (fun W hW R hR => ?_) (fun _ _ => ?_); (go_simp; (try go_bits); with_reducible exact hR); simp only [Act.put, List.setIfInBounds_toArray, List.set_cons_zero, List.set_cons_succ])
  refine FlowE.tail (fun W hW hf hd => ?_)
  replace hW : Below w2.heap.size w2 W := Ext.trans (Below.refl _ _).drew hW
  obtain ⟨F, rfl, hLL⟩ := fact_row0 (show Sp.fact w2.drew (Sp.any (IsRow0 w2.heap.size N)) v3 lo3 hi3 W from hf 3)
  obtain ⟨V1, c1, rfl, hOV⟩ := fact_intsB (show Sp.fact w2.drew (Sp.any (IsIntsB w2.heap.size (List.replicate na 0))) v9 lo9 hi9 W from hf 10)
  rw [List.length_replicate] at *
  clear hf hd l0 l1 l2 l3 l4 l5 hmk hmr
  go_upto_region 2 with fail
  have n3 := new1 W (.cells #[.slice V g.nv cv, .int .i64 g.tm, .slice D g.sz.length cd, .int .i64 g.pts, .int .i64 g.ex, .slice E g.es.length ce, .slice (some ⟨F, 0, none⟩) N N, .int .i64 0, .slice V1 na c1, .slice none 0 0, .slice S inp.length sc] 105)
  have kg3 := Blk.new W 105 #[.slice V g.nv cv, .int .i64 g.tm, .slice D g.sz.length cd, .int .i64 g.pts, .int .i64 g.ex, .slice E g.es.length ce, .slice (some ⟨F, 0, none⟩) N N, .int .i64 0, .slice V1 na c1, .slice none 0 0, .slice S inp.length sc]
  have hbW : Below w2.heap.size w2 (W.alloc (.cells #[.slice V g.nv cv, .int .i64 g.tm, .slice D g.sz.length cd, .int .i64 g.pts, .int .i64 g.ex, .slice E g.es.length ce, .slice (some ⟨F, 0, none⟩) N N, .int .i64 0, .slice V1 na c1, .slice none 0 0, .slice S inp.length sc] 105)) := hW.trans (n3.mono hW.size)
  have hL3 := hLL.below n3
  have hV3 := hOV.below n3
  have hg0 : w.heap.size < w2.heap.size := k0.lt
  have hgs : w2.heap.size ≤ W.heap.size := hW.size
  clear hLL hOV hW n3
  generalize W.heap.size = gs at *
  generalize W.alloc (.cells #[.slice V g.nv cv, .int .i64 g.tm, .slice D g.sz.length cd, .int .i64 g.pts, .int .i64 g.ex, .slice E g.es.length ce, .slice (some ⟨F, 0, none⟩) N N, .int .i64 0, .slice V1 na c1, .slice none 0 0, .slice S inp.length sc] 105) = w3 at *
  have x5 := (k0.below hbW k0.lt).cell 5
  go_wp2
  clear x5
  go_loopw [27] (fun t wr => ∃ (k : Nat) (f : Nat → Value), k ≤ g.es.length ∧ t = .int .i64 k ∧ LL enc1 wr w2.heap.size F N 34 3 1 f (fun p => idxI g.es k p) ∧ Blk wr gs 105 #[.slice V g.nv cv, .int .i64 g.tm, .slice D g.sz.length cd, .int .i64 g.pts, .int .i64 g.ex, .slice E g.es.length ce, .slice (some ⟨F, 0, none⟩) N N, .int .i64 0, .slice V1 na c1, .slice none 0 0, .slice S inp.length sc] ∧ Own wr w2.heap.size V1 c1 (List.replicate na 0) ∧ Below w2.heap.size w2 wr) (fun t _ => g.es.length - (Go.RowKit.intOf t).toNat)
  case atStart => exact ⟨0, _, by omega, rfl, hL3.congr (fun p _ => by simp [idxI, ints, idxE]), kg3, hV3, hbW⟩
  case round =>
    clear hL3 kg3 hV3 hbW
    obtain ⟨k, f, hk, rfl, hL, kg, hV, hb⟩ := hrel
    by_cases hlt : k < g.es.length
    · have hlt' : (k : Int) < (g.es.length : Int) := by omega
      have HI := hid (HIN.out k hlt)
      have hEr : RdE wr wr.heap.size E g.es := hE.up hb
      obtain ⟨x, hx⟩ : ∃ x, g.es[k] = x := ⟨_, rfl⟩
      have HX2 := hid hx
      rw [hx] at HI
      obtain ⟨b, off, rfl, hB, p0, p1, p2, p3, p4, p5, p6, p7, p8, p9⟩ := hEr.get hlt hx
      clear hEr hx
      have n8 := new1 wr (.cells (ecs x) 65)
      have k8 := Blk.new wr 65 (ecs x)
      have L8 := hL.below n8
      have kg8 := kg.later n8
      have hV8 := hV.below n8
      have hb8 : Below w2.heap.size w2 (wr.alloc (.cells (ecs x) 65)) := hb.trans (n8.mono hb.size)
      clear n8 hL hb kg hV
      unfold ecs at *
      go_upto_region 5 with fail
      clear p0 p1 p2 p3 p4 p5 p6 p7 p8 p9
      generalize hw6 : wr.alloc (.cells #[.int .i64 x.fr, .int .i64 x.te, .int .i64 x.kd, .int .i64 x.dst, .int .i64 x.arr, .int .i64 x.op, .int .i64 x.av, .int .i64 x.an, .int .i64 x.bv, .int .i64 x.bn] 65) = w6 at *
      have hs6 : wr.heap.size < w6.heap.size := by rw [← hw6]; simp
      clear hw6
      have hi := HI.out
      obtain ⟨q, hq⟩ : ∃ q : Nat, x.fr = (q : Int) := ⟨x.fr.toNat, by omega⟩
      have hqN : q < N := by omega
      have hqN' : (q : Int) < (N : Int) := by omega
      have HQ := hid hq
      clear hi
      obtain ⟨v2, w7, hrun, ho, hg, hv⟩ := run_append_int (w6.drew.alloc (.cells #[.int .i64 (k : Int)] 3)) w2.heap.size 34 (f q) _ _ (k : Int) ((L8.own q hqN).alloc _) w6.heap.size (Blk.new w6.drew _ _) (by
        have := idxI_len g.es k q
        omega) (by have := hb8.size; simp; omega)
      obtain ⟨g2, cap2, rfl, -, -⟩ := ho.form (by omega)
      have hO67 : OnlyT 3 w6 w7 := ((OnlyT.of_below _ (Below.refl _ w6).drew).trans (OnlyT.of_below _ (show Below w6.drew.heap.size w6.drew _ from new1 w6.drew (.cells #[.int .i64 (k : Int)] 3)))).trans (OnlyT.of_grown hg (fun kk hkk => by
        rcases (L8.own q hqN).2 with ⟨h1, _⟩ | ⟨gg, cap, cur, h1, h2, h3, _⟩
        · rw [h1] at hkk; simp [Value.ownBlock] at hkk
        · rw [h1] at hkk
          simp [Value.ownBlock] at hkk
          subst hkk
          exact ⟨cur, (show Blk w6 gg 3 cur from h3).later ((Below.refl w6.heap.size w6).drew.trans (show Below w6.heap.size w6.drew _ from new1 w6.drew (.cells #[.int .i64 (k : Int)] 3)))⟩))
      have hne : (f q).ownBlock ≠ some F := L8.ne q hqN
      have FB : ∀ W, AnyBB (SN w6.drew (w6.drew.alloc (.cells #[.int .i64 (k : Int)] 3)) w7) W → OnlyT 3 w6 W := fun W hW => by
        rcases SN.any hW with rfl | rfl | rfl
        · exact OnlyT.of_below _ (Below.refl _ _).drew
        · exact (OnlyT.of_below _ (Below.refl _ w6).drew).trans (OnlyT.of_below _ (show Below w6.drew.heap.size w6.drew _ from new1 w6.drew (.cells #[.int .i64 (k : Int)] 3)))
        · exact hO67
      have c0 : ∀ W, AnyBB (SN w6.drew (w6.drew.alloc (.cells #[.int .i64 (k : Int)] 3)) w7) W → W.cell? ⟨wr.heap.size, 0, none⟩ = some (.int .i64 (q : Int)) := fun W hW => ((k8.only (FB W hW) (by decide)).cell 0).trans (show some (Value.int .i64 x.fr) = some (Value.int .i64 (q : Int)) by rw [hq])
      have c6 : ∀ W, AnyBB (SN w6.drew (w6.drew.alloc (.cells #[.int .i64 (k : Int)] 3)) w7) W → W.cell? ⟨gs, 6, none⟩ = some (.slice (some ⟨F, 0, none⟩) N N) := fun W hW => (kg8.only (FB W hW) (by decide)).cell 6
      have cF : ∀ W, AnyBB (SN w6.drew (w6.drew.alloc (.cells #[.int .i64 (k : Int)] 3)) w7) W → W.cell? ⟨F, q, none⟩ = some (f q) := fun W hW => by
        obtain ⟨cc, hcc, hsz, hfc⟩ := L8.row
        have h1 : Blk W F 34 cc := (show Blk w6 F 34 cc from hcc).only (FB W hW) (by decide)
        rw [h1.cell q]
        exact hfc q hqN
      have HH := hid hg
      have HO := hid ho
      have HVV := hid hv
      have HL8 := hid L8
      have hrun' := hid hrun
      have kg7 := hid (kg8.only hO67 (by decide))
      have hV7 := hid (hV8.only hO67 (by decide))
      clear hg ho hv hrun L8 k8 kg8 hV8 FB hO67 hq
      have S0 : Hid (SN w6.drew (w6.drew.alloc (.cells #[.int .i64 (k : Int)] 3)) w7 false false = fun W => W = w6.drew) := hid rfl
      have S1 : Hid (SN w6.drew (w6.drew.alloc (.cells #[.int .i64 (k : Int)] 3)) w7 true false = fun W => W = w6.drew.alloc (.cells #[.int .i64 (k : Int)] 3)) := hid rfl
      have S2 : Hid (SN w6.drew (w6.drew.alloc (.cells #[.int .i64 (k : Int)] 3)) w7 true true = fun W => W = w7) := hid rfl
      generalize SN w6.drew (w6.drew.alloc (.cells #[.int .i64 (k : Int)] 3)) w7 = SS at *
      refine wp_region_flowN 17 15 16 SS (by kernel_rfl) (by kernel_rfl) (by kernel_rfl) (by decide) (by decide) (by rw [S0.out]) ?_
      (repeat (first | (refine FlowN.skip (by rfl) (by rfl) (by rfl) ?_; simp only [Act.put, List.setIfInBounds_toArray, List.set_cons_zero, List.set_cons_succ]) | (refine' FlowN.take _ (by rfl) (by rfl) (by rfl) (fun W hW R hR => ?_) ?_; rotate_left; (go_simp; (try go_bits); with_reducible exact hR); simp only [Act.put, List.setIfInBounds_toArray, List.set_cons_zero, List.set_cons_succ])))
      refine FlowN.mark1 (.slice (some ⟨w6.heap.size, 0, none⟩) 1 1) (by rfl) (by rfl) (by rfl) (fun W hW => ⟨w6.drew.alloc (.cells #[.int .i64 (k : Int)] 3), ?_, by rw [S1.out]⟩) ?_
      · rw [S0.out] at hW
        subst hW
        go_simp
      simp only [Act.put, List.setIfInBounds_toArray, List.set_cons_zero, List.set_cons_succ]
      refine FlowN.mark2 (.slice (some ⟨g2, 0, none⟩) ((idxI g.es k q).length + 1) cap2) (by rfl) (by rfl) (by rfl) (fun W hW => ⟨w7, ?_, by rw [S2.out]⟩) ?_
      · rw [S1.out] at hW
        subst hW
        exact exec_append (Operand.tmp 45) (Operand.tmp 47) 34 rfl rfl rfl hrun'.out
      simp only [Act.put, List.setIfInBounds_toArray, List.set_cons_zero, List.set_cons_succ]
      intro W hW
      rw [S2.out] at hW
      subst hW
      have L7 := HL8.out.below ((Below.refl w6.heap.size w6).drew.alloc (by simp) (.cells #[.int .i64 (k : Int)] 3))
      have hR2 : W.rowIs F 34 N f := L7.row.of_block (HH.out.block _ L7.row.lt (fun e => L7.ne q hqN e.symm))
      have hF2 := hR2.cell hqN
      have hFr := hR2.frozen
      obtain ⟨cF2, hcF2, -, -⟩ := hR2
      have hOF := OnlyT.of_set (show Blk W F 34 cF2 from hcF2) q (.slice (some ⟨g2, 0, none⟩) ((idxI g.es k q).length + 1) cap2)
      have kg9 := hid (kg7.out.only hOF (by decide))
      have hV9 := hid (hV7.out.only hOF (by decide))
      have L9 := hid (LL.put (y := (k : Int)) L7 hqN HH.out HO.out HVV.out)
      have hb9 := hid (LL.put_below (v := .slice (some ⟨g2, 0, none⟩) ((idxI g.es k q).length + 1) cap2) L7 (Nat.le_refl _) (by simp; have := hb8.size; omega) hqN HH.out)
      have HB8 := hid hb8
      clear c0 c6 cF L7 hcF2 hOF hb8 hne
      go_wp2
      go_roundw
      case rel =>
        refine ⟨k + 1, _, by omega, by go_num, L9.out.congr ?_, kg9.out, hV9.out, ?_⟩
        · intro p hp
          rw [idxI_succ g.es k hlt, HX2.out]
          by_cases e : p = q
          · subst e; simp [HQ.out]
          · simp only [if_neg e]; rw [if_neg (by rw [HQ.out]; omega)]; simp
        · exact (HB8.out.trans (((Below.refl w6.heap.size w6).drew.alloc (by simp) (.cells #[.int .i64 (k : Int)] 3)).mono (by have := HB8.out.size; omega))).trans hb9.out
      case measure => simp [Go.RowKit.intOf]; omega
    · obtain rfl : k = g.es.length := by omega
      have st0 : StR wr w2.heap.size gs ⟨g, V, D, E, cv, cd, ce, F, N, f, []⟩ ⟨0, V1, none, S, c1, 0, sc, List.replicate na 0, [], inp⟩ :=
        ⟨by dsimp only; rw [List.length_replicate]; exact kg, hgs, ⟨hL, hV, At64.OwnR.nil _ _, ApartR.nil, fun z hz => absurd hz (by simp)⟩, hE.below hb, hS.below hb, HCAP.out⟩
      have hbR := hb
      have x2 := (k0.below hb k0.lt).cell 2
      have hszr := hb.size
      clear hL hV kg hlt hk hb
      go_wp2
      clear x2
      generalize wr = wv at *
      go_loopw [54] (fun t wr => ∃ (k : Nat) (R : Option Addr) (rc : Nat) (zs : List At64.R1), k ≤ g.sz.length ∧ t = .int .i64 k ∧ zs.map (·.1) = (g.sz.take k).map (fun s => List.replicate s.toNat 0) ∧ StR wr w2.heap.size gs ⟨g, V, D, E, cv, cd, ce, F, N, f, []⟩ ⟨0, V1, R, S, c1, rc, sc, List.replicate na 0, zs, inp⟩ ∧ Below w2.heap.size w2 wr) (fun t _ => g.sz.length - (Go.RowKit.intOf t).toNat)
      case atStart => exact ⟨0, none, 0, [], by omega, rfl, rfl, st0, hbR⟩
      case round =>
        clear st0 hbR
        obtain ⟨q, R, rc, zs, hk, rfl, hz, st, hb⟩ := hrel
        by_cases hlt : q < g.sz.length
        · have hlt' : (q : Int) < (g.sz.length : Int) := by omega
          have hcz := HCZ.out _ (gI_mem hlt)
          obtain ⟨b2, off2, s2, rfl, hB2, ca2, cb2⟩ := (hD.below hb).size hlt
          obtain ⟨nk, hnk⟩ := Int.eq_ofNat_of_zero_le (show 0 ≤ gI g.sz (q : Int) by omega)
          have hz2 : zs.length = q := by have := congrArg List.length hz; simp at this; omega
          have HZ : Hid ((zs ++ [((List.replicate nk (0 : Int), (none : Option Addr), 0) : At64.R1)]).map (fun (z : At64.R1) => z.1) = (g.sz.take (q + 1)).map (fun s => List.replicate s.toNat (0 : Int))) := hid (by
            rw [List.map_append, hz, List.take_succ_eq_append_getElem hlt, List.map_append]
            have : gI g.sz (q : Int) = g.sz[q] := by unfold gI; simp [hlt]
            rw [← this, hnk]; rfl)
          rw [hnk] at cb2 hcz
          have hnk0 : 1 ≤ (nk : Int) := hcz.1
          have hnk1 : (nk : Int) ≤ 1024 := hcz.2
          have HNK := hid (show nk ≤ 1024 by omega)
          have HZL := hid hz2
          clear hz2 hnk hcz hz
          go_upto_region 10 with fail
          have n6 := new1 wr (.cells #[.string s2, .int .i64 (nk : Int)] 60)
          have k6 := Blk.new wr 60 #[.string s2, .int .i64 (nk : Int)]
          have st6 := st.up n6
          have hb6 : Below w2.heap.size w2 (wr.alloc (.cells #[.string s2, .int .i64 (nk : Int)] 60)) := hb.trans (n6.mono hb.size)
          clear ca2 cb2 n6 st hb
          generalize wr.alloc (.cells #[.string s2, .int .i64 (nk : Int)] 60) = w6 at *
          obtain ⟨A3, c3, w9, hrun, hm9, hO9, hb9, -⟩ := new_row (w := w6.drew) (st6.mem.up (Below.refl _ _).drew) st6.le nk HNK.out (by have := HZL.out; dsimp only; omega)
          dsimp only at hm9 hrun
          have hrun' : (Builtin.append_ #[45, 45] 45 #[.slice R zs.length rc, .slice (some ⟨w6.heap.size + 1, 0, none⟩) 1 1]).run Tryz.prog ((w6.drew.alloc (.cells (zcells nk) 2)).alloc (.cells #[.slice (some ⟨w6.heap.size, 0, none⟩) nk nk] 28)) = .ok (.slice A3 (zs.length + 1) c3) w9 := hrun
          have FB : ∀ W, AnyB3 (SO w6.drew (w6.drew.alloc (.cells (zcells nk) 2)) ((w6.drew.alloc (.cells (zcells nk) 2)).alloc (.cells #[.slice (some ⟨w6.heap.size, 0, none⟩) nk nk] 28)) w9) W → OnlyT 28 w6 W := fun W hW => by
            rcases SO.any hW with rfl | rfl | rfl | rfl
            · exact OnlyT.of_below _ (Below.refl _ _).drew
            · exact OnlyT.of_below _ ((Below.refl w6.heap.size w6).drew.trans (show Below w6.heap.size w6.drew _ from new1 w6.drew _))
            · exact OnlyT.of_below _ (((Below.refl w6.heap.size w6).drew.trans (show Below w6.heap.size w6.drew _ from new1 w6.drew _)).trans ((new1 _ _).mono (by simp)))
            · exact (OnlyT.of_below _ (Below.refl _ w6).drew).trans hO9
          have d9 : ∀ W, AnyB3 (SO w6.drew (w6.drew.alloc (.cells (zcells nk) 2)) ((w6.drew.alloc (.cells (zcells nk) 2)).alloc (.cells #[.slice (some ⟨w6.heap.size, 0, none⟩) nk nk] 28)) w9) W → W.cell? ⟨gs, 9, none⟩ = some (.slice R zs.length rc) := fun W hW => (st6.blk.only (FB W hW) (by decide)).cell 9
          have dd : ∀ W, AnyB3 (SO w6.drew (w6.drew.alloc (.cells (zcells nk) 2)) ((w6.drew.alloc (.cells (zcells nk) 2)).alloc (.cells #[.slice (some ⟨w6.heap.size, 0, none⟩) nk nk] 28)) w9) W → W.cell? ⟨wr.heap.size, 1, none⟩ = some (.int .i64 (nk : Int)) := fun W hW => (k6.only (FB W hW) (by decide)).cell 1
          have S0 : Hid (SO w6.drew (w6.drew.alloc (.cells (zcells nk) 2)) ((w6.drew.alloc (.cells (zcells nk) 2)).alloc (.cells #[.slice (some ⟨w6.heap.size, 0, none⟩) nk nk] 28)) w9 false false false = fun W => W = w6.drew) := hid rfl
          have S1 : Hid (SO w6.drew (w6.drew.alloc (.cells (zcells nk) 2)) ((w6.drew.alloc (.cells (zcells nk) 2)).alloc (.cells #[.slice (some ⟨w6.heap.size, 0, none⟩) nk nk] 28)) w9 true false false = fun W => W = w6.drew.alloc (.cells (zcells nk) 2)) := hid rfl
          have S2 : Hid (SO w6.drew (w6.drew.alloc (.cells (zcells nk) 2)) ((w6.drew.alloc (.cells (zcells nk) 2)).alloc (.cells #[.slice (some ⟨w6.heap.size, 0, none⟩) nk nk] 28)) w9 true true false = fun W => W = (w6.drew.alloc (.cells (zcells nk) 2)).alloc (.cells #[.slice (some ⟨w6.heap.size, 0, none⟩) nk nk] 28)) := hid rfl
          have S3 : Hid (SO w6.drew (w6.drew.alloc (.cells (zcells nk) 2)) ((w6.drew.alloc (.cells (zcells nk) 2)).alloc (.cells #[.slice (some ⟨w6.heap.size, 0, none⟩) nk nk] 28)) w9 true true true = fun W => W = w9) := hid rfl
          have HP := hid (StR.rowed st6 hm9 ((OnlyT.of_below _ (Below.refl _ w6).drew).trans hO9) ((Below.refl _ w6).drew.trans hb9) (n' := zs.length + 1) (by simp))
          have HB6 := hid (hb6.trans ((Below.refl _ w6).drew.trans hb9))
          have HR3 := hid hrun'
          have k9 := st6.blk.only ((OnlyT.of_below _ (Below.refl _ w6).drew).trans hO9) (by decide)
          have HFZ := hid (k9.fr 9)
          have HC9 := hid (k9.cell 9)
          have hmk2 := hid (run_make64 nk (by omega))
          generalize SO w6.drew (w6.drew.alloc (.cells (zcells nk) 2)) ((w6.drew.alloc (.cells (zcells nk) 2)).alloc (.cells #[.slice (some ⟨w6.heap.size, 0, none⟩) nk nk] 28)) w9 = SS at *
          clear hrun hrun' hm9 hO9 hb9 FB k6 k9 st6 hb6
          refine wp_region_flowO 10 7 8 9 SS (by kernel_rfl) (by kernel_rfl) (by kernel_rfl) (by kernel_rfl) (by decide) (by decide) (by decide) (by rw [S0.out]) ?_
          (repeat (refine' FlowO.take _ (by rfl) (by rfl) (by rfl) (by rfl) (fun W hW R hR => ?_) ?_; rotate_left; (go_simp; (try go_bits); with_reducible exact hR); simp only [Act.put, List.setIfInBounds_toArray, List.set_cons_zero, List.set_cons_succ]))
          refine FlowO.mark1 (.slice (some ⟨w6.heap.size, 0, none⟩) nk nk) (by rfl) (by rfl) (by rfl) (by rfl) (fun W hW => ⟨w6.drew.alloc (.cells (zcells nk) 2), ?_, by rw [S1.out]⟩) ?_
          · rw [S0.out] at hW
            subst hW
            have hmk3 := hmk2.out w6.drew
            go_simp
          simp only [Act.put, List.setIfInBounds_toArray, List.set_cons_zero, List.set_cons_succ]
          refine FlowO.mark2 (.slice (some ⟨w6.heap.size + 1, 0, none⟩) 1 1) (by rfl) (by rfl) (by rfl) (by rfl) (fun W hW => ⟨(w6.drew.alloc (.cells (zcells nk) 2)).alloc (.cells #[.slice (some ⟨w6.heap.size, 0, none⟩) nk nk] 28), ?_, by rw [S2.out]⟩) ?_
          · rw [S1.out] at hW
            subst hW
            go_simp
          simp only [Act.put, List.setIfInBounds_toArray, List.set_cons_zero, List.set_cons_succ]
          refine FlowO.mark3 (.slice A3 (zs.length + 1) c3) (by rfl) (by rfl) (by rfl) (by rfl) (fun W hW => ⟨w9, ?_, by rw [S3.out]⟩) ?_
          · rw [S2.out] at hW
            subst hW
            exact exec_append _ _ 45 rfl rfl rfl HR3.out
          simp only [Act.put, List.setIfInBounds_toArray, List.set_cons_zero, List.set_cons_succ]
          intro W hW
          rw [S3.out] at hW
          subst hW
          have hfz := HFZ.out
          have hc9 : W.cell? ⟨gs, 9, none⟩ = some (.slice R zs.length rc) := HC9.out
          clear d9 dd
          go_wp2
          go_roundw
          case rel => exact ⟨q + 1, A3, c3, _, by omega, by go_num, by rw [← HZ.out]; simp, HP.out.1, HB6.out.trans HP.out.2⟩
          case measure => simp [Go.RowKit.intOf]; omega
        · obtain rfl : q = g.sz.length := by omega
          rw [List.take_length] at hz
          have HZ := hid hz
          have HST := hid st
          have HB := hid ((hb0.trans (hb.mono (by omega))))
          clear hz st hb hlt hk
          go_wp2
          go_ret
          exact ⟨gs, F, N, f, ⟨0, V1, R, S, c1, rc, sc, List.replicate na 0, zs, inp⟩, rfl, HN.out, StR.lessE HST.out (by omega) (HE0.out.below HB.out) (HS0.out.below HB.out), ⟨rfl, (by show List.replicate na 0 = List.replicate g.all.toNat 0; rw [show g.all.toNat = na by have := HNA.out; unfold Gr.all; omega]), (by show zs.map _ = g.sz.map _; exact HZ.out), rfl⟩, rfl, HB.out⟩
end Go.Proofs.YtkncebcekhfnfaaGreat
