/-
  step.Run: how a run ends, and behind how many steps. (Printed by gen_srun.py.)
-/
import Derived.Test.YtkncebcekhfnfaaGreatBWT28
import Derived.Test.YtkncebcekhfnfaaGreatBWT31
import Derived.Deep.DeepCutAuto
import Derived.Deep.CutBlock
namespace Go.Proofs.YtkncebcekhfnfaaGreat
open Go.RowKit
attribute [local go_sem ↓] Go.wp_at_zero Go.wp_at_succ

/-- How a run ends: its status, the steps; the rest is not told. -/
def RunRes (g : Gr) (inp : List Int) (k : Int) (w : World) (e : Ending) (w' : World) : Prop :=
  ∃ (st wr ns p : Int) (eA vA aA : Option Addr) (en ec vn vc an ac : Nat), e = .returned (.tuple #[.agg #[.int .i64 st, .int .i64 wr, .int .i64 ns, .slice eA en ec, .slice vA vn vc, .slice aA an ac], .int .i64 p, .int .i64 (fuelE inp.length k)]) ∧
    (fuelE inp.length k = 0 → (st = 3 ∧ ns = (lenW g (mZero g inp) k.toNat : Int) + 1) ∨ (st ≠ 3 ∧ ns = (lenW g (mZero g inp) k.toNat : Int))) ∧ Below w.heap.size w w'
theorem fuel_bad {l : Nat} {k : Int} (h : k < 0 ∨ 65536 < k ∨ 65536 < (l : Int)) : fuelE l k = 80 := by unfold fuelE; rw [if_pos h]
theorem fuel_ok {l : Nat} {k : Int} (h : ¬ (k < 0 ∨ 65536 < k ∨ 65536 < (l : Int))) : fuelE l k = 0 := by unfold fuelE; rw [if_neg h]
def InS (S : World → Prop) (W : World) : Prop := S W
def outV (st wr ns : Int) : Array Value := #[.int .i64 st, .int .i64 wr, .int .i64 ns, .slice none 0 0, .slice none 0 0, .slice none 0 0]
/-- So far all steps went right. -/
def RunInv (g : Gr) (inp : List Int) (kn : Nat) (w2 : World) (gs gq gt : Nat) (r : RP) (c : Nat) (wr : World) : Prop :=
  c ≤ kn ∧ (∀ j, j < c → okW g (mAt g (mZero g inp) j) = true) ∧ ∃ m ev, m.p = ((mAt g (mZero g inp) c).p : Int) ∧ m.xs = (mAt g (mZero g inp) c).xs ∧ m.ls = (mAt g (mZero g inp) c).ls ∧ m.inp = (mAt g (mZero g inp) c).inp ∧
    StA wr w2.heap.size gs r m ev c ∧ Blk wr gq 99 (outV 1 0 c) ∧ Blk wr gt 150 tableV ∧ Below w2.heap.size w2 wr
/-- The run has ended. -/
def CutEnd (g : Gr) (inp : List Int) (kn na : Nat) (w2 : World) (gs gq : Nat) (r : RP) (wx : World) : Prop :=
  ∃ (st wrg ns : Int) (m : MS) (ev : Value) (n : Nat), Blk wx gq 99 (outV st wrg ns) ∧ ((st = 3 ∧ ns = (lenW g (mZero g inp) kn : Int) + 1) ∨ (st ≠ 3 ∧ ns = (lenW g (mZero g inp) kn : Int))) ∧ StA wx w2.heap.size gs r m ev n ∧ m.xs.length = na ∧ Below w2.heap.size w2 wx
set_option maxRecDepth 8000 in
set_option maxHeartbeats 16000000 in
theorem srun_ok (g : Gr) (V D E : Option Addr) (cv cd ce : Nat) (inp : List Int) (S : Option Addr) (sc : Nat) (k : Int) (w : World) (hD : RdD w w.heap.size D g.sz) (hE : RdE w w.heap.size E g.es) (hS : Rd w w.heap.size S inp) (hcap : inp.length ≤ sc) (hc : chk g = 0)
    (hi : ∀ e ∈ g.es, I64 e.an ∧ I64 e.bn) (hI : I64s inp) (hlm : inp.length ≤ 17592186044416) :
    Calls Tryz.prog 49 #[grV g V D E cv cd ce, .slice S inp.length sc, .int .i64 k] w (RunRes g inp k w) := by
  obtain ⟨ct0, ct1, ca, ces, csz, cz, cr⟩ := chk_parts hc
  have hall : g.all = g.nv + g.tm := rfl
  obtain ⟨na, hna⟩ : ∃ na : Nat, (g.nv : Int) + g.tm = (na : Int) := ⟨((g.nv : Int) + g.tm).toNat, by omega⟩
  have HNA := hid hna
  have hna64 : na ≤ 64 := by omega
  have hnv : (g.nv : Int) ≤ 64 := by omega
  have hs0 : 0 ≤ (g.nv : Int) + g.tm := by omega
  have hs1 : (g.nv : Int) + g.tm ≤ 64 := by omega
  have HC := hid hc
  have HI := hid hi
  have HII := hid hI
  have HCR := hid cr
  have HCZ := hid cz
  have HCK : Hid (∀ W, RdD W W.heap.size D g.sz → RdE W W.heap.size E g.es → Calls Tryz.prog 25 #[.agg #[.slice V g.nv cv, .int .i64 g.tm, .slice D g.sz.length cd, .int .i64 g.pts, .int .i64 g.ex, .slice E g.es.length ce]] W fun e w' => e = .returned (.int .i64 0) ∧ Below W.heap.size W w') := hid (fun W h1 h2 => by
    have := gcheck_any g V D E cv cd ce W h1 h2 (by omega) (by omega) (by omega)
    rw [hc] at this
    exact this)
  have HOU := hid (fun W (h : RdE W W.heap.size E g.es) => (souts_ok g V D E cv cd ce W h hc ces))
  have hmk := run_make64 na (by omega)
  rw [← hna] at hmk
  have n0 := new1 w (.cells #[.slice V g.nv cv, .int .i64 g.tm, .slice D g.sz.length cd, .int .i64 g.pts, .int .i64 g.ex, .slice E g.es.length ce] 26)
  have n1 := new1 (w.alloc (.cells #[.slice V g.nv cv, .int .i64 g.tm, .slice D g.sz.length cd, .int .i64 g.pts, .int .i64 g.ex, .slice E g.es.length ce] 26)) (.cells #[.int .i64 0, .int .i64 0, .int .i64 0, .slice none 0 0, .slice none 0 0, .slice none 0 0] 99)
  have k0 := (Blk.new w 26 #[.slice V g.nv cv, .int .i64 g.tm, .slice D g.sz.length cd, .int .i64 g.pts, .int .i64 g.ex, .slice E g.es.length ce]).later n1
  have kr := Blk.new (w.alloc (.cells #[.slice V g.nv cv, .int .i64 g.tm, .slice D g.sz.length cd, .int .i64 g.pts, .int .i64 g.ex, .slice E g.es.length ce] 26)) 99 #[.int .i64 0, .int .i64 0, .int .i64 0, .slice none 0 0, .slice none 0 0, .slice none 0 0]
  rw [show (w.alloc (.cells #[.slice V g.nv cv, .int .i64 g.tm, .slice D g.sz.length cd, .int .i64 g.pts, .int .i64 g.ex, .slice E g.es.length ce] 26)).heap.size = w.heap.size + 1 by simp] at kr
  have hb0 := bup n0 n1
  replace hD := hD.up hb0
  replace hE := hE.up hb0
  replace hS := hS.up hb0
  clear n0 n1 hc hi hI cr cz hna hall ca
  unfold grV
  go_enter Tryz.func49, Tryz.ntmps49
  go_upto_region 1 with fail
  generalize (w.alloc (.cells #[.slice V g.nv cv, .int .i64 g.tm, .slice D g.sz.length cd, .int .i64 g.pts, .int .i64 g.ex, .slice E g.es.length ce] 26)).alloc (.cells #[.int .i64 0, .int .i64 0, .int .i64 0, .slice none 0 0, .slice none 0 0, .slice none 0 0] 99) = w1 at *
  obtain ⟨f0, f1, f2, f3, f4, f5, ff⟩ := blk6 k0
  go_wp2_with fail
  clear f0 f1 f2 f3 f4 f5 ff
  (with_reducible refine (HCK.out w1 hD hE).mono ?_)
  rintro e1 w2 ⟨rfl, hb2⟩
  replace k0 := k0.later hb2
  replace kr := kr.later hb2
  replace hD := hD.up hb2
  replace hE := hE.up hb2
  replace hS := hS.up hb2
  replace hb0 := bup hb0 hb2
  clear hb2 HCK
  by_cases q1 : k < 0
  · have HF := hid (fuel_bad (l := inp.length) (k := k) (.inl q1))
    have HB := hid (below6 (W := w2) (B := w.heap.size) (g := w.heap.size + 1) (v0 := .int .i64 0) (v1 := .int .i64 0) (v2 := .int .i64 0) (v3 := .slice none 0 0) (v4 := .slice none 0 0) (v5 := .slice none 0 0) (by omega) hb0.size)
    have K6 := hid (kr.set6 (v0 := .int .i64 0) (v1 := .int .i64 0) (v2 := .int .i64 0) (v3 := .slice none 0 0) (v4 := .slice none 0 0) (v5 := .slice none 0 0))
    obtain ⟨f0, f1, f2, f3, f4, f5, ff⟩ := blk6 kr
    go_wp2
    clear f0 f1 f2 f3 f4 f5 ff
    obtain ⟨f0, f1, f2, f3, f4, f5, ff⟩ := blk6 K6.out
    refine bodyPost_ret (v := .tuple #[.agg #[.int .i64 0, .int .i64 0, .int .i64 0, .slice none 0 0, .slice none 0 0, .slice none 0 0], .int .i64 0, .int .i64 80]) (by simp [results, Tryz.results49, go_sem, f0, f1, f2, f3, f4, f5]) rfl ?_
    exact ⟨0, 0, 0, 0, none, none, none, 0, 0, 0, 0, 0, 0, by rw [HF.out], fun q => absurd (HF.out.symm.trans q) (by decide), hb0.trans HB.out⟩
  by_cases q2 : 65536 < k
  · have HF := hid (fuel_bad (l := inp.length) (k := k) (.inr (.inl q2)))
    have HB := hid (below6 (W := w2) (B := w.heap.size) (g := w.heap.size + 1) (v0 := .int .i64 0) (v1 := .int .i64 0) (v2 := .int .i64 0) (v3 := .slice none 0 0) (v4 := .slice none 0 0) (v5 := .slice none 0 0) (by omega) hb0.size)
    have K6 := hid (kr.set6 (v0 := .int .i64 0) (v1 := .int .i64 0) (v2 := .int .i64 0) (v3 := .slice none 0 0) (v4 := .slice none 0 0) (v5 := .slice none 0 0))
    obtain ⟨f0, f1, f2, f3, f4, f5, ff⟩ := blk6 kr
    go_wp2
    clear f0 f1 f2 f3 f4 f5 ff
    obtain ⟨f0, f1, f2, f3, f4, f5, ff⟩ := blk6 K6.out
    refine bodyPost_ret (v := .tuple #[.agg #[.int .i64 0, .int .i64 0, .int .i64 0, .slice none 0 0, .slice none 0 0, .slice none 0 0], .int .i64 0, .int .i64 80]) (by simp [results, Tryz.results49, go_sem, f0, f1, f2, f3, f4, f5]) rfl ?_
    exact ⟨0, 0, 0, 0, none, none, none, 0, 0, 0, 0, 0, 0, by rw [HF.out], fun q => absurd (HF.out.symm.trans q) (by decide), hb0.trans HB.out⟩
  by_cases q3 : 65536 < (inp.length : Int)
  · have HF := hid (fuel_bad (l := inp.length) (k := k) (.inr (.inr q3)))
    have HB := hid (below6 (W := w2) (B := w.heap.size) (g := w.heap.size + 1) (v0 := .int .i64 0) (v1 := .int .i64 0) (v2 := .int .i64 0) (v3 := .slice none 0 0) (v4 := .slice none 0 0) (v5 := .slice none 0 0) (by omega) hb0.size)
    have K6 := hid (kr.set6 (v0 := .int .i64 0) (v1 := .int .i64 0) (v2 := .int .i64 0) (v3 := .slice none 0 0) (v4 := .slice none 0 0) (v5 := .slice none 0 0))
    obtain ⟨f0, f1, f2, f3, f4, f5, ff⟩ := blk6 kr
    go_wp2
    clear f0 f1 f2 f3 f4 f5 ff
    obtain ⟨f0, f1, f2, f3, f4, f5, ff⟩ := blk6 K6.out
    refine bodyPost_ret (v := .tuple #[.agg #[.int .i64 0, .int .i64 0, .int .i64 0, .slice none 0 0, .slice none 0 0, .slice none 0 0], .int .i64 0, .int .i64 80]) (by simp [results, Tryz.results49, go_sem, f0, f1, f2, f3, f4, f5]) rfl ?_
    exact ⟨0, 0, 0, 0, none, none, none, 0, 0, 0, 0, 0, 0, by rw [HF.out], fun q => absurd (HF.out.symm.trans q) (by decide), hb0.trans HB.out⟩
  have HF := hid (fuel_ok (l := inp.length) (k := k) (by omega))
  obtain ⟨kn, rfl⟩ := Int.eq_ofNat_of_zero_le (show 0 ≤ k by omega)
  have hkn : kn ≤ 65536 := by omega
  have t1 : decide ((kn : Int) < 0) = false := decide_eq_false q1
  have t2 : decide (65536 < (kn : Int)) = false := decide_eq_false q2
  have t3 : decide (65536 < (inp.length : Int)) = false := decide_eq_false q3
  clear q1 q2 q3
  go_upto_region 6 with fail
  clear t1 t2 t3
  obtain ⟨f0, f1, f2, f3, f4, f5, ff⟩ := blk6 k0
  have l0 := laterE f0
  have l1 := laterE f1
  have l2 := laterE f2
  have l3 := laterE f3
  have l4 := laterE f4
  have l5 := laterE f5
  clear f0 f1 f2 f3 f4 f5 ff
  refine wp_region_flowE 11 [Sp.val (.agg #[.slice V g.nv cv, .int .i64 g.tm, .slice D g.sz.length cd, .int .i64 g.pts, .int .i64 g.ex, .slice E g.es.length ce]), Sp.val (.agg #[.slice V g.nv cv, .int .i64 g.tm, .slice D g.sz.length cd, .int .i64 g.pts, .int .i64 g.ex, .slice E g.es.length ce]), Sp.any (IsOuts w2.heap.size g), Sp.val (.pointer (some ⟨w.heap.size, 0, none⟩)), Sp.val (.slice V g.nv cv), Sp.val (.int .i64 (g.nv : Int)), Sp.val (.pointer (some ⟨w.heap.size, 1, none⟩)), Sp.val (.int .i64 g.tm), Sp.val (.int .i64 ((g.nv : Int) + g.tm)), Sp.any (IsIntsB w2.heap.size (List.replicate na 0)), Sp.val (.slice S inp.length sc)] (by kernel_rfl) (by kernel_rfl) ?_
  (refine FlowE.take (by rfl) (fun W hW R hR => ?_) (fun _ _ => ?_); (go_simp; (try go_bits); with_reducible exact hR); simp only [Act.put, List.setIfInBounds_toArray, List.set_cons_zero, List.set_cons_succ])
  (refine FlowE.take (by rfl) (fun W hW R hR => ?_) (fun _ _ => ?_); (go_simp; (try go_bits); with_reducible exact hR); simp only [Act.put, List.setIfInBounds_toArray, List.set_cons_zero, List.set_cons_succ])
  refine FlowE.call 82 #[.agg #[.slice V g.nv cv, .int .i64 g.tm, .slice D g.sz.length cd, .int .i64 g.pts, .int .i64 g.ex, .slice E g.es.length ce]] (by rfl) (fun W hW => by go_simp) (fun W hW => (HOU.out W (hE.up (Ext.trans (Below.refl _ _).drew hW))).mono fun e w3 ⟨N, F, f, e1, e2, e3, e4⟩ => ⟨_, e2, e4, N, F, f, e1, rfl, e3.less (Ext.trans (Below.refl _ _).drew hW).size⟩) (fun v2 lo2 hi2 => ?_)
  simp only [Act.put, List.setIfInBounds_toArray, List.set_cons_zero, List.set_cons_succ]
  (refine FlowE.take (by rfl) (fun W hW R hR => ?_) (fun _ _ => ?_); (go_simp; (try go_bits); with_reducible exact hR); simp only [Act.put, List.setIfInBounds_toArray, List.set_cons_zero, List.set_cons_succ])
  (refine FlowE.take (by rfl) (fun W hW R hR => ?_) (fun _ _ => ?_); (go_simp; (try go_bits); with_reducible exact hR); simp only [Act.put, List.setIfInBounds_toArray, List.set_cons_zero, List.set_cons_succ])
  (refine FlowE.take (by rfl) (fun W hW R hR => ?_) (fun _ _ => ?_); (go_simp; (try go_bits); with_reducible exact hR); simp only [Act.put, List.setIfInBounds_toArray, List.set_cons_zero, List.set_cons_succ])
  (refine FlowE.take (by rfl) (fun W hW R hR => ?_) (fun _ _ => ?_); (go_simp; (try go_bits); with_reducible exact hR); simp only [Act.put, List.setIfInBounds_toArray, List.set_cons_zero, List.set_cons_succ])
  (refine FlowE.take (by rfl) (fun W hW R hR => ?_) (fun _ _ => ?_); (go_simp; (try go_bits); with_reducible exact hR); simp only [Act.put, List.setIfInBounds_toArray, List.set_cons_zero, List.set_cons_succ])
  (refine FlowE.take (by rfl) (fun W hW R hR => ?_) (fun _ _ => ?_); (go_simp; (try go_bits); with_reducible exact hR); simp only [Act.put, List.setIfInBounds_toArray, List.set_cons_zero, List.set_cons_succ])
  refine FlowE.step (by rfl) (fun W hW K hK => ?_) (fun v9 lo9 hi9 => ?_)
  · go_simp
    exact hK _ _ (new1 _ _) ⟨_, _, by rw [List.length_replicate], own_made W (Ext.trans (Below.refl _ _).drew hW).size (by omega)⟩
  simp only [Act.put, List.setIfInBounds_toArray, List.set_cons_zero, List.set_cons_succ]
  (refine FlowE.take (by rfl) (fun W hW R hR => ?_) (fun _ _ => ?_); (go_simp; (try go_bits); with_reducible exact hR); simp only [Act.put, List.setIfInBounds_toArray, List.set_cons_zero, List.set_cons_succ])
  refine FlowE.tail (fun W hW hf hd => ?_)
  replace hW : Below w2.heap.size w2 W := Ext.trans (Below.refl _ _).drew hW
  obtain ⟨N, F, f, hN, rfl, hLL⟩ := fact_outs (show Sp.fact w2.drew (Sp.any (IsOuts w2.heap.size g)) v2 lo2 hi2 W from hf 2)
  obtain ⟨V1, c1, rfl, hOV⟩ := fact_intsB (show Sp.fact w2.drew (Sp.any (IsIntsB w2.heap.size (List.replicate na 0))) v9 lo9 hi9 W from hf 9)
  rw [List.length_replicate] at *
  have HN := hid hN
  clear hf hd l0 l1 l2 l3 l4 l5 HOU hmk hN
  go_upto_region 7 with fail
  have n3 := new1 W (.cells #[.slice V g.nv cv, .int .i64 g.tm, .slice D g.sz.length cd, .int .i64 g.pts, .int .i64 g.ex, .slice E g.es.length ce, .slice (some ⟨F, 0, none⟩) N N, .int .i64 0, .slice V1 na c1, .slice none 0 0, .slice S inp.length sc, .slice none 0 0] 147)
  have k3 := Blk.new W 147 #[.slice V g.nv cv, .int .i64 g.tm, .slice D g.sz.length cd, .int .i64 g.pts, .int .i64 g.ex, .slice E g.es.length ce, .slice (some ⟨F, 0, none⟩) N N, .int .i64 0, .slice V1 na c1, .slice none 0 0, .slice S inp.length sc, .slice none 0 0]
  have hbW : Below w2.heap.size w2 (W.alloc (.cells #[.slice V g.nv cv, .int .i64 g.tm, .slice D g.sz.length cd, .int .i64 g.pts, .int .i64 g.ex, .slice E g.es.length ce, .slice (some ⟨F, 0, none⟩) N N, .int .i64 0, .slice V1 na c1, .slice none 0 0, .slice S inp.length sc, .slice none 0 0] 147)) := hW.trans (n3.mono hW.size)
  have st0 : StA (W.alloc (.cells #[.slice V g.nv cv, .int .i64 g.tm, .slice D g.sz.length cd, .int .i64 g.pts, .int .i64 g.ex, .slice E g.es.length ce, .slice (some ⟨F, 0, none⟩) N N, .int .i64 0, .slice V1 na c1, .slice none 0 0, .slice S inp.length sc, .slice none 0 0] 147)) w2.heap.size W.heap.size ⟨g, V, D, E, cv, cd, ce, F, N, f, []⟩ ⟨0, V1, none, S, c1, 0, sc, List.replicate na 0, [], inp⟩ (.slice none 0 0) 0 :=
    ⟨by dsimp only; rw [List.length_replicate]; exact k3, hW.size, ⟨hLL.below n3, hOV.below n3, At64.OwnR.nil _ _, ApartR.nil, fun z hz => absurd hz (by simp)⟩, hE.below hbW, hS.below hbW, hcap, ⟨0, [], World.ownsRow_nil _ _ _ _, Nat.le_refl _⟩, fun k hk => absurd hk (by simp)⟩
  have hg0 : w.heap.size + 1 < w2.heap.size := kr.lt
  have x2 := (k0.below hbW k0.lt).cell 2
  clear hLL hOV hW n3 k3
  have HCAP := hid hcap
  clear hcap
  have hgs : w2.heap.size ≤ W.heap.size := st0.ge
  generalize W.heap.size = gs at *
  generalize W.alloc (.cells #[.slice V g.nv cv, .int .i64 g.tm, .slice D g.sz.length cd, .int .i64 g.pts, .int .i64 g.ex, .slice E g.es.length ce, .slice (some ⟨F, 0, none⟩) N N, .int .i64 0, .slice V1 na c1, .slice none 0 0, .slice S inp.length sc, .slice none 0 0] 147) = w3 at *
  go_wp2
  clear x2
  go_loopw [52] (fun t wr => ∃ (k : Nat) (R : Option Addr) (rc : Nat) (zs : List At64.R1), k ≤ g.sz.length ∧ t = .int .i64 k ∧ zs.map (·.1) = (g.sz.take k).map (fun s => List.replicate s.toNat 0) ∧ StA wr w2.heap.size gs ⟨g, V, D, E, cv, cd, ce, F, N, f, []⟩ ⟨0, V1, R, S, c1, rc, sc, List.replicate na 0, zs, inp⟩ (.slice none 0 0) 0 ∧ Below w2.heap.size w2 wr) (fun t _ => g.sz.length - (Go.RowKit.intOf t).toNat)
  case atStart => exact ⟨0, none, 0, [], by omega, rfl, rfl, st0, hbW⟩
  case round =>
    clear st0 hbW
    obtain ⟨q, R, rc, zs, hk, rfl, hz, st, hb⟩ := hrel
    by_cases hlt : q < g.sz.length
    · have hlt' : (q : Int) < (g.sz.length : Int) := by omega
      have hcz := HCZ.out _ (gI_mem hlt)
      obtain ⟨b2, off2, s2, rfl, hB2, ca2, cb2⟩ := (hD.below hb).size hlt
      obtain ⟨nk, hnk⟩ := Int.eq_ofNat_of_zero_le (show 0 ≤ gI g.sz (q : Int) by omega)
      have hz2 : zs.length = q := by have := congrArg List.length hz; simp at this; omega
      have HZ : Hid ((zs ++ [((List.replicate nk (0 : Int), (none : Option Addr), 0) : At64.R1)]).map (fun (z : At64.R1) => z.1) = (g.sz.take (q + 1)).map (fun s => List.replicate s.toNat (0 : Int))) := hid (by
        rw [List.map_append, hz, List.take_succ_eq_append_getElem hlt, List.map_append]
        have : gI g.sz (q : Int) = g.sz[q] := by unfold gI; simp [hlt]
        rw [← this, hnk]; rfl)
      rw [hnk] at cb2 hcz
      have hnk0 : 1 ≤ (nk : Int) := hcz.1
      have hnk1 : (nk : Int) ≤ 1024 := hcz.2
      have HNK := hid (show nk ≤ 1024 by omega)
      have HZL := hid hz2
      clear hz2 hnk hcz hz
      go_upto_region 10 with fail
      have n6 := new1 wr (.cells #[.string s2, .int .i64 (nk : Int)] 60)
      have k6 := Blk.new wr 60 #[.string s2, .int .i64 (nk : Int)]
      have st6 := st.up n6
      have hb6 : Below w2.heap.size w2 (wr.alloc (.cells #[.string s2, .int .i64 (nk : Int)] 60)) := hb.trans (n6.mono hb.size)
      clear ca2 cb2 n6 st hb
      generalize wr.alloc (.cells #[.string s2, .int .i64 (nk : Int)] 60) = w6 at *
      obtain ⟨A3, c3, w9, hrun, hm9, hO9, hb9, -⟩ := new_row (w := w6.drew) (st6.mem.up (Below.refl _ _).drew) st6.le nk HNK.out (by have := HZL.out; dsimp only; omega)
      dsimp only at hm9 hrun
      have hrun' : (Builtin.append_ #[45, 45] 45 #[.slice R zs.length rc, .slice (some ⟨w6.heap.size + 1, 0, none⟩) 1 1]).run Tryz.prog ((w6.drew.alloc (.cells (zcells nk) 2)).alloc (.cells #[.slice (some ⟨w6.heap.size, 0, none⟩) nk nk] 28)) = .ok (.slice A3 (zs.length + 1) c3) w9 := hrun
      have FB : ∀ W, AnyB3 (SO w6.drew (w6.drew.alloc (.cells (zcells nk) 2)) ((w6.drew.alloc (.cells (zcells nk) 2)).alloc (.cells #[.slice (some ⟨w6.heap.size, 0, none⟩) nk nk] 28)) w9) W → OnlyT 28 w6 W := fun W hW => by
        rcases SO.any hW with rfl | rfl | rfl | rfl
        · exact OnlyT.of_below _ (Below.refl _ _).drew
        · exact OnlyT.of_below _ ((Below.refl w6.heap.size w6).drew.trans (show Below w6.heap.size w6.drew _ from new1 w6.drew _))
        · exact OnlyT.of_below _ (((Below.refl w6.heap.size w6).drew.trans (show Below w6.heap.size w6.drew _ from new1 w6.drew _)).trans ((new1 _ _).mono (by simp)))
        · exact (OnlyT.of_below _ (Below.refl _ w6).drew).trans hO9
      have d9 : ∀ W, AnyB3 (SO w6.drew (w6.drew.alloc (.cells (zcells nk) 2)) ((w6.drew.alloc (.cells (zcells nk) 2)).alloc (.cells #[.slice (some ⟨w6.heap.size, 0, none⟩) nk nk] 28)) w9) W → W.cell? ⟨gs, 9, none⟩ = some (.slice R zs.length rc) := fun W hW => (st6.blk.only (FB W hW) (by decide)).cell 9
      have dd : ∀ W, AnyB3 (SO w6.drew (w6.drew.alloc (.cells (zcells nk) 2)) ((w6.drew.alloc (.cells (zcells nk) 2)).alloc (.cells #[.slice (some ⟨w6.heap.size, 0, none⟩) nk nk] 28)) w9) W → W.cell? ⟨wr.heap.size, 1, none⟩ = some (.int .i64 (nk : Int)) := fun W hW => (k6.only (FB W hW) (by decide)).cell 1
      have S0 : Hid (SO w6.drew (w6.drew.alloc (.cells (zcells nk) 2)) ((w6.drew.alloc (.cells (zcells nk) 2)).alloc (.cells #[.slice (some ⟨w6.heap.size, 0, none⟩) nk nk] 28)) w9 false false false = fun W => W = w6.drew) := hid rfl
      have S1 : Hid (SO w6.drew (w6.drew.alloc (.cells (zcells nk) 2)) ((w6.drew.alloc (.cells (zcells nk) 2)).alloc (.cells #[.slice (some ⟨w6.heap.size, 0, none⟩) nk nk] 28)) w9 true false false = fun W => W = w6.drew.alloc (.cells (zcells nk) 2)) := hid rfl
      have S2 : Hid (SO w6.drew (w6.drew.alloc (.cells (zcells nk) 2)) ((w6.drew.alloc (.cells (zcells nk) 2)).alloc (.cells #[.slice (some ⟨w6.heap.size, 0, none⟩) nk nk] 28)) w9 true true false = fun W => W = (w6.drew.alloc (.cells (zcells nk) 2)).alloc (.cells #[.slice (some ⟨w6.heap.size, 0, none⟩) nk nk] 28)) := hid rfl
      have S3 : Hid (SO w6.drew (w6.drew.alloc (.cells (zcells nk) 2)) ((w6.drew.alloc (.cells (zcells nk) 2)).alloc (.cells #[.slice (some ⟨w6.heap.size, 0, none⟩) nk nk] 28)) w9 true true true = fun W => W = w9) := hid rfl
      have HP := hid (StA.rowed st6 hm9 ((OnlyT.of_below _ (Below.refl _ w6).drew).trans hO9) ((Below.refl _ w6).drew.trans hb9) (n' := zs.length + 1) (by simp))
      have HB6 := hid (hb6.trans ((Below.refl _ w6).drew.trans hb9))
      have HR3 := hid hrun'
      have k9 := st6.blk.only ((OnlyT.of_below _ (Below.refl _ w6).drew).trans hO9) (by decide)
      have HFZ := hid (k9.fr 9)
      have HC9 := hid (k9.cell 9)
      have hmk2 := hid (run_make64 nk (by omega))
      generalize SO w6.drew (w6.drew.alloc (.cells (zcells nk) 2)) ((w6.drew.alloc (.cells (zcells nk) 2)).alloc (.cells #[.slice (some ⟨w6.heap.size, 0, none⟩) nk nk] 28)) w9 = SS at *
      clear hrun hrun' hm9 hO9 hb9 FB k6 k9 st6 hb6
      refine wp_region_flowO 10 7 8 9 SS (by kernel_rfl) (by kernel_rfl) (by kernel_rfl) (by kernel_rfl) (by decide) (by decide) (by decide) (by rw [S0.out]) ?_
      (repeat (refine' FlowO.take _ (by rfl) (by rfl) (by rfl) (by rfl) (fun W hW R hR => ?_) ?_; rotate_left; (go_simp; (try go_bits); with_reducible exact hR); simp only [Act.put, List.setIfInBounds_toArray, List.set_cons_zero, List.set_cons_succ]))
      refine FlowO.mark1 (.slice (some ⟨w6.heap.size, 0, none⟩) nk nk) (by rfl) (by rfl) (by rfl) (by rfl) (fun W hW => ⟨w6.drew.alloc (.cells (zcells nk) 2), ?_, by rw [S1.out]⟩) ?_
      · rw [S0.out] at hW
        subst hW
        have hmk3 := hmk2.out w6.drew
        go_simp
      simp only [Act.put, List.setIfInBounds_toArray, List.set_cons_zero, List.set_cons_succ]
      refine FlowO.mark2 (.slice (some ⟨w6.heap.size + 1, 0, none⟩) 1 1) (by rfl) (by rfl) (by rfl) (by rfl) (fun W hW => ⟨(w6.drew.alloc (.cells (zcells nk) 2)).alloc (.cells #[.slice (some ⟨w6.heap.size, 0, none⟩) nk nk] 28), ?_, by rw [S2.out]⟩) ?_
      · rw [S1.out] at hW
        subst hW
        go_simp
      simp only [Act.put, List.setIfInBounds_toArray, List.set_cons_zero, List.set_cons_succ]
      refine FlowO.mark3 (.slice A3 (zs.length + 1) c3) (by rfl) (by rfl) (by rfl) (by rfl) (fun W hW => ⟨w9, ?_, by rw [S3.out]⟩) ?_
      · rw [S2.out] at hW
        subst hW
        exact exec_append _ _ 45 rfl rfl rfl HR3.out
      simp only [Act.put, List.setIfInBounds_toArray, List.set_cons_zero, List.set_cons_succ]
      intro W hW
      rw [S3.out] at hW
      subst hW
      have hfz := HFZ.out
      have hc9 : W.cell? ⟨gs, 9, none⟩ = some (.slice R zs.length rc) := HC9.out
      clear d9 dd
      go_wp2
      go_roundw
      case rel => exact ⟨q + 1, A3, c3, _, by omega, by go_num, by rw [← HZ.out]; simp, HP.out.1, HB6.out.trans HP.out.2⟩
      case measure => simp [Go.RowKit.intOf]; omega
    · obtain rfl : q = g.sz.length := by omega
      rw [List.take_length] at hz
      have HZ := hid hz
      have n5 := new1 wr (.cells #[.int .i64 1, .int .i64 0, .int .i64 0, .slice none 0 0, .slice none 0 0, .slice none 0 0] 99)
      have k5 := Blk.new wr 99 #[.int .i64 1, .int .i64 0, .int .i64 0, .slice none 0 0, .slice none 0 0, .slice none 0 0]
      have st5 := st.up n5
      have hb5 : Below w2.heap.size w2 (wr.alloc (.cells #[.int .i64 1, .int .i64 0, .int .i64 0, .slice none 0 0, .slice none 0 0, .slice none 0 0] 99)) := hb.trans (n5.mono hb.size)
      have hgq : w2.heap.size ≤ wr.heap.size := hb.size
      have HFU := HF
      clear hz st hb n5 hlt hk HF
      go_wp2_with fail
      generalize wr.alloc (.cells #[.int .i64 1, .int .i64 0, .int .i64 0, .slice none 0 0, .slice none 0 0, .slice none 0 0] 99) = w5 at *
      generalize wr.heap.size = gq at *
      (with_reducible refine (show Calls Tryz.prog 83 #[] w5 (fun e w' => e = .returned (.agg #[.nilFunc, .func (.func 111) #[] #[], .func (.func 112) #[] #[], .func (.func 113) #[] #[], .func (.func 114) #[] #[], .func (.func 115) #[] #[], .func (.func 116) #[] #[], .func (.func 117) #[] #[], .func (.func 118) #[] #[], .func (.func 119) #[] #[], .func (.func 120) #[] #[], .func (.func 121) #[] #[], .func (.func 111) #[] #[], .func (.func 122) #[] #[], .func (.func 123) #[] #[]]) ∧ Below w5.heap.size w5 w') from by have := stable_any w5; unfold tableV at this; exact this).mono ?_)
      rintro e6 w6 ⟨rfl, hb6⟩
      replace k5 := k5.later hb6
      replace st5 := st5.up hb6
      replace hb5 := hb5.trans (hb6.mono hb5.size)
      have n7 := new1 w6 (.cells #[.nilFunc, .func (.func 111) #[] #[], .func (.func 112) #[] #[], .func (.func 113) #[] #[], .func (.func 114) #[] #[], .func (.func 115) #[] #[], .func (.func 116) #[] #[], .func (.func 117) #[] #[], .func (.func 118) #[] #[], .func (.func 119) #[] #[], .func (.func 120) #[] #[], .func (.func 121) #[] #[], .func (.func 111) #[] #[], .func (.func 122) #[] #[], .func (.func 123) #[] #[]] 150)
      have k7 : Blk (w6.alloc (.cells #[.nilFunc, .func (.func 111) #[] #[], .func (.func 112) #[] #[], .func (.func 113) #[] #[], .func (.func 114) #[] #[], .func (.func 115) #[] #[], .func (.func 116) #[] #[], .func (.func 117) #[] #[], .func (.func 118) #[] #[], .func (.func 119) #[] #[], .func (.func 120) #[] #[], .func (.func 121) #[] #[], .func (.func 111) #[] #[], .func (.func 122) #[] #[], .func (.func 123) #[] #[]] 150)) w6.heap.size 150 tableV := Blk.new w6 150 #[.nilFunc, .func (.func 111) #[] #[], .func (.func 112) #[] #[], .func (.func 113) #[] #[], .func (.func 114) #[] #[], .func (.func 115) #[] #[], .func (.func 116) #[] #[], .func (.func 117) #[] #[], .func (.func 118) #[] #[], .func (.func 119) #[] #[], .func (.func 120) #[] #[], .func (.func 121) #[] #[], .func (.func 111) #[] #[], .func (.func 122) #[] #[], .func (.func 123) #[] #[]]
      replace k5 := k5.later n7
      replace st5 := st5.up n7
      have hgt : w2.heap.size ≤ w6.heap.size := hb5.size
      replace hb5 := hb5.trans (n7.mono hb5.size)
      clear hb6 n7
      go_upto_block 2 with fail
      generalize w6.alloc (.cells #[.nilFunc, .func (.func 111) #[] #[], .func (.func 112) #[] #[], .func (.func 113) #[] #[], .func (.func 114) #[] #[], .func (.func 115) #[] #[], .func (.func 116) #[] #[], .func (.func 117) #[] #[], .func (.func 118) #[] #[], .func (.func 119) #[] #[], .func (.func 120) #[] #[], .func (.func 121) #[] #[], .func (.func 111) #[] #[], .func (.func 122) #[] #[], .func (.func 123) #[] #[]] 150) = w7 at *
      generalize w6.heap.size = gt at *
      go_cut [] (fun wx => CutEnd g inp kn na w2 gs gq ⟨g, V, D, E, cv, cd, ce, F, N, f, []⟩ wx)
      case first =>
        go_wp2_with fail
        go_loopg [] kn (fun gk wq => ∃ c, gk + c = kn ∧ RunInv g inp kn w2 gs gq gt ⟨g, V, D, E, cv, cd, ce, F, N, f, []⟩ c wq)
        case atStart => exact ⟨0, by omega, by omega, fun j hj => absurd hj (by omega), ⟨0, V1, R, S, c1, rc, sc, List.replicate na 0, zs, inp⟩, _, rfl, (by show List.replicate na 0 = List.replicate g.all.toNat 0; rw [show g.all.toNat = na by have := HNA.out; unfold Gr.all; omega]), (by show zs.map _ = g.sz.map _; exact HZ.out), rfl, st5, k5, k7, hb5⟩
        case round =>
          clear st5 k5 k7 hb5
          obtain ⟨c, hgk, hck, hok, m, ev, hp, hxs, hls, hin, st, ko, kt, hb⟩ := hrel
          have hM := (MOk.zero (inp := inp) HC.out HII.out).at HC.out HI.out c (fun j hj => (okW_next (hok j hj)).1)
          obtain ⟨M, hMe⟩ : ∃ M, mAt g (mZero g inp) c = M := ⟨_, rfl⟩
          rw [hMe] at hp hxs hls hin hM
          have hall : g.all = (na : Int) := HNA.out
          have hxl : m.xs.length = na := by rw [hxs]; have := hM.xl; omega
          have HXL := hid hxl
          have HNX : Hid (∀ X, StA X w2.heap.size gs ⟨g, V, D, E, cv, cd, ce, F, N, f, []⟩ m ev c → Calls Tryz.prog 84 #[.pointer (some ⟨gs, 0, none⟩)] X (NextRes (nextW g M) X)) := hid fun X hX => by
            have := snext_ok w2.heap.size gs c _ m ev M.p X hX hp hM.p HN.out HC.out (by omega) ces (fun e he => by
              have h1 := HCR.out e he
              rw [hall, ← hxl] at h1
              have ha := right_a h1
              have hb := right_b h1
              omega)
            rw [hxs] at this
            exact this
          have HSTEP := hid (fun (h : okW g M = true) (j : Nat) (hj : j < c + 1) => (show okW g (mAt g (mZero g inp) j) = true from by
            by_cases e : j = c
            · rw [e, hMe]; exact h
            · exact hok j (by omega)))
          have HLEN := hid (fun (h : c < kn → okW g M = false) => lenW_is (g := g) (m := mZero g inp) hck hok (by rw [hMe]; exact h))
          have HK := hid (And.intro hgk hck)
          have HMX := hid (And.intro hp (And.intro hxs (And.intro hls hin)))
          have HME := hid hMe
          have HMM := hid hM
          have hck' : (c : Int) ≤ 65536 := by omega
          clear hgk hck hok hp hxs hls hin hMe hM hall hxl
          unfold outV at ko
          obtain ⟨o0, o1, o2, o3, o4, o5, fo⟩ := blk6 ko
          go_wp2_with fail
          clear o0 o1 o2 o3 o4 o5 fo
          (with_reducible refine (HNX.out _ st).mono ?_)
          rintro e8 w8 ⟨rfl, hb8⟩
          replace st := st.up hb8
          replace ko := ko.later hb8
          replace kt := kt.later hb8
          replace hb := hb.trans (hb8.mono hb.size)
          have kc := k0.below hb k0.lt
          clear hb8 HNX
          by_cases hT : nextW g M < 0
          · have HL := hid (HLEN.out (fun _ => by unfold okW stopsW; rw [decide_eq_true hT]; simp))
            have t1 : decide (0 ≤ nextW g M) = false := decide_eq_false (by omega)
            generalize nextW g M = T at *
            clear hT HLEN HSTEP
            have hst := hid (st.far ko hgq 0 (.int .i64 2) rfl (by decide) (by decide) (by decide) (by decide) (by decide) (by decide))
            have HKO := hid (ko.set_ 0 (.int .i64 2))
            have HB := hid hb
            obtain ⟨o0, o1, o2, o3, o4, o5, fo⟩ := blk6 ko
            clear ko kt kc st hb
            go_wp2_with fail
            go_meet
            exact ⟨2, 0, c, m, ev, c, HKO.out, .inr ⟨by decide, by rw [HL.out]⟩, hst.out.1, HXL.out, HB.out.trans hst.out.2⟩
          obtain ⟨ie, hie, hil, -, hne⟩ := next_in hT
          obtain ⟨x, hx⟩ : ∃ x, nextE g M = x := ⟨_, rfl⟩
          have hxe : g.es[ie] = x := by rw [eAt_eq hil, ← hne, hx]
          have hxm : x ∈ g.es := hxe ▸ List.getElem_mem hil
          have HXX := hid hx
          have HIE := hid hie
          have t1 : decide (0 ≤ nextW g M) = true := decide_eq_true (by omega)
          have HT0 := hid hT
          have hil' : (ie : Int) < (g.es.length : Int) := by omega
          have HIL := hid hil
          have HXE : Hid (eAt g.es ie = x) := hid (by rw [← hne, hx])
          have HXM := hid hxm
          rw [hie] at t1 ⊢
          have hst := hid st
          obtain ⟨c0', c1', c2', c3', c4', c5', fc⟩ := blk6 kc
          have hE8 : RdE w8 w8.heap.size E g.es := st.edges.more st.le
          have ks := st.blk
          dsimp only at ks
          obtain ⟨s0, s1, s2, s3, s4, s5, s6, s7, s8, s9, s10, s11, fs⟩ := stbox ks
          obtain ⟨bE, oE, hEe, hBE, p0, p1, p2, p3, p4, p5, p6, p7, p8, p9⟩ := hE8.get hil hxe
          rw [hEe] at c5'
          clear hT hie hx hne hxe hxm hil ks hE8 p0 p1 p3 p4 p5 p6 p7 p8 p9
          have HEE := hid hEe
          clear hEe
          by_cases hstop : x.kd = 9 ∧ m.inp = []
          · obtain ⟨hk9, hin⟩ := hstop
            have HL := hid (HLEN.out (fun _ => by unfold okW stopsW; rw [HXX.out, hk9, ← HMX.out.2.2.2, hin]; simp))
            have t2 : (x.kd == 9) = true := by rw [hk9]; rfl
            have t3 : ((m.inp.length : Int) == 0) = true := by rw [hin]; rfl
            have t4 : (m.inp.length == 0) = true := by rw [hin]; rfl
            clear hk9 hin HLEN HSTEP
            have hst2 := hid (hst.out.far ko hgq 0 (.int .i64 2) rfl (by decide) (by decide) (by decide) (by decide) (by decide) (by decide))
            have HKO := hid (ko.set_ 0 (.int .i64 2))
            have HB := hid hb
            obtain ⟨o0, o1, o2, o3, o4, o5, fo⟩ := blk6 ko
            clear ko kt kc st hb
            go_wp2_with fail
            go_meet
            exact ⟨2, 0, c, m, ev, c, HKO.out, .inr ⟨by decide, by rw [HL.out]⟩, hst2.out.1, HXL.out, HB.out.trans hst2.out.2⟩
          have HNE : Hid (x.kd = 9 → m.inp ≠ []) := hid (fun q e => hstop ⟨q, e⟩)
          have HNS : Hid (stopsW g M = false) := hid (by
            unfold stopsW
            rw [decide_eq_false HT0.out, HXX.out, ← HMX.out.2.2.2, Bool.false_or]
            by_cases e : x.kd = 9
            · have := HNE.out e
              cases hm : m.inp with
              | nil => exact absurd hm this
              | cons a l => simp
            · rw [decide_eq_false e, Bool.false_and])
          have hcs : (x.kd == 9) = false ∨ ((x.kd == 9) = true ∧ ((m.inp.length : Int) == 0) = false ∧ (m.inp.length == 0) = false) := by
            by_cases e : x.kd = 9
            · right
              have := HNE.out e
              have hl : m.inp.length ≠ 0 := fun h => this (List.eq_nil_of_length_eq_zero h)
              exact ⟨by rw [e]; rfl, by rw [beq_eq_false_iff_ne]; omega, by rw [beq_eq_false_iff_ne]; exact hl⟩
            · left; rw [beq_eq_false_iff_ne]; exact e
          clear hstop
          rcases hcs with t2 | ⟨t2, t3, t4⟩
          all_goals
            obtain ⟨o0, o1, o2, o3, o4, o5, fo⟩ := blk6 ko
            go_upto_region 18 with fail
            clear t2 p2 s0 s1 s2 s3 s4 s5 s6 s7 s8 s9 s10 s11 fs
            try clear t3 t4
            by_cases hkc : c = kn
            · have HL := hid (HLEN.out (fun h => by omega))
              have t5 : ((c : Int) == (kn : Int)) = true := by rw [hkc]; simp
              have t6 : (c == kn) = true := by rw [hkc]; simp
              have HKO := hid ko
              have HB := hid hb
              clear ko kt kc st hb hkc
              go_wp2_with fail
              go_meet
              exact ⟨1, 0, c, m, ev, c, HKO.out, .inr ⟨by decide, by rw [HL.out]⟩, hst.out, HXL.out, HB.out⟩
            have t5 : ((c : Int) == (kn : Int)) = false := by rw [beq_eq_false_iff_ne]; omega
            have t6 : (c == kn) = false := by rw [beq_eq_false_iff_ne]; exact hkc
            have HKC := hid (show c < kn by have := HK.out.2; omega)
            go_upto_region 20 with fail
            clear t5 t6 hkc o0 o1 o2 o3 o4 o5 fo c0' c1' c2' c3' c4' c5' fc
            have hstA := hst.out.far ko hgq 2 (.int .i64 ((c : Int) + 1)) rfl (by decide) (by decide) (by decide) (by decide) (by decide) (by decide)
            have koA : Blk (w8.setCell ⟨gq, 2, none⟩ (.int .i64 ((c : Int) + 1))) gq 99 (outV 1 0 ((c : Int) + 1)) := ko.set_ 2 _
            have ktA := kt.only (OnlyT.of_set ko 2 (.int .i64 ((c : Int) + 1))) (by decide)
            have hbA := hb.trans hstA.2
            replace hstA := hstA.1
            clear ko kt kc st hb hst
            generalize w8.setCell ⟨gq, 2, none⟩ (.int .i64 ((c : Int) + 1)) = wA at *
            have kc := k0.below hbA k0.lt
            obtain ⟨c0', c1', c2', c3', c4', c5', fc⟩ := blk6 kc
            have hEA : RdE wA wA.heap.size E g.es := hstA.edges.more hstA.le
            obtain ⟨_, _, hE2, hBE2, p0, p1, p2, p3, p4, p5, p6, p7, p8, p9⟩ := hEA.get HIL.out (show g.es[ie]'HIL.out = x from by rw [eAt_eq HIL.out]; exact HXE.out)
            rw [HEE.out] at hE2
            injection hE2 with hE2; injection hE2 with hE3 hE4; subst hE3; subst hE4
            rw [HEE.out] at c5'
            have hst := hid hstA
            clear hEA kc hstA
            go_upto_region 21 with fail
            have n9 := new1 wA (.cells #[.int .i64 x.fr, .int .i64 x.te, .int .i64 x.kd, .int .i64 x.dst, .int .i64 x.arr, .int .i64 x.op, .int .i64 x.av, .int .i64 x.an, .int .i64 x.bv, .int .i64 x.bn] 65)
            have k9 := Blk.new wA 65 #[.int .i64 x.fr, .int .i64 x.te, .int .i64 x.kd, .int .i64 x.dst, .int .i64 x.arr, .int .i64 x.op, .int .i64 x.av, .int .i64 x.an, .int .i64 x.bv, .int .i64 x.bn]
            have hst9 := hst.out.up n9
            have ko9 := koA.later n9
            have kt9 := ktA.later n9
            have hb9 := hbA.trans (n9.mono hbA.size)
            clear p0 p1 p2 p3 p4 p5 p6 p7 p8 p9 c0' c1' c2' c3' c4' c5' fc hst koA ktA hbA n9 hBE hBE2
            generalize wA.alloc (.cells #[.int .i64 x.fr, .int .i64 x.te, .int .i64 x.kd, .int .i64 x.dst, .int .i64 x.arr, .int .i64 x.op, .int .i64 x.av, .int .i64 x.an, .int .i64 x.bv, .int .i64 x.bn] 65) = wB at *
            generalize wA.heap.size = ge at *
            have hrt := HCR.out x HXM.out
            have hix := HI.out x HXM.out
            obtain ⟨fid, htab, hcf, hcall⟩ := meth_ok w2.heap.size gs c ⟨g, V, D, E, cv, cd, ce, F, N, f, [(gq, 99, outV 1 0 ((c : Int) + 1)), (gt, 150, tableV), (ge, 65, #[.int .i64 x.fr, .int .i64 x.te, .int .i64 x.kd, .int .i64 x.dst, .int .i64 x.arr, .int .i64 x.op, .int .i64 x.av, .int .i64 x.an, .int .i64 x.bv, .int .i64 x.bn])]⟩ m ev x
              (by
                have h1 : (m.xs.length : Int) = g.all := by rw [HXL.out]; exact HNA.out.symm
                have h2 : m.zs.length = g.sz.length := by
                  have : m.ls.length = M.ls.length := by rw [HMX.out.2.2.1]
                  unfold MS.ls at this
                  rw [List.length_map, HMM.out.ll] at this
                  exact this
                rw [h1, h2]; exact hrt)
              (by rw [HMX.out.2.1]; exact HMM.out.xi) hix.1 hix.2 (by have := HXL.out; omega)
              (fun z hz => by
                obtain ⟨a, ha, rfl⟩ := List.getElem_of_mem hz
                have h1 := HMX.out.2.2.1
                have h2 : a < M.ls.length := by rw [← h1]; unfold MS.ls; simpa using ha
                have h3 := HMM.out.lz a h2
                have h4 : M.ls[a]? = m.ls[a]? := by rw [h1]
                rw [List.getElem?_eq_getElem h2] at h4
                unfold MS.ls at h4
                rw [List.getElem?_map, List.getElem?_eq_getElem ha] at h4
                injection h4 with h4
                have h6 : M.ls[a] = m.zs[a].1 := h4
                rw [h6] at h3
                have h5 := HCZ.out _ (gI_mem (sz := g.sz) (k := a) (by rw [← HMM.out.ll]; exact h2))
                rw [← h3] at h5
                omega)
              HNE.out (by omega)
            have hkd : 1 ≤ x.kd ∧ x.kd ≤ 14 := by
              unfold rightE at hrt
              simp only [Bool.and_eq_true, decide_eq_true_eq] at hrt
              exact hrt.1.1.1.1.1
            have HKEEP : Hid (∀ X, Below wB.heap.size wB X → StA X w2.heap.size gs ⟨g, V, D, E, cv, cd, ce, F, N, f, [(gq, 99, outV 1 0 ((c : Int) + 1)), (gt, 150, tableV), (ge, 65, #[.int .i64 x.fr, .int .i64 x.te, .int .i64 x.kd, .int .i64 x.dst, .int .i64 x.arr, .int .i64 x.op, .int .i64 x.av, .int .i64 x.an, .int .i64 x.bv, .int .i64 x.bn])]⟩ m ev c) := hid fun X hX => (hst9.up hX).rekeep _ (fun kk hkk => by
              simp only [List.mem_cons, List.not_mem_nil, or_false] at hkk
              rcases hkk with rfl | rfl | rfl
              · refine ⟨ko9.later hX, ?_, ?_, ?_, ?_⟩ <;> (dsimp only; decide)
              · refine ⟨kt9.later hX, ?_, ?_, ?_, ?_⟩ <;> (dsimp only; decide)
              · refine ⟨k9.later hX, ?_, ?_, ?_, ?_⟩ <;> (dsimp only; decide))
            have HRT := hid hrt
            have HCALL := hid hcall
            obtain ⟨hk0, hk1⟩ := hkd
            have hk2 : 0 ≤ x.kd := by omega
            have hk3 : x.kd < 15 := by omega
            have ct := (kt9.cell x.kd.toNat).trans htab
            clear hcall hrt hix htab hst9
            obtain ⟨e0, e1, e2, e3, e4, e5, e6, e7, e8, e9, fe⟩ := edgbox k9
            have lt := later ct
            have q0 := later e0
            have q1 := later e1
            have q2 := later e2
            have q3 := later e3
            have q4 := later e4
            have q5 := later e5
            have q6 := later e6
            have q7 := later e7
            have q8 := later e8
            have q9 := later e9
            clear e0 e1 e2 e3 e4 e5 e6 e7 e8 e9 fe ct
            unfold Edg.val at hcf HCALL
            refine wp_region_flow 6 (fun X => Below wB.heap.size wB X) (by kernel_rfl) (by kernel_rfl) (Below.refl _ _).drew ?_
            (refine' Flow.take _ (by rfl) (fun W hW R hR => ?_) ?_; rotate_left; (go_simp; (try go_bits); with_reducible exact hR); simp only [Act.put, List.setIfInBounds_toArray, List.set_cons_zero, List.set_cons_succ])
            (refine' Flow.take _ (by rfl) (fun W hW R hR => ?_) ?_; rotate_left; (go_simp; (try go_bits); with_reducible exact hR); simp only [Act.put, List.setIfInBounds_toArray, List.set_cons_zero, List.set_cons_succ])
            (refine' Flow.take _ (by rfl) (fun W hW R hR => ?_) ?_; rotate_left; (go_simp; (try go_bits); with_reducible exact hR); simp only [Act.put, List.setIfInBounds_toArray, List.set_cons_zero, List.set_cons_succ])
            (refine' Flow.take _ (by rfl) (fun W hW R hR => ?_) ?_; rotate_left; (go_simp; (try go_bits); with_reducible exact hR); simp only [Act.put, List.setIfInBounds_toArray, List.set_cons_zero, List.set_cons_succ])
            (repeat (first | (refine Flow.skip (by rfl) ?_; simp only [Act.put, List.setIfInBounds_toArray, List.set_cons_zero, List.set_cons_succ]) | (refine' Flow.take _ (by rfl) (fun W hW R hR => ?_) ?_; rotate_left; (go_simp; (try go_bits); with_reducible exact hR); simp only [Act.put, List.setIfInBounds_toArray, List.set_cons_zero, List.set_cons_succ])))
            intro wC hbC
            clear lt q0 q1 q2 q3 q4 q5 q6 q7 q8 q9
            go_wp2_with fail
            (with_reducible refine (HCALL.out wC (HKEEP.out wC hbC)).mono ?_)
            rintro e10 w10 ⟨rfl, m', ev', st', x1, x2, x3, x4, hbD⟩
            have koD : Blk w10 gq 99 (outV 1 0 ((c : Int) + 1)) := (st'.keep (gq, 99, outV 1 0 ((c : Int) + 1)) (by simp)).1
            have ktD : Blk w10 gt 150 tableV := (st'.keep (gt, 150, tableV) (by simp)).1
            have k9D : Blk w10 ge 65 #[.int .i64 x.fr, .int .i64 x.te, .int .i64 x.kd, .int .i64 x.dst, .int .i64 x.arr, .int .i64 x.op, .int .i64 x.av, .int .i64 x.an, .int .i64 x.bv, .int .i64 x.bn] := (st'.keep (ge, 65, #[.int .i64 x.fr, .int .i64 x.te, .int .i64 x.kd, .int .i64 x.dst, .int .i64 x.arr, .int .i64 x.op, .int .i64 x.av, .int .i64 x.an, .int .i64 x.bv, .int .i64 x.bn]) (by simp)).1
            have stD := st'.rekeep [] (fun k hk => absurd hk (by simp))
            have hbE : Below w2.heap.size w2 w10 := (hb9.trans (hbC.mono hb9.size)).trans hbD
            have HWQ : Hid (doesW m.ls x m.xs (m.inp.headD 0) = doesW M.ls (nextE g M) M.xs (inW g M)) := hid (by
              rw [HXX.out, HMX.out.2.1, HMX.out.2.2.1, HMX.out.2.2.2]
              by_cases e : x.kd = 9
              · unfold inW; rw [HXX.out, if_pos e]
              · exact doesW_in e)
            have HSW : Hid (stepW g M = ⟨x.te.toNat, (doesW M.ls (nextE g M) M.xs (inW g M)).2, rowsW m.ls x m.xs, if x.kd = 9 then m.inp.tail else m.inp⟩) := hid (by
              unfold stepW; rw [HXX.out, HMX.out.2.1, HMX.out.2.2.1, HMX.out.2.2.2])
            have HX1 := hid (And.intro x1 (And.intro x2 (And.intro x3 x4)))
            have HLX : Hid (m'.xs.length = na) := hid (by rw [x1, doesW_len]; exact HXL.out)
            have HOKW : Hid (okW g M = decide ((doesW m.ls x m.xs (m.inp.headD 0)).1 = 0)) := hid (by
              unfold okW wrongW; rw [HNS.out, HWQ.out]; rfl)
            rw [HWQ.out] at HX1 HOKW
            rw [HWQ.out]
            clear HCALL HKEEP st' x1 x2 x3 x4 hbD hbC hb9 ko9 kt9 k9 HWQ hcf
            generalize doesW M.ls (nextE g M) M.xs (inW g M) = q at *
            obtain ⟨qw, qx⟩ := q
            dsimp only at *
            obtain ⟨o0, o1, o2, o3, o4, o5, fo⟩ := blk6 koD
            go_upto_region 22 with fail
            clear o0 o1 o2 o3 o4 o5 fo
            have stE := stD.far koD hgq 1 (.int .i64 qw) rfl (by decide) (by decide) (by decide) (by decide) (by decide) (by decide)
            have koE : Blk (w10.setCell ⟨gq, 1, none⟩ (.int .i64 qw)) gq 99 (outV 1 qw ((c : Int) + 1)) := koD.set_ 1 _
            have ktE := ktD.only (OnlyT.of_set koD 1 (.int .i64 qw)) (by decide)
            have k9E := k9D.only (OnlyT.of_set koD 1 (.int .i64 qw)) (by decide)
            have hbF := hbE.trans stE.2
            replace stE := stE.1
            clear koD ktD k9D stD hbE
            generalize w10.setCell ⟨gq, 1, none⟩ (.int .i64 qw) = wE at *
            by_cases hw : qw = 0
            rotate_left
            · have HL := hid (HLEN.out (fun _ => by rw [HOKW.out]; exact decide_eq_false hw))
              have t7 : (qw != 0) = true := by rw [bne_iff_ne]; exact hw
              clear hw
              have hst2 := hid (stE.far koE hgq 0 (.int .i64 3) rfl (by decide) (by decide) (by decide) (by decide) (by decide) (by decide))
              have HKO : Hid (Blk (wE.setCell ⟨gq, 0, none⟩ (.int .i64 3)) gq 99 (outV 3 qw ((c : Int) + 1))) := hid (koE.set_ 0 _)
              have HB := hid hbF
              unfold outV at koE
              obtain ⟨o0, o1, o2, o3, o4, o5, fo⟩ := blk6 koE
              clear koE ktE k9E stE hbF
              go_wp2_with fail
              go_meet
              exact ⟨3, qw, (c : Int) + 1, m', ev', c + 1, HKO.out, .inl ⟨rfl, by rw [HL.out]⟩, hst2.out.1, HLX.out, HB.out.trans hst2.out.2⟩
            subst hw
            have HOKT : Hid (okW g M = true) := hid (by rw [HOKW.out]; rfl)
            have hte : 0 ≤ x.te := by
              obtain ⟨-, -, hin, -⟩ := chk_in HC.out
              have h1 := hin x HXM.out
              unfold inE at h1
              rw [decide_eq_true_eq] at h1
              omega
            have HTE := hid hte
            clear hte
            obtain ⟨p', V', R', S', vc', rc', sc', xs', zs', inp'⟩ := m'
            have hst2 := hid (stE.goto (p' := x.te))
            have ko2 := hid (koE.only (OnlyT.of_set stE.blk 7 (.int .i64 x.te)) (by decide))
            have kt2 := hid (ktE.only (OnlyT.of_set stE.blk 7 (.int .i64 x.te)) (by decide))
            have HB := hid hbF
            have ks := stE.blk
            dsimp only at ks HX1 HLX
            obtain ⟨s0, s1, s2, s3, s4, s5, s6, s7, s8, s9, s10, s11, fs⟩ := stbox ks
            obtain ⟨e0, e1, e2, e3, e4, e5, e6, e7, e8, e9, fe⟩ := edgbox k9E
            unfold outV at koE
            obtain ⟨o0, o1, o2, o3, o4, o5, fo⟩ := blk6 koE
            clear koE ktE k9E stE hbF ks
            go_wp2_with fail
            go_roundg (gk - 1)
            case measure => have := HK.out.1; have := HKC.out; omega
            case rel =>
              have hM1 : mAt g (mZero g inp) (c + 1) = stepW g M := by show stepW g (mAt g (mZero g inp) c) = _; rw [HME.out]
              refine ⟨c + 1, by have := HK.out.1; have := HKC.out; omega, by have := HKC.out; omega, HSTEP.out HOKT.out, _, _, ?_, ?_, ?_, ?_, hst2.out.1, ko2.out, kt2.out, HB.out.trans hst2.out.2⟩
              · rw [hM1, HSW.out]; dsimp only; rw [Int.toNat_of_nonneg HTE.out]
              · rw [hM1, HSW.out]; exact HX1.out.1
              · rw [hM1, HSW.out]; exact HX1.out.2.1
              · rw [hM1, HSW.out]; exact HX1.out.2.2.1
      case rest =>
        obtain ⟨st, wrg, ns, m, ev, n, ko, hsn, sta, hxl, hb⟩ := hcut
        have HSN := hid hsn
        obtain ⟨eA, en, ec, rfl⟩ := sta.evs.slice
        have hvc : g.nv ≤ m.vc := by
          have h1 := sta.mem.vars.capa
          have h2 := HNA.out
          omega
        obtain ⟨VA, hsl⟩ := run_slice_max m.V m.xs.length m.vc g.nv hvc
        have kc := k0.below hb k0.lt
        have krc := kr.below hb kr.lt
        have ks := sta.blk
        dsimp only at ks
        unfold outV at ko
        clear hsn hb5 st5 k5 k7 hvc hxl sta
        go_upto_region 25 with fail
        have l3 : ∀ W, Below wc.heap.size wc W → True := fun _ _ => trivial
        clear l3
        obtain ⟨SS, HSS⟩ : ∃ SS : World → Prop, Hid (SS = fun W => Below w2.heap.size w2 W ∧ Blk W gs 147 #[.slice V g.nv cv, .int .i64 g.tm, .slice D g.sz.length cd, .int .i64 g.pts, .int .i64 g.ex, .slice E g.es.length ce, .slice (some ⟨F, 0, none⟩) N N, .int .i64 m.p, .slice m.V m.xs.length m.vc, .slice m.R m.zs.length m.rc, .slice m.S m.inp.length m.sc, .slice eA en ec] ∧ Blk W w.heap.size 26 #[.slice V g.nv cv, .int .i64 g.tm, .slice D g.sz.length cd, .int .i64 g.pts, .int .i64 g.ex, .slice E g.es.length ce] ∧ Blk W (w.heap.size + 1) 99 #[.int .i64 0, .int .i64 0, .int .i64 0, .slice none 0 0, .slice none 0 0, .slice none 0 0] ∧ ∃ (A1 A2 : Option Addr) (n1 c1 n2 c2 : Nat), Blk W gq 99 #[.int .i64 st, .int .i64 wrg, .int .i64 ns, .slice A1 n1 c1, .slice A2 n2 c2, .slice none 0 0]) := ⟨_, hid rfl⟩
        have d11 : ∀ W, InS SS W → W.cell? ⟨gs, 11, none⟩ = some (.slice eA en ec) := fun W hW => by unfold InS at hW; rw [HSS.out] at hW; exact hW.2.1.cell 11
        have d8 : ∀ W, InS SS W → W.cell? ⟨gs, 8, none⟩ = some (.slice m.V m.xs.length m.vc) := fun W hW => by unfold InS at hW; rw [HSS.out] at hW; exact hW.2.1.cell 8
        have d9 : ∀ W, InS SS W → W.cell? ⟨gs, 9, none⟩ = some (.slice m.R m.zs.length m.rc) := fun W hW => by unfold InS at hW; rw [HSS.out] at hW; exact hW.2.1.cell 9
        have dv : ∀ W, InS SS W → W.cell? ⟨w.heap.size, 0, none⟩ = some (.slice V g.nv cv) := fun W hW => by unfold InS at hW; rw [HSS.out] at hW; exact hW.2.2.1.cell 0
        have hS0 : InS SS wc.drew := by
          unfold InS
          rw [HSS.out]
          exact ⟨hb.drew, ks, kc, krc, none, none, 0, 0, 0, 0, ko⟩
        have hgo : w2.heap.size ≤ gq := hgq
        have HSTEP : Hid (∀ W, InS SS W → (∃ v, W.cell? ⟨gq, 3, none⟩ = some v) ∧ (∃ v, W.cell? ⟨gq, 4, none⟩ = some v) ∧ (∀ j, W.frozen? ⟨gq, j, none⟩ = false) ∧ (∀ A k c, InS SS (W.setCell ⟨gq, 3, none⟩ (.slice A k c))) ∧ (∀ A k c, InS SS (W.setCell ⟨gq, 4, none⟩ (.slice A k c)))) := hid (fun W hW => by
          unfold InS at hW ⊢
          rw [HSS.out] at hW ⊢
          obtain ⟨h1, h2, h3, h4, A1, A2, n1, c1, n2, c2, h5⟩ := hW
          have hsz : w2.heap.size ≤ W.heap.size := h1.size
          have hg1 : w.heap.size ≠ gq := by omega
          have hg2 : w.heap.size + 1 ≠ gq := by omega
          have hO := fun (i : Nat) (v : Value) => OnlyT.of_set h5 i v
          exact ⟨⟨_, h5.cell 3⟩, ⟨_, h5.cell 4⟩, h5.fr, fun A k c => ⟨h1.trans (below1 hgo hsz), h2.only (hO 3 _) (by decide), h3.only (hO 3 _) (by decide), h4.far (p := ⟨gq, 3, none⟩) (fun e => hg2 e.symm) _, A, A2, k, c, n2, c2, h5.set_ 3 _⟩, fun A k c => ⟨h1.trans (below1 hgo hsz), h2.only (hO 4 _) (by decide), h3.only (hO 4 _) (by decide), h4.far (p := ⟨gq, 4, none⟩) (fun e => hg2 e.symm) _, A1, A, n1, c1, k, c, h5.set_ 4 _⟩⟩)
        clear ks kc krc ko hb
        refine wp_region_flow 23 (InS SS) (by kernel_rfl) (by kernel_rfl) hS0 ?_
        clear hS0
        (repeat (first | (refine Flow.skip (by rfl) ?_; simp only [Act.put, List.setIfInBounds_toArray, List.set_cons_zero, List.set_cons_succ]) | (refine' Flow.take _ (by rfl) (fun W hW R hR => ?_) ?_; rotate_left; (go_simp; (try go_bits); with_reducible exact hR); simp only [Act.put, List.setIfInBounds_toArray, List.set_cons_zero, List.set_cons_succ])))
        (refine Flow.step undef (by rfl) (fun W hW K hK => ?_) ?_)
        · obtain ⟨⟨_, h3⟩, -, hfz, hs, -⟩ := HSTEP.out W hW
          have hs := hid hs
          unfold Oper.wp
          go_simp
          exact hK _ _ rfl (hs.out _ _ _)
        simp only [Act.put]
        (repeat (first | (refine Flow.skip (by rfl) ?_; simp only [Act.put, List.setIfInBounds_toArray, List.set_cons_zero, List.set_cons_succ]) | (refine' Flow.take _ (by rfl) (fun W hW R hR => ?_) ?_; rotate_left; (go_simp; (try go_bits); with_reducible exact hR); simp only [Act.put, List.setIfInBounds_toArray, List.set_cons_zero, List.set_cons_succ])))
        (refine Flow.step undef (by rfl) (fun W hW K hK => ?_) ?_)
        · obtain ⟨-, ⟨_, h4⟩, hfz, -, hs⟩ := HSTEP.out W hW
          have hs := hid hs
          unfold Oper.wp
          go_simp
          exact hK _ _ rfl (hs.out _ _ _)
        simp only [Act.put]
        intro w10 hS
        unfold InS at hS
        rw [HSS.out] at hS
        obtain ⟨h1, h2, h3, h4, A1, A2, n1, c1, n2, c2, h5⟩ := hS
        clear d11 d8 d9 dv HSTEP HSS hsl
        obtain ⟨o0, o1, o2, o3, o4, o5, fo⟩ := blk6 h5
        go_upto_region 26 with fail
        clear o0 o1 o2 o3 o4 o5 fo
        have hne : w.heap.size + 1 ≠ gq := by omega
        have hne2 : w.heap.size + 1 ≠ gs := by omega
        have k5 : Blk (w10.setCell ⟨gq, 5, none⟩ (.slice m.R m.zs.length m.rc)) gq 99 #[.int .i64 st, .int .i64 wrg, .int .i64 ns, .slice A1 n1 c1, .slice A2 n2 c2, .slice m.R m.zs.length m.rc] := h5.set_ 5 _
        have ks := h2.only (OnlyT.of_set h5 5 (.slice m.R m.zs.length m.rc)) (by decide)
        have kr5 := h4.far (p := ⟨gq, 5, none⟩) (fun e => hne e.symm) (.slice m.R m.zs.length m.rc)
        have hb5 := h1.trans (below1 (g := gq) (i := 5) (v := .slice m.R m.zs.length m.rc) hgo h1.size)
        clear h1 h2 h3 h4 h5
        generalize w10.setCell ⟨gq, 5, none⟩ (.slice m.R m.zs.length m.rc) = w11 at *
        have u0 := SB6.cell (v0 := .int .i64 st) (v1 := .int .i64 wrg) (v2 := .int .i64 ns) (v3 := .slice A1 n1 c1) (v4 := .slice A2 n2 c2) (v5 := .slice m.R m.zs.length m.rc) k5 hne
        have u7 := SB6.cell (v0 := .int .i64 st) (v1 := .int .i64 wrg) (v2 := .int .i64 ns) (v3 := .slice A1 n1 c1) (v4 := .slice A2 n2 c2) (v5 := .slice m.R m.zs.length m.rc) ks hne2 7
        have y0 := u0 0
        have y1 := u0 1
        have y2 := u0 2
        have y3 := u0 3
        have y4 := u0 4
        have y5 := u0 5
        have b9 := SB6.own (v0 := .int .i64 st) (v1 := .int .i64 wrg) (v2 := .int .i64 ns) (v3 := .slice A1 n1 c1) (v4 := .slice A2 n2 c2) (v5 := .slice m.R m.zs.length m.rc) kr5
        have z0 := fun W hW => (b9 W hW).cell 0
        have z1 := fun W hW => (b9 W hW).cell 1
        have z2 := fun W hW => (b9 W hW).cell 2
        have z3 := fun W hW => (b9 W hW).cell 3
        have z4 := fun W hW => (b9 W hW).cell 4
        have z5 := fun W hW => (b9 W hW).cell 5
        have zf := fun W hW => (b9 W hW).fr
        clear u0 b9
        refine wp_region_flowM 6 5 (SB6 w11 (w.heap.size + 1) (.int .i64 st) (.int .i64 wrg) (.int .i64 ns) (.slice A1 n1 c1) (.slice A2 n2 c2) (.slice m.R m.zs.length m.rc)) (by kernel_rfl) (by kernel_rfl) (by decide) (Below.refl _ _).drew ?_
        (repeat (first | (refine FlowM.skip (by rfl) (by rfl) ?_; simp only [Act.put, List.setIfInBounds_toArray, List.set_cons_zero, List.set_cons_succ]) | (refine' FlowM.take _ (by rfl) (by rfl) (fun W hW R hR => ?_) ?_; rotate_left; (go_simp; (try go_bits); with_reducible exact hR); simp only [Act.put, List.setIfInBounds_toArray, List.set_cons_zero, List.set_cons_succ])))
        (refine FlowM.mark (by rfl) (by rfl) (by rfl) (fun W hW R hR => ?_) ?_; (go_simp; (exact hR _ ⟨W, hW, rfl⟩)))
        intro w12 h12
        obtain ⟨W0, hb6, rfl⟩ := h12
        clear y0 y1 y2 y3 y4 y5 u7 z0 z1 z2 z3 z4 z5 zf
        have K6 := (kr5.later hb6).set6 (v0 := .int .i64 st) (v1 := .int .i64 wrg) (v2 := .int .i64 ns) (v3 := .slice A1 n1 c1) (v4 := .slice A2 n2 c2) (v5 := .slice m.R m.zs.length m.rc)
        have HB := hid ((hb0.trans (hb5.mono (by omega))).trans ((hb6.mono (by have := hb5.size; omega)).trans (below6 (W := W0) (B := w.heap.size) (g := w.heap.size + 1) (v0 := .int .i64 st) (v1 := .int .i64 wrg) (v2 := .int .i64 ns) (v3 := .slice A1 n1 c1) (v4 := .slice A2 n2 c2) (v5 := .slice m.R m.zs.length m.rc) (by omega) (by have := hb5.size; have := hb6.size; omega))))
        obtain ⟨f0, f1, f2, f3, f4, f5, ff⟩ := blk6 K6
        clear K6 k5 ks kr5 hb5 hb6
        go_wp2
        refine bodyPost_ret (v := .tuple #[.agg #[.int .i64 st, .int .i64 wrg, .int .i64 ns, .slice A1 n1 c1, .slice A2 n2 c2, .slice m.R m.zs.length m.rc], .int .i64 m.p, .int .i64 0]) (by simp [results, Tryz.results49, go_sem, f0, f1, f2, f3, f4, f5]) rfl ?_
        exact ⟨st, wrg, ns, m.p, A1, A2, m.R, n1, c1, n2, c2, m.zs.length, m.rc, by rw [HFU.out], fun _ => by simpa using HSN.out, HB.out⟩
end Go.Proofs.YtkncebcekhfnfaaGreat
