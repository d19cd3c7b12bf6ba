/-
  gnomonlaw28.ThinBack.
-/
import Derived.Test.YtanbplidigokgaaCalm28
import Derived.WalkMore
import Derived.Laws.EntriesVeiled
namespace Go.Proofs.Ytanbplidigokgaa
open Go.RowKit
attribute [local go_sem] Oper.semAt_some
attribute [local go_sem ↓] Go.wp_at_zero Go.wp_at_succ

def TrueRes (w : World) (e : Ending) (w' : World) : Prop := e = .returned (.bool true) ∧ Below w.heap.size w w'
theorem Own.low {w : World} {base cap : Nat} {A : Option Addr} {m : List Int} (h : Own w base A cap m) : ∀ k, A = some ⟨k, 0, none⟩ → base ≤ k ∧ k < w.heap.size := by
  rcases h.form with ⟨rfl, _⟩ | ⟨g', rfl, h1, h2⟩
  · intro k hk; cases hk
  · intro k hk; injection hk with hk; injection hk with hk; subst hk; exact ⟨h1, h2⟩
theorem bneed {a : Bool × Int} (h : ¬ (a.2 = 0 ∧ a.1 = true)) : a ≠ (true, 0) := by rintro rfl; exact h ⟨rfl, rfl⟩

set_option maxRecDepth 100000 in
set_option maxHeartbeats 4000000 in
theorem thinBack_in (o : O) (A : Option Addr) (c : Nat) (w : World) (hx : Rd w w.heap.size A o.m) (hm : o.m.length ≤ 17592186044416) :
    CallsIn (wideAt none) 10 Try.prog 8 #[.agg #[.int .i64 o.n, .bool o.e, .slice A o.m.length c]] w (TrueRes w) := by
  have hb0 : Below w.heap.size w ((w.alloc (Obj.cells #[.int .i64 o.n, .bool o.e, .slice A o.m.length c] 24)).alloc (Obj.cells #[.bool false] 4)) := ((Below.refl _ _).alloc (Nat.le_refl _) _).alloc (by simp) _
  obtain ⟨p0, p1⟩ := blk_two (w := w) (Below.refl _ ((w.alloc (Obj.cells #[.int .i64 o.n, .bool o.e, .slice A o.m.length c] 24)).alloc (Obj.cells #[.bool false] 4)))
  replace hx := hx.up hb0
  refine callsIn_of_wp_marks Try.func8 rfl trivial ?_ rfl
  simp only [Try.ntmps8, List.size_toArray, List.length_cons, List.length_nil, Nat.reduceAdd, Nat.reduceSub, Array.replicate_succ, Array.replicate_zero, List.push_toArray, List.append_toArray, List.nil_append, List.cons_append]
  gi_wp2_with fail
  refine (callsIn_at (known28_any _)).mono ?_
  generalize (w.alloc (Obj.cells #[.int .i64 o.n, .bool o.e, .slice A o.m.length c] 24)).alloc (Obj.cells #[.bool false] 4) = w0 at *
  rintro e1 w1 ⟨rfl, hb1⟩
  replace p0 := p0.later hb1
  replace p1 := p1.later hb1
  replace hx := hx.up hb1
  replace hb0 := bup hb0 hb1
  clear hb1
  obtain ⟨x0, x1, x2, fx⟩ := octbox p0
  have HF := hid (few28_any o A c w1 hx hm)
  gi_wp2_with fail
  clear x0 x1 x2 fx
  refine (callsIn_at HF.out).mono ?_
  clear HF
  rintro e2 w2 ⟨b, rfl, hb1⟩
  replace p0 := p0.later hb1
  replace p1 := p1.later hb1
  replace hx := hx.up hb1
  replace hb0 := bup hb0 hb1
  clear hb1
  have q0 := p1.cell 0
  have qf := p1.fr 0
  have hp1 := p1.lt
  have s1 := p1.set_ 0 (.bool true)
  have hbt := hb0.trans (below1 (g := w.heap.size + 1) (i := 0) (v := .bool true) (by omega) hb0.size)
  have r0 := s1.cell 0
  cases b
  · gi_wp2
    exact ⟨.bool true, by simp [results, Try.results8, go_sem, r0], rfl, hbt⟩
  clear q0 qf hp1 s1 hbt r0
  obtain ⟨x0, x1, x2, fx⟩ := octbox p0
  have HC := hid (rcheck_any o A c w2 hx (by omega))
  gi_wp2_with fail
  clear x0 x1 x2 fx
  refine (callsIn_at HC.out).mono ?_
  clear HC
  rintro e3 w3 ⟨rfl, hb1⟩
  replace p0 := p0.later hb1
  replace p1 := p1.later hb1
  replace hx := hx.up hb1
  replace hb0 := bup hb0 hb1
  clear hb1
  by_cases hk : check o = 0
  rotate_left
  · have tk : (check o != 0) = true := by simpa using hk
    generalize check o = er at *
    clear hk
    have q0 := p1.cell 0
    have qf := p1.fr 0
    have hp1 := p1.lt
    have s1 := p1.set_ 0 (.bool true)
    have hbt := hb0.trans (below1 (g := w.heap.size + 1) (i := 0) (v := .bool true) (by omega) hb0.size)
    have r0 := s1.cell 0
    gi_wp2
    exact ⟨.bool true, by simp [results, Try.results8, go_sem, r0], rfl, hbt⟩
  obtain ⟨n0, n1, -, -⟩ := check_ok hk
  obtain ⟨N, hN⟩ : ∃ N : Nat, (N : Int) = 2 * o.n := ⟨(2 * o.n).toNat, by omega⟩
  have hN1 : N ≤ 128 := by omega
  have HN := hid hN
  have HK := hid hk
  clear hN hk
  rw [HK.out]
  obtain ⟨x0, x1, x2, fx⟩ := octbox p0
  have HC := hid (calm28_ok o A c w3 hx hm HK.out)
  gi_wp2_with fail
  clear x0 x1 x2 fx
  refine (callsIn_at HC.out).mono ?_
  clear HC
  cases hcalm : eqO (closeO o) (closeO (closeO o))
  · rintro e4 w4 ⟨rfl, hb1⟩
    replace p0 := p0.later hb1
    replace p1 := p1.later hb1
    replace hb0 := bup hb0 hb1
    clear hb1
    have q0 := p1.cell 0
    have qf := p1.fr 0
    have hp1 := p1.lt
    have s1 := p1.set_ 0 (.bool true)
    have hbt := hb0.trans (below1 (g := w.heap.size + 1) (i := 0) (v := .bool true) (by omega) hb0.size)
    have r0 := s1.cell 0
    gi_wp2
    exact ⟨.bool true, by simp [results, Try.results8, go_sem, r0], rfl, hbt⟩
  have hcl : closeO (closeO o) = closeO o := ((eqO_iff _ _).1 hcalm).symm
  clear hcalm
  obtain ⟨l1, l2, l3, l4, l5⟩ := thin_law HN.out HK.out hcl
  have hcc := closeO_check HK.out
  have hcn := closeO_n o
  have hlm := Nat.le_trans (closeO_m_le (o := o)) hm
  have htm := Nat.le_trans (thinO_m_le o) hm
  have HTO : Hid (∀ w, Rd w w.heap.size A o.m → Calls Try.prog 24 #[.agg #[.int .i64 o.n, .bool o.e, .slice A o.m.length c]] w (ThinRes w (thinO o) 0)) := hid fun w hx => by
    have := thinoct_any o A c w hx hm
    rw [HK.out] at this
    have e : thinAns o = thinO o := by unfold thinAns; rw [if_pos HK.out]
    rw [e] at this; exact this
  have HCT : Hid (∀ A' c' w, Rd w w.heap.size A' (thinO o).m → Calls Try.prog 29 #[.agg #[.int .i64 (thinO o).n, .bool (thinO o).e, .slice A' (thinO o).m.length c']] w (CloseRes w (closeO o) 0)) := hid fun A' c' w hx => by
    have := close_all (thinO o) A' c' w hx htm
    rw [l1, closedO_ok l1, l2] at this; exact this
  have HCO : Hid (∀ w, Rd w w.heap.size A o.m → Calls Try.prog 29 #[.agg #[.int .i64 o.n, .bool o.e, .slice A o.m.length c]] w (CloseRes w (closeO o) 0)) := hid fun w hx => by
    have := close_all o A c w hx hm
    rw [HK.out, closedO_ok HK.out] at this; exact this
  have HLE : Hid ((cellsT N (thinO o).e (thinO o).m).length ≤ (cellsT N (closeO o).e (closeO o).m).length ∧ ∀ x ∈ cellsT N (thinO o).e (thinO o).m, needAns (thinO o) (x.1.1 : Int) (x.1.2 : Int) = (true, 0)) := hid (by
    unfold cellsT
    rw [l4]
    cases he : (closeO o).e
    · exact l5 he
    · exact ⟨Nat.le_refl _, fun x hx => by cases hx⟩)
  have HTC : Hid (check (thinO o) = 0) := hid l1
  have HCC : Hid (check (closeO o) = 0) := hid hcc
  clear l1 l2 l5 hcc hcl
  generalize thinO o = t at *
  generalize closeO o = q at *
  obtain ⟨tn, te, tm⟩ := t
  obtain ⟨qn, qe, qm⟩ := q
  dsimp only at *
  subst l3
  subst hcn
  subst l4
  have HTL := hid htm
  have HQL := hid hlm
  rintro e4 w4 ⟨rfl, hb1⟩
  replace p0 := p0.later hb1
  replace p1 := p1.later hb1
  replace hx := hx.up hb1
  replace hb0 := bup hb0 hb1
  clear hb1
  obtain ⟨x0, x1, x2, fx⟩ := octbox p0
  gi_wp2_with fail
  clear x0 x1 x2 fx
  refine (callsIn_at (HTO.out w4 hx)).mono ?_
  clear HTO
  rintro e5 w5 ⟨A3, c3', rfl, own3, hb1⟩
  dsimp only at own3 ⊢
  have hb2 := bup hb1 (new1 w5 (Obj.cells #[.int .i64 o.n, .bool te, .slice A3 tm.length c3'] 24))
  replace own3 := own3.below (new1 w5 (Obj.cells #[.int .i64 o.n, .bool te, .slice A3 tm.length c3'] 24))
  have k3 := Blk.new w5 24 #[.int .i64 o.n, .bool te, .slice A3 tm.length c3']
  replace p0 := p0.later hb2
  replace p1 := p1.later hb2
  replace hx := hx.up hb2
  have hw04 := hb0.size
  have hz6 := hb2.size
  replace hb0 := bup hb0 hb2
  clear hb1 hb2
  obtain ⟨y0, y1, y2, fy⟩ := octbox k3
  gi_wp2_with fail
  clear y0 y1 y2 fy
  refine (callsIn_at (HCT.out A3 c3' _ own3.rd)).mono ?_
  clear HCT
  generalize w5.alloc (Obj.cells #[.int .i64 o.n, .bool te, .slice A3 tm.length c3'] 24) = w6 at *
  generalize w5.heap.size = g3 at *
  rintro e7 w7 ⟨A5, c5, s5, rfl, own5, hb1⟩
  dsimp only at own5 ⊢
  have hb2 := bup hb1 (new1 w7 (Obj.cells #[.int .i64 o.n, .bool te, .slice A5 qm.length c5] 24))
  replace own5 := own5.below (new1 w7 (Obj.cells #[.int .i64 o.n, .bool te, .slice A5 qm.length c5] 24))
  have k5 := Blk.new w7 24 #[.int .i64 o.n, .bool te, .slice A5 qm.length c5]
  replace p0 := p0.later hb2
  replace p1 := p1.later hb2
  replace k3 := k3.later hb2
  replace own3 := own3.below hb2
  replace hx := hx.up hb2
  have hz8 := hb2.size
  replace hb0 := bup hb0 hb2
  clear hb1 hb2
  obtain ⟨x0, x1, x2, fx⟩ := octbox p0
  gi_wp2_with fail
  clear x0 x1 x2 fx
  refine (callsIn_at (HCO.out _ hx)).mono ?_
  clear HCO
  generalize w7.alloc (Obj.cells #[.int .i64 o.n, .bool te, .slice A5 qm.length c5] 24) = w8 at *
  generalize w7.heap.size = g5 at *
  rintro e9 w9 ⟨A8, c8, s8, rfl, own8, hb1⟩
  dsimp only at own8 ⊢
  have hw8 : w4.heap.size ≤ w8.heap.size := Nat.le_trans hz6 hz8
  have hb2 := bup hb1 (new1 w9 (Obj.cells #[.int .i64 o.n, .bool te, .slice A8 qm.length c8] 24))
  replace own8 := own8.below (new1 w9 (Obj.cells #[.int .i64 o.n, .bool te, .slice A8 qm.length c8] 24))
  have k8 := Blk.new w9 24 #[.int .i64 o.n, .bool te, .slice A8 qm.length c8]
  replace p0 := p0.later hb2
  replace p1 := p1.later hb2
  replace k3 := k3.later hb2
  replace k5 := k5.later hb2
  replace own3 := own3.below hb2
  replace own5 := own5.below hb2
  replace hx := hx.up hb2
  replace hb0 := bup hb0 hb2
  clear hb1 hb2
  obtain ⟨x0, x1, x2, fx⟩ := octbox k5
  obtain ⟨y0, y1, y2, fy⟩ := octbox k8
  have HO := hid (oct_any ⟨o.n, te, qm⟩ ⟨o.n, te, qm⟩ A5 A8 c5 c8 _ own5.rd own8.rd HQL.out)
  rw [eqO_same] at HO
  try dsimp only at HO
  gi_wp2_with fail
  clear x0 x1 x2 fx y0 y1 y2 fy
  refine (callsIn_at HO.out).mono ?_
  clear HO
  generalize w9.alloc (Obj.cells #[.int .i64 o.n, .bool te, .slice A8 qm.length c8] 24) = wa at *
  generalize w9.heap.size = g8 at *
  rintro e10 w10 ⟨rfl, hb1⟩
  have n11 := new1 w10 (Obj.cells #[.int .i64 0] 3)
  have hb2 := bup hb1 n11
  have k11 := Blk.new w10 3 #[.int .i64 0]
  have hd11 : w.heap.size + 1 < w10.heap.size ∧ g3 < w10.heap.size ∧ g8 < w10.heap.size := by
    have a := p1.lt
    have b := k3.lt
    have d := k8.lt
    have e := hb1.size
    exact ⟨by omega, by omega, by omega⟩
  replace p1 := p1.later hb2
  replace k3 := k3.later hb2
  replace k8 := k8.later hb2
  replace own3 := own3.below hb2
  replace own8 := own8.below hb2
  replace hb0 := bup hb0 hb2
  clear hb1 hb2 n11 k5 own5 p0 hx
  obtain ⟨x0, x1, x2, fx⟩ := octbox k3
  gi_wp2_with fail
  clear x0 x1 x2 fx
  generalize w10.alloc (Obj.cells #[.int .i64 0] 3) = wb at *
  generalize w10.heap.size = g11 at *
  refine (callsIn_at (dbmcells_any _ _ ⟨_, _, _, _, _, rfl⟩)).mono ?_
  rintro e11 w11 ⟨rfl, cs, hcs, rfl⟩
  obtain rfl := Value.agg.inj hcs
  clear hcs
  gi_wp2
  have hne3 := own_blk' own3 k11 (by decide)
  obtain ⟨hd1, hd2, hd3⟩ := hd11
  have hlow3 := own3.low
  have hg11 := k11.lt
  have hp1 := p1.lt
  have nC := new1 wb (.cells #[.int .i64 o.n, .bool te, .slice A3 tm.length c3'] 24)
  have kC := Blk.new wb 24 #[.int .i64 o.n, .bool te, .slice A3 tm.length c3']
  replace hb0 := bup hb0 nC
  replace p1 := p1.later nC
  replace k3 := k3.later nC
  replace k8 := k8.later nC
  replace k11 := k11.later nC
  replace own3 := own3.below nC
  replace own8 := own8.below nC
  have hC : wb.heap.size < (wb.alloc (.cells #[.int .i64 o.n, .bool te, .slice A3 tm.length c3'] 24)).heap.size := by simp
  clear nC
  generalize wb.alloc (.cells #[.int .i64 o.n, .bool te, .slice A3 tm.length c3'] 24) = wC at *
  generalize wb.heap.size = gC at *
  have hNN : N * N ≤ 16384 := Nat.mul_le_mul hN1 hN1
  have hA3 : ∀ a, A3 = some a → (fun k => k = gC ∨ A3 = some ⟨k, 0, none⟩) a.block := fun a ha => by
    rcases own3.form with ⟨h, _⟩ | ⟨g, h, _⟩
    · rw [h] at ha; cases ha
    · rw [h] at ha; injection ha with ha; subst ha; exact .inr h
  have hpl : ∀ k, (k = gC ∨ A3 = some ⟨k, 0, none⟩) → k < wC.heap.size := fun k hk => by
    rcases hk with rfl | hk
    · exact hC
    · have := hlow3 k hk; omega
  have hne11 : ∀ k, (k = gC ∨ A3 = some ⟨k, 0, none⟩) → g11 ≠ k := fun k hk => by
    rcases hk with rfl | hk
    · omega
    · exact fun e => hne3 k hk e.symm
  have hle0 := hb0.size
  refine name_act (fun a0 ha0 => ?_)
  have HA0 := hid ha0
  clear ha0
  refine wpIn_rangeFunc_ownH (F := wideAt none) rfl (by omega) (gf := 71) (lb := #[.pointer (some ⟨gC, 0, none⟩)]) (by rw [HA0.out]; rfl) trivial (enters_of Try.func71 (by kernel_rfl) rfl)
    (cells_stops (10 - 1) gC o.n te tm N A3 c3' (fun k => k = gC ∨ A3 = some ⟨k, 0, none⟩) (.inl rfl) hA3 HN.out hN1 HTL.out HTC.out wC kC own3.rd) Same.trans
    (fun W l x x' hl hx _ _ => ⟨by simp, fun k hk => World.putObj_heap_other (by have := hpl k hk; omega)⟩) (Below.refl _ _) (fun _ => rfl)
    (fun pre W => ((Blk W g3 24 #[.int .i64 o.n, .bool te, .slice A3 tm.length c3'] ∧ Own W w4.heap.size A3 c3' tm ∧ Blk W g8 24 #[.int .i64 o.n, .bool te, .slice A8 qm.length c8] ∧ Own W w8.heap.size A8 c8 qm ∧ Blk W (w.heap.size + 1) 4 #[.bool false] ∧ Blk W g11 3 #[.int .i64 (pre.length : Int)]) ∧ wC.heap.size ≤ W.heap.size) ∧ Below w.heap.size w W)
    (fun _ pre _ => ∃ x ∈ pre, needAns ⟨o.n, te, tm⟩ (x.1.1 : Int) (x.1.2 : Int) ≠ (true, 0))
    (OwnFrom.and (Own.from (fun pre X Y row ⟨⟨h1, h2, h3, h4, h5, h6⟩, h7⟩ hg hr => ⟨⟨blk_kept h1 hg hr, own_kept h2 hg hr, blk_kept h3 hg hr, own_kept h4 hg hr, blk_kept h5 hg hr, blk_kept h6 hg hr⟩, Nat.le_trans h7 hg.size⟩) _) (ownFrom_below (Nat.le_refl _) hle0))
    (fun _ _ _ _ _ hs _ _ => hs)
    ⟨⟨⟨k3, own3, k8, own8, p1, k11⟩, Nat.le_refl _⟩, hb0⟩
    (fun x a' W => ∃ g9, wC.heap.size ≤ g9 ∧ Blk W g9 57 #[.int .i64 (x.1.1 : Int), .int .i64 (x.1.2 : Int)] ∧ a' = { tmps := (((#[65, 66] : Array Nat).zip (encC N tm x)).foldl (fun t (p, v) => t.setIfInBounds p v) a0.tmps).setIfInBounds 12 (.pointer (some ⟨g9, 0, none⟩)), defers := [] })
    (fun x a' _ X Y row ⟨g9, h1, h2, h3⟩ hg hr => ⟨g9, h1, blk_kept h2 hg (fun r e => (hr r e).2), h3⟩)
    ?assign ?body ?done ?stop
  case assign =>
    rintro l pre x W K ⟨⟨⟨h1, h2, h3, h4, h5, h6⟩, h7⟩, hbw⟩ hK
    obtain rfl := HA0.out
    have n9 := new1 W (.cells #[.int .i64 (x.1.1 : Int), .int .i64 (x.1.2 : Int)] 57)
    have hk := hK _ _ (keeps_of n9) (same_of (grown_of_below n9 none) (fun k hk => Nat.lt_of_lt_of_le (hpl k hk) h7) (fun k _ e => by cases e)) ⟨⟨⟨h1.later n9, h2.below n9, h3.later n9, h4.below n9, h5.later n9, h6.later n9⟩, Nat.le_trans h7 n9.size⟩, bup hbw n9⟩ ⟨W.heap.size, h7, Blk.new _ _ _, rfl⟩
    simp only [encC, fold2, List.setIfInBounds_toArray, List.set_cons_zero, List.set_cons_succ] at hk
    have HKK := hid hk
    simp only [encC, fold2, List.setIfInBounds_toArray, List.set_cons_zero, List.set_cons_succ]
    clear hk hK h1 h2 h3 h4 h5 h6 n9
    gi_wp2
    exact HKK.out
  case body =>
    rintro l pre x a' W hl hrr ⟨⟨⟨h1, h2, h3, h4, h5, h6⟩, h7⟩, hbw⟩ ⟨g9, hg9, k9, rfl⟩ hlen
    obtain rfl := HA0.out
    have c0 := k9.cell 0
    have c1 := k9.cell 1
    obtain ⟨y0, y1, y2, fy⟩ := octbox h1
    have HC := hid (tneed_any ⟨o.n, te, tm⟩ (x.1.1 : Int) (x.1.2 : Int) A3 c3' W h2.rd HTL.out)
    have HND : Hid (∃ nd, needAns ⟨o.n, te, tm⟩ (x.1.1 : Int) (x.1.2 : Int) = nd) := hid ⟨_, rfl⟩
    obtain ⟨nd, hnd⟩ := HND.out
    rw [hnd] at HC
    have HND2 := hid hnd
    clear HND hnd
    dsimp only at HC
    simp only [encC, fold2, List.setIfInBounds_toArray, List.set_cons_zero, List.set_cons_succ]
    gi_wp2_with fail
    refine (callsIn_at HC.out).mono ?_
    clear c0 c1 y0 y1 y2 fy HC
    obtain ⟨nb, ne⟩ := nd
    rintro e12 w12 ⟨rfl, hb12⟩
    dsimp only
    replace h1 := h1.later hb12
    replace h2 := h2.below hb12
    replace h3 := h3.later hb12
    replace h4 := h4.below hb12
    replace h5 := h5.later hb12
    replace h6 := h6.later hb12
    replace hbw := bup hbw hb12
    have h7' := Nat.le_trans h7 hb12.size
    have hmem : x ∈ pre ++ [x] := List.mem_append.2 (.inr (List.mem_singleton.2 rfl))
    have HMEM := hid hmem
    clear hmem
    by_cases hne : ne = 0
    · subst hne
      cases nb
      · have q0 := h5.cell 0
        have qf := h5.fr 0
        have hG := (grown_of_below hb12 (some (w.heap.size + 1))).trans (grown_setCell w12 ⟨w.heap.size + 1, 0, none⟩ (.bool false))
        gi_wp2
        exact ⟨KeepsFrom.of_grownBy hG (fun j e => by injection e with e; omega), x, HMEM.out, by rw [HND2.out]; simp⟩
      · have q0 := h6.cell 0
        have qf := h6.fr 0
        have hpre : (pre.length : Int) ≤ 16384 := by omega
        have hpre0 : (0 : Int) ≤ (pre.length : Int) := by omega
        have hG := (grown_of_below hb12 (some g11)).trans (grown_setCell w12 ⟨g11, 0, none⟩ (.int .i64 ((pre.length : Int) + 1)))
        gi_wp2
        have hpl1 : ((pre ++ [x]).length : Int) = (pre.length : Int) + 1 := by simp
        refine ⟨KeepsFrom.of_grownBy hG (fun j e => by injection e with e; omega), same_of hG (fun k hk => Nat.lt_of_lt_of_le (hpl k hk) h7) (fun k hk e => by
          injection e with e
          exact hne11 k hk e), ⟨⟨h1.far (p := ⟨g11, 0, none⟩) ?_ _, h2.far1 ?_, h3.far (p := ⟨g11, 0, none⟩) ?_ _, h4.far1 ?_, h5.far (p := ⟨g11, 0, none⟩) ?_ _, by rw [hpl1]; exact h6.set_ 0 _⟩, by simpa using h7'⟩, hbw.trans (below1 (by omega) hbw.size)⟩
        · show g11 ≠ g3; omega
        · exact own_blk' h2 h6 (by decide)
        · show g11 ≠ g8; omega
        · exact own_blk' h4 h6 (by decide)
        · show g11 ≠ w.heap.size + 1; omega
    · have tne : (ne != 0) = true := by simpa using hne
      have q0 := h5.cell 0
      have qf := h5.fr 0
      have hG := (grown_of_below hb12 (some (w.heap.size + 1))).trans (grown_setCell w12 ⟨w.heap.size + 1, 0, none⟩ (.bool false))
      have HNE := hid hne
      clear hne
      gi_wp2
      exact ⟨KeepsFrom.of_grownBy hG (fun j e => by injection e with e; omega), x, HMEM.out, by rw [HND2.out]; intro e; injection e with _ e; exact HNE.out e⟩
  case stop =>
    rintro D c pre W _ hpre ⟨x, hx, hne⟩ _
    exact absurd (HLE.out.2 x (hpre.subset hx)) hne
  case done =>
    rintro D xs W hD rfl ⟨⟨⟨h1, h2, h3, h4, h5, h6⟩, h7⟩, hbw⟩ hK
    obtain rfl := HA0.out
    have hDlt : D < W.heap.size := (Array.getElem?_eq_some_iff.1 hK).1
    have HLT := hid HLE.out.1
    have HTT := hid (cellsT_len N te tm)
    generalize (cellsT N te tm).length = L at *
    have hL : L ≤ 16384 := Nat.le_trans HTT.out hNN
    clear h1 h2 k3 k8 own3 own8 p1 k11 hb0
    obtain ⟨x0, x1, x2, fx⟩ := octbox h3
    gi_wp2_with fail
    clear x0 x1 x2 fx
    refine (callsIn_at (dbmcells_any _ _ ⟨_, _, _, _, _, rfl⟩)).mono ?_
    rintro e13 w13 ⟨rfl, cs, hcs, rfl⟩
    obtain rfl := Value.agg.inj hcs
    clear hcs
    gi_wp2
    have hlow4 := h4.low
    have hg11w := h6.lt
    have nD := new1 W (.cells #[.int .i64 o.n, .bool te, .slice A8 qm.length c8] 24)
    have kD := Blk.new W 24 #[.int .i64 o.n, .bool te, .slice A8 qm.length c8]
    have hne8 := own_blk' h4 h6 (by decide)
    replace hbw := bup hbw nD
    replace h4 := h4.below nD
    replace h5 := h5.later nD
    replace h6 := h6.later nD
    replace hK : (W.alloc (.cells #[.int .i64 o.n, .bool te, .slice A8 qm.length c8] 24)).heap[D]? = some (.deferred (some [])) := (nD.block D hDlt).trans hK
    have hDC : W.heap.size < (W.alloc (.cells #[.int .i64 o.n, .bool te, .slice A8 qm.length c8] 24)).heap.size := by simp
    clear nD
    generalize W.alloc (.cells #[.int .i64 o.n, .bool te, .slice A8 qm.length c8] 24) = wD at *
    generalize hgD : W.heap.size = gD at *
    have hA8 : ∀ a, A8 = some a → (fun k => k = gD ∨ A8 = some ⟨k, 0, none⟩) a.block := fun a ha => by
      rcases h4.form with ⟨h, _⟩ | ⟨g, h, _⟩
      · rw [h] at ha; cases ha
      · rw [h] at ha; injection ha with ha; subst ha; exact .inr h
    have hpl2 : ∀ k, (k = gD ∨ A8 = some ⟨k, 0, none⟩) → k < wD.heap.size := fun k hk => by
      rcases hk with rfl | hk
      · exact hDC
      · have := hlow4 k hk; omega
    have hne12 : ∀ k, (k = gD ∨ A8 = some ⟨k, 0, none⟩) → g11 ≠ k := fun k hk => by
      rcases hk with rfl | hk
      · omega
      · exact fun e => hne8 k hk e.symm
    have hle2 := hbw.size
    refine name_act (fun a0 ha0 => ?_)
    have HA1 := hid ha0
    clear ha0
    refine wpIn_rangeFunc_ownH (F := wideAt none) rfl (by omega) (gf := 71) (lb := #[.pointer (some ⟨gD, 0, none⟩)]) (by rw [HA1.out]; rfl) trivial (enters_of Try.func71 (by kernel_rfl) rfl)
      (cells_stops (10 - 1) gD o.n te qm N A8 c8 (fun k => k = gD ∨ A8 = some ⟨k, 0, none⟩) (.inl rfl) hA8 HN.out hN1 HQL.out HCC.out wD kD h4.rd) Same.trans
      (fun W l x x' hl hx _ _ => ⟨by simp, fun k hk => World.putObj_heap_other (by have := hpl2 k hk; omega)⟩) (Below.refl _ _) (fun _ => rfl)
      (fun pre W => (((Blk W (w.heap.size + 1) 4 #[.bool false] ∧ Blk W g11 3 #[.int .i64 ((L : Int) - (pre.length : Int))]) ∧ wD.heap.size ≤ W.heap.size) ∧ Below w.heap.size w W) ∧ W.heap[D]? = some (.deferred (some [])))
      (fun _ _ _ => False)
      (OwnFrom.and (OwnFrom.and (Own.from (fun pre X Y row ⟨⟨h5, h6⟩, h7⟩ hg hr => ⟨⟨blk_kept h5 hg hr, blk_kept h6 hg hr⟩, Nat.le_trans h7 hg.size⟩) _) (ownFrom_below (Nat.le_refl _) hle2))
        (fun s X Y row hs hg hr => (hg.block D (Array.getElem?_eq_some_iff.1 hs).1 (fun e => by have := (hr D e.symm).1; omega)).trans hs))
      (fun _ _ _ _ _ hs _ _ => hs)
      ⟨⟨⟨⟨h5, by simpa using h6⟩, Nat.le_refl _⟩, hbw⟩, hK⟩
      (fun x a' W => a' = { tmps := ((#[86, 87] : Array Nat).zip (encC N qm x)).foldl (fun t (p, v) => t.setIfInBounds p v) a0.tmps, defers := [] })
      (fun x a' _ X Y row h _ _ => h)
      ?assign ?body ?done ?stop
    case assign =>
      rintro l pre x W K hI hK
      obtain rfl := HA1.out
      have hk := hK _ W (keeps_of (Below.refl _ _)) Same.refl hI rfl
      simp only [encC, fold2, List.setIfInBounds_toArray, List.set_cons_zero, List.set_cons_succ] at hk
      have HKK := hid hk
      simp only [encC, fold2, List.setIfInBounds_toArray, List.set_cons_zero, List.set_cons_succ]
      clear hK hk
      gi_wp2
      exact HKK.out
    case body =>
      rintro l pre x a' W hl hrr ⟨⟨⟨⟨h5, h6⟩, h7⟩, hbw⟩, hKD⟩ rfl hlen
      obtain rfl := HA1.out
      have q0 := h6.cell 0
      have qf := h6.fr 0
      have hpre : (pre.length : Int) ≤ 16384 := by omega
      have hpre0 : (0 : Int) ≤ (pre.length : Int) := by omega
      have hL0 : (0 : Int) ≤ (L : Int) := by omega
      have hL1 : (L : Int) ≤ 16384 := by omega
      have hG := grown_setCell W ⟨g11, 0, none⟩ (.int .i64 ((L : Int) - (pre.length : Int) - 1))
      have hpl1 : (L : Int) - ((pre ++ [x]).length : Int) = (L : Int) - (pre.length : Int) - 1 := by simp; omega
      simp only [encC, fold2, List.setIfInBounds_toArray, List.set_cons_zero, List.set_cons_succ]
      gi_wp2
      exact ⟨KeepsFrom.of_grownBy hG (fun j e => by injection e with e; omega), same_of hG (fun k hk => Nat.lt_of_lt_of_le (hpl2 k hk) h7) (fun k hk e => by
          injection e with e
          exact hne12 k hk e), ⟨⟨⟨h5.far (p := ⟨g11, 0, none⟩) (by show g11 ≠ w.heap.size + 1; omega) _, by rw [hpl1]; exact h6.set_ 0 _⟩, by simpa using h7⟩, hbw.trans (below1 (by omega) hbw.size)⟩, (KeepsOthers.setCell W ⟨g11, 0, none⟩ _).same D _ hKD rfl⟩
    case stop =>
      rintro D c pre W _ _ h _
      exact h.elim
    case done =>
      rintro D2 ys W hD2 rfl ⟨⟨⟨⟨h5, h6⟩, h7⟩, hbw⟩, hKD⟩ hK2
      obtain rfl := HA1.out
      have HT2 := hid (cellsT_len N te qm)
      generalize (cellsT N te qm).length = L2 at *
      have hL2 : L2 ≤ 16384 := Nat.le_trans HT2.out hNN
      have tle : decide ((L : Int) - (L2 : Int) ≤ 0) = true := by rw [decide_eq_true_iff]; have := HLT.out; omega
      have q0 := h6.cell 0
      have qf := h6.fr 0
      have r0 := h5.cell 0
      have rf := h5.fr 0
      have hDD : D ≠ D2 := by omega
      gi_wp2
      clear q0 qf r0 rf
      have hK3 := (KeepsOthers.setCell W ⟨w.heap.size + 1, 0, none⟩ (.bool true)).same D2 _ hK2 rfl
      have hD3 := (KeepsOthers.setCell W ⟨w.heap.size + 1, 0, none⟩ (.bool true)).same D _ hKD rfl
      have h53 := h5.set_ 0 (.bool true)
      have hb3 := hbw.trans (below1 (g := w.heap.size + 1) (i := 0) (v := .bool true) (by omega) hbw.size)
      generalize W.setCell ⟨w.heap.size + 1, 0, none⟩ (.bool true) = W3 at *
      have hD4 : (W3.putObj D2 (.deferred none)).heap[D]? = some (.deferred (some [])) := (World.putObj_heap_other hDD).trans hD3
      have h54 := blk_kept h53 (grownBy_putObj' W3 D2 (.deferred none)) (fun r e => by cases e; exact ⟨_, hK3, rfl⟩)
      have hb4 := hb3.trans (belowK_b (w := w) (Nat.le_refl _) W3 D2 _ (.deferred none) (by omega) hK3 rfl rfl)
      have h55 := blk_kept h54 (grownBy_putObj' _ D (.deferred none)) (fun r e => by cases e; exact ⟨_, hD4, rfl⟩)
      have hb5 := hb4.trans (belowK_b (w := w) (Nat.le_refl _) _ D _ (.deferred none) (by omega) hD4 rfl rfl)
      have z0 := h55.cell 0
      refine ⟨by simp, .inl ⟨_, _, rfl, run_takeDeferred hK3, ⟨by simp, .inl ⟨_, _, rfl, run_takeDeferred hD4, ?_⟩⟩⟩⟩
      exact ⟨.bool true, by simp [results, Try.results8, go_sem, z0], rfl, hb5⟩

theorem thinBack_walk (o : O) (A : Option Addr) (c : Nat) (w : World) (hx : Rd w w.heap.size A o.m) (hm : o.m.length ≤ 17592186044416) :
    Calls Try.prog 8 #[.agg #[.int .i64 o.n, .bool o.e, .slice A o.m.length c]] w fun e w' => e = .returned (.bool true) ∧ Below w.heap.size w w' :=
  (callsIn_wide (n := 10)).1 (thinBack_in o A c w hx hm)
end Go.Proofs.Ytanbplidigokgaa
