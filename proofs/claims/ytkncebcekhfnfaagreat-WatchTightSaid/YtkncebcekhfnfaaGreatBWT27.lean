/-
  step.outs, step.table: what they answer. (Printed by gen_souts.py.)
  step.table: the methods of all kinds; what each of them answers, in one contract. (Printed by gen_smeth.py.)
-/
import Derived.Test.YtkncebcekhfnfaaGreatBWT26
import Derived.Laws.EntriesVeiled
namespace Go.Proofs.YtkncebcekhfnfaaGreat
open Go.RowKit
section
attribute [local go_sem ↓] Go.wp_at_zero Go.wp_at_succ

/-- Lists of the edges from each point, in memory of one's own. -/
def OutsRes (g : Gr) (w : World) (e : Ending) (w' : World) : Prop := ∃ (N F : Nat) (f : Nat → Value), g.pts = (N : Int) ∧ e = .returned (.slice (some ⟨F, 0, none⟩) N N) ∧ LL enc1 w' w.heap.size F N 34 3 1 f (fun p => idxI g.es g.es.length p) ∧ Below w.heap.size w w'
set_option maxRecDepth 8000 in
set_option maxHeartbeats 8000000 in
theorem souts_ok (g : Gr) (V D E : Option Addr) (cv cd ce : Nat) (w : World) (hE : RdE w w.heap.size E g.es) (hc : chk g = 0) (le : g.es.length ≤ 8192) :
    Calls Tryz.prog 82 #[grV g V D E cv cd ce] w (OutsRes g w) := by
  unfold grV
  obtain ⟨p1, p2, hin, -⟩ := chk_in hc
  obtain ⟨N, hN⟩ : ∃ N : Nat, g.pts = (N : Int) := ⟨g.pts.toNat, by omega⟩
  have HN := hid hN
  have HIN := hid (fun k (hk : k < g.es.length) => (show 0 ≤ (g.es[k]).fr ∧ (g.es[k]).fr < (N : Int) from by
    have := hin _ (List.getElem_mem hk)
    unfold inE at this
    rw [decide_eq_true_eq] at this
    omega))
  have hNb : (N : Int) ≤ 4096 := by omega
  clear hin hN
  have n0 := new1 w (.cells #[.slice V g.nv cv, .int .i64 g.tm, .slice D g.sz.length cd, .int .i64 g.pts, .int .i64 g.ex, .slice E g.es.length ce] 26)
  have k0 := Blk.new w 26 #[.slice V g.nv cv, .int .i64 g.tm, .slice D g.sz.length cd, .int .i64 g.pts, .int .i64 g.ex, .slice E g.es.length ce]
  replace hE := hE.up n0
  go_enter Tryz.func82, Tryz.ntmps82
  go_upto_region 1 with fail
  generalize w.alloc (.cells #[.slice V g.nv cv, .int .i64 g.tm, .slice D g.sz.length cd, .int .i64 g.pts, .int .i64 g.ex, .slice E g.es.length ce] 26) = w3 at *
  have hmk := run_make_row' (P := Tryz.prog) 61 34 (.slice none 0 0) 24 Tryz.underlying61 ints_info rfl .i64 .i64 N (by omega) (by omega)
  rw [← HN.out] at hmk
  have z3 := k0.cell 3
  have n4 := new1 w3 (.cells (madeCells #[.slice none 0 0] N) 34)
  have L4 := LL.start (α := Int) (enc := enc1) (w := w3) (base := w3.heap.size) (n := N) (T := 34) (e := 3) (size := 1) (Nat.le_refl _)
  have kx : Hid (w.heap.size < w3.heap.size ∧ Below w.heap.size w w3) := hid ⟨k0.lt, n0⟩
  have E3 := hid hE
  have K0 := hid k0
  have N4 := hid n4
  replace k0 := k0.later n4
  replace hE := hE.up n4
  clear n0
  have x5 := k0.cell 5
  go_wp2
  clear z3 x5 hmk
  generalize w3.alloc (.cells (madeCells #[.slice none 0 0] N) 34) = w4 at *
  go_loopw [12] (fun i wr => ∃ (k : Nat) (f : Nat → Value), k ≤ g.es.length ∧ i = .int .i64 k ∧ LL enc1 wr w3.heap.size w3.heap.size N 34 3 1 f (fun p => idxI g.es k p) ∧ Below w3.heap.size w4 wr) (fun i _ => g.es.length - (Go.RowKit.intOf i).toNat)
  case atStart => exact ⟨0, _, by omega, rfl, L4.congr (fun p _ => by simp [idxI, ints, idxE]), Below.refl _ _⟩
  case round =>
    clear hE k0 L4
    obtain ⟨k, f, hk, rfl, hL, hb⟩ := hrel
    have hbw : Below w3.heap.size w3 wr := N4.out.trans hb
    have k0 := K0.out.below hbw kx.out.1
    have hE := E3.out.below hbw
    have hsz := hbw.size
    by_cases hlt : k < g.es.length
    · have hlt' : (k : Int) < (g.es.length : Int) := by omega
      have HI := hid (HIN.out k hlt)
      obtain ⟨x, hx⟩ : ∃ x, g.es[k] = x := ⟨_, rfl⟩
      have HX2 := hid hx
      rw [hx] at HI
      obtain ⟨b, off, rfl, hB, p0, p1, p2, p3, p4, p5, p6, p7, p8, p9⟩ := hE.get hlt hx
      replace hB : b < wr.heap.size := by omega
      clear hE hx
      have n8 := new1 wr (.cells (ecs x) 65)
      have k8 := Blk.new wr 65 (ecs x)
      have L8 := hL.below n8
      have hb8 : Below w3.heap.size w4 (wr.alloc (.cells (ecs x) 65)) := hb.trans (n8.mono hsz)
      have H8 : Hid (∀ p, p < N → ∀ j, (f p).ownBlock = some j → j < wr.heap.size) := hid fun p hp j hj => ((hL.own p hp).lt j hj).2
      have H9 : Hid (w3.heap.size < wr.heap.size) := hid hL.row.lt
      clear n8 hL hbw hb
      unfold ecs at *
      go_upto_region 5 with fail
      clear p0 p1 p2 p3 p4 p5 p6 p7 p8 p9
      generalize hw6 : wr.alloc (.cells #[.int .i64 x.fr, .int .i64 x.te, .int .i64 x.kd, .int .i64 x.dst, .int .i64 x.arr, .int .i64 x.op, .int .i64 x.av, .int .i64 x.an, .int .i64 x.bv, .int .i64 x.bn] 65) = w6 at *
      have hs6 : wr.heap.size < w6.heap.size := by rw [← hw6]; simp
      clear hw6
      have hi := HI.out
      obtain ⟨q, hq⟩ : ∃ q : Nat, x.fr = (q : Int) := ⟨x.fr.toNat, by omega⟩
      have hqN : q < N := by omega
      have hqN' : (q : Int) < (N : Int) := by omega
      have HQ := hid hq
      clear hi
      obtain ⟨v2, w2, hrun, ho, hg, hv⟩ := run_append_int (w6.drew.alloc (.cells #[.int .i64 (k : Int)] 3)) w3.heap.size 34 (f q) _ _ (k : Int) ((L8.own q hqN).alloc _) w6.heap.size (Blk.new w6.drew _ _) (by
        have := idxI_len g.es k q
        omega) (by have := hb8.size; have := N4.out.size; simp; omega)
      obtain ⟨g2, cap2, rfl, -, -⟩ := ho.form (by omega)
      have hrow : ∀ b, b ∈ [wr.heap.size, w3.heap.size] → (f q).ownBlock ≠ some b := by
        intro b hb e
        simp only [List.mem_cons, List.not_mem_nil, or_false] at hb
        rcases hb with rfl | rfl
        · have := H8.out q hqN _ e; omega
        · exact L8.ne q hqN e
      have c0 := SN.cell hg hs6 (hrow _ (by simp)) (k8.cell 0)
      have cF := SN.cell hg L8.row.lt (hrow _ (by simp)) (L8.row.cell hqN)
      have HH := hid hg
      have HO := hid ho
      have HVV := hid hv
      have HL8 := hid L8
      have hrun' := hid hrun
      clear hg ho hv hrun L8 k8 k0
      replace c0 := fun W hW => (c0 W hW).trans (show some (Value.int .i64 x.fr) = some (Value.int .i64 (q : Int)) by rw [hq])
      clear hq
      have S0 : Hid (SN w6.drew (w6.drew.alloc (.cells #[.int .i64 (k : Int)] 3)) w2 false false = fun W => W = w6.drew) := hid rfl
      have S1 : Hid (SN w6.drew (w6.drew.alloc (.cells #[.int .i64 (k : Int)] 3)) w2 true false = fun W => W = w6.drew.alloc (.cells #[.int .i64 (k : Int)] 3)) := hid rfl
      have S2 : Hid (SN w6.drew (w6.drew.alloc (.cells #[.int .i64 (k : Int)] 3)) w2 true true = fun W => W = w2) := hid rfl
      generalize SN w6.drew (w6.drew.alloc (.cells #[.int .i64 (k : Int)] 3)) w2 = S at *
      refine wp_region_flowN 11 9 10 S (by kernel_rfl) (by kernel_rfl) (by kernel_rfl) (by decide) (by decide) (by rw [S0.out]) ?_
      (repeat (first | (refine FlowN.skip (by rfl) (by rfl) (by rfl) ?_; simp only [Act.put, List.setIfInBounds_toArray, List.set_cons_zero, List.set_cons_succ]) | (refine' FlowN.take _ (by rfl) (by rfl) (by rfl) (fun W hW R hR => ?_) ?_; rotate_left; (go_simp; (try go_bits); with_reducible exact hR); simp only [Act.put, List.setIfInBounds_toArray, List.set_cons_zero, List.set_cons_succ])))
      refine FlowN.mark1 (.slice (some ⟨w6.heap.size, 0, none⟩) 1 1) (by rfl) (by rfl) (by rfl) (fun W hW => ⟨w6.drew.alloc (.cells #[.int .i64 (k : Int)] 3), ?_, by rw [S1.out]⟩) ?_
      · rw [S0.out] at hW
        subst hW
        go_simp
      simp only [Act.put, List.setIfInBounds_toArray, List.set_cons_zero, List.set_cons_succ]
      refine FlowN.mark2 (.slice (some ⟨g2, 0, none⟩) ((idxI g.es k q).length + 1) cap2) (by rfl) (by rfl) (by rfl) (fun W hW => ⟨w2, ?_, by rw [S2.out]⟩) ?_
      · rw [S1.out] at hW
        subst hW
        exact exec_append (Operand.tmp 24) (Operand.tmp 26) 34 rfl rfl rfl hrun'.out
      simp only [Act.put, List.setIfInBounds_toArray, List.set_cons_zero, List.set_cons_succ]
      intro W hW
      rw [S2.out] at hW
      subst hW
      have L7 := HL8.out.below ((Below.refl w6.heap.size w6).drew.alloc (by simp) (.cells #[.int .i64 (k : Int)] 3))
      have hR2 : W.rowIs w3.heap.size 34 N f := L7.row.of_block (HH.out.block _ L7.row.lt (fun e => L7.ne q hqN e.symm))
      have hF2 := hR2.cell hqN
      have hFr := hR2.frozen
      have L9 := hid (LL.put (y := (k : Int)) L7 hqN HH.out HO.out HVV.out)
      have hb9 := hid (LL.put_below (v := .slice (some ⟨g2, 0, none⟩) ((idxI g.es k q).length + 1) cap2) L7 (Nat.le_refl _) (by simp; have := hb8.size; have := N4.out.size; omega) hqN HH.out)
      clear c0 cF hrow hR2 L7
      go_wp2
      go_roundw
      case rel =>
        refine ⟨k + 1, _, by omega, by go_num, L9.out.congr ?_, ?_⟩
        · intro p hp
          rw [idxI_succ g.es k hlt, HX2.out]
          by_cases e : p = q
          · subst e; simp [HQ.out]
          · simp only [if_neg e]; rw [if_neg (by rw [HQ.out]; omega)]; simp
        · exact (hb8.trans (((Below.refl w6.heap.size w6).drew.alloc (by simp) (.cells #[.int .i64 (k : Int)] 3)).mono (by have := hb8.size; have := N4.out.size; omega))).trans hb9.out
      case measure => simp [Go.RowKit.intOf]; omega
    · obtain rfl : k = g.es.length := by omega
      have HL := hid hL
      clear hL
      go_wp2
      go_ret
      exact ⟨N, w3.heap.size, f, HN.out, rfl, HL.out.less (by have := kx.out.1; omega), kx.out.2.trans (hbw.mono (by have := kx.out.1; omega))⟩
end
section
attribute [local go_sem ↓] Go.wp_at_zero Go.wp_at_succ

def tableV : Array Value := #[.nilFunc, .func (.func 111) #[] #[], .func (.func 112) #[] #[], .func (.func 113) #[] #[], .func (.func 114) #[] #[], .func (.func 115) #[] #[], .func (.func 116) #[] #[], .func (.func 117) #[] #[], .func (.func 118) #[] #[], .func (.func 119) #[] #[], .func (.func 120) #[] #[], .func (.func 121) #[] #[], .func (.func 111) #[] #[], .func (.func 122) #[] #[], .func (.func 123) #[] #[]]
set_option maxRecDepth 8000 in
set_option maxHeartbeats 4000000 in
theorem stable_any (w : World) : Calls Tryz.prog 83 #[] w fun e w' => e = .returned (.agg tableV) ∧ Below w.heap.size w w' := by
  unfold tableV
  go_enter Tryz.func83, Tryz.ntmps83
  go_wp2
  refine bodyPost_ret (v := .agg #[.nilFunc, .func (.func 111) #[] #[], .func (.func 112) #[] #[], .func (.func 113) #[] #[], .func (.func 114) #[] #[], .func (.func 115) #[] #[], .func (.func 116) #[] #[], .func (.func 117) #[] #[], .func (.func 118) #[] #[], .func (.func 119) #[] #[], .func (.func 120) #[] #[], .func (.func 121) #[] #[], .func (.func 111) #[] #[], .func (.func 122) #[] #[], .func (.func 123) #[] #[]]) (by simp [results, Tryz.results83, go_sem]) rfl (And.intro rfl ?_)
  repeat (first | exact Below.refl _ _ | refine Below.setCell ?_ (by simp) _ | refine Below.alloc ?_ (by simp) _)

/-- The method of a kind: which function it is, and what it answers. -/
def Meth (b0 gs n : Nat) (r : RP) (m : MS) (ev : Value) (x : Edg) (f : FuncId) : Prop :=
  tableV[x.kd.toNat]? = some (.func (.func f) #[] #[]) ∧ (∀ X, (callFunc f #[.pointer (some ⟨gs, 0, none⟩), x.val]).run Tryz.prog X = .ok (.enter f #[.pointer (some ⟨gs, 0, none⟩), x.val]) X) ∧
  ∀ W, StA W b0 gs r m ev n → Calls Tryz.prog f #[.pointer (some ⟨gs, 0, none⟩), x.val] W (MRes W b0 gs r m (n + 1) (doesW m.ls x m.xs (m.inp.headD 0)) (rowsW m.ls x m.xs) (if x.kd = 9 then m.inp.tail else m.inp))
theorem MRes.same {w : World} {b0 gs : Nat} {r : RP} {m : MS} {n : Nat} {q q' : Int × List Int} {ls ls' : List (List Int)} {inp inp' : List Int} {e : Ending} {w' : World} (h : MRes w b0 gs r m n q ls inp e w') (h1 : q = q') (h2 : ls = ls') (h3 : inp = inp') : MRes w b0 gs r m n q' ls' inp' e w' := by
  subst h1; subst h2; subst h3; exact h
set_option maxRecDepth 8000 in
set_option maxHeartbeats 4000000 in
theorem meth_ok (b0 gs n : Nat) (r : RP) (m : MS) (ev : Value) (x : Edg) (hr : rightE (m.xs.length : Int) (m.zs.length : Int) x = true) (hI : I64s m.xs) (ia : I64 x.an) (ib : I64 x.bn) (hl : m.xs.length ≤ 64) (hzl : ∀ z ∈ m.zs, z.1.length ≤ 1024) (hne : x.kd = 9 → m.inp ≠ []) (hn : n ≤ 70000) :
    ∃ f, Meth b0 gs n r m ev x f := by
  unfold rightE at hr
  simp only [Bool.and_eq_true, decide_eq_true_eq] at hr
  obtain ⟨⟨⟨⟨⟨hk, hd⟩, harr⟩, -⟩, ha⟩, hb⟩ := hr
  have ha' := opd_lt (by omega) ha
  have hb' := opd_lt (by omega) hb
  have hd' : 2 ≤ x.kd ∧ x.kd ≤ 10 → 0 ≤ x.dst ∧ x.dst < m.xs.length := fun q => by
    rw [show wDst x.kd = true from decide_eq_true q, cond_true, decide_eq_true_eq] at hd; exact hd
  have harr' : x.kd = 10 ∨ x.kd = 11 → 0 ≤ x.arr ∧ x.arr < m.zs.length := fun q => by
    rw [show wArr x.kd = true from decide_eq_true q, cond_true, decide_eq_true_eq] at harr; exact harr
  have ea := opdX_i64 hI ia (v := x.av)
  have eb := opdX_i64 hI ib (v := x.bv)
  have hL : ∀ a (h : a < m.zs.length), m.ls.getD a [] = m.zs[a].1 := fun a h => by unfold MS.ls; simp [List.getD_eq_getElem?_getD, h]
  clear hd harr ha hb
  have hkk : x.kd = 1 ∨ x.kd = 2 ∨ x.kd = 3 ∨ x.kd = 4 ∨ x.kd = 5 ∨ x.kd = 6 ∨ x.kd = 7 ∨ x.kd = 8 ∨ x.kd = 9 ∨ x.kd = 10 ∨ x.kd = 11 ∨ x.kd = 12 ∨ x.kd = 13 ∨ x.kd = 14 := by omega
  rcases hkk with k | k | k | k | k | k | k | k | k | k | k | k | k | k
  · refine ⟨111, by rw [k]; rfl, fun X => by go_simp, fun W h => (snothing_ok b0 gs n r m ev x W h).mono fun _ _ q => q.same (by unfold doesW; simp [k]) (Eq.symm (rowsW_not (by rw [k]; decide))) (by rw [if_neg (by rw [k]; decide)])⟩
  · refine ⟨112, by rw [k]; rfl, fun X => by go_simp, fun W h => (scopies_ok b0 gs n r m ev x W h (hd' (by omega)) ha' hl).mono fun _ _ q => q.same (by unfold doesW; simp [k]) (Eq.symm (rowsW_not (by rw [k]; decide))) (by rw [if_neg (by rw [k]; decide)])⟩
  · refine ⟨113, by rw [k]; rfl, fun X => by go_simp, fun W h => (snegates_ok b0 gs n r m ev x W h (hd' (by omega)) ha' hb' hl ea eb).mono fun _ _ q => q.same (by unfold doesW; simp [k]) (Eq.symm (rowsW_not (by rw [k]; decide))) (by rw [if_neg (by rw [k]; decide)])⟩
  · refine ⟨114, by rw [k]; rfl, fun X => by go_simp, fun W h => (sadds_ok b0 gs n r m ev x W h (hd' (by omega)) ha' hb' hl ea eb).mono fun _ _ q => q.same (by unfold doesW; simp [k]) (Eq.symm (rowsW_not (by rw [k]; decide))) (by rw [if_neg (by rw [k]; decide)])⟩
  · refine ⟨115, by rw [k]; rfl, fun X => by go_simp, fun W h => (ssubtracts_ok b0 gs n r m ev x W h (hd' (by omega)) ha' hb' hl ea eb).mono fun _ _ q => q.same (by unfold doesW; simp [k]) (Eq.symm (rowsW_not (by rw [k]; decide))) (by rw [if_neg (by rw [k]; decide)])⟩
  · refine ⟨116, by rw [k]; rfl, fun X => by go_simp, fun W h => (smultiplies_ok b0 gs n r m ev x W h (hd' (by omega)) ha' hb' hl ea eb).mono fun _ _ q => q.same (by unfold doesW; simp [k]) (Eq.symm (rowsW_not (by rw [k]; decide))) (by rw [if_neg (by rw [k]; decide)])⟩
  · refine ⟨117, by rw [k]; rfl, fun X => by go_simp, fun W h => (sdivides_ok b0 gs n r m ev x W h (hd' (by omega)) ha' hb' hl ea eb).mono fun _ _ q => q.same (by unfold doesW; simp [k]) (Eq.symm (rowsW_not (by rw [k]; decide))) (by rw [if_neg (by rw [k]; decide)])⟩
  · refine ⟨118, by rw [k]; rfl, fun X => by go_simp, fun W h => (srests_ok b0 gs n r m ev x W h (hd' (by omega)) ha' hb' hl ea eb).mono fun _ _ q => q.same (by unfold doesW; simp [k]) (Eq.symm (rowsW_not (by rw [k]; decide))) (by rw [if_neg (by rw [k]; decide)])⟩
  · refine ⟨119, by rw [k]; rfl, fun X => by go_simp, fun W h => (stakes_ok b0 gs n r m ev x W h (hd' (by omega)) (hne k) hn).mono fun _ _ q => q.same (by unfold doesW; simp [k]) (Eq.symm (rowsW_not (by rw [k]; decide))) (by rw [if_pos k])⟩
  · obtain ⟨an, han⟩ := Int.eq_ofNat_of_zero_le (harr' (by omega)).1
    have hal : an < m.zs.length := by have := (harr' (by omega)).2; omega
    refine ⟨120, by rw [k]; rfl, fun X => by go_simp, fun W h => (sloads_ok b0 gs n r m ev x an han hal hzl W h (hd' (by omega)) ha' hl).mono fun _ _ q => q.same (by unfold doesW; simp only [k]; rw [han, Int.toNat_natCast, hL an hal]; simp) (Eq.symm (rowsW_not (by rw [k]; decide))) (by rw [if_neg (by rw [k]; decide)])⟩
  · obtain ⟨an, han⟩ := Int.eq_ofNat_of_zero_le (harr' (by omega)).1
    have hal : an < m.zs.length := by have := (harr' (by omega)).2; omega
    refine ⟨121, by rw [k]; rfl, fun X => by go_simp, fun W h => (sstores_ok b0 gs n r m ev x an han hal hzl W h ha' hb' hl).mono fun _ _ q => q.same (by unfold doesW; simp only [k]; rw [han, Int.toNat_natCast, hL an hal]; split <;> simp_all) (by unfold rowsW; simp only [k]; rw [han, Int.toNat_natCast, hL an hal]; simp) (by rw [if_neg (by rw [k]; decide)])⟩
  · refine ⟨111, by rw [k]; rfl, fun X => by go_simp, fun W h => (snothing_ok b0 gs n r m ev x W h).mono fun _ _ q => q.same (by unfold doesW; simp [k]) (Eq.symm (rowsW_not (by rw [k]; decide))) (by rw [if_neg (by rw [k]; decide)])⟩
  · refine ⟨122, by rw [k]; rfl, fun X => by go_simp, fun W h => (spasses_ok b0 gs n r m ev x W h hn).mono fun _ _ q => q.same (by unfold doesW; simp [k]) (Eq.symm (rowsW_not (by rw [k]; decide))) (by rw [if_neg (by rw [k]; decide)])⟩
  · refine ⟨123, by rw [k]; rfl, fun X => by go_simp, fun W h => (sfails_ok b0 gs n r m ev x W h hn).mono fun _ _ q => q.same (by unfold doesW; simp [k]) (Eq.symm (rowsW_not (by rw [k]; decide))) (by rw [if_neg (by rw [k]; decide)])⟩
end
end Go.Proofs.YtkncebcekhfnfaaGreat
