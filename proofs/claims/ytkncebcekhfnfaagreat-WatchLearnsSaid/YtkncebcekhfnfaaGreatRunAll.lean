/-
  gnomonref10.does: what it answers, the arrays told too. (Printed by gen_runall.py.)
-/
import Derived.Test.YtkncebcekhfnfaaGreatBWL27
import Derived.Test.YtkncebcekhfnfaaGreatBWL14
namespace Go.Proofs.YtkncebcekhfnfaaGreat
open Go.RowKit
attribute [local go_sem ↓] Go.wp_at_zero Go.wp_at_succ

section
variable {w : World} {b0 gs vc rc : Nat} {V R : Option Addr} {xs : List Int} {zs : List At64.R1}
theorem StAt.put {gv b1 : Nat} (h : StAt w b0 gs (some ⟨gv, 0, none⟩) R vc rc xs zs) (ha : ApL b1 gs zs) (k : Nat) (x : Int) :
    StAt (w.setCell ⟨gv, k, none⟩ (.int .i64 x)) b0 gs (some ⟨gv, 0, none⟩) R vc rc (xs.set k x) zs ∧ Off b0 b1 w (w.setCell ⟨gv, k, none⟩ (.int .i64 x)) := by
  have h1 := h.vlt gv rfl
  obtain ⟨a, b, c⟩ := h.store k x
  exact ⟨⟨by rw [List.length_set]; exact a, h.le, b, h.vlt, h.rows.setFar (by show gv < gs + 1; omega) _⟩, ⟨c, (off_set (b0 := 0) (b1 := b1) (Nat.zero_le _) (by have := ha.g; omega) (Nat.zero_le _)).high⟩⟩
theorem StAt.putR {b1 : Nat} (h : StAt w b0 gs V R vc rc xs zs) (ha : ApL b1 gs zs) {k : Nat} (hk : k < zs.length) {g : Nat} (hg : zs[k].2.1 = some ⟨g, 0, none⟩) (i : Nat) (x : Int) :
    StAt (w.setCell ⟨g, i, none⟩ (.int .i64 x)) b0 gs V R vc rc xs (setR zs k (zs[k].1.set i x)) ∧ Off b0 b1 w (w.setCell ⟨g, i, none⟩ (.int .i64 x)) := by
  have hge : gs + 1 ≤ g := by
    have := h.rows.own _ (List.getElem_mem hk)
    rw [hg] at this
    rcases this.form with ⟨e, _⟩ | ⟨g', e, hg', _⟩
    · cases e
    · injection e with e; injection e with e; omega
  obtain ⟨a, b, c⟩ := h.storeR hge i (.int .i64 x)
  exact ⟨⟨by rw [setR_len]; exact a, h.le, b, h.vlt, OwnR_store h.rows ha.ap hk hg i x⟩, ⟨c, (off_set (b0 := 0) (b1 := b1) (Nat.zero_le _) (ha.lt _ (List.getElem_mem hk) g hg) (Nat.zero_le _)).high⟩⟩
end
def DoesAll (w : World) (b0 b1 gs : Nat) (V R : Option Addr) (vc rc : Nat) (p : Int × List Int) (ls : List (List Int)) (e : Ending) (w' : World) : Prop :=
  e = .returned (.int .i64 p.1) ∧ ∃ zs', ls = zs'.map (·.1) ∧ StAt w' b0 gs V R vc rc p.2 zs' ∧ ApL b1 gs zs' ∧ Off b0 b1 w w'
set_option maxRecDepth 8000 in
set_option maxHeartbeats 16000000 in
theorem does_all (e : Edg) (input : Int) (b0 gs : Nat) (V R : Option Addr) (vc rc : Nat) (xs : List Int) (zs : List At64.R1) (w : World) (h : StAt w b0 gs V R vc rc xs zs)
    (hr : rightE (xs.length : Int) (zs.length : Int) e = true) (hI : I64s xs) (ia : I64 e.an) (ib : I64 e.bn) (hl : xs.length ≤ 64) (hzl : ∀ z ∈ zs, z.1.length ≤ 1024) (b1 : Nat) (hap : ApL b1 gs zs) :
    Calls Tryz.prog 58 #[.pointer (some ⟨gs, 0, none⟩), e.val, .int .i64 input] w (DoesAll w b0 b1 gs V R vc rc (doesW (zs.map (·.1)) e xs input) (rowsW (zs.map (·.1)) e xs)) := by
  have HAP := hid hap
  clear hap
  obtain ⟨fr, te, kd, dst, arr, op, av, an, bv, bn⟩ := e
  have hr0 := hr
  clear hr0
  unfold rightE at hr
  simp only [Bool.and_eq_true, decide_eq_true_eq] at hr
  obtain ⟨⟨⟨⟨⟨hk, hd⟩, harr⟩, -⟩, ha⟩, hb⟩ := hr
  have ha' := opd_lt (by omega) ha
  have hb' := opd_lt (by omega) hb
  have hd' : 2 ≤ kd ∧ kd ≤ 10 → 0 ≤ dst ∧ dst < xs.length := fun q => by
    rw [show wDst kd = true from decide_eq_true q, cond_true, decide_eq_true_eq] at hd; exact hd
  have harr' : kd = 10 ∨ kd = 11 → 0 ≤ arr ∧ arr < zs.length := fun q => by
    rw [show wArr kd = true from decide_eq_true q, cond_true, decide_eq_true_eq] at harr; exact harr
  clear hd harr ha hb
  have ha := ha'
  have hb := hb'
  clear ha' hb'
  unfold Edg.val
  dsimp only at *
  obtain ⟨p4, hb0, -⟩ := new_one w #[.int .i64 fr, .int .i64 te, .int .i64 kd, .int .i64 dst, .int .i64 arr, .int .i64 op, .int .i64 av, .int .i64 an, .int .i64 bv, .int .i64 bn] 65
  have hst := h.up hb0
  have hst0 : b0 ≤ w.heap.size := by have := h.blk.lt; have := h.le; omega
  have ea := opdX_i64 hI ia (v := av)
  have eb := opdX_i64 hI ib (v := bv)
  have HZW : Hid (kd ≠ 11 → rowsW (zs.map (·.1)) ⟨fr, te, kd, dst, arr, op, av, an, bv, bn⟩ xs = zs.map (·.1)) := hid fun q => rowsW_not q
  clear h
  go_enter Tryz.func58, Tryz.ntmps58
  go_wp2
  generalize w.alloc (Obj.cells #[.int .i64 fr, .int .i64 te, .int .i64 kd, .int .i64 dst, .int .i64 arr, .int .i64 op, .int .i64 av, .int .i64 an, .int .i64 bv, .int .i64 bn] 65) = w1 at *
  have HVA := hid (fun X (hX : Below w1.heap.size w1 X) => value_ok gs V vc _ xs av an X (hst.blk.later hX) (hst.vars.rd.up hX) ha (by omega))
  have HVB := hid (fun X (hX : Below w1.heap.size w1 X) => value_ok gs V vc _ xs bv bn X (hst.blk.later hX) (hst.vars.rd.up hX) hb (by omega))
  obtain ⟨e0, e1, e2, e3, e4, e5, e6, e7, e8, e9, fe⟩ := edgbox p4
  have l6 := later e6
  have l7 := later e7
  have l8 := later e8
  have l9 := later e9
  clear e0 e1 e2 e3 e4 e5 e6 e7 e8 e9 fe
  refine wp_region_flow 8 (fun W => Below w1.heap.size w1 W) (by kernel_rfl) (by kernel_rfl) (Below.refl _ _).drew ?_
  (repeat (first | (refine Flow.skip (by rfl) ?_; simp only [Act.put, List.setIfInBounds_toArray, List.set_cons_zero, List.set_cons_succ]) | (refine' Flow.take _ (by rfl) (fun W hW R hR => ?_) ?_; rotate_left; (go_simp; (try go_bits); with_reducible exact hR); simp only [Act.put, List.setIfInBounds_toArray, List.set_cons_zero, List.set_cons_succ])))
  (refine Flow.call 95 #[.pointer (some ⟨gs, 0, none⟩), .agg #[.int .i64 av, .int .i64 an]] (.int .i64 (opdX xs av an)) (by rfl) (fun X hX => by go_simp) (fun X hX => (HVA.out X hX).mono fun e' w' ⟨he, hb'⟩ => ⟨he, bstep hX hX.size hb'⟩) ?_; simp only [Act.put, List.setIfInBounds_toArray, List.set_cons_zero, List.set_cons_succ])
  (repeat (first | (refine Flow.skip (by rfl) ?_; simp only [Act.put, List.setIfInBounds_toArray, List.set_cons_zero, List.set_cons_succ]) | (refine' Flow.take _ (by rfl) (fun W hW R hR => ?_) ?_; rotate_left; (go_simp; (try go_bits); with_reducible exact hR); simp only [Act.put, List.setIfInBounds_toArray, List.set_cons_zero, List.set_cons_succ])))
  (refine Flow.call 95 #[.pointer (some ⟨gs, 0, none⟩), .agg #[.int .i64 bv, .int .i64 bn]] (.int .i64 (opdX xs bv bn)) (by rfl) (fun X hX => by go_simp) (fun X hX => (HVB.out X hX).mono fun e' w' ⟨he, hb'⟩ => ⟨he, bstep hX hX.size hb'⟩) ?_; simp only [Act.put, List.setIfInBounds_toArray, List.set_cons_zero, List.set_cons_succ])
  (repeat (first | (refine Flow.skip (by rfl) ?_; simp only [Act.put, List.setIfInBounds_toArray, List.set_cons_zero, List.set_cons_succ]) | (refine' Flow.take _ (by rfl) (fun W hW R hR => ?_) ?_; rotate_left; (go_simp; (try go_bits); with_reducible exact hR); simp only [Act.put, List.setIfInBounds_toArray, List.set_cons_zero, List.set_cons_succ])))
  intro w2 hb2
  replace p4 := p4.later hb2
  replace hst := hst.up hb2
  replace hb0 := bup hb0 hb2
  clear HVA HVB l6 l7 l8 l9 hb2
  have hkk : (kd = 1 ∨ kd = 12 ∨ kd = 13) ∨ kd = 14 ∨ kd = 2 ∨ kd = 9 ∨ (kd = 3 ∨ kd = 4 ∨ kd = 5 ∨ kd = 6 ∨ kd = 7 ∨ kd = 8) ∨ kd = 10 ∨ kd = 11 := by omega
  clear hk
  rcases hkk with hk | rfl | rfl | rfl | hk | rfl | rfl
  · clear hd' harr'
    have HR : Hid (doesW (zs.map (·.1)) ⟨fr, te, kd, dst, arr, op, av, an, bv, bn⟩ xs input = (0, xs)) := hid (by rcases hk with rfl | rfl | rfl <;> rfl)
    generalize opdX xs av an = a at *
    generalize opdX xs bv bn = b at *
    rcases hk with rfl | rfl | rfl
    all_goals
      obtain ⟨y0, y1, fy⟩ := opdbox hst.blk
      obtain ⟨e0, e1, e2, e3, e4, e5, e6, e7, e8, e9, fe⟩ := edgbox p4
      go_wp2
      go_ret
      exact ⟨ret64 (by rw [HR.out]), zs, HZW.out (by omega), by rw [HR.out]; exact hst, HAP.out, Off.of hb0 hst0⟩
  · clear hd' harr'
    have HR : Hid (doesW (zs.map (·.1)) ⟨fr, te, 14, dst, arr, op, av, an, bv, bn⟩ xs input = (4, xs)) := hid (by unfold doesW; rfl)
    generalize opdX xs av an = a at *
    generalize opdX xs bv bn = b at *
    obtain ⟨y0, y1, fy⟩ := opdbox hst.blk
    obtain ⟨e0, e1, e2, e3, e4, e5, e6, e7, e8, e9, fe⟩ := edgbox p4
    go_wp2
    go_ret
    exact ⟨ret64 (by rw [HR.out]), zs, HZW.out (by omega), by rw [HR.out]; exact hst, HAP.out, Off.of hb0 hst0⟩
  · have hd := hd' (by omega)
    clear hd' harr'
    have hstv := hst.vars
    obtain ⟨gv, rfl⟩ : ∃ g, V = some ⟨g, 0, none⟩ := by
      rcases hstv.form with ⟨_, h, _⟩ | ⟨g, h, _⟩
      · exfalso; rw [h] at hd; simp at hd; omega
      · exact ⟨g, h⟩
    obtain ⟨dn, rfl⟩ := Int.eq_ofNat_of_zero_le hd.1
    have hdn : dn < xs.length := by omega
    clear hstv
    have HR : Hid (doesW (zs.map (·.1)) ⟨fr, te, 2, (dn : Int), arr, op, av, an, bv, bn⟩ xs input = (0, xs.set dn (opdX xs av an))) := hid (by unfold doesW; rfl)
    generalize opdX xs av an = a at *
    generalize opdX xs bv bn = b at *
    obtain ⟨y0, y1, fy⟩ := opdbox hst.blk
    obtain ⟨e0, e1, e2, e3, e4, e5, e6, e7, e8, e9, fe⟩ := edgbox p4
    go_wp2
    have HST := hid hst
    have l0 := later y0
    have l1 := later y1
    have l3 := later e3
    have l4 := later e4
    clear y0 y1 fy e0 e1 e2 e3 e4 e5 e6 e7 e8 e9 fe hst
    refine wp_region_flow 7 (fun W => Below w2.heap.size w2 W) (by kernel_rfl) (by kernel_rfl) (Below.refl _ _).drew ?_
    (repeat (first | (refine Flow.skip (by rfl) ?_; simp only [Act.put, List.setIfInBounds_toArray, List.set_cons_zero, List.set_cons_succ]) | (refine' Flow.take _ (by rfl) (fun W hW R hR => ?_) ?_; rotate_left; (go_simp; (try go_bits); with_reducible exact hR); simp only [Act.put, List.setIfInBounds_toArray, List.set_cons_zero, List.set_cons_succ])))
    intro w9 hb9
    have hst := HST.out.up hb9
    have hfv := hst.vars.frozen dn
    obtain ⟨_, _, eA, _, cA⟩ := hst.vars.rd dn hdn
    injection eA with eA; injection eA with eA1 eA2; subst eA1; subst eA2
    rw [Nat.zero_add] at cA
    have hgv := hid (hst.put HAP.out dn a)
    replace hb0 := hid (bup hb0 hb9)
    clear hst hb9 l0 l1 l3 l4
    go_wp2
    go_ret
    exact ⟨ret64 (by rw [HR.out]), zs, HZW.out (by omega), by rw [HR.out]; exact hgv.out.1, HAP.out, (Off.of hb0.out hst0).trans hgv.out.2⟩
  · have hd := hd' (by omega)
    clear hd' harr'
    have hstv := hst.vars
    obtain ⟨gv, rfl⟩ : ∃ g, V = some ⟨g, 0, none⟩ := by
      rcases hstv.form with ⟨_, h, _⟩ | ⟨g, h, _⟩
      · exfalso; rw [h] at hd; simp at hd; omega
      · exact ⟨g, h⟩
    obtain ⟨dn, rfl⟩ := Int.eq_ofNat_of_zero_le hd.1
    have hdn : dn < xs.length := by omega
    clear hstv
    have HR : Hid (doesW (zs.map (·.1)) ⟨fr, te, 9, (dn : Int), arr, op, av, an, bv, bn⟩ xs input = (0, xs.set dn input)) := hid (by unfold doesW; rfl)
    generalize opdX xs av an = a at *
    generalize opdX xs bv bn = b at *
    obtain ⟨y0, y1, fy⟩ := opdbox hst.blk
    obtain ⟨e0, e1, e2, e3, e4, e5, e6, e7, e8, e9, fe⟩ := edgbox p4
    go_wp2
    have HST := hid hst
    have l0 := later y0
    have l1 := later y1
    have l3 := later e3
    have l4 := later e4
    clear y0 y1 fy e0 e1 e2 e3 e4 e5 e6 e7 e8 e9 fe hst
    refine wp_region_flow 7 (fun W => Below w2.heap.size w2 W) (by kernel_rfl) (by kernel_rfl) (Below.refl _ _).drew ?_
    (repeat (first | (refine Flow.skip (by rfl) ?_; simp only [Act.put, List.setIfInBounds_toArray, List.set_cons_zero, List.set_cons_succ]) | (refine' Flow.take _ (by rfl) (fun W hW R hR => ?_) ?_; rotate_left; (go_simp; (try go_bits); with_reducible exact hR); simp only [Act.put, List.setIfInBounds_toArray, List.set_cons_zero, List.set_cons_succ])))
    intro w9 hb9
    have hst := HST.out.up hb9
    have hfv := hst.vars.frozen dn
    obtain ⟨_, _, eA, _, cA⟩ := hst.vars.rd dn hdn
    injection eA with eA; injection eA with eA1 eA2; subst eA1; subst eA2
    rw [Nat.zero_add] at cA
    have hgv := hid (hst.put HAP.out dn input)
    replace hb0 := hid (bup hb0 hb9)
    clear hst hb9 l0 l1 l3 l4
    go_wp2
    go_ret
    exact ⟨ret64 (by rw [HR.out]), zs, HZW.out (by omega), by rw [HR.out]; exact hgv.out.1, HAP.out, (Off.of hb0.out hst0).trans hgv.out.2⟩
  · have hd := hd' (by omega)
    clear hd' harr'
    have hstv := hst.vars
    obtain ⟨gv, rfl⟩ : ∃ g, V = some ⟨g, 0, none⟩ := by
      rcases hstv.form with ⟨_, h, _⟩ | ⟨g, h, _⟩
      · exfalso; rw [h] at hd; simp at hd; omega
      · exact ⟨g, h⟩
    obtain ⟨dn, rfl⟩ := Int.eq_ofNat_of_zero_le hd.1
    have hdn : dn < xs.length := by omega
    clear hstv
    have HD := hid (fun W => (show Calls Tryz.prog 96 #[.int .i64 (kd + 2), .int .i64 (opdX xs av an), .int .i64 (opdX xs bv bn)] W (PairRes (kindW kd (opdX xs av an) (opdX xs bv bn)) W) from by rw [kind_do]; exact r7do_any (kd + 2) _ _ W ea eb))
    have HR : Hid (doesW (zs.map (·.1)) ⟨fr, te, kd, (dn : Int), arr, op, av, an, bv, bn⟩ xs input = if (kindW kd (opdX xs av an) (opdX xs bv bn)).2 = 0 then (0, xs.set dn (kindW kd (opdX xs av an) (opdX xs bv bn)).1) else ((kindW kd (opdX xs av an) (opdX xs bv bn)).2, xs)) := hid (by unfold doesW; dsimp only; rw [if_neg (by omega), if_neg (by omega), if_pos (by omega)]; rfl)
    generalize kindW kd (opdX xs av an) (opdX xs bv bn) = p at *
    obtain ⟨p, q⟩ := p
    unfold PairRes pairV at HD
    dsimp only at HD HR
    generalize opdX xs av an = a at *
    generalize opdX xs bv bn = b at *
    clear ea eb
    rcases hk with rfl | rfl | rfl | rfl | rfl | rfl
    all_goals
      (try simp only [Int.reduceAdd] at HD)
      obtain ⟨y0, y1, fy⟩ := opdbox hst.blk
      obtain ⟨e0, e1, e2, e3, e4, e5, e6, e7, e8, e9, fe⟩ := edgbox p4
      go_wp2_with fail
      (with_reducible refine (HD.out _).mono ?_)
      rintro e3' w3 ⟨rfl, rfl⟩
      by_cases hq : q = 0
      · subst hq
        replace HR := hid (HR.out.trans (if_pos rfl))
        go_wp2
        have HST := hid hst
        have l0 := later y0
        have l1 := later y1
        have l3 := later e3
        have l4 := later e4
        clear y0 y1 fy e0 e1 e2 e3 e4 e5 e6 e7 e8 e9 fe hst
        refine wp_region_flow 7 (fun W => Below w2.heap.size w2 W) (by kernel_rfl) (by kernel_rfl) (Below.refl _ _).drew ?_
        (repeat (first | (refine Flow.skip (by rfl) ?_; simp only [Act.put, List.setIfInBounds_toArray, List.set_cons_zero, List.set_cons_succ]) | (refine' Flow.take _ (by rfl) (fun W hW R hR => ?_) ?_; rotate_left; (go_simp; (try go_bits); with_reducible exact hR); simp only [Act.put, List.setIfInBounds_toArray, List.set_cons_zero, List.set_cons_succ])))
        intro w9 hb9
        have hst := HST.out.up hb9
        have hfv := hst.vars.frozen dn
        obtain ⟨_, _, eA, _, cA⟩ := hst.vars.rd dn hdn
        injection eA with eA; injection eA with eA1 eA2; subst eA1; subst eA2
        rw [Nat.zero_add] at cA
        have hgv := hid (hst.put HAP.out dn p)
        replace hb0 := hid (bup hb0 hb9)
        clear hst hb9 l0 l1 l3 l4
        go_wp2
        go_ret
        exact ⟨ret64 (by rw [HR.out]), zs, HZW.out (by omega), by rw [HR.out]; exact hgv.out.1, HAP.out, (Off.of hb0.out hst0).trans hgv.out.2⟩
      · replace HR := hid (HR.out.trans (if_neg hq))
        have t1 : (q != 0) = true := by simpa using hq
        clear hq
        go_wp2
        go_ret
        exact ⟨ret64 (by rw [HR.out]), zs, HZW.out (by omega), by rw [HR.out]; exact hst, HAP.out, Off.of hb0 hst0⟩
  · have hd := hd' (by omega)
    have harr := harr' (by omega)
    clear hd' harr'
    have hstv := hst.vars
    obtain ⟨gv, rfl⟩ : ∃ g, V = some ⟨g, 0, none⟩ := by
      rcases hstv.form with ⟨_, h, _⟩ | ⟨g, h, _⟩
      · exfalso; rw [h] at hd; simp at hd; omega
      · exact ⟨g, h⟩
    obtain ⟨dn, rfl⟩ := Int.eq_ofNat_of_zero_le hd.1
    have hdn : dn < xs.length := by omega
    clear hstv
    obtain ⟨an', rfl⟩ := Int.eq_ofNat_of_zero_le harr.1
    have han : an' < zs.length := by omega
    have hmem : zs[an'] ∈ zs := List.getElem_mem han
    have hzl' := hzl _ hmem
    have hrow := hid (hst.rows.own _ hmem)
    obtain ⟨gz, rfl, hgz, -, hcz⟩ := hst.rows.cell han
    have HP := hid (fun W (h : StAt W b0 gs (some ⟨gv, 0, none⟩) (some ⟨gz, 0, none⟩) vc rc xs zs) => place_ok b0 gs (some ⟨gv, 0, none⟩) (some ⟨gz, 0, none⟩) vc rc xs zs an' (opdX xs av an) W h han (by omega))
    have HL : Hid ((zs.map (·.1)).getD an' [] = zs[an'].1) := hid (by rw [List.getD_eq_getElem?_getD, List.getElem?_map, List.getElem?_eq_getElem han]; rfl)
    have HR : Hid (doesW (zs.map (·.1)) ⟨fr, te, 10, (dn : Int), (an' : Int), op, av, an, bv, bn⟩ xs input = if isPlace zs[an'].1.length (opdX xs av an) = true then (0, xs.set dn (gI zs[an'].1 (opdX xs av an))) else (3, xs)) := hid (by rw [← HL.out]; unfold doesW; rfl)
    clear hmem hzl HL
    generalize zs[an'] = z at *
    obtain ⟨ls, A, cz⟩ := z
    dsimp only at hzl' hcz hrow HP HR
    generalize opdX xs av an = a at *
    generalize opdX xs bv bn = b at *
    obtain ⟨y0, y1, fy⟩ := opdbox hst.blk
    obtain ⟨e0, e1, e2, e3, e4, e5, e6, e7, e8, e9, fe⟩ := edgbox p4
    have HSTP := hid hst
    go_wp2_with fail
    (with_reducible refine (HP.out _ HSTP.out).mono ?_)
    rintro e3' w3 ⟨rfl, hb3⟩
    clear HP HSTP y0 y1 fy e0 e1 e2 e3 e4 e5 e6 e7 e8 e9 fe
    replace p4 := p4.later hb3
    replace hst := hst.up hb3
    replace hb0 := bup hb0 hb3
    replace hcz := later hcz w3 hb3
    have hrow := hid (hrow.out.below hb3)
    clear hb3
    obtain ⟨y0, y1, fy⟩ := opdbox hst.blk
    obtain ⟨e0, e1, e2, e3, e4, e5, e6, e7, e8, e9, fe⟩ := edgbox p4
    cases cp : isPlace ls.length a
    · replace HR := hid (HR.out.trans (if_neg (by rw [cp]; simp)))
      clear cp
      go_wp2
      go_ret
      exact ⟨ret64 (by rw [HR.out]), zs, HZW.out (by omega), by rw [HR.out]; exact hst, HAP.out, Off.of hb0 hst0⟩
    · have hp := cp
      unfold isPlace at hp
      rw [decide_eq_true_eq] at hp
      replace HR := hid (HR.out.trans (if_pos cp))
      clear cp
      obtain ⟨m, rfl⟩ := Int.eq_ofNat_of_zero_le hp.1
      have hm : m < ls.length := by omega
      obtain ⟨gr, rfl⟩ : ∃ g, A = some ⟨g, 0, none⟩ := by
        rcases hrow.out.form with ⟨_, h, _⟩ | ⟨g, h, _⟩
        · exfalso; rw [h] at hm; simp at hm
        · exact ⟨g, h⟩
      go_wp2
      have lz := later hcz
      clear hcz
      have HST := hid hst
      have l0 := later y0
      have l1 := later y1
      have l3 := later e3
      have l4 := later e4
      obtain ⟨_, _, eR, _, cR⟩ := hrow.out.rd m hm
      injection eR with eR; injection eR with eR1 eR2; subst eR1; subst eR2
      rw [Nat.zero_add] at cR
      have lr := later cR
      clear y0 y1 fy e0 e1 e2 e3 e4 e5 e6 e7 e8 e9 fe hst cR
      refine wp_region_flow 17 (fun W => Below w3.heap.size w3 W) (by kernel_rfl) (by kernel_rfl) (Below.refl _ _).drew ?_
      (repeat (first | (refine Flow.skip (by rfl) ?_; simp only [Act.put, List.setIfInBounds_toArray, List.set_cons_zero, List.set_cons_succ]) | (refine' Flow.take _ (by rfl) (fun W hW R hR => ?_) ?_; rotate_left; (go_simp; (try go_bits); with_reducible exact hR); simp only [Act.put, List.setIfInBounds_toArray, List.set_cons_zero, List.set_cons_succ])))
      intro w9 hb9
      have hst := HST.out.up hb9
      have hfv := hst.vars.frozen dn
      obtain ⟨_, _, eA, _, cA⟩ := hst.vars.rd dn hdn
      injection eA with eA; injection eA with eA1 eA2; subst eA1; subst eA2
      rw [Nat.zero_add] at cA
      have hgv := hid (hst.put HAP.out dn (gI ls (m : Int)))
      replace hb0 := hid (bup hb0 hb9)
      clear hst hb9 l0 l1 l3 l4
      go_wp2
      go_ret
      exact ⟨ret64 (by rw [HR.out]), zs, HZW.out (by omega), by rw [HR.out]; exact hgv.out.1, HAP.out, (Off.of hb0.out hst0).trans hgv.out.2⟩
  · have harr := harr' (by omega)
    clear hd' harr'
    obtain ⟨an', rfl⟩ := Int.eq_ofNat_of_zero_le harr.1
    have han : an' < zs.length := by omega
    have hmem : zs[an'] ∈ zs := List.getElem_mem han
    have hzl' := hzl _ hmem
    have hrow := hid (hst.rows.own _ hmem)
    obtain ⟨gz, rfl, hgz, -, hcz⟩ := hst.rows.cell han
    have HP := hid (fun W (h : StAt W b0 gs V (some ⟨gz, 0, none⟩) vc rc xs zs) => place_ok b0 gs V (some ⟨gz, 0, none⟩) vc rc xs zs an' (opdX xs av an) W h han (by omega))
    have HANH := hid han
    have HSR : Hid (∀ W, StAt W b0 gs V (some ⟨gz, 0, none⟩) vc rc xs zs → ∀ g, zs[an'].2.1 = some ⟨g, 0, none⟩ → ∀ (m : Nat) (x : Int), StAt (W.setCell ⟨g, m, none⟩ (.int .i64 x)) b0 gs V (some ⟨gz, 0, none⟩) vc rc xs (setR zs an' (zs[an'].1.set m x)) ∧ Off b0 b1 W (W.setCell ⟨g, m, none⟩ (.int .i64 x))) := hid fun W h g e m x => h.putR HAP.out han e m x
    have HL : Hid ((zs.map (·.1)).getD an' [] = zs[an'].1) := hid (by rw [List.getD_eq_getElem?_getD, List.getElem?_map, List.getElem?_eq_getElem han]; rfl)
    have HR : Hid (doesW (zs.map (·.1)) ⟨fr, te, 11, dst, (an' : Int), op, av, an, bv, bn⟩ xs input = if isPlace zs[an'].1.length (opdX xs av an) = true then (0, xs) else (3, xs)) := hid (by rw [← HL.out]; unfold doesW; rfl)
    have HZ : Hid (rowsW (zs.map (·.1)) ⟨fr, te, 11, dst, (an' : Int), op, av, an, bv, bn⟩ xs = if isPlace zs[an'].1.length (opdX xs av an) = true then (zs.map (·.1)).set an' (zs[an'].1.set (opdX xs av an).toNat (opdX xs bv bn)) else zs.map (·.1)) := hid (by unfold rowsW; dsimp only; rw [Int.toNat_natCast, HL.out]; simp only [true_and])
    clear hmem hzl HL
    generalize zs[an'] = z at *
    obtain ⟨ls, A, cz⟩ := z
    dsimp only at hzl' hcz hrow HP HR
    generalize opdX xs av an = a at *
    generalize opdX xs bv bn = b at *
    obtain ⟨y0, y1, fy⟩ := opdbox hst.blk
    obtain ⟨e0, e1, e2, e3, e4, e5, e6, e7, e8, e9, fe⟩ := edgbox p4
    have HSTP := hid hst
    go_wp2_with fail
    (with_reducible refine (HP.out _ HSTP.out).mono ?_)
    rintro e3' w3 ⟨rfl, hb3⟩
    clear HP HSTP y0 y1 fy e0 e1 e2 e3 e4 e5 e6 e7 e8 e9 fe
    replace p4 := p4.later hb3
    replace hst := hst.up hb3
    replace hb0 := bup hb0 hb3
    replace hcz := later hcz w3 hb3
    have hrow := hid (hrow.out.below hb3)
    clear hb3
    obtain ⟨y0, y1, fy⟩ := opdbox hst.blk
    obtain ⟨e0, e1, e2, e3, e4, e5, e6, e7, e8, e9, fe⟩ := edgbox p4
    cases cp : isPlace ls.length a
    all_goals have CP := hid cp
    · replace HR := hid (HR.out.trans (if_neg (by rw [cp]; simp)))
      clear cp
      go_wp2
      go_ret
      exact ⟨ret64 (by rw [HR.out]), zs, HZ.out.trans (if_neg (by rw [CP.out]; simp)), by rw [HR.out]; exact hst, HAP.out, Off.of hb0 hst0⟩
    · have hp := cp
      unfold isPlace at hp
      rw [decide_eq_true_eq] at hp
      replace HR := hid (HR.out.trans (if_pos cp))
      clear cp
      obtain ⟨m, rfl⟩ := Int.eq_ofNat_of_zero_le hp.1
      have hm : m < ls.length := by omega
      obtain ⟨gr, rfl⟩ : ∃ g, A = some ⟨g, 0, none⟩ := by
        rcases hrow.out.form with ⟨_, h, _⟩ | ⟨g, h, _⟩
        · exfalso; rw [h] at hm; simp at hm
        · exact ⟨g, h⟩
      go_wp2
      have lz := later hcz
      clear hcz
      have HST := hid hst
      have hge : gs + 1 ≤ gr := by
        rcases hrow.out.form with ⟨h, _⟩ | ⟨g, h, hg, _⟩
        · cases h
        · injection h with h; injection h with h; omega
      have l0 := later y0
      have l1 := later y1
      have l4 := later e4
      clear y0 y1 fy e0 e1 e2 e3 e4 e5 e6 e7 e8 e9 fe hst
      refine wp_region_flow 10 (fun W => Below w3.heap.size w3 W) (by kernel_rfl) (by kernel_rfl) (Below.refl _ _).drew ?_
      (repeat (first | (refine Flow.skip (by rfl) ?_; simp only [Act.put, List.setIfInBounds_toArray, List.set_cons_zero, List.set_cons_succ]) | (refine' Flow.take _ (by rfl) (fun W hW R hR => ?_) ?_; rotate_left; (go_simp; (try go_bits); with_reducible exact hR); simp only [Act.put, List.setIfInBounds_toArray, List.set_cons_zero, List.set_cons_succ])))
      intro w9 hb9
      have hro := hrow.out.below hb9
      have hfv := hro.frozen m
      obtain ⟨_, _, eR, _, cR⟩ := hro.rd m hm
      injection eR with eR; injection eR with eR1 eR2; subst eR1; subst eR2
      rw [Nat.zero_add] at cR
      have hgv := hid (HSR.out _ (HST.out.up hb9) gr rfl m b)
      replace hb0 := hid (bup hb0 hb9)
      clear hro hb9 l0 l1 l4 lz
      go_wp2
      go_ret
      exact ⟨ret64 (by rw [HR.out]), setR zs an' (ls.set m b), by rw [setR_map, HZ.out, if_pos CP.out, Int.toNat_natCast], by rw [HR.out]; exact hgv.out.1, HAP.out.set (HANH.out), (Off.of hb0.out hst0).trans hgv.out.2⟩
end Go.Proofs.YtkncebcekhfnfaaGreat
