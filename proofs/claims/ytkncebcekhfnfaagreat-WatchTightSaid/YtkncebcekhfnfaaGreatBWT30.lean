/-
  watch.runner: a step that goes right. (Printed by gen_rdoes.py.)
-/
import Derived.Test.YtkncebcekhfnfaaGreatBWT29
namespace Go.Proofs.YtkncebcekhfnfaaGreat
open Go.RowKit
attribute [local go_sem ↓] Go.wp_at_zero Go.wp_at_succ

/-- The runner behind a step. -/
def DRes (w : World) (b0 b1 gs : Nat) (r : RP) (m : MS) (te : Int) (xs : List Int) (ls : List (List Int)) (inp : List Int) (e : Ending) (w' : World) : Prop :=
  e = .returned (.tuple #[]) ∧ ∃ m', StR w' b0 gs r m' ∧ m'.p = te ∧ m'.xs = xs ∧ m'.ls = ls ∧ m'.inp = inp ∧ Off b0 b1 w w' ∧ StLt b1 gs m' ∧ ∀ X B, Rd X B m.S m.inp → Rd X B m'.S m'.inp
set_option maxRecDepth 8000 in
set_option maxHeartbeats 16000000 in
theorem rdoes_ok (b0 b1 gs : Nat) (r : RP) (m : MS) (pn it : Nat) (x : Edg) (w : World) (h : StR w b0 gs r m) (hlt : StLt b1 gs m) (hp : m.p = (pn : Int)) (hpN : (pn : Int) < r.g.pts) (hN : r.g.pts = (r.N : Int)) (hc : chk r.g = 0) (hl : m.xs.length ≤ 64) (le : r.g.es.length ≤ 8192)
    (hv : ∀ e ∈ r.g.es, e.av < m.xs.length ∧ e.bv < m.xs.length) (ht : takenW r.g.es m.xs (idxE r.g.es r.g.es.length pn) = (it : Int)) (hx : eAt r.g.es it = x)
    (hr : rightE (m.xs.length : Int) (m.zs.length : Int) x = true) (hI : I64s m.xs) (ia : I64 x.an) (ib : I64 x.bn) (hzl : ∀ z ∈ m.zs, z.1.length ≤ 1024) (hne : x.kd = 9 → m.inp ≠ []) (hw : (doesW m.ls x m.xs (m.inp.headD 0)).1 = 0) :
    Calls Tryz.prog 51 #[.pointer (some ⟨gs, 0, none⟩)] w (DRes w b0 b1 gs r m x.te (doesW m.ls x m.xs (m.inp.headD 0)).2 (rowsW m.ls x m.xs) (if x.kd = 9 then m.inp.tail else m.inp)) := by
  have HNX := hid (rnext_ok b0 gs r m pn it x w h hp hpN hN hc hl le hv ht hx)
  unfold rightE at hr
  simp only [Bool.and_eq_true, decide_eq_true_eq] at hr
  obtain ⟨⟨⟨⟨⟨hk, hd⟩, harr⟩, -⟩, ha⟩, hb⟩ := hr
  have ha' := opd_lt (by omega) ha
  have hb' := opd_lt (by omega) hb
  have hd' : 2 ≤ x.kd ∧ x.kd ≤ 10 → 0 ≤ x.dst ∧ x.dst < m.xs.length := fun q => by
    rw [show wDst x.kd = true from decide_eq_true q, cond_true, decide_eq_true_eq] at hd; exact hd
  have harr' : x.kd = 10 ∨ x.kd = 11 → 0 ≤ x.arr ∧ x.arr < m.zs.length := fun q => by
    rw [show wArr x.kd = true from decide_eq_true q, cond_true, decide_eq_true_eq] at harr; exact harr
  have ea := opdX_i64 hI ia (v := x.av)
  have eb := opdX_i64 hI ib (v := x.bv)
  have hL : ∀ a (h : a < m.zs.length), m.ls.getD a [] = m.zs[a].1 := fun a h => by unfold MS.ls; simp [List.getD_eq_getElem?_getD, h]
  have hle := h.le
  have hkk : (x.kd = 1 ∨ x.kd = 12 ∨ x.kd = 13) ∨ x.kd = 2 ∨ x.kd = 9 ∨ (x.kd = 3 ∨ x.kd = 4 ∨ x.kd = 5 ∨ x.kd = 6 ∨ x.kd = 7 ∨ x.kd = 8) ∨ x.kd = 10 ∨ x.kd = 11 := by
    by_cases h14 : x.kd = 14
    · exfalso; unfold doesW at hw; simp [h14] at hw
    · omega
  clear hd harr ha hb hp hv ht hx hI ia ib hk
  have HHZ := hid hzl
  have HHL := hid hL
  have HHN := hid hne
  have HST := hid h
  have HLT := hid hlt
  clear hlt
  obtain ⟨hd0, HH0⟩ : ∃ hd0, Hid (m.inp.headD 0 = hd0) := ⟨_, hid rfl⟩
  rw [HH0.out] at hw ⊢
  obtain ⟨ip, HIP⟩ : ∃ ip, Hid ((if x.kd = 9 then m.inp.tail else m.inp) = ip) := ⟨_, hid rfl⟩
  rw [HIP.out]
  have HHW := hid hw
  clear hzl hw hL hne h
  go_enter Tryz.func51, Tryz.ntmps51
  go_wp2_with fail
  (with_reducible refine HNX.out.mono ?_)
  rintro e1 w1 ⟨rfl, hb1⟩
  have hst := HST.out.up hb1
  clear HNX HST
  obtain ⟨fr, te, kd, dst, arr, op, av, an, bv, bn⟩ := x
  obtain ⟨p, V, R, S, vc, rc, sc, xs, zs, inp⟩ := m
  unfold MS.ls at *
  dsimp only at *
  go_upto_region 1 with fail
  have n2 := new1 w1 (.cells #[.int .i64 fr, .int .i64 te, .int .i64 kd, .int .i64 dst, .int .i64 arr, .int .i64 op, .int .i64 av, .int .i64 an, .int .i64 bv, .int .i64 bn] 65)
  have p4 := Blk.new w1 65 #[.int .i64 fr, .int .i64 te, .int .i64 kd, .int .i64 dst, .int .i64 arr, .int .i64 op, .int .i64 av, .int .i64 an, .int .i64 bv, .int .i64 bn]
  replace hst := hst.up n2
  have hb0 : Off b0 b1 w (w1.alloc (.cells #[.int .i64 fr, .int .i64 te, .int .i64 kd, .int .i64 dst, .int .i64 arr, .int .i64 op, .int .i64 av, .int .i64 an, .int .i64 bv, .int .i64 bn] 65)) := Off.of (bup hb1 n2) hle
  clear hb1 n2
  generalize w1.alloc (.cells #[.int .i64 fr, .int .i64 te, .int .i64 kd, .int .i64 dst, .int .i64 arr, .int .i64 op, .int .i64 av, .int .i64 an, .int .i64 bv, .int .i64 bn] 65) = w2 at *
  generalize w1.heap.size = ge at *
  have HVA := hid (fun X (hX : Below w2.heap.size w2 X) => rvalue_ok b0 gs r _ av an X (hst.up hX) ha' hl)
  have HVB := hid (fun X (hX : Below w2.heap.size w2 X) => rvalue_ok b0 gs r _ bv bn X (hst.up hX) hb' hl)
  dsimp only at HVA HVB
  obtain ⟨e0, e1, e2, e3, e4, e5, e6, e7, e8, e9, fe⟩ := edgbox p4
  have l6 := later e6
  have l7 := later e7
  have l8 := later e8
  have l9 := later e9
  clear e0 e1 e2 e3 e4 e5 e6 e7 e8 e9 fe
  refine wp_region_flow 8 (fun W => Below w2.heap.size w2 W) (by kernel_rfl) (by kernel_rfl) (Below.refl _ _).drew ?_
  (repeat (first | (refine Flow.skip (by rfl) ?_; simp only [Act.put, List.setIfInBounds_toArray, List.set_cons_zero, List.set_cons_succ]) | (refine' Flow.take _ (by rfl) (fun W hW R hR => ?_) ?_; rotate_left; (go_simp; (try go_bits); with_reducible exact hR); simp only [Act.put, List.setIfInBounds_toArray, List.set_cons_zero, List.set_cons_succ])))
  (refine Flow.call 86 #[.pointer (some ⟨gs, 0, none⟩), .agg #[.int .i64 av, .int .i64 an]] (.int .i64 (opdX xs av an)) (by rfl) (fun X hX => by go_simp) (fun X hX => (HVA.out X hX).mono fun e' w' ⟨he, hb'⟩ => ⟨he, bstep hX hX.size hb'⟩) ?_; simp only [Act.put, List.setIfInBounds_toArray, List.set_cons_zero, List.set_cons_succ])
  (repeat (first | (refine Flow.skip (by rfl) ?_; simp only [Act.put, List.setIfInBounds_toArray, List.set_cons_zero, List.set_cons_succ]) | (refine' Flow.take _ (by rfl) (fun W hW R hR => ?_) ?_; rotate_left; (go_simp; (try go_bits); with_reducible exact hR); simp only [Act.put, List.setIfInBounds_toArray, List.set_cons_zero, List.set_cons_succ])))
  (refine Flow.call 86 #[.pointer (some ⟨gs, 0, none⟩), .agg #[.int .i64 bv, .int .i64 bn]] (.int .i64 (opdX xs bv bn)) (by rfl) (fun X hX => by go_simp) (fun X hX => (HVB.out X hX).mono fun e' w' ⟨he, hb'⟩ => ⟨he, bstep hX hX.size hb'⟩) ?_; simp only [Act.put, List.setIfInBounds_toArray, List.set_cons_zero, List.set_cons_succ])
  (repeat (first | (refine Flow.skip (by rfl) ?_; simp only [Act.put, List.setIfInBounds_toArray, List.set_cons_zero, List.set_cons_succ]) | (refine' Flow.take _ (by rfl) (fun W hW R hR => ?_) ?_; rotate_left; (go_simp; (try go_bits); with_reducible exact hR); simp only [Act.put, List.setIfInBounds_toArray, List.set_cons_zero, List.set_cons_succ])))
  intro w3 hb3
  replace p4 := p4.later hb3
  replace hst := hst.up hb3
  replace hb0 := hb0.later (Nat.le_trans hle hb0.size) hb3
  clear HVA HVB l6 l7 l8 l9 hb3
  rcases hkk with hk | rfl | rfl | hk | rfl | rfl
  · have HR : Hid (doesW (zs.map (·.1)) ⟨fr, te, kd, dst, arr, op, av, an, bv, bn⟩ xs hd0 = (0, xs)) := hid (by rcases hk with rfl | rfl | rfl <;> rfl)
    have HW : Hid (rowsW (zs.map (·.1)) ⟨fr, te, kd, dst, arr, op, av, an, bv, bn⟩ xs = zs.map (·.1)) := hid (rowsW_not (by dsimp only; omega))
    have HIN : Hid ((if kd = 9 then inp.tail else inp) = inp) := hid (if_neg (by omega))
    clear hd' harr' HHZ HHW HHL HHN
    rcases hk with rfl | rfl | rfl
    all_goals
      have h7 := hid (hst.goto (p' := te))
      have o7 := hid (off_set (k := 7) (v := .int .i64 te) hst.ge HLT.out.gs hst.le)
      have HB := hid hb0
      have ks := hst.blk
      dsimp only at ks
      obtain ⟨s0, s1, s2, s3, s4, s5, s6, s7, s8, s9, s10, fs⟩ := rubox ks
      clear ks
      obtain ⟨e0, e1, e2, e3, e4, e5, e6, e7, e8, e9, fe⟩ := edgbox p4
      clear hst p4 hb0
      go_wp2
      go_end0
      exact ⟨rfl, ⟨te, V, R, S, vc, rc, sc, xs, zs, inp⟩, h7.out.1, rfl, (congrArg Prod.snd HR.out).symm, HW.out.symm, by rw [← HIP.out, HIN.out], HB.out.trans o7.out, ⟨HLT.out.gs, HLT.out.V, HLT.out.R, HLT.out.RR⟩, fun _ _ h => h⟩
  · have HR : Hid (doesW (zs.map (·.1)) ⟨fr, te, 2, dst, arr, op, av, an, bv, bn⟩ xs hd0 = (0, xs.set dst.toNat (opdX xs av an))) := hid rfl
    have HW : Hid (rowsW (zs.map (·.1)) ⟨fr, te, 2, dst, arr, op, av, an, bv, bn⟩ xs = zs.map (·.1)) := hid (rowsW_not (by dsimp only; decide))
    have hd := hd' (by omega)
    obtain ⟨dn, rfl⟩ := Int.eq_ofNat_of_zero_le hd.1
    have hdn : dn < xs.length := by omega
    obtain ⟨gv, rfl⟩ : ∃ g, V = some ⟨g, 0, none⟩ := by
      rcases hst.mem.vars.form with ⟨_, h, _⟩ | ⟨g, h, _⟩
      · exfalso
        have h : xs = [] := h
        rw [h] at hdn; simp at hdn
      · exact ⟨g, h⟩
    clear HHN
    generalize opdX xs av an = a at *
    have HST := hid hst
    clear hd' harr' HHZ HHL
    try clear HHW
    have ks := hst.blk
    dsimp only at ks
    obtain ⟨s0, s1, s2, s3, s4, s5, s6, s7, s8, s9, s10, fs⟩ := rubox ks
    clear ks
    obtain ⟨e0, e1, e2, e3, e4, e5, e6, e7, e8, e9, fe⟩ := edgbox p4
    clear hst
    go_upto_region 4 with fail
    have l8 := later s8
    have q3 := later e3
    clear s0 s1 s2 s3 s4 s5 s6 s7 s8 s9 s10 fs e0 e1 e2 e3 e4 e5 e6 e7 e8 e9 fe
    refine wp_region_flow 7 (fun W => Below w3.heap.size w3 W) (by kernel_rfl) (by kernel_rfl) (Below.refl _ _).drew ?_
    (repeat (first | (refine Flow.skip (by rfl) ?_; simp only [Act.put, List.setIfInBounds_toArray, List.set_cons_zero, List.set_cons_succ]) | (refine' Flow.take _ (by rfl) (fun W hW R hR => ?_) ?_; rotate_left; (go_simp; (try go_bits); with_reducible exact hR); simp only [Act.put, List.setIfInBounds_toArray, List.set_cons_zero, List.set_cons_succ])))
    intro w9 hb9
    have hst9 := HST.out.up hb9
    have hfv := hst9.mem.vars.frozen dn
    obtain ⟨_, _, eA, _, cA⟩ := hst9.mem.vars.rd dn hdn
    injection eA with eA; injection eA with eA1 eA2; subst eA1; subst eA2
    rw [Nat.zero_add] at cA
    have hgv := hid (hst9.storeV dn a)
    have p9 := p4.later hb9
    have hb9' := hb0.later (Nat.le_trans hle hb0.size) hb9
    have ov := hid (off_set (k := dn) (v := .int .i64 a) hst9.mem.ge_v (HLT.out.V gv rfl) hst9.le)
    have HBW := hid (hb9.mono (show b0 ≤ w3.heap.size from Nat.le_trans hle hb0.size))
    clear l8 q3
    have P4 := hid (p9.only (OnlyT.of_set hst9.mem.vars.blk.choose_spec dn (.int .i64 a)) (by decide))
    clear hst9 hb9 p9 p4 hb0
    go_upto_region 19 with fail
    clear cA hfv HST
    have hst := hgv.out.1
    have hb0 := hb9'.trans ov.out
    have HBX := hid (HBW.out.trans hgv.out.2)
    have p4 := P4.out
    generalize w9.setCell ⟨gv, dn, none⟩ (.int .i64 a) = w4 at *
    clear hgv P4 ov hb9'
    have h7 := hid (hst.goto (p' := te))
    have o7 := hid (off_set (k := 7) (v := .int .i64 te) hst.ge HLT.out.gs hst.le)
    have HB := hid hb0
    have ks := hst.blk
    dsimp only at ks
    obtain ⟨s0, s1, s2, s3, s4, s5, s6, s7, s8, s9, s10, fs⟩ := rubox ks
    clear ks
    obtain ⟨e0, e1, e2, e3, e4, e5, e6, e7, e8, e9, fe⟩ := edgbox p4
    clear hst p4 hb0
    go_wp2
    go_end0
    exact ⟨rfl, ⟨te, some ⟨gv, 0, none⟩, R, S, vc, rc, sc, xs.set dn a, zs, inp⟩, h7.out.1, rfl, (congrArg Prod.snd HR.out).symm, HW.out.symm, by rw [← HIP.out, if_neg (by decide)], HB.out.trans o7.out, ⟨HLT.out.gs, HLT.out.V, HLT.out.R, HLT.out.RR⟩, fun _ _ h => h⟩
  · have hne := HHN.out rfl
    obtain ⟨n0, rest, rfl⟩ : ∃ a l, inp = a :: l := by
      cases inp with
      | nil => exact absurd rfl hne
      | cons a l => exact ⟨a, l, rfl⟩
    clear hne
    have hh0 : n0 = hd0 := HH0.out
    subst hh0
    have HR : Hid (doesW (zs.map (·.1)) ⟨fr, te, 9, dst, arr, op, av, an, bv, bn⟩ xs n0 = (0, xs.set dst.toNat n0)) := hid rfl
    have HW : Hid (rowsW (zs.map (·.1)) ⟨fr, te, 9, dst, arr, op, av, an, bv, bn⟩ xs = zs.map (·.1)) := hid (rowsW_not (by dsimp only; decide))
    have hd := hd' (by omega)
    obtain ⟨dn, rfl⟩ := Int.eq_ofNat_of_zero_le hd.1
    have hdn : dn < xs.length := by omega
    obtain ⟨gv, rfl⟩ : ∃ g, V = some ⟨g, 0, none⟩ := by
      rcases hst.mem.vars.form with ⟨_, h, _⟩ | ⟨g, h, _⟩
      · exfalso
        have h : xs = [] := h
        rw [h] at hdn; simp at hdn
      · exact ⟨g, h⟩
    clear HHN HHW HH0
    have hsc := hst.scr
    have hcp := hst.scap
    dsimp only at hsc hcp
    obtain ⟨bS, oS, hS, hB, hcS⟩ := hsc 0 (by simp)
    subst hS
    replace hcS : w3.cell? ⟨bS, oS, none⟩ = some (.int .i64 n0) := hcS
    have lS := later hcS
    obtain ⟨S', hS'⟩ : ∃ S', (if sc = 1 then some ⟨bS, oS, none⟩ else some ⟨bS, oS + 1, none⟩ : Option Addr) = S' := ⟨_, rfl⟩
    have hsl := fun W => run_tail bS oS rest.length sc W
    rw [hS'] at hsl
    have hrdX : ∀ X B, Rd X B (some ⟨bS, oS, none⟩) (n0 :: rest) → Rd X B S' rest := fun X B hX k hk => by
      rw [List.length_cons] at hcp
      have h1 : sc ≠ 1 := by omega
      rw [if_neg h1] at hS'
      obtain ⟨b, o, e, hb, hc⟩ := hX (k + 1) (by rw [List.length_cons]; omega)
      injection e with e
      injection e with e1 e2
      subst e1; subst e2
      refine ⟨bS, oS + 1, hS'.symm, hb, ?_⟩
      rw [show oS + 1 + k = oS + (k + 1) by omega, hc]
      simp [gI]
    have hrd := hrdX _ _ hsc
    have HRDX := hid hrdX
    have hcp' : rest.length ≤ sc - 1 := by rw [List.length_cons] at hcp; omega
    have HRD := hid hrd
    have HCP := hid hcp'
    have HB3 := hid (show b0 ≤ w3.heap.size from Nat.le_trans hle hb0.size)
    have HSL := hid hsl
    clear hsc hcp hrd hrdX hcp' hS' hB hcS hsl
    have hln : (0 : Int) < ((n0 :: rest).length : Int) := by simp
    have hln2 : (0 : Int) < (rest.length : Int) + 1 := by omega
    have HST := hid hst
    clear hd' harr' HHZ HHL
    try clear HHW
    have ks := hst.blk
    dsimp only at ks
    obtain ⟨s0, s1, s2, s3, s4, s5, s6, s7, s8, s9, s10, fs⟩ := rubox ks
    clear ks
    obtain ⟨e0, e1, e2, e3, e4, e5, e6, e7, e8, e9, fe⟩ := edgbox p4
    clear hst
    go_upto_region 6 with fail
    have l8 := later s8
    have l10 := later s10
    have q3 := later e3
    clear s0 s1 s2 s3 s4 s5 s6 s7 s8 s9 s10 fs e0 e1 e2 e3 e4 e5 e6 e7 e8 e9 fe
    refine wp_region_flow 12 (fun W => Below w3.heap.size w3 W) (by kernel_rfl) (by kernel_rfl) (Below.refl _ _).drew ?_
    (repeat (first | (refine Flow.skip (by rfl) ?_; simp only [Act.put, List.setIfInBounds_toArray, List.set_cons_zero, List.set_cons_succ]) | (refine' Flow.take _ (by rfl) (fun W hW R hR => ?_) ?_; rotate_left; (go_simp; (try go_bits); with_reducible exact hR); simp only [Act.put, List.setIfInBounds_toArray, List.set_cons_zero, List.set_cons_succ])))
    intro w9 hb9
    have hst9 := HST.out.up hb9
    have hfv := hst9.mem.vars.frozen dn
    obtain ⟨_, _, eA, _, cA⟩ := hst9.mem.vars.rd dn hdn
    injection eA with eA; injection eA with eA1 eA2; subst eA1; subst eA2
    rw [Nat.zero_add] at cA
    have hgv := hid (hst9.storeV dn n0)
    have p9 := p4.later hb9
    have hb9' := hb0.later (Nat.le_trans hle hb0.size) hb9
    have ov := hid (off_set (k := dn) (v := .int .i64 n0) hst9.mem.ge_v (HLT.out.V gv rfl) hst9.le)
    have HBW := hid (hb9.mono (show b0 ≤ w3.heap.size from Nat.le_trans hle hb0.size))
    clear l8 l10 q3 lS hln hln2
    have P4 := hid (p9.only (OnlyT.of_set hst9.mem.vars.blk.choose_spec dn (.int .i64 n0)) (by decide))
    clear hst9 hb9 p9 p4 hb0
    go_upto_region 7 with fail
    clear cA hfv HST
    have hst := hgv.out.1
    have hb0 := hb9'.trans ov.out
    have HBX := hid (HBW.out.trans hgv.out.2)
    have p4 := P4.out
    generalize w9.setCell ⟨gv, dn, none⟩ (.int .i64 n0) = w4 at *
    clear hgv P4 ov hb9'
    have HRD4 : Rd w4 b0 S' rest := HRD.out.below (HBX.out)
    have hslide := hid (hst.slide HRD4 HCP.out)
    have osl := hid (off_set (k := 10) (v := .slice S' rest.length (sc - 1)) hst.ge HLT.out.gs hst.le)
    have P4 := hid (p4.only (OnlyT.of_set hst.blk 10 (.slice S' rest.length (sc - 1))) (by decide))
    have hsl := HSL.out
    have ks := hst.blk
    dsimp only at ks
    obtain ⟨s0, s1, s2, s3, s4, s5, s6, s7, s8, s9, s10, fs⟩ := rubox ks
    clear ks
    obtain ⟨e0, e1, e2, e3, e4, e5, e6, e7, e8, e9, fe⟩ := edgbox p4
    simp only [List.length_cons] at s10
    have HB0 := hid hb0
    clear hst p4 hb0 HSL HRD HCP HRD4
    go_upto_region 19 with fail
    clear s0 s1 s2 s3 s4 s5 s6 s7 s8 s9 s10 fs e0 e1 e2 e3 e4 e5 e6 e7 e8 e9 fe
    clear hsl
    have hst := hslide.out.1
    have hb0 := HB0.out.trans osl.out
    have p4 := P4.out
    clear hslide osl P4 HB0
    generalize w4.setCell ⟨gs, 10, none⟩ (.slice S' rest.length (sc - 1)) = w5 at *
    have h7 := hid (hst.goto (p' := te))
    have o7 := hid (off_set (k := 7) (v := .int .i64 te) hst.ge HLT.out.gs hst.le)
    have HB := hid hb0
    have ks := hst.blk
    dsimp only at ks
    obtain ⟨s0, s1, s2, s3, s4, s5, s6, s7, s8, s9, s10, fs⟩ := rubox ks
    clear ks
    obtain ⟨e0, e1, e2, e3, e4, e5, e6, e7, e8, e9, fe⟩ := edgbox p4
    clear hst p4 hb0
    go_wp2
    go_end0
    exact ⟨rfl, ⟨te, some ⟨gv, 0, none⟩, R, S', vc, rc, (sc - 1), xs.set dn n0, zs, rest⟩, h7.out.1, rfl, (congrArg Prod.snd HR.out).symm, HW.out.symm, by rw [← HIP.out]; rfl, HB.out.trans o7.out, ⟨HLT.out.gs, HLT.out.V, HLT.out.R, HLT.out.RR⟩, HRDX.out⟩
  · have HR : Hid (doesW (zs.map (·.1)) ⟨fr, te, kd, dst, arr, op, av, an, bv, bn⟩ xs hd0 = (0, xs.set dst.toNat (kindW kd (opdX xs av an) (opdX xs bv bn)).1)) := hid (by
      have h1 := HHW.out
      unfold doesW at h1 ⊢
      dsimp only at h1 ⊢
      rw [if_neg (by omega), if_neg (by omega), if_pos (by omega)] at h1 ⊢
      by_cases e : (kindW kd (opdX xs av an) (opdX xs bv bn)).2 = 0
      · rw [if_pos e]
      · rw [if_neg e] at h1; exact absurd h1 e)
    have HW : Hid (rowsW (zs.map (·.1)) ⟨fr, te, kd, dst, arr, op, av, an, bv, bn⟩ xs = zs.map (·.1)) := hid (rowsW_not (by dsimp only; omega))
    have HIN : Hid ((if kd = 9 then inp.tail else inp) = inp) := hid (if_neg (by omega))
    have HRK := hid (fun X => rreckons_ok kd (opdX xs av an) (opdX xs bv bn) X (by omega) ea eb)
    have hd := hd' (by omega)
    obtain ⟨dn, rfl⟩ := Int.eq_ofNat_of_zero_le hd.1
    have hdn : dn < xs.length := by omega
    obtain ⟨gv, rfl⟩ : ∃ g, V = some ⟨g, 0, none⟩ := by
      rcases hst.mem.vars.form with ⟨_, h, _⟩ | ⟨g, h, _⟩
      · exfalso
        have h : xs = [] := h
        rw [h] at hdn; simp at hdn
      · exact ⟨g, h⟩
    clear HHN HHW HH0 ea eb
    generalize kindW kd (opdX xs av an) (opdX xs bv bn) = kq at *
    obtain ⟨kv, kw⟩ := kq
    dsimp only at HRK HR
    generalize opdX xs av an = a at *
    generalize opdX xs bv bn = b at *
    rcases hk with rfl | rfl | rfl | rfl | rfl | rfl
    all_goals
      have HST := hid hst
      clear hd' harr' HHZ HHL
      try clear HHW
      have ks := hst.blk
      dsimp only at ks
      obtain ⟨s0, s1, s2, s3, s4, s5, s6, s7, s8, s9, s10, fs⟩ := rubox ks
      clear ks
      obtain ⟨e0, e1, e2, e3, e4, e5, e6, e7, e8, e9, fe⟩ := edgbox p4
      clear hst
      go_upto_region 18 with fail
      have l8 := later s8
      have q2 := later e2
      have q3 := later e3
      clear s0 s1 s2 s3 s4 s5 s6 s7 s8 s9 s10 fs e0 e1 e2 e3 e4 e5 e6 e7 e8 e9 fe
      refine wp_region_flow 11 (fun W => Below w3.heap.size w3 W) (by kernel_rfl) (by kernel_rfl) (Below.refl _ _).drew ?_
      (repeat (first | (refine Flow.skip (by rfl) ?_; simp only [Act.put, List.setIfInBounds_toArray, List.set_cons_zero, List.set_cons_succ]) | (refine' Flow.take _ (by rfl) (fun W hW R hR => ?_) ?_; rotate_left; (go_simp; (try go_bits); with_reducible exact hR); simp only [Act.put, List.setIfInBounds_toArray, List.set_cons_zero, List.set_cons_succ])))
      (refine Flow.call 87 _ (.int .i64 kv) (by rfl) (fun X hX => by go_simp) (fun X hX => (HRK.out X).mono fun e' w' ⟨he, hw⟩ => ⟨he, hw ▸ hX⟩) ?_; simp only [Act.put, List.setIfInBounds_toArray, List.set_cons_zero, List.set_cons_succ])
      (repeat (first | (refine Flow.skip (by rfl) ?_; simp only [Act.put, List.setIfInBounds_toArray, List.set_cons_zero, List.set_cons_succ]) | (refine' Flow.take _ (by rfl) (fun W hW R hR => ?_) ?_; rotate_left; (go_simp; (try go_bits); with_reducible exact hR); simp only [Act.put, List.setIfInBounds_toArray, List.set_cons_zero, List.set_cons_succ])))
      intro w9 hb9
      have hst9 := HST.out.up hb9
      have hfv := hst9.mem.vars.frozen dn
      obtain ⟨_, _, eA, _, cA⟩ := hst9.mem.vars.rd dn hdn
      injection eA with eA; injection eA with eA1 eA2; subst eA1; subst eA2
      rw [Nat.zero_add] at cA
      have hgv := hid (hst9.storeV dn kv)
      have p9 := p4.later hb9
      have hb9' := hb0.later (Nat.le_trans hle hb0.size) hb9
      have ov := hid (off_set (k := dn) (v := .int .i64 kv) hst9.mem.ge_v (HLT.out.V gv rfl) hst9.le)
      have HBW := hid (hb9.mono (show b0 ≤ w3.heap.size from Nat.le_trans hle hb0.size))
      clear l8 q2 q3 HRK
      have P4 := hid (p9.only (OnlyT.of_set hst9.mem.vars.blk.choose_spec dn (.int .i64 kv)) (by decide))
      clear hst9 hb9 p9 p4 hb0
      go_upto_region 19 with fail
      clear cA hfv HST
      have hst := hgv.out.1
      have hb0 := hb9'.trans ov.out
      have HBX := hid (HBW.out.trans hgv.out.2)
      have p4 := P4.out
      generalize w9.setCell ⟨gv, dn, none⟩ (.int .i64 kv) = w4 at *
      clear hgv P4 ov hb9'
      have h7 := hid (hst.goto (p' := te))
      have o7 := hid (off_set (k := 7) (v := .int .i64 te) hst.ge HLT.out.gs hst.le)
      have HB := hid hb0
      have ks := hst.blk
      dsimp only at ks
      obtain ⟨s0, s1, s2, s3, s4, s5, s6, s7, s8, s9, s10, fs⟩ := rubox ks
      clear ks
      obtain ⟨e0, e1, e2, e3, e4, e5, e6, e7, e8, e9, fe⟩ := edgbox p4
      clear hst p4 hb0
      go_wp2
      go_end0
      exact ⟨rfl, ⟨te, some ⟨gv, 0, none⟩, R, S, vc, rc, sc, xs.set dn kv, zs, inp⟩, h7.out.1, rfl, (congrArg Prod.snd HR.out).symm, HW.out.symm, by rw [← HIP.out]; exact HIN.out.symm, HB.out.trans o7.out, ⟨HLT.out.gs, HLT.out.V, HLT.out.R, HLT.out.RR⟩, fun _ _ h => h⟩
  · obtain ⟨an', han⟩ := Int.eq_ofNat_of_zero_le (harr' (by omega)).1
    subst han
    have hal : an' < zs.length := by have := (harr' (by omega)).2; omega
    have HAL := hid hal
    have hal' : (an' : Int) < (zs.length : Int) := by omega
    obtain ⟨z, hz⟩ : ∃ z, zs[an'] = z := ⟨_, rfl⟩
    have hzm : z ∈ zs := hz ▸ List.getElem_mem hal
    have hzl' := HHZ.out z hzm
    have hrow := hid (hst.mem.rows.own z hzm)
    obtain ⟨gz, rfl, -, -, hcz⟩ := hst.mem.rows.cell hal
    replace hcz : w3.cell? ⟨gz, an', none⟩ = some (.slice z.2.1 z.1.length z.2.2) := by rw [← hz]; exact hcz
    clear hzm
    obtain ⟨l, A0, c0⟩ := z
    have hg0 : (zs.map (fun (x : At64.R1) => x.1)).getD an' [] = l := by
      simp [List.getD_eq_getElem?_getD, hal]
      exact congrArg Prod.fst hz
    have HZE := hid hz
    clear hz
    try dsimp only at hzl' hrow hcz
    have HP : Hid (isPlace l.length (opdX xs av an) = true) := hid (by
      have h1 := HHW.out
      unfold doesW at h1
      simp only [Int.toNat_natCast, hg0] at h1
      by_cases e : isPlace l.length (opdX xs av an) = true
      · exact e
      · simp [e] at h1)
    have hp := HP.out
    unfold isPlace at hp
    rw [decide_eq_true_eq] at hp
    have HW : Hid (rowsW (zs.map (·.1)) ⟨fr, te, 10, dst, (an' : Int), op, av, an, bv, bn⟩ xs = zs.map (·.1)) := hid (rowsW_not (by dsimp only; decide))
    have HR : Hid (doesW (zs.map (·.1)) ⟨fr, te, 10, dst, (an' : Int), op, av, an, bv, bn⟩ xs hd0 = (0, xs.set dst.toNat (gI l (opdX xs av an)))) := hid (by
      unfold doesW
      simp only [Int.toNat_natCast, hg0, HP.out]
      simp)
    obtain ⟨kk, hkk⟩ := Int.eq_ofNat_of_zero_le hp.1
    have hkl : kk < l.length := by omega
    have hkl' : (kk : Int) < (l.length : Int) := by omega
    obtain ⟨gr, rfl⟩ : ∃ g, A0 = some ⟨g, 0, none⟩ := by
      rcases hrow.out.form with ⟨_, h, _⟩ | ⟨g, h, _⟩
      · exfalso
        have h : l = [] := h
        rw [h] at hkl; simp at hkl
      · exact ⟨g, h⟩
    obtain ⟨_, _, eR, _, cR⟩ := hrow.out.rd kk hkl
    injection eR with eR; injection eR with eR1 eR2; subst eR1; subst eR2
    rw [Nat.zero_add] at cR
    clear HHN HHW HH0 ea eb hg0 hp HP hzl'
    generalize opdX xs av an = a at *
    subst hkk
    have lz := later hcz
    have lr := later cR
    clear hcz cR
    generalize gI l (kk : Int) = u at *
    have hd := hd' (by omega)
    obtain ⟨dn, rfl⟩ := Int.eq_ofNat_of_zero_le hd.1
    have hdn : dn < xs.length := by omega
    obtain ⟨gv, rfl⟩ : ∃ g, V = some ⟨g, 0, none⟩ := by
      rcases hst.mem.vars.form with ⟨_, h, _⟩ | ⟨g, h, _⟩
      · exfalso
        have h : xs = [] := h
        rw [h] at hdn; simp at hdn
      · exact ⟨g, h⟩
    have HST := hid hst
    clear hd' harr' HHZ HHL
    try clear HHW
    have ks := hst.blk
    dsimp only at ks
    obtain ⟨s0, s1, s2, s3, s4, s5, s6, s7, s8, s9, s10, fs⟩ := rubox ks
    clear ks
    obtain ⟨e0, e1, e2, e3, e4, e5, e6, e7, e8, e9, fe⟩ := edgbox p4
    clear hst
    go_upto_region 9 with fail
    have l8 := later s8
    have l9 := later s9
    have q3 := later e3
    have q4 := later e4
    clear s0 s1 s2 s3 s4 s5 s6 s7 s8 s9 s10 fs e0 e1 e2 e3 e4 e5 e6 e7 e8 e9 fe
    refine wp_region_flow 17 (fun W => Below w3.heap.size w3 W) (by kernel_rfl) (by kernel_rfl) (Below.refl _ _).drew ?_
    (repeat (first | (refine Flow.skip (by rfl) ?_; simp only [Act.put, List.setIfInBounds_toArray, List.set_cons_zero, List.set_cons_succ]) | (refine' Flow.take _ (by rfl) (fun W hW R hR => ?_) ?_; rotate_left; (go_simp; (try go_bits); with_reducible exact hR); simp only [Act.put, List.setIfInBounds_toArray, List.set_cons_zero, List.set_cons_succ])))
    intro w9 hb9
    have hst9 := HST.out.up hb9
    have hfv := hst9.mem.vars.frozen dn
    obtain ⟨_, _, eA, _, cA⟩ := hst9.mem.vars.rd dn hdn
    injection eA with eA; injection eA with eA1 eA2; subst eA1; subst eA2
    rw [Nat.zero_add] at cA
    have hgv := hid (hst9.storeV dn u)
    have p9 := p4.later hb9
    have hb9' := hb0.later (Nat.le_trans hle hb0.size) hb9
    have ov := hid (off_set (k := dn) (v := .int .i64 u) hst9.mem.ge_v (HLT.out.V gv rfl) hst9.le)
    have HBW := hid (hb9.mono (show b0 ≤ w3.heap.size from Nat.le_trans hle hb0.size))
    clear l8 l9 q3 q4 lz lr hal' hkl'
    have P4 := hid (p9.only (OnlyT.of_set hst9.mem.vars.blk.choose_spec dn (.int .i64 u)) (by decide))
    clear hst9 hb9 p9 p4 hb0
    go_upto_region 19 with fail
    clear cA hfv HST
    have hst := hgv.out.1
    have hb0 := hb9'.trans ov.out
    have HBX := hid (HBW.out.trans hgv.out.2)
    have p4 := P4.out
    generalize w9.setCell ⟨gv, dn, none⟩ (.int .i64 u) = w4 at *
    clear hgv P4 ov hb9'
    have h7 := hid (hst.goto (p' := te))
    have o7 := hid (off_set (k := 7) (v := .int .i64 te) hst.ge HLT.out.gs hst.le)
    have HB := hid hb0
    have ks := hst.blk
    dsimp only at ks
    obtain ⟨s0, s1, s2, s3, s4, s5, s6, s7, s8, s9, s10, fs⟩ := rubox ks
    clear ks
    obtain ⟨e0, e1, e2, e3, e4, e5, e6, e7, e8, e9, fe⟩ := edgbox p4
    clear hst p4 hb0
    go_wp2
    go_end0
    exact ⟨rfl, ⟨te, some ⟨gv, 0, none⟩, some ⟨gz, 0, none⟩, S, vc, rc, sc, xs.set dn u, zs, inp⟩, h7.out.1, rfl, (congrArg Prod.snd HR.out).symm, HW.out.symm, by rw [← HIP.out, if_neg (by decide)], HB.out.trans o7.out, ⟨HLT.out.gs, HLT.out.V, HLT.out.R, HLT.out.RR⟩, fun _ _ h => h⟩
  · obtain ⟨an', han⟩ := Int.eq_ofNat_of_zero_le (harr' (by omega)).1
    subst han
    have hal : an' < zs.length := by have := (harr' (by omega)).2; omega
    have HAL := hid hal
    have hal' : (an' : Int) < (zs.length : Int) := by omega
    obtain ⟨z, hz⟩ : ∃ z, zs[an'] = z := ⟨_, rfl⟩
    have hzm : z ∈ zs := hz ▸ List.getElem_mem hal
    have hzl' := HHZ.out z hzm
    have hrow := hid (hst.mem.rows.own z hzm)
    obtain ⟨gz, rfl, -, -, hcz⟩ := hst.mem.rows.cell hal
    replace hcz : w3.cell? ⟨gz, an', none⟩ = some (.slice z.2.1 z.1.length z.2.2) := by rw [← hz]; exact hcz
    clear hzm
    obtain ⟨l, A0, c0⟩ := z
    have hg0 : (zs.map (fun (x : At64.R1) => x.1)).getD an' [] = l := by
      simp [List.getD_eq_getElem?_getD, hal]
      exact congrArg Prod.fst hz
    have HZE := hid hz
    clear hz
    try dsimp only at hzl' hrow hcz
    have HP : Hid (isPlace l.length (opdX xs av an) = true) := hid (by
      have h1 := HHW.out
      unfold doesW at h1
      simp only [Int.toNat_natCast, hg0] at h1
      by_cases e : isPlace l.length (opdX xs av an) = true
      · exact e
      · simp [e] at h1)
    have hp := HP.out
    unfold isPlace at hp
    rw [decide_eq_true_eq] at hp
    have HW : Hid (rowsW (zs.map (·.1)) ⟨fr, te, 11, dst, (an' : Int), op, av, an, bv, bn⟩ xs = (zs.map (·.1)).set an' (l.set (opdX xs av an).toNat (opdX xs bv bn))) := hid (by
      unfold rowsW
      simp only [Int.toNat_natCast, hg0, HP.out]
      simp)
    have HR : Hid (doesW (zs.map (·.1)) ⟨fr, te, 11, dst, (an' : Int), op, av, an, bv, bn⟩ xs hd0 = (0, xs)) := hid (by
      unfold doesW
      simp only [Int.toNat_natCast, hg0, HP.out]
      simp)
    obtain ⟨kk, hkk⟩ := Int.eq_ofNat_of_zero_le hp.1
    have hkl : kk < l.length := by omega
    have hkl' : (kk : Int) < (l.length : Int) := by omega
    obtain ⟨gr, rfl⟩ : ∃ g, A0 = some ⟨g, 0, none⟩ := by
      rcases hrow.out.form with ⟨_, h, _⟩ | ⟨g, h, _⟩
      · exfalso
        have h : l = [] := h
        rw [h] at hkl; simp at hkl
      · exact ⟨g, h⟩
    obtain ⟨_, _, eR, _, cR⟩ := hrow.out.rd kk hkl
    injection eR with eR; injection eR with eR1 eR2; subst eR1; subst eR2
    rw [Nat.zero_add] at cR
    clear HHN HHW HH0 ea eb hg0 hp HP hzl'
    generalize opdX xs av an = a at *
    subst hkk
    rw [Int.toNat_natCast] at HW
    have lz := later hcz
    have lr := later cR
    clear hcz cR
    generalize opdX xs bv bn = b at *
    have HST := hid hst
    clear hd' harr' HHZ HHL lr
    have ks := hst.blk
    dsimp only at ks
    obtain ⟨s0, s1, s2, s3, s4, s5, s6, s7, s8, s9, s10, fs⟩ := rubox ks
    clear ks
    obtain ⟨e0, e1, e2, e3, e4, e5, e6, e7, e8, e9, fe⟩ := edgbox p4
    clear hst
    go_upto_region 11 with fail
    have l9 := later s9
    have q4 := later e4
    clear s0 s1 s2 s3 s4 s5 s6 s7 s8 s9 s10 fs e0 e1 e2 e3 e4 e5 e6 e7 e8 e9 fe
    refine wp_region_flow 10 (fun W => Below w3.heap.size w3 W) (by kernel_rfl) (by kernel_rfl) (Below.refl _ _).drew ?_
    (repeat (first | (refine Flow.skip (by rfl) ?_; simp only [Act.put, List.setIfInBounds_toArray, List.set_cons_zero, List.set_cons_succ]) | (refine' Flow.take _ (by rfl) (fun W hW R hR => ?_) ?_; rotate_left; (go_simp; (try go_bits); with_reducible exact hR); simp only [Act.put, List.setIfInBounds_toArray, List.set_cons_zero, List.set_cons_succ])))
    intro w9 hb9
    have hst9 := HST.out.up hb9
    have hro := hrow.out.below hb9
    have hfv := hro.frozen kk
    obtain ⟨_, _, eR, _, cR⟩ := hro.rd kk hkl
    injection eR with eR; injection eR with eR1 eR2; subst eR1; subst eR2
    rw [Nat.zero_add] at cR
    have hgv := hid (hst9.storeA HAL.out (g := gr) (congrArg (fun (y : At64.R1) => y.2.1) HZE.out) kk b)
    have p9 := p4.later hb9
    have hb9' := hb0.later (Nat.le_trans hle hb0.size) hb9
    have oa := hid (off_set (k := kk) (v := .int .i64 b) (hst9.mem.ge_a HAL.out (congrArg (fun (y : At64.R1) => y.2.1) HZE.out)) (HLT.out.R _ (List.getElem_mem HAL.out) gr (congrArg (fun (y : At64.R1) => y.2.1) HZE.out)) hst9.le)
    have P4 := hid (p9.only (OnlyT.of_set hro.blk.choose_spec kk (.int .i64 b)) (by decide))
    clear hst9 hb9 p9 p4 hb0 lz l9 q4 hro
    go_upto_region 19 with fail
    clear cR hfv HST
    have hst := hgv.out.1
    have hb0 := hb9'.trans oa.out
    have p4 := P4.out
    generalize w9.setCell ⟨gr, kk, none⟩ (.int .i64 b) = w4 at *
    clear hgv P4 oa hb9'
    have h7 := hid (hst.goto (p' := te))
    have o7 := hid (off_set (k := 7) (v := .int .i64 te) hst.ge HLT.out.gs hst.le)
    have HB := hid hb0
    have ks := hst.blk
    dsimp only at ks
    obtain ⟨s0, s1, s2, s3, s4, s5, s6, s7, s8, s9, s10, fs⟩ := rubox ks
    clear ks
    obtain ⟨e0, e1, e2, e3, e4, e5, e6, e7, e8, e9, fe⟩ := edgbox p4
    clear hst p4 hb0
    go_wp2
    go_end0
    exact ⟨rfl, ⟨te, V, some ⟨gz, 0, none⟩, S, vc, rc, sc, xs, setR zs an' ((zs[an']'HAL.out).1.set kk b), inp⟩, h7.out.1, rfl, (congrArg Prod.snd HR.out).symm, by show (setR zs an' ((zs[an']'HAL.out).1.set kk b)).map _ = _; rw [HW.out, show zs[an']'HAL.out = _ from HZE.out, setR_map], by rw [← HIP.out, if_neg (by decide)], HB.out.trans o7.out, ⟨HLT.out.gs, HLT.out.V, setR_lt HLT.out.R HAL.out, HLT.out.RR⟩, fun _ _ h => h⟩
end Go.Proofs.YtkncebcekhfnfaaGreat
