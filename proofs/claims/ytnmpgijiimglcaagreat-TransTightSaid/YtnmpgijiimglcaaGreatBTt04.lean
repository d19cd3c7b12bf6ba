import Derived.Test.YtnmpgijiimglcaaGreatBTt03
import Derived.Test.YtnmpgijiimglcaaGreatBTt00
import Derived.Test.YtnmpgijiimglcaaGreatBTt02
namespace Go.Proofs.YtnmpgijiimglcaaGreat
set_option maxRecDepth 100000
set_option maxHeartbeats 8000000
section
open Go.RowKit
attribute [local go_sem ↓] Go.wp_at_zero Go.wp_at_succ
def zaT (N : Nat) (xs : List Int) : Nat → Bool
 | 0 => false
 | t + 1 => decide (plus (gI xs ((t * N + nx t : Nat) : Int)) (gI xs ((nx t * N + t : Nat) : Int)) < 0) || zaT N xs t
theorem zju {B gx cap : Nat} {n : Int} {A : Option Addr} {e : Bool} {xs : List Int} {W : World} (N : Nat) (h : MX B gx n A cap e xs W) (hN : (N : Int) = 2 * n) (hn : N ≤ 128) (hl : xs.length = N * N) (hB : B ≤ W.heap.size) :
  Calls Tryz.prog 169 #[.pointer (some ⟨gx, 0, none⟩)] W fun e' W' => (∃ v, e' = .returned v) ∧ MX B gx n A cap (e || zaT N xs N) xs W' ∧ Below B W W' := by
 have hn0 : 0 ≤ 2 * n := by omega
 have hn1 : 2 * n ≤ 128 := by omega
 have HN := hid hN
 have HL := hid hl
 have x0 := h.n_
 clear hN hl
 go_enter Tryz.func169, Tryz.ntmps169
 go_wp2
 clear x0
 go_loopw [8] (fun t wr => ∃ (k : Nat) (u : Bool), k ≤ N ∧ t = .int .i64 k ∧ Hid (u = (e || zaT N xs k)) ∧ MX B gx n A cap u xs wr ∧ Below B W wr) (fun t _ => N - (RowKit.intOf t).toNat)
 case atStart => exact ⟨0, e, by omega, rfl, hid (by simp [zaT]), h, Below.refl _ _⟩
 case round =>
  clear h
  obtain ⟨i, u, hi, rfl, hu, hM, a0⟩ := hrel
  by_cases hiN : i < N
  ·have t2 : (i : Int) < 2 * n := by have := HN.out; omega
   have a2 := zfi HN.out hiN
   have bi := zbT (i := i) (by omega)
   obtain ⟨_, _, _, g1, _, _⟩ := zbK HN.out hiN a2 hn
   obtain ⟨_, _, _, g2, _, _⟩ := zbK HN.out a2 hiN hn
   rw [← HL.out] at g1 g2
   obtain ⟨gm, rfl, hgB, hgW, hgx⟩ := hM.some (by omega)
   have fc : ∀ X, SX wr gx n (some ⟨gm, 0, none⟩) xs.length cap u X → X.cell? ⟨gm, i * N + nx i, none⟩ = some (.int .i64 (gI xs ((i * N + nx i : Nat) : Int))) := fun X hX => (hM.go hX).c_ g1
   have fd : ∀ X, SX wr gx n (some ⟨gm, 0, none⟩) xs.length cap u X → X.cell? ⟨gm, nx i * N + i, none⟩ = some (.int .i64 (gI xs ((nx i * N + i : Nat) : Int))) := fun X hX => (hM.go hX).c_ g2
   have fe : ∀ X, SX wr gx n (some ⟨gm, 0, none⟩) xs.length cap u X → X.cell? ⟨gx, 3, none⟩ = some (.bool u) := fun X hX => (hM.go hX).e_
   obtain ⟨v, hv⟩ : ∃ v, v = plus (gI xs ((i * N + nx i : Nat) : Int)) (gI xs ((nx i * N + i : Nat) : Int)) := ⟨_, rfl⟩
   have HV := hid hv
   clear hv
   cases hd : decide (v < 0)
   all_goals
    go_wp2
    refine zab 25 (SX wr gx n (some ⟨gm, 0, none⟩) xs.length cap u) (by kernel_rfl) (by kernel_rfl) hM.sx.drew ?_
    refine fl_a ?_
    refine Flow.call 212 #[.pointer (some ⟨gx, 0, none⟩), (i : Int), .int .i64 ((nx i : Nat) : Int)] (.pointer (some ⟨gm, i * N + nx i, none⟩)) (by rfl) (fun X hX => by go_simp) (fun X hX => (zcE i (nx i) N (hM.go hX) HN.out hn HL.out hiN a2).mono fun e' w' ⟨he, hb'⟩ => ⟨he, hX.up hb'⟩) ?_
    simp only [Act.put, List.setIfInBounds_toArray, List.set_cons_zero, List.set_cons_succ]
    refine fl_a ?_
    refine Flow.call 212 #[.pointer (some ⟨gx, 0, none⟩), .int .i64 ((nx i : Nat) : Int), (i : Int)] (.pointer (some ⟨gm, nx i * N + i, none⟩)) (by rfl) (fun X hX => by go_simp) (fun X hX => (zcE (nx i) i N (hM.go hX) HN.out hn HL.out a2 hiN).mono fun e' w' ⟨he, hb'⟩ => ⟨he, hX.up hb'⟩) ?_
    simp only [Act.put, List.setIfInBounds_toArray, List.set_cons_zero, List.set_cons_succ]
    refine fl_a ?_
    refine Flow.call 213 #[.pointer (some ⟨gx, 0, none⟩), .int .i64 (gI xs ((i * N + nx i : Nat) : Int)), .int .i64 (gI xs ((nx i * N + i : Nat) : Int))] (.int .i64 v) (by rfl) (fun X hX => by go_simp) (fun X hX => (zhG _ _ (hM.go hX)).mono fun e' w' ⟨he, hs⟩ => ⟨he.trans (by rw [HV.out]), hX.1.trans hs.1, hs.2⟩) ?_
    simp only [Act.put, List.setIfInBounds_toArray, List.set_cons_zero, List.set_cons_succ]
    refine fl_a ?_
    intro w6 h6
    have hM6 := hM.go h6
    have x3 := hM6.e_
    obtain ⟨s, hk⟩ := hM6.2.2.1
    have f3 := hk.fr 3
    have a5 := a0.trans (h6.bel hM.base (by have := a0.size; omega))
    clear hk fc fd fe bi
   ·have hM9 := hM6.setE u
    have a3 := a5.setCell (p := ⟨gx, 3, none⟩) (by simpa using hM.base) (.bool u)
    have a7 : Hid (u = (e || zaT N xs (i + 1))) := hid (by have := hu.out; unfold zaT; rw [← HV.out, hd, Bool.false_or]; exact this)
    go_wp2
    go_roundw
    case rel => exact ⟨i + 1, u, by omega, by go_num, a7, hM9, a3⟩
    case measure => simp [RowKit.intOf]; omega
   ·have hM9 := hM6.setE true
    have a3 := a5.setCell (p := ⟨gx, 3, none⟩) (by simpa using hM.base) (.bool true)
    have a7 : Hid (true = (e || zaT N xs (i + 1))) := hid (by unfold zaT; rw [← HV.out, hd]; simp)
    go_wp2
    go_roundw
    case rel => exact ⟨i + 1, true, by omega, by go_num, a7, hM9, a3⟩
    case measure => simp [RowKit.intOf]; omega
  ·have t2 : ¬ (i : Int) < 2 * n := by have := HN.out; omega
   have hiN' : i = N := by omega
   subst hiN'
   have hy := hu.out
   subst hy
   go_wp2
   go_end0
   exact ⟨⟨_, rfl⟩, hM, a0⟩
def zdi (N i j : Nat) (xs : List Int) : List Int :=
 if i = j then xs else xs.set (i * N + j) (min (gI xs ((i * N + j : Nat) : Int)) (half (plus (gI xs ((i * N + nx i : Nat) : Int)) (gI xs ((nx j * N + j : Nat) : Int)))))
def sRow (N i : Nat) (t : Nat) (xs : List Int) : List Int := rep (fun j => zdi N i j) t xs
def zaV (N : Nat) (t : Nat) (xs : List Int) : List Int := rep (fun i => sRow N i N) t xs
theorem zeH {B gx cap : Nat} {n : Int} {A : Option Addr} {e : Bool} {xs : List Int} {W : World} (N : Nat) (h : MX B gx n A cap e xs W) (hN : (N : Int) = 2 * n) (hn : N ≤ 128) (hl : xs.length = N * N) (hb : AllB xs) (hB : B ≤ W.heap.size) :
  Calls Tryz.prog 170 #[.pointer (some ⟨gx, 0, none⟩)] W fun e' W' => (∃ v, e' = .returned v) ∧ MX B gx n A cap e (zaV N N xs) W' ∧ AllB (zaV N N xs) ∧ (zaV N N xs).length = N * N ∧ Below B W W' := by
 have hn0 : 0 ≤ 2 * n := by omega
 have hn1 : 2 * n ≤ 128 := by omega
 have HN := hid hN
 have x0 := h.n_
 clear hN
 go_enter Tryz.func170, Tryz.ntmps170
 go_wp2
 clear x0
 go_loopw [10] (fun t wr => ∃ (k : Nat) (ys : List Int), k ≤ N ∧ t = .int .i64 k ∧ Hid (ys = zaV N k xs) ∧ Hid (ys.length = N * N) ∧ MX B gx n A cap e ys wr ∧ AllB ys ∧ Below B W wr) (fun t _ => N - (RowKit.intOf t).toNat)
 case atStart => exact ⟨0, xs, by omega, rfl, hid rfl, hid hl, h, hb, Below.refl _ _⟩
 case round =>
  clear h hl hb
  obtain ⟨i, zs, hi, rfl, hzs, hl, hM, hb, a0⟩ := hrel
  by_cases hiN : i < N
  ·have t2 : (i : Int) < 2 * n := by have := HN.out; omega
   have x0 := hM.n_
   go_wp2
   clear x0
   go_loopw [18] (fun t wr => ∃ (j : Nat) (us : List Int), j ≤ N ∧ t = .int .i64 j ∧ Hid (us = sRow N i j zs) ∧ Hid (us.length = N * N) ∧ MX B gx n A cap e us wr ∧ AllB us ∧ Below B W wr) (fun t _ => N - (RowKit.intOf t).toNat)
   case atStart => exact ⟨0, zs, by omega, rfl, hid rfl, hl, hM, hb, a0⟩
   case round =>
    clear hM hb a0 hl
    obtain ⟨j, us, hj, rfl, a9, hl, hM, hb, a0⟩ := hrel
    by_cases hjN : j < N
    ·have t3 : (j : Int) < 2 * n := by have := HN.out; omega
     by_cases hij : i = j
     ·have tij : ((i : Int) != (j : Int)) = false := by rw [bne_eq_false_iff_eq]; omega
      have b2 : Hid (us = sRow N i (j + 1) zs) := hid (by have := a9.out; rw [this]; show _ = zdi N i j (rep (fun j => zdi N i j) j zs); unfold zdi; rw [if_pos hij]; rfl)
      have HIJ := hid hij
      clear hij
      go_wp2
      go_roundw
      case rel => exact ⟨j + 1, _, by omega, by go_num, b2, hl, hM, hb, a0⟩
      case measure => simp [RowKit.intOf]; omega
     ·have tij : ((i : Int) != (j : Int)) = true := by rw [bne_iff_ne]; omega
      have HIJ := hid hij
      clear hij
      have a2 := zfi HN.out hiN
      have hnj := zfi HN.out hjN
      have bi := zbT (i := i) (by omega)
      have bj := zbT (i := j) (by omega)
      obtain ⟨_, _, _, g1, _, _⟩ := zbK HN.out hiN hjN hn
      obtain ⟨_, _, _, g2, _, _⟩ := zbK HN.out hiN a2 hn
      obtain ⟨_, _, _, g3, _, _⟩ := zbK HN.out hnj hjN hn
      rw [← hl.out] at g1 g2 g3
      obtain ⟨gm, rfl, hgB, hgW, hgx⟩ := hM.some (by omega)
      go_wp2_with fail
      refine (zcE i j N hM HN.out hn hl.out hiN hjN).mono ?_
      rintro e5 w5 ⟨rfl, a8⟩
      have hM5 := hM.up a8
      have a4 : Below B W w5 := a0.trans (a8.mono (by have := a0.size; omega))
      have fc : ∀ X, SX w5 gx n (some ⟨gm, 0, none⟩) us.length cap e X → X.cell? ⟨gm, i * N + j, none⟩ = some (.int .i64 (gI us ((i * N + j : Nat) : Int))) := fun X hX => (hM5.go hX).c_ g1
      have fd : ∀ X, SX w5 gx n (some ⟨gm, 0, none⟩) us.length cap e X → X.cell? ⟨gm, i * N + nx i, none⟩ = some (.int .i64 (gI us ((i * N + nx i : Nat) : Int))) := fun X hX => (hM5.go hX).c_ g2
      have fe : ∀ X, SX w5 gx n (some ⟨gm, 0, none⟩) us.length cap e X → X.cell? ⟨gm, nx j * N + j, none⟩ = some (.int .i64 (gI us ((nx j * N + j : Nat) : Int))) := fun X hX => (hM5.go hX).c_ g3
      clear hM a0 a8
      go_wp2
      refine zab 22 (SX w5 gx n (some ⟨gm, 0, none⟩) us.length cap e) (by kernel_rfl) (by kernel_rfl) hM5.sx.drew ?_
      refine fl_a ?_
      refine Flow.call 212 #[.pointer (some ⟨gx, 0, none⟩), (i : Int), .int .i64 ((nx i : Nat) : Int)] (.pointer (some ⟨gm, i * N + nx i, none⟩)) (by rfl) (fun X hX => by go_simp) (fun X hX => (zcE i (nx i) N (hM5.go hX) HN.out hn hl.out hiN a2).mono fun e' w' ⟨he, hb'⟩ => ⟨he, hX.up hb'⟩) ?_
      simp only [Act.put, List.setIfInBounds_toArray, List.set_cons_zero, List.set_cons_succ]
      refine fl_a ?_
      refine Flow.call 212 #[.pointer (some ⟨gx, 0, none⟩), .int .i64 ((nx j : Nat) : Int), .int .i64 (j : Int)] (.pointer (some ⟨gm, nx j * N + j, none⟩)) (by rfl) (fun X hX => by go_simp) (fun X hX => (zcE (nx j) j N (hM5.go hX) HN.out hn hl.out hnj hjN).mono fun e' w' ⟨he, hb'⟩ => ⟨he, hX.up hb'⟩) ?_
      simp only [Act.put, List.setIfInBounds_toArray, List.set_cons_zero, List.set_cons_succ]
      refine fl_a ?_
      refine Flow.call 213 #[.pointer (some ⟨gx, 0, none⟩), .int .i64 (gI us ((i * N + nx i : Nat) : Int)), .int .i64 (gI us ((nx j * N + j : Nat) : Int))] (.int .i64 (plus (gI us ((i * N + nx i : Nat) : Int)) (gI us ((nx j * N + j : Nat) : Int)))) (by rfl) (fun X hX => by go_simp) (fun X hX => (zhG _ _ (hM5.go hX)).mono fun e' w' ⟨he, hs⟩ => ⟨he, hX.1.trans hs.1, hs.2⟩) ?_
      simp only [Act.put, List.setIfInBounds_toArray, List.set_cons_zero, List.set_cons_succ]
      refine Flow.call 215 #[.int .i64 (plus (gI us ((i * N + nx i : Nat) : Int)) (gI us ((nx j * N + j : Nat) : Int)))] (.int .i64 (half (plus (gI us ((i * N + nx i : Nat) : Int)) (gI us ((nx j * N + j : Nat) : Int))))) (by rfl) (fun X hX => by go_simp) (fun X hX => (zdt _ _).mono fun e' w' ⟨he, hw⟩ => ⟨he, hw ▸ hX⟩) ?_
      simp only [Act.put, List.setIfInBounds_toArray, List.set_cons_zero, List.set_cons_succ]
      generalize hvh : half (plus (gI us ((i * N + nx i : Nat) : Int)) (gI us ((nx j * N + j : Nat) : Int))) = v
      have HVH := hid hvh
      clear hvh
      refine Flow.call 117 #[.int .i64 (gI us ((i * N + j : Nat) : Int)), .int .i64 v] (.int .i64 (less (gI us ((i * N + j : Nat) : Int)) v)) (by rfl) (fun X hX => by go_simp) (fun X hX => (zdu _ _ _).mono fun e' w' ⟨he, hw⟩ => ⟨he, hw ▸ hX⟩) ?_
      simp only [Act.put, List.setIfInBounds_toArray, List.set_cons_zero, List.set_cons_succ]
      refine fl_a ?_
      intro w6 h6
      have hM6 := hM5.go h6
      have c6 := hM6.c_ g1
      have f6 := hM6.f_ (i * N + j)
      have a6 : zag v = true := by rw [← HVH.out]; exact za6 _
      have a1 := zhC (hb (i * N + j)) a6
      have hM7 := hM6.set (i * N + j) (less (gI us ((i * N + j : Nat) : Int)) v)
      have hb7 : AllB (us.set (i * N + j) (less (gI us ((i * N + j : Nat) : Int)) v)) := hb.set (by rw [a1]; exact zaY (hb _) a6) g1
      have b0 : Below B W (w6.setCell ⟨gm, i * N + j, none⟩ (.int .i64 (less (gI us ((i * N + j : Nat) : Int)) v))) := (a4.trans (h6.bel hM5.base (by have := a4.size; omega))).setCell (by simpa using hgB) _
      have b1 : Hid (us.set (i * N + j) (less (gI us ((i * N + j : Nat) : Int)) v) = sRow N i (j + 1) zs) := hid (by
       rw [a1, ← HVH.out]
       have := a9.out
       show _ = zdi N i j (rep (fun j => zdi N i j) j zs)
       unfold zdi
       rw [if_neg HIJ.out]
       rw [this]; rfl)
      have HL6 := hid a1
      have HVB := hid a6
      clear a1 a6 fc fd fe
      go_wp2
      go_roundw
      case rel => exact ⟨j + 1, _, by omega, by go_num, b1, hid (by rw [List.length_set]; exact hl.out), hM7, hb7, b0⟩
      case measure => simp [RowKit.intOf]; omega
    ·have t3 : ¬ (j : Int) < 2 * n := by have := HN.out; omega
     have hjN' : j = N := by omega
     subst hjN'
     go_wp2
     go_roundw
     case rel => exact ⟨i + 1, us, by omega, by go_num, hid (by rw [a9.out, hzs.out]; rfl), hl, hM, hb, a0⟩
     case measure => simp [RowKit.intOf]; omega
  ·have t2 : ¬ (i : Int) < 2 * n := by have := HN.out; omega
   have hiN' : i = N := by omega
   subst hiN'
   have hy := hzs.out
   subst hy
   have HLL := hl
   go_wp2
   go_end0
   exact ⟨⟨_, rfl⟩, hM, HLL.out, a0⟩
end
section
def zc4 (P : Program) (ops : Array Oper) (S S' : World → Prop) (o : Oper) (v : Value) (a : Act) : Prop :=
 (Region.wanted o (yielded ops a.tmps) = true ∧ ∀ w, S w → ∀ K : Act → World → Prop, (∀ a2 w2, a2 = a.put o.dst v → S' w2 → K a2 w2) → o.wp P a w K zbN) ∨
 (Region.wanted o (yielded ops a.tmps) = false ∧ v = undef ∧ ∀ w, S w → S' w)
section
variable {P : Program} {ops : Array Oper} {Q : Exit → Act → World → Prop} {S : Bool → World → Prop} {S1 S2 : World → Prop} {md : Region.Mode} {j : Nat}
theorem zc4.move {o : Oper} {v : Value} {a a' : Act} (h : zc4 P ops S1 S2 o v a) (he : execOp a'.eval o = execOp a.eval o)
  (hw : Region.wanted o (yielded ops a'.tmps) = Region.wanted o (yielded ops a.tmps)) (hs : a'.tmps.size = a.tmps.size) : zc4 P ops S1 S2 o v a' := by
 rcases h with ⟨a8, h⟩ | ⟨a8, hv⟩
 ·refine .inl ⟨hw.trans a8, fun w hS K hK => ?_⟩
  have h1 := h w hS (fun a2 w2 => a2 = a.put o.dst v ∧ S2 w2) (fun _ _ e k => ⟨e, k⟩)
  unfold Oper.wp at *
  rw [he]
  generalize (execOp a.eval o).run P w = r at *
  cases r with
  | ok n w' =>
   cases n <;> simp only [Oper.upon] at h1 ⊢
   case value u => exact hK _ _ (zaP h1.1 hs) h1.2
   case skip => exact hK _ _ (zaP h1.1 hs) h1.2
   case defer d =>
    have := congrArg (fun x : Act => x.defers.length) h1.1
    cases hd : o.dst <;> simp [Act.put, hd] at this
   case enter f args =>
    refine Calls.mono h1 fun e w'' he' => ?_
    cases e with
    | returned u => exact hK _ _ (zaP he'.1 hs) he'.2
    | panicked c => exact he'
    | outgrown => exact he'
   case row row args => exact Rows.mono h1 fun u w'' he' => hK _ _ (zaP he'.1 hs) he'.2
  | halt x w' =>
   cases x <;> simp only [Oper.upon] at h1 ⊢
   case panic u => exact h1
 ·exact .inr ⟨hw.trans a8, hv⟩
theorem zc4.putApart {o : Oper} {v : Value} {a : Act} (hso : ∀ cs b, o.op ≠ .select cs b) (h : zc4 P ops S1 S2 o v a) (dst : Option Tmp) (u : Value) (hd : ∀ d, dst = some d → d ∉ o.looksAt ops) :
  zc4 P ops S1 S2 o v (a.put dst u) :=
 h.move (execOp_put o hso a dst u hd) (wanted_put o a dst u hd) (zcT _ _ _)
theorem zc4.unputApart {o : Oper} {v : Value} {a : Act} (hso : ∀ cs b, o.op ≠ .select cs b) (dst : Option Tmp) (u : Value) (h : zc4 P ops S1 S2 o v (a.put dst u)) (hd : ∀ d, dst = some d → d ∉ o.looksAt ops) :
  zc4 P ops S1 S2 o v a :=
 h.move (execOp_put o hso a dst u hd).symm (wanted_put o a dst u hd).symm (zcT _ _ _).symm
theorem zc4.wpOp {i : Nat} {o : Oper} {v : Value} {a : Act} (hi : ops[i]? = some o) (h : zc4 P ops S1 S2 o v a) {K : Act → World → Prop} {w : World} (hS : S1 w)
  (hK : ∀ w2, S2 w2 → K (a.put o.dst v) w2) (hQ : ∀ e a w, zbN e a w → Q e a w) : Go.wpOp P ops Q i K a w := by
 unfold Go.wpOp
 simp only [hi]
 rcases h with ⟨hw, h⟩ | ⟨hw, rfl, h⟩
 ·simp only [hw, if_true]
  refine .inl ?_
  have h1 := h w hS K (fun a2 w2 e k => e ▸ hK w2 k)
  unfold Oper.wp at *
  generalize (execOp a.eval o).run P w = r at *
  cases r with
  | ok n w' =>
   cases n <;> simp only [Oper.upon] at h1 ⊢ <;> try exact h1
   case enter f args =>
    refine Calls.mono h1 fun e w'' he' => ?_
    cases e with
    | returned u => exact he'
    | panicked c => exact hQ _ _ _ he'
    | outgrown => exact he'.elim (fun _ h => h.elim (fun _ h => h.elim))
  | halt x w' =>
   cases x <;> simp only [Oper.upon] at h1 ⊢
   case panic u => exact hQ _ _ _ h1
 ·simp only [hw, Bool.false_eq_true, if_false]; exact hK w (h w hS)
def zja (P : Program) (md : Region.Mode) (ops : Array Oper) (S : Bool → World → Prop) (j i : Nat) (o : Oper) (v : Value) (a : Act) : Prop :=
 ∀ b, (i = j → b = false) → (zbh md ops i ops.size j = true → b = false) → zc4 P ops (S b) (S (b || i == j)) o v a
def AnyM (P : Program) (md : Region.Mode) (ops : Array Oper) (Q : Exit → Act → World → Prop) (S : Bool → World → Prop) (j m : Nat) : Nat → Array Bool → Act → Prop
 | 0, listed, a => zaz m listed ∧ ∀ w, S (listed.getD j false) w → wpAny P md ops Q 0 listed a w
 | fuel + 1, listed, a => (zaz m listed ∧ ∀ w, S (listed.getD j false) w → wpAny P md ops Q (fuel + 1) listed a w) ∨
  (Region.ready md ops listed ≠ [] ∧ ∀ i ∈ Region.ready md ops listed, i < m ∧ ∃ o v, ops[i]? = some o ∧ zja P md ops S j i o v a ∧ AnyM P md ops Q S j m fuel (listed.setIfInBounds i true) (a.put o.dst v))
theorem zap {i : Nat} {listed : Array Bool} (h : i ∈ Region.ready md ops listed) : i < listed.size ∧ listed.getD i false = false := by
 have h4 := (mem_ready.1 h).1
 rcases Nat.lt_or_ge i listed.size with h' | h'
 ·simp [h'] at h4; exact ⟨h', by simp [h', h4]⟩
 ·simp [Array.getElem?_eq_none h'] at h4
theorem zbU {i : Nat} {listed : Array Bool} (h : i < listed.size) : (listed.setIfInBounds i true).getD j false = (listed.getD j false || i == j) := by
 by_cases hij : i = j
 ·subst hij
  simp [Array.getD, h]
 ·rw [getD_set_ne false hij]
  have : (i == j) = false := by simpa using hij
  rw [this, Bool.or_false]
theorem AnyM.wpAny (hQ : ∀ e a w, zbN e a w → Q e a w) {m : Nat} : ∀ (fuel : Nat) (listed : Array Bool) (a : Act), zay md ops listed → AnyM P md ops Q S j m fuel listed a → ∀ w, S (listed.getD j false) w → Go.wpAny P md ops Q fuel listed a w
 | 0, _, _, _, h, w, hS => h.2 w hS
 | fuel + 1, listed, a, hcl, h, w, hS => by
  rcases h with ⟨_, h⟩ | ⟨hne, h⟩
  ·exact h w hS
  ·refine ⟨fun h0 => absurd h0 hne, fun i hi => ?_⟩
   obtain ⟨_, o, v, ho, a7, a0⟩ := h i hi
   obtain ⟨g1, g2⟩ := zap hi
   have hrc : zbh md ops i ops.size j = true → listed.getD j false = false := fun hr => by
    cases hj : listed.getD j false with
    | false => rfl
    | true =>
     have := zaJ hcl _ _ hr (fun oj a3 e he hb => hcl j oj a3 hj e he hb)
     rw [g2] at this; cases this
   refine (a7 _ (fun e => by rw [← e]; exact g2) hrc).wpOp ho hS (fun w2 hS2 => AnyM.wpAny hQ fuel _ _ (hcl.set hi) a0 w2 ?_) hQ
   rw [zbU g1]; exact hS2
theorem AnyM.first (hsel : ∀ (j : Nat) (o : Oper) cs b, ops[j]? = some o → o.op ≠ .select cs b) {m : Nat} (htail : zco md ops m = true) {i : Nat} {oi : Oper} {v : Value} (hi : ops[i]? = some oi) (him : i < m) :
  ∀ (fuel : Nat) (listed : Array Bool) (a : Act), zay md ops listed →
   (∀ j oj, ops[j]? = some oj → j ≠ i → listed.getD j true = false → (∀ e ∈ oj.after, Region.binds md e = true → e.on ≠ i) → oi.apart ops oj = true) →
   i ∈ Region.ready md ops listed → zja P md ops S j i oi v a →
   AnyM P md ops Q S j m fuel (listed.setIfInBounds i true) (a.put oi.dst v) → AnyM P md ops Q S j m (fuel + 1) listed a := by
 intro fuel
 have early : ∀ (listed : Array Bool) (k : Nat), zay md ops listed → i ∈ Region.ready md ops listed → k ∈ Region.ready md ops listed → k < m := by
  intro listed k hc hr hk
  rcases Nat.lt_or_ge k m with h | h
  ·exact h
  ·exfalso
   obtain ⟨_, oj, a3, a5⟩ := mem_ready.1 hk
   have hjs : k < ops.size := (Array.getElem?_eq_some_iff.1 a3).1
   have h1 := List.all_eq_true.1 htail k (List.mem_range.2 hjs)
   simp only [Bool.or_eq_true, decide_eq_true_eq] at h1
   have h2 := List.all_eq_true.1 (h1.resolve_left (by omega)) i (List.mem_range.2 him)
   have h3 := zaJ hc _ _ h2 (fun o ho e he hb => by rw [a3] at ho; injection ho with ho; subst ho; exact a5 e he hb)
   rw [(zap hr).2] at h3; cases h3
 induction fuel with
 | zero =>
  intro listed a hc a1 hr hy H
  refine .inr ⟨fun h => (by rw [h] at hr; cases hr), fun k hk => ?_⟩
  by_cases hji : k = i
  ·subst hji; exact ⟨him, oi, v, hi, hy, H⟩
  ·exfalso
   have h1 := H.1 k (early listed k hc hr hk)
   rw [getD_set_ne false (Ne.symm hji), (zap hk).2] at h1; cases h1
 | succ fuel ih =>
  intro listed a hc a1 hr hy H
  refine .inr ⟨fun h => (by rw [h] at hr; cases hr), fun k hk => ?_⟩
  by_cases hji : k = i
  ·subst hji; exact ⟨him, oi, v, hi, hy, H⟩
  ·have hjm := early listed k hc hr hk
   rcases H with ⟨hd, _⟩ | ⟨_, H⟩
   ·exfalso
    have h1 := hd k hjm
    rw [getD_set_ne false (Ne.symm hji), (zap hk).2] at h1; cases h1
   ·obtain ⟨_, oj, u, a3, a7, a0⟩ := H k (ready_mono hk hji)
    obtain ⟨a6, oj', a4, a5⟩ := mem_ready.1 hk
    rw [a3] at a4; injection a4 with a4; subst a4
    have a9 : ∀ e ∈ oj.after, Region.binds md e = true → e.on ≠ i := fun e he hb heq => by
     have h1 := a5 e he hb
     rw [heq, (zap hr).2] at h1; cases h1
    obtain ⟨h1, h2, h3⟩ := Oper.apart_spec (a1 k oj a3 hji a6 a9)
    refine ⟨hjm, oj, u, a3, fun b hb hb' => (a7 b hb hb').unputApart (hsel k oj · · a3) _ _ h1, ih _ _ (hc.set hk) ?_ (ready_mono hr (Ne.symm hji)) (fun b hb hb' => (hy b hb hb').putApart (hsel i oi · · hi) _ _ h3) ?_⟩
    ·intro k' ok b1 hki hun hno
     refine a1 k' ok b1 hki ?_ hno
     by_cases hjk : k = k'
     ·subst hjk; exact a6
     ·rw [getD_set_ne true hjk] at hun; exact hun
    ·rw [Array.setIfInBounds_comm _ _ hji, ← Act.put_comm a v u h2]
     exact a0
def za5 (P : Program) (ops : Array Oper) (Q : Exit → Act → World → Prop) (S : Bool → World → Prop) (j : Nat) : Nat → Nat → List Oper → Act → Prop
 | 0, _, l, a => ∀ w, S true w → wpList P ops Q l a w
 | _ + 1, _, [], a => ∀ w, S true w → Q .normal a w
 | m + 1, k, o :: rest, a => ∃ v, zja P .any ops S j k o v a ∧ za5 P ops Q S j m (k + 1) rest (a.put o.dst v)
theorem za5.anyM {m0 : Nat} (hsel : ∀ (j : Nat) (o : Oper) cs b, ops[j]? = some o → o.op ≠ .select cs b) (htail : zco .any ops m0 = true) (hm0 : m0 ≤ ops.size) (hj : j < m0)
  (hr : ∀ i, i < m0 → i ∈ Region.ready .any ops (pre ops.size i)) (hfr : ∀ i, i < m0 → Region.free .any ops (pre ops.size i) i = true)
  (hf : ∀ i, i < ops.size → m0 ≤ i → Region.ready .any ops (pre ops.size i) = [i]) (hend : Region.ready .any ops (pre ops.size ops.size) = []) :
  ∀ (m k : Nat) (l : List Oper), k + m = m0 → zay .any ops (pre ops.size k) → (∀ j, l[j]? = ops[k + j]?) → ∀ (a : Act), za5 P ops Q S j m k l a → AnyM P .any ops Q S j m0 (ops.size - k) (pre ops.size k) a
 | 0, k, l, hk, _, hl, a, h => by
  have b1 : k = m0 := by omega
  subst b1
  have he : zaz k (pre ops.size k) := fun i hi => by rw [zau _ _ _ _ (by omega) (by omega)]; simpa using hi
  have hjt : (pre ops.size k).getD j false = true := he j hj
  have h1 : ∀ w, S ((pre ops.size k).getD j false) w → Go.wpAny P .any ops Q (ops.size - k) (pre ops.size k) a w := fun w hS => zbw hf hend _ _ l (Nat.le_refl _) (by omega) hl a w (h w (by rw [hjt] at hS; exact hS))
  generalize hn : ops.size - k = n at h1
  cases n with
  | zero => exact ⟨he, h1⟩
  | succ n => exact .inl ⟨he, h1⟩
 | m + 1, k, l, hk, hc, hl, a, h => by
  have b0 : k < ops.size := by omega
  cases l with
  | nil => have := hl 0; simp [Array.getElem?_eq_getElem b0] at this
  | cons o l =>
   have ho : ops[k]? = some o := by simpa using (hl 0).symm
   have hl' : ∀ j, l[j]? = ops[k + 1 + j]? := fun j => by have := hl (j + 1); simpa [Nat.add_assoc, Nat.add_comm 1 j] using this
   obtain ⟨v, a7, a0⟩ := h
   have hn : ops.size - k = (ops.size - (k + 1)) + 1 := by omega
   rw [hn]
   refine AnyM.first hsel htail ho (by omega) _ _ _ hc (Region.free_spec ho (hfr k (by omega))) (hr k (by omega)) a7 ?_
   rw [zbt _ _ b0]
   refine za5.anyM hsel htail hm0 hj hr hfr hf hend m (k + 1) l (by omega) ?_ hl' _ a0
   rw [← zbt _ _ b0]
   exact hc.set (hr k (by omega))
theorem zbr {id : Nat} {l : List Oper} {a : Act} {w : World} (m j : Nat) (S : Bool → World → Prop) (hm : P.follows .mixedOrders = true) (hc : zcB l.toArray m = true) (hj : (j < m)) (hS : S false w.drew)
  (h : za5 P l.toArray Q S j m 0 l a) : (Code.region id l.toArray true).wp P Q a w := by
 simp only [zcB, Bool.and_eq_true, decide_eq_true_eq, beq_iff_eq, List.all_eq_true, List.mem_range] at hc
 obtain ⟨⟨⟨⟨⟨c1, c2⟩, c3⟩, c4⟩, c5⟩, c6⟩ := hc
 have hQ : ∀ e a w, zbN e a w → Q e a w := fun _ _ _ h => (h : False).elim
 refine wp_region_any hm ?_
 have hp : Array.replicate l.toArray.size false = pre l.toArray.size 0 := by simp [pre, ← List.toArray_replicate]
 rw [hp]
 have hr : ∀ i, i < m → i ∈ Region.ready .any l.toArray (pre l.toArray.size i) := fun i hi => by simpa using (c4 i hi).1
 refine AnyM.wpAny hQ _ _ _ ?_ (za5.anyM (m0 := m) (k := 0) (Region.noSelect_spec c1) c3 c2 hj hr (fun i hi => (c4 i hi).2) ?_ c6 m l (by omega) ?_ (by simp) a h) w.drew ?_
 rotate_left
 ·intro i hi hmi
  have := c5 (i - m) (by omega)
  rwa [show m + (i - m) = i by omega] at this
 ·intro k o _ hk
  exfalso
  rcases Nat.lt_or_ge k l.toArray.size with h' | h'
  ·rw [zau _ _ _ _ (by omega) h'] at hk; simp at hk
  ·rw [Array.getD, dif_neg (by rw [zaQ _ _ (by omega)]; omega)] at hk; cases hk
 ·rw [zau _ _ _ _ (by omega) (by omega)]; simpa using hS
 ·intro k o _ hk
  exfalso
  rcases Nat.lt_or_ge k l.toArray.size with h' | h'
  ·rw [zau _ _ _ _ (by omega) h'] at hk; simp at hk
  ·rw [Array.getD, dif_neg (by rw [zaQ _ _ (by omega)]; omega)] at hk; cases hk
def AnyB (S : Bool → World → Prop) (w : World) : Prop := ∃ b, S b w
theorem za5.quiet {m k : Nat} {o : Oper} {rest : List Oper} {a : Act} (v : Value) (hk : (k == j) = false) (hw : Region.wanted o (yielded ops a.tmps) = true) (h : ∀ w, AnyB S w → (execOp a.eval o).run P w = .ok (.value v) w) (hr : za5 P ops Q S j m (k + 1) rest (a.put o.dst v)) :
  za5 P ops Q S j (m + 1) k (o :: rest) a :=
 ⟨v, fun b _ _ => .inl ⟨hw, fun w hS K hK => by rw [hk, Bool.or_false] at hK; unfold Oper.wp; rw [h w ⟨b, hS⟩]; exact hK _ _ rfl hS⟩, hr⟩
theorem za5.take {m k : Nat} {o : Oper} {rest : List Oper} {a : Act} (v : Value) (hk : (k == j) = false) (hw : Region.wanted o (yielded ops a.tmps) = true) (h : ∀ w, AnyB S w → ∀ R : Value → Prop, R v → Yl R w ((execOp a.eval o).run P w)) (hr : za5 P ops Q S j m (k + 1) rest (a.put o.dst v)) :
  za5 P ops Q S j (m + 1) k (o :: rest) a :=
 za5.quiet v hk hw (fun w hS => by
  have h1 := h w hS (fun x => x = v) rfl
  generalize (execOp a.eval o).run P w = r at *
  cases r with
  | ok n w' =>
   cases n with
   | value x => obtain ⟨e1, e2⟩ := h1; subst e1; subst e2; rfl
   | _ => exact h1.elim
  | halt x w' => exact h1.elim) hr
theorem za5.skip {m k : Nat} {o : Oper} {rest : List Oper} {a : Act} (hk : (k == j) = false) (hw : Region.wanted o (yielded ops a.tmps) = false) (hr : za5 P ops Q S j m (k + 1) rest (a.put o.dst undef)) :
  za5 P ops Q S j (m + 1) k (o :: rest) a :=
 ⟨undef, fun b _ _ => .inr ⟨hw, rfl, fun w hS => by rw [hk, Bool.or_false]; exact hS⟩, hr⟩
def YlM (R : World → Prop) : Result Next → Prop
 | .ok (.value _) w' => R w'
 | .ok .skip w' => R w'
 | _ => False
@[go_sem] theorem YlM_ok (R : World → Prop) (w : World) (x : Value) : YlM R (.ok (.value x) w) = R w := rfl
@[go_sem] theorem YlM_skip (R : World → Prop) (w : World) : YlM R (.ok .skip w) = R w := rfl
theorem za5.mark {m k : Nat} {o : Oper} {rest : List Oper} {a : Act} (hk : (k == j) = true) (hd : o.dst = none) (hw : Region.wanted o (yielded ops a.tmps) = true)
  (h : ∀ w, S false w → ∀ R : World → Prop, (∀ w2, S true w2 → R w2) → YlM R ((execOp a.eval o).run P w)) (hr : za5 P ops Q S j m (k + 1) rest a) :
  za5 P ops Q S j (m + 1) k (o :: rest) a :=
 ⟨undef, fun b hb _ => .inl ⟨hw, fun w hS K hK => by
  obtain rfl := hb (by simpa using hk)
  rw [hk] at hK
  have h1 := h w hS (S true) (fun _ k => k)
  unfold Oper.wp
  generalize (execOp a.eval o).run P w = r at *
  cases r with
  | ok n w' =>
   cases n with
   | value x => exact hK _ _ (by rw [hd]; rfl) h1
   | skip => exact hK _ _ rfl h1
   | _ => exact h1.elim
  | halt x w' => exact h1.elim⟩, by rw [hd]; exact hr⟩
end
end
section
open Go.RowKit
section
variable {W : World} {g k : Nat} {t : TypeId} {cs : Array Value} {a0 a1 a2 v0 v1 v2 : Value} {base cap B : Nat} {A : Option Addr} {m : List Int}
theorem Blk.set3 (h : Blk W g t #[a0, a1, a2]) : Blk (((W.setCell ⟨g, 0, none⟩ v0).setCell ⟨g, 1, none⟩ v1).setCell ⟨g, 2, none⟩ v2) g t #[v0, v1, v2] :=
 ((h.set_ 0 v0).set_ 1 v1).set_ 2 v2
theorem Blk.far3 (h : Blk W k t cs) (hk : g ≠ k) : Blk (((W.setCell ⟨g, 0, none⟩ v0).setCell ⟨g, 1, none⟩ v1).setCell ⟨g, 2, none⟩ v2) k t cs :=
 ((h.far (p := ⟨g, 0, none⟩) hk v0).far (p := ⟨g, 1, none⟩) hk v1).far (p := ⟨g, 2, none⟩) hk v2
theorem Own.far1 {i : Nat} {v : Value} (h : Own W base A cap m) (hn : ∀ k, A = some ⟨k, 0, none⟩ → k ≠ g) : Own (W.setCell ⟨g, i, none⟩ v) base A cap m := by
 refine h.grown (zal W ⟨g, i, none⟩ v) ?_
 rcases h.form with ⟨rfl, _⟩ | ⟨g', rfl, _⟩
 ·exact .inl rfl
 ·refine .inr fun e => hn g' rfl ?_
  simpa [Value.ownBlock] using e
theorem Own.far3 (h : Own W base A cap m) (hn : ∀ k, A = some ⟨k, 0, none⟩ → k ≠ g) : Own (((W.setCell ⟨g, 0, none⟩ v0).setCell ⟨g, 1, none⟩ v1).setCell ⟨g, 2, none⟩ v2) base A cap m :=
 ((h.far1 hn).far1 hn).far1 hn
theorem zaG {i : Nat} {v : Value} (hg : B ≤ g) (hB : B ≤ W.heap.size) : Below B W (W.setCell ⟨g, i, none⟩ v) :=
 zat (zal W ⟨g, i, none⟩ v) (fun k hk => by injection hk with hk; subst hk; exact hg) hB
theorem zae (hg : B ≤ g) (hB : B ≤ W.heap.size) : Below B W (((W.setCell ⟨g, 0, none⟩ v0).setCell ⟨g, 1, none⟩ v1).setCell ⟨g, 2, none⟩ v2) :=
 (zaG hg hB).trans ((zaG hg (by simpa using hB)).trans (zaG hg (by simpa using hB)))
end
theorem zhB {w : World} {base cap g k : Nat} {xs : List Int} {t : TypeId} {cs : Array Value} (h : Own w base (some ⟨g, 0, none⟩) cap xs) (hk : Blk w k t cs) (ht : t ≠ 2) : g ≠ k := by
 rintro rfl
 rcases h.2 with ⟨h0, _⟩ | ⟨g', cap', cur, h1, _, h3, _⟩
 ·cases h0
 ·simp only [Value.slice.injEq, Option.some.injEq, Addr.mk.injEq] at h1
  obtain ⟨⟨rfl, _⟩, _⟩ := h1
  unfold Blk at hk
  rw [h3] at hk
  injection hk with hk
  injection hk with _ hk
  exact ht hk.symm
theorem zak {w : World} {base cap k : Nat} {A : Option Addr} {xs : List Int} {t : TypeId} {cs : Array Value} (h : Own w base A cap xs) (hk : Blk w k t cs) (ht : t ≠ 2) : ∀ g, A = some ⟨g, 0, none⟩ → g ≠ k := by
 rintro g rfl
 exact zhB h hk ht
def SB (w0 : World) (g : Nat) (v0 v1 v2 : Value) : Bool → World → Prop
 | false => fun W => Below w0.heap.size w0 W
 | true => fun W => ∃ W0, Below w0.heap.size w0 W0 ∧ W = ((W0.setCell ⟨g, 0, none⟩ v0).setCell ⟨g, 1, none⟩ v1).setCell ⟨g, 2, none⟩ v2
theorem SB.cell {w0 W : World} {g k i : Nat} {v0 v1 v2 v : Value} {b : Bool} (h : SB w0 g v0 v1 v2 b W) (hc : w0.cell? ⟨k, i, none⟩ = some v) (hk : k ≠ g) : W.cell? ⟨k, i, none⟩ = some v := by
 cases b with
 | false => exact cell_later h hc
 | true =>
  obtain ⟨W0, h0, rfl⟩ := h
  have e : ∀ (X : World) (j : Nat) (u : Value), (X.setCell ⟨g, j, none⟩ u).cell? ⟨k, i, none⟩ = X.cell? ⟨k, i, none⟩ := fun X j u =>
   World.cell?_setCell_other X ⟨g, j, none⟩ ⟨k, i, none⟩ u (fun e => hk (by injection e with e; exact e.symm))
  rw [e, e, e]
  exact cell_later h0 hc
theorem SB.laters {w0 : World} {g k i : Nat} {v0 v1 v2 v : Value} (hc : w0.cell? ⟨k, i, none⟩ = some v) (hk : k ≠ g) : ∀ W, AnyB (SB w0 g v0 v1 v2) W → W.cell? ⟨k, i, none⟩ = some v := fun _ ⟨_, h⟩ => h.cell hc hk
theorem SB.boxes {w0 : World} {g : Nat} {t : TypeId} {v0 v1 v2 c0 c1 c2 : Value} (hk : Blk w0 g t #[c0, c1, c2]) : (∀ W, SB w0 g v0 v1 v2 false W → W.cell? ⟨g, 0, none⟩ = some c0) ∧ (∀ W, SB w0 g v0 v1 v2 false W → W.cell? ⟨g, 1, none⟩ = some c1) ∧ (∀ W, SB w0 g v0 v1 v2 false W → W.cell? ⟨g, 2, none⟩ = some c2) ∧ (∀ W, SB w0 g v0 v1 v2 false W → ∀ j, W.frozen? ⟨g, j, none⟩ = false) :=
 ⟨fun _ h => (hk.later h).cell 0, fun _ h => (hk.later h).cell 1, fun _ h => (hk.later h).cell 2, fun _ h => (hk.later h).fr⟩
end
end Go.Proofs.YtnmpgijiimglcaaGreat
