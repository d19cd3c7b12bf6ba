import Derived.Test.YtnmpgijiimglcaaGreatBTl34
import Derived.Test.YtnmpgijiimglcaaGreatBTl41
import Derived.Test.YtnmpgijiimglcaaGreatBTl43
import Derived.Test.YtnmpgijiimglcaaGreatBTl42
import Derived.Test.YtnmpgijiimglcaaGreatBTl10
import Derived.Test.YtnmpgijiimglcaaGreatBTl26
import Derived.Test.YtnmpgijiimglcaaGreatBTl29
import Derived.Test.YtnmpgijiimglcaaGreatBTl02
namespace Go.Proofs.YtnmpgijiimglcaaGreat
section
open Go.RowKit
set_option maxRecDepth 100000
set_option maxHeartbeats 8000000
theorem near_side {xs : List Int} (hn : ∀ k : Nat, NearV (gI xs (k : Int))) : SmallX xs := fun a => by
 have := hn (a / 2)
 unfold NearV at this
 unfold sideX
 split <;> omega
end
section
open Go.RowKit
set_option maxRecDepth 100000
set_option maxHeartbeats 8000000
attribute [local go_sem ↓] Go.wp_at_zero Go.wp_at_succ
theorem tnear_any (v n : Int) (w : World) :
  Calls Tryz.prog 77 #[.agg #[v, n]] w fun e w' => e = .returned (.bool (nearT v n)) ∧ Below w.heap.size w w' := by
 have n0 := new1 w (.cells #[v, n] 26)
 have k0 := Blk.new w 26 #[v, n]
 have c0 := k0.cell 0
 have c1 := k0.cell 1
 go_enter Tryz.func77, Tryz.ntmps77
 by_cases h : 0 ≤ v
 ·go_wp2
  go_ret
  exact ⟨retb (by unfold nearT; rw [decide_eq_true (show 0 ≤ v by omega)]; rfl), n0⟩
 ·by_cases h1 : -2305843009213693952 ≤ n
  ·by_cases h2 : n ≤ 2305843009213693952
   ·go_wp2
    go_ret
    exact ⟨retb (by unfold nearT; rw [decide_eq_false (show ¬ 0 ≤ v by omega), decide_eq_true (show -2305843009213693952 ≤ n ∧ n ≤ 2305843009213693952 by omega)]; rfl), n0⟩
   ·go_wp2
    go_ret
    exact ⟨retb (by unfold nearT; rw [decide_eq_false (show ¬ 0 ≤ v by omega), decide_eq_false (show ¬ (-2305843009213693952 ≤ n ∧ n ≤ 2305843009213693952) by omega)]; rfl), n0⟩
  ·go_wp2
   go_ret
   exact ⟨retb (by unfold nearT; rw [decide_eq_false (show ¬ 0 ≤ v by omega), decide_eq_false (show ¬ (-2305843009213693952 ≤ n ∧ n ≤ 2305843009213693952) by omega)]; rfl), n0⟩
def exactK (kd op av bv : Int) : Bool :=
 if kd = 1 ∨ kd = 11 ∨ kd = 13 ∨ kd = 14 ∨ kd = 9 ∨ kd = 10 ∨ kd = 2 ∨ kd = 3 then true
 else if kd = 12 then (decide (op ≠ 4) || (decide (av < 0) && decide (bv < 0)))
 else if kd = 4 then (decide (av < 0) != decide (bv < 0))
 else if kd = 5 then (decide (0 ≤ av) && decide (bv < 0))
 else false
theorem texact_any (fr te kd dst arr op av an bv bn : Int) (w : World) :
  Calls Tryz.prog 33 #[.agg #[fr, te, kd, dst, arr, op, av, an, bv, bn]] w fun e w' => e = .returned (.bool (nearT av an && nearT bv bn && exactK kd op av bv)) ∧ Below w.heap.size w w' := by
 have n0 := new1 w (.cells #[fr, te, kd, dst, arr, op, av, an, bv, bn] 44)
 have k0 := Blk.new w 44 #[fr, te, kd, dst, arr, op, av, an, bv, bn]
 have HA := hid (fun W => tnear_any av an W)
 have HB := hid (fun W => tnear_any bv bn W)
 obtain ⟨K, hK⟩ : ∃ K, K = exactK kd op av bv := ⟨_, rfl⟩
 rw [← hK]
 have HK := hid hK
 clear hK
 generalize nearT av an = na at *
 generalize nearT bv bn = nb at *
 obtain ⟨y0, y1, y2, y3, y4, y5, y6, y7, y8, y9, fy⟩ := edgbox k0
 go_enter Tryz.func33, Tryz.ntmps33
 go_wp2_with fail
 clear y0 y1 y2 y3 y4 y5 y6 y7 y8 y9 fy
 generalize w.alloc (.cells #[fr, te, kd, dst, arr, op, av, an, bv, bn] 44) = w1 at *
 (with_reducible refine (HA.out w1).mono ?_)
 rintro e2 w2 ⟨rfl, a2⟩
 replace k0 := k0.later a2
 replace n0 := bup n0 a2
 clear a2 HA
 cases na
 ·go_wp2
  go_ret
  exact ⟨rfl, n0⟩
 obtain ⟨y0, y1, y2, y3, y4, y5, y6, y7, y8, y9, fy⟩ := edgbox k0
 go_wp2_with fail
 clear y0 y1 y2 y3 y4 y5 y6 y7 y8 y9 fy
 (with_reducible refine (HB.out w2).mono ?_)
 rintro e3 w3 ⟨rfl, a1⟩
 replace k0 := k0.later a1
 replace n0 := bup n0 a1
 clear a1 HB
 cases nb
 ·go_wp2
  go_ret
  exact ⟨rfl, n0⟩
 obtain ⟨y0, y1, y2, y3, y4, y5, y6, y7, y8, y9, fy⟩ := edgbox k0
 by_cases h0 : kd = 1 ∨ kd = 11 ∨ kd = 13 ∨ kd = 14 ∨ kd = 9 ∨ kd = 10 ∨ kd = 2 ∨ kd = 3
 ·have e : K = true := by rw [HK.out]; unfold exactK; rw [if_pos h0]
  subst e
  clear HK
  rcases h0 with rfl | rfl | rfl | rfl | rfl | rfl | rfl | rfl
  all_goals
   go_wp2
   go_ret
   exact ⟨rfl, n0⟩
 have a0 : Hid (K = if kd = 12 then (decide (op ≠ 4) || (decide (av < 0) && decide (bv < 0))) else if kd = 4 then (decide (av < 0) != decide (bv < 0)) else if kd = 5 then (decide (0 ≤ av) && decide (bv < 0)) else false) := hid (by
  rw [HK.out]; unfold exactK; rw [if_neg h0])
 clear HK
 simp only [not_or] at h0
 obtain ⟨q1, q2, q3, q4, q5, q6, q7, q8⟩ := h0
 have r1 : (kd == 1) = false := by simpa using q1
 have r2 : (kd == 11) = false := by simpa using q2
 have r3 : (kd == 13) = false := by simpa using q3
 have r4 : (kd == 14) = false := by simpa using q4
 have r5 : (kd == 9) = false := by simpa using q5
 have r6 : (kd == 10) = false := by simpa using q6
 have r7 : (kd == 2) = false := by simpa using q7
 have r8 : (kd == 3) = false := by simpa using q8
 clear q1 q2 q3 q4 q5 q6 q7 q8
 by_cases h12 : kd = 12
 ·have e := a0.out
  rw [if_pos h12] at e
  subst h12
  clear a0
  by_cases ho : op = 4
  ·subst ho
   rw [show decide ((4 : Int) ≠ 4) = false from rfl, Bool.false_or] at e
   by_cases ha : av < 0
   ·rw [decide_eq_true ha, Bool.true_and] at e
    subst e
    go_wp2
    go_ret
    exact ⟨rfl, n0⟩
   ·rw [decide_eq_false ha, Bool.false_and] at e
    subst e
    go_wp2
    go_ret
    exact ⟨rfl, n0⟩
  ·have t1 : (op != 4) = true := by simpa using ho
   rw [decide_eq_true ho, Bool.true_or] at e
   subst e
   go_wp2
   go_ret
   exact ⟨rfl, n0⟩
 have r9 : (kd == 12) = false := by simpa using h12
 by_cases h4 : kd = 4
 ·have e := a0.out
  rw [if_neg h12, if_pos h4] at e
  subst h4
  clear a0
  cases ha : decide (av < 0) <;> cases hb : decide (bv < 0)
  all_goals
   rw [ha, hb] at e
   subst e
   go_wp2
   go_ret
   exact ⟨rfl, n0⟩
 have r10 : (kd == 4) = false := by simpa using h4
 by_cases h5 : kd = 5
 ·have e := a0.out
  rw [if_neg h12, if_neg h4, if_pos h5] at e
  subst h5
  clear a0
  by_cases ha : 0 ≤ av
  ·rw [decide_eq_true ha, Bool.true_and] at e
   subst e
   go_wp2
   go_ret
   exact ⟨rfl, n0⟩
  ·rw [decide_eq_false ha, Bool.false_and] at e
   subst e
   go_wp2
   go_ret
   exact ⟨rfl, n0⟩
 have r11 : (kd == 5) = false := by simpa using h5
 have e := a0.out
 rw [if_neg h12, if_neg h4, if_neg h5] at e
 subst e
 clear a0
 go_wp2
 go_ret
 exact ⟨rfl, n0⟩
end
section
open Go.RowKit
set_option maxRecDepth 100000
set_option maxHeartbeats 8000000
def nopE : Edg := ⟨0, 0, 1, -1, -1, 0, -1, 0, -1, 0⟩
def lineE (e : Edg) : Edg := if e.kd = 11 then nopE else e
theorem exact_same (e : Edg) : (nearT e.av e.an && nearT e.bv e.bn && exactK e.kd e.op e.av e.bv) = exactE e := by
 unfold exactE exactK
 by_cases h0 : e.kd = 1 ∨ e.kd = 11 ∨ e.kd = 13 ∨ e.kd = 14 ∨ e.kd = 9 ∨ e.kd = 10 ∨ e.kd = 2 ∨ e.kd = 3
 ·rw [if_pos h0, decide_eq_true h0]; simp
 rw [if_neg h0, decide_eq_false h0]
 by_cases h12 : e.kd = 12
 ·rw [if_pos h12, decide_eq_true h12, decide_eq_false (show ¬ e.kd = 4 by omega), decide_eq_false (show ¬ e.kd = 5 by omega)]; simp
 rw [if_neg h12, decide_eq_false h12]
 by_cases h4 : e.kd = 4
 ·rw [if_pos h4, decide_eq_true h4, decide_eq_false (show ¬ e.kd = 5 by omega)]; simp
 rw [if_neg h4, decide_eq_false h4]
 by_cases h5 : e.kd = 5
 ·rw [if_pos h5, decide_eq_true h5]; simp
 ·rw [if_neg h5, decide_eq_false h5]; simp
theorem nop_right (n : Int) : rightT n nopE = true := rfl
theorem line_right {n : Int} {e : Edg} (hr : rightT n e = true) : rightT n (lineE e) = true := by
 unfold lineE
 split
 ·exact nop_right n
 ·exact hr
theorem line_arr {n : Int} {e : Edg} (hr : rightT n e = true) (k10 : e.kd ≠ 10) : (lineE e).arr < 0 := by
 unfold lineE
 split
 ·decide
 ·rename_i k11
  unfold rightT rightE at hr
  simp only [Bool.and_eq_true] at hr
  have h := hr.1.1.1.2
  rw [show wArr e.kd = false from decide_eq_false (by omega), cond_false, decide_eq_true_eq] at h
  split at h <;> omega
theorem near_i64 {xs : List Int} (h : ∀ k : Nat, NearV (gI xs (k : Int))) : I64s xs := fun k => by
 have := h k; unfold NearV at this; omega
theorem does_len (ls : List (List Int)) (e : Edg) (xs : List Int) (input : Int) : (doesW ls e xs input).2.length = xs.length := by
 unfold doesW
 repeat' split
 all_goals simp
theorem line_law {n : Int} {xs : List Int} {e : Edg} (h0 : 0 ≤ n) (h1 : n ≤ 64) (hl : (xs.length : Int) = n) (hn : ∀ k : Nat, NearV (gI xs (k : Int))) (hE : transErr (ptO n xs) e = 0) (hex : exactE e = true) (k9 : e.kd ≠ 9) (k10 : e.kd ≠ 10) (k14 : e.kd ≠ 14) (ia : I64 e.an) (ib : I64 e.bn)
  (hw : (oneW (gr1 n [] (lineE e)) [] xs 0 0).2.1 = 0) (hy : ∀ k : Nat, NearV (gI (oneW (gr1 n [] (lineE e)) [] xs 0 0).2.2 (k : Int))) :
  ((oneW (gr1 n [] (lineE e)) [] xs 0 0).1 ≠ 0 → (transAns (ptO n xs) e).e = true) ∧ ((oneW (gr1 n [] (lineE e)) [] xs 0 0).1 = 0 → transAns (ptO n xs) e = ptO n (oneW (gr1 n [] (lineE e)) [] xs 0 0).2.2 ∧ ((oneW (gr1 n [] (lineE e)) [] xs 0 0).2.2.length : Int) = n) := by
 obtain ⟨N, hN⟩ : ∃ N : Nat, (N : Int) = 2 * n := ⟨(2 * n).toNat, by omega⟩
 have hN1 : N ≤ 128 := by omega
 obtain ⟨hc, hr⟩ := err_right hE
 have hx := near_side hn
 have hi := near_i64 hn
 have hA : transAns (ptO n xs) e = edgeO (ptO n xs) e := by
  unfold transAns transO
  rw [if_pos hE, pt_close hN hN1 hx, if_neg (by unfold ptO; simp)]
 rw [hA]
 by_cases k12 : e.kd = 12
 ·have a0 : lineE e = e := by unfold lineE; rw [if_neg (by omega)]
  rw [a0] at hw hy ⊢
  cases hcm : cmpB e.op (opdX xs e.av e.an) (opdX xs e.bv e.bn)
  ·refine ⟨fun _ => ?_, fun q => absurd q (one_fails [] xs 0 k12 hcm)⟩
   rw [pt_edge_not hN hN1 hx hr hex k12 hi ia ib hcm]; rfl
  ·rw [one_holds [] xs 0 k12 hcm] at hw hy ⊢
   refine ⟨fun q => absurd rfl q, fun _ => ⟨pt_edge hN hN1 hx hl (near_side hy) hr hex k9 k10 hi ia ib ⟨k14, fun _ => hcm, ?_⟩, hl⟩⟩
   rw [if_neg (by omega), if_neg (by omega), if_neg (by omega)]
 ·have k12' : (lineE e).kd ≠ 12 := by unfold lineE; split; decide; exact k12
  rw [one_plain [] xs 0 k12'] at hw hy ⊢
  refine ⟨fun q => absurd rfl q, fun _ => ⟨pt_edge hN hN1 hx hl (near_side hy) hr hex k9 k10 hi ia ib ?_, by rw [does_len]; exact hl⟩⟩
  by_cases k11 : e.kd = 11
  ·have a0 : lineE e = nopE := by unfold lineE; rw [if_pos k11]
   rw [a0]
   refine ⟨k14, fun q => absurd q k12, ?_⟩
   rw [if_neg (by omega), if_neg (by omega), if_neg (by omega)]
   rfl
  ·have a0 : lineE e = e := by unfold lineE; rw [if_neg k11]
   rw [a0] at hw ⊢
   exact does_behind hw (fun q => absurd q k12)
end
section
open Go.RowKit
set_option maxRecDepth 100000
set_option maxHeartbeats 8000000
theorem decl_info : (Tryz.prog.info? 90).map (fun i => (i.zero, i.size, i.bytes)) = some (some (.agg #[.string "".toUTF8, .int .i64 0]), 2, 24) := by kernel_rfl
theorem row_ne_nil {w : World} {base n s : Nat} {t : TypeId} {v : Value} {xs : List Value} (h : w.ownsRow base t s v n xs) (hn : 0 < n) : ∃ g cap, v = .slice (some ⟨g, 0, none⟩) n cap ∧ base ≤ g ∧ g < w.heap.size := by
 rcases h.2 with ⟨_, h0⟩ | ⟨g, cap, cur, h1, h2, h3, _⟩
 ·omega
 ·exact ⟨g, cap, h1, h2, (Array.getElem?_eq_some_iff.1 h3).1⟩
def OwnE (w : World) (base : Nat) (A : Option Addr) (cap : Nat) (es : List Edg) : Prop := w.ownsRow base 44 10 (.slice A es.length cap) es.length (es.flatMap Edg.cells)
def dcs (s : Value) (z : Int) : List Value := [s, .int .i64 z]
def OwnD (w : World) (base : Nat) (s : Value) (A : Option Addr) (cap : Nat) (sz : List Int) : Prop := w.ownsRow base 90 2 (.slice A sz.length cap) sz.length (sz.flatMap (dcs s))
section
variable {w w' : World} {base cap : Nat} {A : Option Addr} {es : List Edg} {sz : List Int} {s : Value}
theorem OwnE.nil (w : World) (base : Nat) : OwnE w base none 0 [] := World.ownsRow_nil _ _ _ _
theorem OwnD.nil (w : World) (base : Nat) (s : Value) : OwnD w base s none 0 [] := World.ownsRow_nil _ _ _ _
theorem OwnE.below (h : OwnE w base A cap es) (hb : Below w.heap.size w w') : OwnE w' base A cap es := World.ownsRow.kept h (grown_of_below hb none) (by cases h' : (Value.slice A es.length cap).ownBlock <;> simp)
theorem OwnD.below (h : OwnD w base s A cap sz) (hb : Below w.heap.size w w') : OwnD w' base s A cap sz := World.ownsRow.kept h (grown_of_below hb none) (by cases h' : (Value.slice A sz.length cap).ownBlock <;> simp)
theorem OwnE.rd (h : OwnE w base A cap es) : RdE w w.heap.size A es := by
 intro k hk
 obtain ⟨g, c, h1, _, h2⟩ := row_ne_nil h (by omega)
 injection h1 with h1 _ _
 subst h1
 refine ⟨g, 0, rfl, h2, fun r hr => ?_⟩
 rw [Nat.zero_add]
 refine (World.ownsRow.cellAt (w := w) (xs := es.flatMap Edg.cells) h (k * 10 + r) (by omega)).trans ?_
 exact fmS_get Edg.cells 10 (fun _ => rfl) es k r hk hr
theorem OwnD.rd {t : ByteArray} (h : OwnD w base s A cap sz) (hs : s = .string t) : RdD w w.heap.size A sz := by
 intro k hk
 obtain ⟨g, c, h1, _, h2⟩ := row_ne_nil h (by omega)
 injection h1 with h1 _ _
 subst h1
 have e := fun r (hr : r < 2) => (World.ownsRow.cellAt (w := w) (xs := sz.flatMap (dcs s)) h (k * 2 + r) (by omega)).trans (fmS_get (dcs s) 2 (fun _ => rfl) sz k r hk hr)
 refine ⟨g, 0, rfl, h2, ⟨t, ?_⟩, ?_⟩
 ·rw [Nat.zero_add]; exact (e 0 (by omega)).trans (by rw [hs]; rfl)
 ·rw [Nat.zero_add]; refine (e 1 (by omega)).trans ?_
  unfold gI; simp [dcs, hk]
end
theorem wpList_append_edge {ops : Array Oper} {rest : List Oper} {o : Oper} {a : Act} {Q : Exit → Act → World → Prop} {w : World} (s x : Operand)
  (ho : o.op = .call { callee := .builtin .append, args := #[s, x], argTypes := #[57, 57] }) (hgd : o.guard = none)
  (base : Nat) (A0 : Option Addr) (c0 : Nat) (es : List Edg) (y : Edg) (hs : a.eval s = .slice A0 es.length c0) (hown : OwnE w base A0 c0 es) (g : Nat)
  (hx : a.eval x = .slice (some ⟨g, 0, none⟩) 1 1) (hr : Blk w g 44 (ecs y)) (hl : es.length + 1 ≤ 1000000) (hbase : base ≤ w.heap.size)
  (h : ∀ A' cap' w', OwnE w' base A' cap' (es ++ [y]) → w.grownBy w' (Value.slice A0 es.length c0).ownBlock → Below base w w' → wpList Tryz.prog ops Q rest (a.put o.dst (.slice A' (es ++ [y]).length cap')) w') :
  wpList Tryz.prog ops Q (o :: rest) a w :=
 wpList_plain hgd fun K hK => by
  obtain ⟨v', w', a0, h2, h3, h5⟩ := run_append_edge w base o.type _ _ _ y hown g hr hl hbase
  obtain ⟨g', cap', rfl, hg1, hg2⟩ := row_ne_nil h2 (by omega)
  unfold Oper.wp execOp
  simp only [ho, resolve, invoke, builtin, Sem.run_bind, Sem.run_pure, Result.andThen_ok, List.map_toArray, List.map_cons, List.map_nil, hs, hx, a0]
  have a1 : (es ++ [y]).length = es.length + 1 := by simp
  have a2 : (es ++ [y]).flatMap Edg.cells = es.flatMap Edg.cells ++ y.cells := by simp
  rw [← a1]
  exact hK _ _ (h (some ⟨g', 0, none⟩) cap' w' (by unfold OwnE; rw [a2, a1]; exact h2) h3 (below_grown h3 (fun k hk => by
   rcases hown.2 with ⟨e, _⟩ | ⟨g2, _, _, e, hg, _⟩
   ·rw [e] at hk; simp [Value.ownBlock] at hk
   ·rw [e] at hk; simp [Value.ownBlock] at hk; omega) hbase))
theorem wpList_append_decl {ops : Array Oper} {rest : List Oper} {o : Oper} {a : Act} {Q : Exit → Act → World → Prop} {w : World} (s x : Operand)
  (ho : o.op = .call { callee := .builtin .append, args := #[s, x], argTypes := #[62, 62] }) (hgd : o.guard = none)
  (base : Nat) (A0 : Option Addr) (c0 : Nat) (nm : ByteArray) (sz : List Int) (y : Int) (hs : a.eval s = .slice A0 sz.length c0) (hown : OwnD w base (.string nm) A0 c0 sz) (g : Nat)
  (hx : a.eval x = .slice (some ⟨g, 0, none⟩) 1 1) (hr : Blk w g 90 #[.string nm, y]) (hl : sz.length + 1 ≤ 1000000) (hbase : base ≤ w.heap.size)
  (h : ∀ A' cap' w', OwnD w' base (.string nm) A' cap' (sz ++ [y]) → w.grownBy w' (Value.slice A0 sz.length c0).ownBlock → Below base w w' → wpList Tryz.prog ops Q rest (a.put o.dst (.slice A' (sz ++ [y]).length cap')) w') :
  wpList Tryz.prog ops Q (o :: rest) a w :=
 wpList_plain hgd fun K hK => by
  obtain ⟨i0, hi, hz0, hz1, hz2⟩ := info_parts decl_info
  obtain ⟨v', w', a0, h2, h3, _, h5⟩ := run_append_own_at (P := Tryz.prog) w base 62 o.type _ i0 _ 2 24 Tryz.underlying62 hi hz0 hz1 hz2 rfl (by omega) _ _ _ hown ⟨g, 0, none⟩ 1 1 (dcs (.string nm) y) rfl
   (fun j u hu => by rw [add_mk, Nat.zero_add, hr.cell j]; simpa [dcs] using hu) (fun u hu => by simp [dcs] at hu; rcases hu with rfl | rfl <;> rfl) (by unfold maxLen; omega) (by omega) hbase
  obtain ⟨g', cap', rfl, hg1, hg2⟩ := row_ne_nil h2 (by omega)
  unfold Oper.wp execOp
  simp only [ho, resolve, invoke, builtin, Sem.run_bind, Sem.run_pure, Result.andThen_ok, List.map_toArray, List.map_cons, List.map_nil, hs, hx, a0]
  have a1 : (sz ++ [y]).length = sz.length + 1 := by simp
  have a2 : (sz ++ [y]).flatMap (dcs (.string nm)) = sz.flatMap (dcs (.string nm)) ++ dcs (.string nm) y := by simp
  rw [← a1]
  exact hK _ _ (h (some ⟨g', 0, none⟩) cap' w' (by unfold OwnD; rw [a2, a1]; exact h2) h3 (below_grown h3 (fun k hk => by
   rcases hown.2 with ⟨e, _⟩ | ⟨g2, _, _, e, hg, _⟩
   ·rw [e] at hk; simp [Value.ownBlock] at hk
   ·rw [e] at hk; simp [Value.ownBlock] at hk; omega) hbase))
theorem OwnD.other {w w' : World} {base cap : Nat} {A : Option Addr} {sz : List Int} {s : Value} {row : Option Nat} (h : OwnD w base s A cap sz) (hg : w.grownBy w' row) (hr : ∀ g, row = some g → ∃ cs t, Blk w g t cs ∧ t ≠ 90) : OwnD w' base s A cap sz := by
 refine World.ownsRow.kept h hg ?_
 rcases h.2 with ⟨h1, _⟩ | ⟨g2, cap', cur, h1, _, h3, _⟩
 ·rw [h1]; exact .inl rfl
 ·refine .inr (fun e => ?_)
  rw [h1] at e
  obtain ⟨cs', t, hb, h4⟩ := hr g2 (by rw [← e]; rfl)
  unfold Blk at hb
  rw [h3] at hb
  injection hb with hb
  injection hb with _ hb
  exact h4 hb.symm
theorem OwnD.setFar {w : World} {base cap : Nat} {A : Option Addr} {sz : List Int} {s : Value} (h : OwnD w base s A cap sz) {p : Addr} (hp : p.block < base) (u : Value) : OwnD (w.setCell p u) base s A cap sz :=
 World.ownsRow.kept h (grown_setCell w p u) (by
  rcases h.2 with ⟨h1, _⟩ | ⟨g2, cap', cur, h1, hb, _⟩
  ·rw [h1]; exact .inl rfl
  ·rw [h1]; exact .inr (fun e => by simp [Value.ownBlock] at e; omega))
end
end Go.Proofs.YtnmpgijiimglcaaGreat
