import Derived.Test.YtnmpgijiimglcaaGreatBSt02
import Derived.Deep.OwnRows
import Derived.Test.YtnmpgijiimglcaaGreatBSt10
import Derived.Test.YtnmpgijiimglcaaGreatBSt08
import Derived.Laws.EntriesVeiled
namespace Go.Proofs.YtnmpgijiimglcaaGreat
section

end
section
open Go.RowKit
set_option maxRecDepth 100000
set_option maxHeartbeats 8000000
structure Edg where
 fr : Int
 te : Int
 kd : Int
 dst : Int
 arr : Int
 op : Int
 av : Int
 an : Int
 bv : Int
 bn : Int
def Edg.cells (e : Edg) : List Value := [.int .i64 e.fr, .int .i64 e.te, .int .i64 e.kd, .int .i64 e.dst, .int .i64 e.arr, .int .i64 e.op, .int .i64 e.av, .int .i64 e.an, .int .i64 e.bv, .int .i64 e.bn]
def Edg.val (e : Edg) : Value := .agg #[e.fr, e.te, e.kd, e.dst, e.arr, e.op, e.av, e.an, e.bv, e.bn]
def wDst (k : Int) : Bool := decide (2 ≤ k ∧ k ≤ 10)
def wA (k : Int) : Bool := decide ((2 ≤ k ∧ k ≤ 8) ∨ (10 ≤ k ∧ k ≤ 12))
def wB (k : Int) : Bool := decide ((4 ≤ k ∧ k ≤ 8) ∨ (11 ≤ k ∧ k ≤ 12))
def wArr (k : Int) : Bool := decide (k = 10 ∨ k = 11)
def wOp (k : Int) : Bool := decide (k = 12)
def opdOk (n v m : Int) : Bool := decide (v = -1 ∨ (0 ≤ v ∧ v < n ∧ m = 0))
def opdNo (v m : Int) : Bool := decide (v = -1 ∧ m = 0)
def rightE (n na : Int) (e : Edg) : Bool :=
 decide (1 ≤ e.kd ∧ e.kd ≤ 14) && (bif wDst e.kd then decide (0 ≤ e.dst ∧ e.dst < n) else decide (e.dst = -1)) && (bif wArr e.kd then decide (0 ≤ e.arr ∧ e.arr < na) else decide (e.arr = -1)) &&
 (bif wOp e.kd then decide (1 ≤ e.op ∧ e.op ≤ 6) else decide (e.op = 0)) && (bif wA e.kd then opdOk n e.av e.an else opdNo e.av e.an) && (bif wB e.kd then opdOk n e.bv e.bn else opdNo e.bv e.bn)
end
section
open Go.RowKit
set_option maxRecDepth 100000
set_option maxHeartbeats 8000000
def edgeO (c : O) (e : Edg) : O :=
 if e.kd = 14 then emptyO c.n
 else if e.kd = 9 ∨ e.kd = 10 then forgetO c e.dst.toNat
 else if e.kd = 12 then assumesO c e.op e.av e.an e.bv e.bn
 else if e.kd = 2 then (if e.av < 0 then giveO c e.dst.toNat (oneR e.an) else if e.av = e.dst then c else linkO c (2 * e.dst.toNat) (2 * e.av.toNat) 0)
 else if e.kd = 3 then (if e.av < 0 then numberO c 3 e.dst.toNat e.an e.bn else if e.av = e.dst then turnsO c e.dst.toNat else linkO c (2 * e.dst.toNat) (2 * e.av.toNat + 1) 0)
 else if e.kd = 4 ∨ e.kd = 5 then (if e.av < 0 ∧ e.bv < 0 then numberO c e.kd e.dst.toNat e.an e.bn else addsO c (decide (e.kd = 5)) e.dst.toNat e.av e.an e.bv e.bn)
 else if e.kd = 6 ∨ e.kd = 7 ∨ e.kd = 8 then (if e.av < 0 ∧ e.bv < 0 then numberO c e.kd e.dst.toNat e.an e.bn else productsO c e.kd e.dst.toNat e.av e.an e.bv e.bn)
 else c
def transO (o : O) (e : Edg) : O := if (closeO o).e then closeO o else edgeO (closeO o) e
def rightT (n : Int) (e : Edg) : Bool := rightE n (if 0 ≤ e.arr then 1 else 0) { e with arr := if 0 ≤ e.arr then 0 else e.arr }
def transErr (o : O) (e : Edg) : Int := if check o ≠ 0 then check o else if rightT o.n e then 0 else 160
def transAns (o : O) (e : Edg) : O := if transErr o e = 0 then transO o e else ⟨0, false, []⟩
section
variable {n : Int} {o : O}
theorem OkO.unlikeVars (h : OkO n o) {av an bv bn : Int} (h0 : 0 ≤ av) (h1 : 0 ≤ bv) (ha : av < n) (hb : bv < n) : OkO n (unlikeVarsO o av an bv bn) := by
 unfold unlikeVarsO
 split
 ·rw [h.n_]; exact h.empty
 ·dsimp only
  have h2 : OkO n (if G (2 * o.n).toNat o.m (2 * av.toNat) (2 * bv.toNat) = 0 then atMostO o av an bv bn true else o) := by
   split
   ·exact h.atMost ha hb (.inl h0)
   ·exact h
  split
  ·exact h2.atMost hb ha (.inl h1)
  ·exact h2
theorem OkO.unlikeNum (h : OkO n o) {av an bv bn : Int} (h0 : 0 ≤ av) (ha : av < n) (hb : bv < n) : OkO n (unlikeNumO o av an bv bn) := by
 unfold unlikeNumO
 dsimp only
 have h2 : OkO n (if (varR (2 * o.n).toNat o.m av.toNat).hh && decide ((varR (2 * o.n).toNat o.m av.toNat).hi = bn) then atMostO o av an bv bn true else o) := by
  split
  ·exact h.atMost ha hb (.inl h0)
  ·exact h
 split
 ·exact h2.atMost hb ha (.inr h0)
 ·exact h2
theorem OkO.unlike (h : OkO n o) {av an bv bn : Int} (ha : av < n) (hb : bv < n) (hab : 0 ≤ av ∨ 0 ≤ bv) : OkO n (unlikeO o av an bv bn) := by
 unfold unlikeO
 split
 ·rw [if_neg (by omega)]
  exact h.unlikeNum (by omega) hb ha
 ·split
  ·exact h.unlikeVars (by omega) (by omega) ha hb
  ·exact h.unlikeNum (by omega) ha hb
end
theorem right_a {n na : Int} {e : Edg} (h : rightE n na e = true) : e.av = -1 ∨ (0 ≤ e.av ∧ e.av < n) := by
 unfold rightE at h
 simp only [Bool.and_eq_true] at h
 have := h.1.2
 cases hw : wA e.kd <;> rw [hw] at this <;> simp [opdNo, opdOk] at this <;> omega
theorem right_b {n na : Int} {e : Edg} (h : rightE n na e = true) : e.bv = -1 ∨ (0 ≤ e.bv ∧ e.bv < n) := by
 unfold rightE at h
 simp only [Bool.and_eq_true] at h
 have := h.2
 cases hw : wB e.kd <;> rw [hw] at this <;> simp [opdNo, opdOk] at this <;> omega
end
section

end
section
open Go.RowKit
set_option maxRecDepth 100000
set_option maxHeartbeats 8000000
def opdX (x : List Int) (v n : Int) : Int := if 0 ≤ v then gI x v else n
end
section
open Go.RowKit
set_option maxRecDepth 100000
set_option maxHeartbeats 8000000
theorem bnd {a : Int} (h : isBound a = true) : a = 9223372036854775807 ∨ (-4611686018427387904 ≤ a ∧ a ≤ 4611686018427387904) := by
 unfold isBound at h; exact of_decide_eq_true h
theorem bG {xs : List Int} (h : AllB xs) (N i j : Nat) : isBound (G N xs i j) = true := h _
theorem set_same (xs : List Int) (k : Nat) : xs.set k (gI xs (k : Int)) = xs := by
 refine List.ext_getElem (by simp) fun i h1 h2 => ?_
 rw [List.getElem_set]
 split
 ·rename_i e; subst e; unfold gI; simp [h2]
 ·rfl
section
variable {N : Nat} {xs : List Int}
theorem Cells.b (h : Cells N xs) {i j : Nat} (hi : i < N) (hj : j < N) : isBound (G N xs i j) = true := h.bd i j hi hj
theorem Cells.sym (h : Cells N xs) : Sym N xs := fun i j hi hj => h.mir i j hi hj
end
theorem evens_G {N : Nat} (hN : N % 2 = 0) {xs : List Int} (hl : xs.length = N * N) : ∀ a b : Nat, a < N → b < N → G N (evens N N xs) a b = if b = nx a then even (G N xs a b) else G N xs a b := by
 have key := rep_inv (f := fun i => eStep N i) (P := fun i ys => ys.length = N * N ∧ ∀ a b : Nat, a < N → b < N → G N ys a b = if b = nx a ∧ a < i then even (G N xs a b) else G N xs a b) N xs ⟨hl, fun a b _ _ => by rw [if_neg (by omega)]⟩ ?_
 ·intro a b ha hb
  refine (key.2 a b ha hb).trans ?_
  by_cases e : b = nx a
  ·rw [if_pos ⟨e, ha⟩, if_pos e]
  ·rw [if_neg (fun q => e q.1), if_neg e]
 ·intro i ys hi ⟨hly, hq⟩
  refine ⟨by unfold eStep; rw [List.length_set]; exact hly, fun a b ha hb => ?_⟩
  unfold eStep
  rw [G_set hly hi (nxl hN hi) _ hb]
  by_cases e : a = i ∧ b = nx i
  ·obtain ⟨rfl, rfl⟩ := e
   rw [if_pos ⟨rfl, rfl⟩, if_pos ⟨rfl, by omega⟩]
   show even (G N ys a (nx a)) = _
   rw [hq a (nx a) ha hb, if_neg (by omega)]
  ·rw [if_neg e, hq a b ha hb]
   by_cases e2 : b = nx a ∧ a < i
   ·rw [if_pos e2, if_pos ⟨e2.1, by omega⟩]
   ·rw [if_neg e2, if_neg (fun q => ?_)]
    by_cases e3 : a = i
    ·subst e3; exact e ⟨rfl, q.1⟩
    ·exact e2 ⟨q.1, by omega⟩
end
section
open Go.RowKit
set_option maxRecDepth 100000
set_option maxHeartbeats 8000000
def Behind (e : Edg) (x y : List Int) : Prop :=
 e.kd ≠ 14 ∧ (e.kd = 12 → cmpB e.op (opdX x e.av e.an) (opdX x e.bv e.bn) = true) ∧
 (if e.kd = 9 ∨ e.kd = 10 then ∃ v, y = x.set e.dst.toNat v
  else if e.kd = 2 then y = x.set e.dst.toNat (opdX x e.av e.an)
  else if 3 ≤ e.kd ∧ e.kd ≤ 8 then (kindW e.kd (opdX x e.av e.an) (opdX x e.bv e.bn)).2 = 0 ∧ y = x.set e.dst.toNat (kindW e.kd (opdX x e.av e.an) (opdX x e.bv e.bn)).1
  else y = x)
end
section
open Go.RowKit
set_option maxRecDepth 100000
set_option maxHeartbeats 8000000
attribute [local go_sem ↓] Go.wp_at_zero Go.wp_at_succ
theorem cmp1_any (a b : Int) (w : World) : Calls Tryz.prog 221 #[a, b] w (BoolRes (decide (a < b)) w) := by
 go_enter Tryz.func221, Tryz.ntmps221
 go_wp2
 go_ret
 exact ⟨retb (by first | rfl | (rw [Bool.eq_iff_iff]; simp)), rfl⟩
theorem cmp2_any (a b : Int) (w : World) : Calls Tryz.prog 222 #[a, b] w (BoolRes (decide (a ≤ b)) w) := by
 go_enter Tryz.func222, Tryz.ntmps222
 go_wp2
 go_ret
 exact ⟨retb (by first | rfl | (rw [Bool.eq_iff_iff]; simp)), rfl⟩
theorem cmp3_any (a b : Int) (w : World) : Calls Tryz.prog 223 #[a, b] w (BoolRes (decide (a = b)) w) := by
 go_enter Tryz.func223, Tryz.ntmps223
 go_wp2
 go_ret
 exact ⟨retb (by first | rfl | (rw [Bool.eq_iff_iff]; simp)), rfl⟩
theorem cmp4_any (a b : Int) (w : World) : Calls Tryz.prog 224 #[a, b] w (BoolRes (decide (a ≠ b)) w) := by
 go_enter Tryz.func224, Tryz.ntmps224
 go_wp2
 go_ret
 exact ⟨retb (by first | rfl | (rw [Bool.eq_iff_iff]; simp)), rfl⟩
theorem cmp5_any (a b : Int) (w : World) : Calls Tryz.prog 225 #[a, b] w (BoolRes (decide (b < a)) w) := by
 go_enter Tryz.func225, Tryz.ntmps225
 go_wp2
 go_ret
 exact ⟨retb (by first | rfl | (rw [Bool.eq_iff_iff]; simp)), rfl⟩
theorem cmp6_any (a b : Int) (w : World) : Calls Tryz.prog 226 #[a, b] w (BoolRes (decide (b ≤ a)) w) := by
 go_enter Tryz.func226, Tryz.ntmps226
 go_wp2
 go_ret
 exact ⟨retb (by first | rfl | (rw [Bool.eq_iff_iff]; simp)), rfl⟩
theorem ncompares_any (w : World) : Calls Tryz.prog 185 #[] w fun e w' => e = .returned (.agg #[.func (.func 220) #[] #[], .func (.func 221) #[] #[], .func (.func 222) #[] #[], .func (.func 223) #[] #[], .func (.func 224) #[] #[], .func (.func 225) #[] #[], .func (.func 226) #[] #[]]) ∧ Below w.heap.size w w' := by
 go_enter Tryz.func185, Tryz.ntmps185
 go_wp2
 refine bodyPost_ret (v := .agg #[.func (.func 220) #[] #[], .func (.func 221) #[] #[], .func (.func 222) #[] #[], .func (.func 223) #[] #[], .func (.func 224) #[] #[], .func (.func 225) #[] #[], .func (.func 226) #[] #[]]) (by simp [results, Tryz.results185, go_sem]) rfl (And.intro rfl ?_)
 repeat (first | exact Below.refl _ _ | refine Below.setCell ?_ (by simp) _ | refine Below.alloc ?_ (by simp) _)
theorem ix7_1 (f0 f1 f2 f3 f4 f5 f6 : Value) (W : World) : (Instr.index 199 (.agg #[f0, f1, f2, f3, f4, f5, f6]) (.int .i64 1)).run Tryz.prog W = .ok f1 W := by
 simp [Instr.index, run_underlying Tryz.underlying199, asIntOf, go_sem]
theorem ix7_2 (f0 f1 f2 f3 f4 f5 f6 : Value) (W : World) : (Instr.index 199 (.agg #[f0, f1, f2, f3, f4, f5, f6]) (.int .i64 2)).run Tryz.prog W = .ok f2 W := by
 simp [Instr.index, run_underlying Tryz.underlying199, asIntOf, go_sem]
theorem ix7_3 (f0 f1 f2 f3 f4 f5 f6 : Value) (W : World) : (Instr.index 199 (.agg #[f0, f1, f2, f3, f4, f5, f6]) (.int .i64 3)).run Tryz.prog W = .ok f3 W := by
 simp [Instr.index, run_underlying Tryz.underlying199, asIntOf, go_sem]
theorem ix7_4 (f0 f1 f2 f3 f4 f5 f6 : Value) (W : World) : (Instr.index 199 (.agg #[f0, f1, f2, f3, f4, f5, f6]) (.int .i64 4)).run Tryz.prog W = .ok f4 W := by
 simp [Instr.index, run_underlying Tryz.underlying199, asIntOf, go_sem]
theorem ix7_5 (f0 f1 f2 f3 f4 f5 f6 : Value) (W : World) : (Instr.index 199 (.agg #[f0, f1, f2, f3, f4, f5, f6]) (.int .i64 5)).run Tryz.prog W = .ok f5 W := by
 simp [Instr.index, run_underlying Tryz.underlying199, asIntOf, go_sem]
theorem ix7_6 (f0 f1 f2 f3 f4 f5 f6 : Value) (W : World) : (Instr.index 199 (.agg #[f0, f1, f2, f3, f4, f5, f6]) (.int .i64 6)).run Tryz.prog W = .ok f6 W := by
 simp [Instr.index, run_underlying Tryz.underlying199, asIntOf, go_sem]
def BoolBel (b : Bool) (w : World) (e : Ending) (w' : World) : Prop := e = .returned (.bool b) ∧ Below w.heap.size w w'
theorem ncmp_any (op a b : Int) (w : World) : Calls Tryz.prog 121 #[op, a, b] w (BoolBel (cmpB op a b) w) := by
 by_cases h : 1 ≤ op ∧ op ≤ 6
 ·obtain h1 | h2 | h3 | h4 | h5 | h6 : op = 1 ∨ op = 2 ∨ op = 3 ∨ op = 4 ∨ op = 5 ∨ op = 6 := by omega
  ·subst h1
   have HC := hid (ncompares_any w)
   have a0 := fun W => ix7_1 (.func (.func 220) #[] #[]) (.func (.func 221) #[] #[]) (.func (.func 222) #[] #[]) (.func (.func 223) #[] #[]) (.func (.func 224) #[] #[]) (.func (.func 225) #[] #[]) (.func (.func 226) #[] #[]) W
   clear h
   go_enter Tryz.func121, Tryz.ntmps121
   go_wp2_with fail
   refine HC.out.mono ?_
   rintro e w' ⟨rfl, hb⟩
   go_wp2_with fail
   refine (cmp1_any _ _ _).mono ?_
   rintro e w2 ⟨rfl, rfl⟩
   go_wp2
   go_ret
   exact ⟨retb (by first | rfl | (show _ = cmpB 1 a b; unfold cmpB; simp)), hb⟩
  ·subst h2
   have HC := hid (ncompares_any w)
   have a0 := fun W => ix7_2 (.func (.func 220) #[] #[]) (.func (.func 221) #[] #[]) (.func (.func 222) #[] #[]) (.func (.func 223) #[] #[]) (.func (.func 224) #[] #[]) (.func (.func 225) #[] #[]) (.func (.func 226) #[] #[]) W
   clear h
   go_enter Tryz.func121, Tryz.ntmps121
   go_wp2_with fail
   refine HC.out.mono ?_
   rintro e w' ⟨rfl, hb⟩
   go_wp2_with fail
   refine (cmp2_any _ _ _).mono ?_
   rintro e w2 ⟨rfl, rfl⟩
   go_wp2
   go_ret
   exact ⟨retb (by first | rfl | (show _ = cmpB 2 a b; unfold cmpB; simp)), hb⟩
  ·subst h3
   have HC := hid (ncompares_any w)
   have a0 := fun W => ix7_3 (.func (.func 220) #[] #[]) (.func (.func 221) #[] #[]) (.func (.func 222) #[] #[]) (.func (.func 223) #[] #[]) (.func (.func 224) #[] #[]) (.func (.func 225) #[] #[]) (.func (.func 226) #[] #[]) W
   clear h
   go_enter Tryz.func121, Tryz.ntmps121
   go_wp2_with fail
   refine HC.out.mono ?_
   rintro e w' ⟨rfl, hb⟩
   go_wp2_with fail
   refine (cmp3_any _ _ _).mono ?_
   rintro e w2 ⟨rfl, rfl⟩
   go_wp2
   go_ret
   exact ⟨retb (by first | rfl | (show _ = cmpB 3 a b; unfold cmpB; simp)), hb⟩
  ·subst h4
   have HC := hid (ncompares_any w)
   have a0 := fun W => ix7_4 (.func (.func 220) #[] #[]) (.func (.func 221) #[] #[]) (.func (.func 222) #[] #[]) (.func (.func 223) #[] #[]) (.func (.func 224) #[] #[]) (.func (.func 225) #[] #[]) (.func (.func 226) #[] #[]) W
   clear h
   go_enter Tryz.func121, Tryz.ntmps121
   go_wp2_with fail
   refine HC.out.mono ?_
   rintro e w' ⟨rfl, hb⟩
   go_wp2_with fail
   refine (cmp4_any _ _ _).mono ?_
   rintro e w2 ⟨rfl, rfl⟩
   go_wp2
   go_ret
   exact ⟨retb (by first | rfl | (show _ = cmpB 4 a b; unfold cmpB; simp)), hb⟩
  ·subst h5
   have HC := hid (ncompares_any w)
   have a0 := fun W => ix7_5 (.func (.func 220) #[] #[]) (.func (.func 221) #[] #[]) (.func (.func 222) #[] #[]) (.func (.func 223) #[] #[]) (.func (.func 224) #[] #[]) (.func (.func 225) #[] #[]) (.func (.func 226) #[] #[]) W
   clear h
   go_enter Tryz.func121, Tryz.ntmps121
   go_wp2_with fail
   refine HC.out.mono ?_
   rintro e w' ⟨rfl, hb⟩
   go_wp2_with fail
   refine (cmp5_any _ _ _).mono ?_
   rintro e w2 ⟨rfl, rfl⟩
   go_wp2
   go_ret
   exact ⟨retb (by first | rfl | (show _ = cmpB 5 a b; unfold cmpB; simp)), hb⟩
  ·subst h6
   have HC := hid (ncompares_any w)
   have a0 := fun W => ix7_6 (.func (.func 220) #[] #[]) (.func (.func 221) #[] #[]) (.func (.func 222) #[] #[]) (.func (.func 223) #[] #[]) (.func (.func 224) #[] #[]) (.func (.func 225) #[] #[]) (.func (.func 226) #[] #[]) W
   clear h
   go_enter Tryz.func121, Tryz.ntmps121
   go_wp2_with fail
   refine HC.out.mono ?_
   rintro e w' ⟨rfl, hb⟩
   go_wp2_with fail
   refine (cmp6_any _ _ _).mono ?_
   rintro e w2 ⟨rfl, rfl⟩
   go_wp2
   go_ret
   exact ⟨retb (by first | rfl | (show _ = cmpB 6 a b; unfold cmpB; simp)), hb⟩
 ·have HB : Hid (cmpB op a b = false) := hid (by unfold cmpB; repeat (rw [if_neg (by omega)]))
  cases t1 : decide (op < 1) <;> cases t2 : decide (6 < op)
  ·exfalso; simp at t1 t2; omega
  all_goals
   clear h
   go_enter Tryz.func121, Tryz.ntmps121
   go_wp2
   go_ret
   exact ⟨retb HB.out.symm, Below.refl _ _⟩
end
end Go.Proofs.YtnmpgijiimglcaaGreat
