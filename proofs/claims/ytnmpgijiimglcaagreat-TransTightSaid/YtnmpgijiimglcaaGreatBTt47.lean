import Derived.Test.YtnmpgijiimglcaaGreatBTt44
import Derived.Test.YtnmpgijiimglcaaGreatBTt45
import Derived.Test.YtnmpgijiimglcaaGreatBTt46
import Derived.Test.YtnmpgijiimglcaaGreatBTt01
import Derived.ProofKit
import Derived.SizedLaws
import Derived.Lib.SmallJoins
import Derived.Test.YtnmpgijiimglcaaGreatBTt11
import Derived.Test.YtnmpgijiimglcaaGreatBTt08
import Derived.Test.YtnmpgijiimglcaaGreatBTt09
import Derived.Test.YtnmpgijiimglcaaGreatBTt24
import Derived.Laws.IdiomArrays
import Derived.Test.YtnmpgijiimglcaaGreatBTt43
namespace Go.Proofs.YtnmpgijiimglcaaGreat
set_option maxRecDepth 100000
set_option maxHeartbeats 8000000
section
open Go.RowKit
attribute [local go_sem ↓] Go.wp_at_zero Go.wp_at_succ
theorem zhm (e : Edg) : (nearT e.av e.an && nearT e.bv e.bn && zfu e.kd e.op e.av e.bv) = zb6 e := by
 unfold zb6 zfu
 by_cases h0 : e.kd = 1 ∨ e.kd = 11 ∨ e.kd = 13 ∨ e.kd = 14 ∨ e.kd = 9 ∨ e.kd = 10 ∨ e.kd = 2 ∨ e.kd = 3
 ·rw [if_pos h0, decide_eq_true h0]; simp
 rw [if_neg h0, decide_eq_false h0]
 by_cases h12 : e.kd = 12
 ·rw [if_pos h12, decide_eq_true h12, decide_eq_false (show ¬ e.kd = 4 by omega), decide_eq_false (show ¬ e.kd = 5 by omega)]; simp
 rw [if_neg h12, decide_eq_false h12]
 by_cases h4 : e.kd = 4
 ·rw [if_pos h4, decide_eq_true h4, decide_eq_false (show ¬ e.kd = 5 by omega)]; simp
 rw [if_neg h4, decide_eq_false h4]
 by_cases h5 : e.kd = 5
 ·rw [if_pos h5, decide_eq_true h5]; simp
 ·rw [if_neg h5, decide_eq_false h5]; simp
def zhq (f : Int → Int → Option (List Int)) (x : Int) : List (List Int) := imgL f (x + 5).toNat
def rowX (f : Int → Int → Option (List Int)) (x y : Int) : List (List Int) := imgR f x (y + 5).toNat
section
variable {f : Int → Int → Option (List Int)} {x y : Int}
theorem ziT (h : -5 ≤ x) : zhq f (x + 1) = zhq f x ++ rowX f x 6 := by
 unfold zhq rowX
 rw [show (x + 1 + 5).toNat = (x + 5).toNat + 1 by omega, zgV, show -5 + (((x + 5).toNat : Nat) : Int) = x by omega]; rfl
theorem ze6 (h : -5 ≤ y) (hf : f x y = none) : rowX f x (y + 1) = rowX f x y := by
 unfold rowX
 rw [show (y + 1 + 5).toNat = (y + 5).toNat + 1 by omega, zk5 (by rw [show -5 + (((y + 5).toNat : Nat) : Int) = y by omega]; exact hf)]
theorem zgJ {z : List Int} (h : -5 ≤ y) (hf : f x y = some z) : rowX f x (y + 1) = rowX f x y ++ [z] := by
 unfold rowX
 rw [show (y + 1 + 5).toNat = (y + 5).toNat + 1 by omega, zkU (by rw [show -5 + (((y + 5).toNat : Nat) : Int) = y by omega]; exact hf)]
theorem zkS : rowX f x (-5) = [] := rfl
theorem ziF (hx : -5 ≤ x ∧ x ≤ 6) (hy : -5 ≤ y ∧ y ≤ 6) : (zhq f x ++ rowX f x y).length ≤ 200 := by
 rw [List.length_append]
 have h1 := zfP f (x + 5).toNat
 have h2 := zh5 f x (y + 5).toNat
 unfold zhq rowX
 omega
end
theorem znI (a b : Int) : [a, b].length = 2 := rfl
theorem znD (w : World) (base : Nat) (x y : Int) (hb : base ≤ w.heap.size) : Own (w.alloc (.cells #[x, y] 2)) base (some ⟨w.heap.size, 0, none⟩) 2 [x, y] :=
 World.ownsRow_lit w #[x, y] 2 hb (by unfold maxLen; omega) rfl
theorem znz {w : World} {g : Nat} {t : TypeId} {x y : Int} (h : Blk w g t #[x, y]) : Rd w w.heap.size (some ⟨g, 0, none⟩) [x, y] := by
 intro k hk
 refine ⟨g, 0, rfl, h.lt, ?_⟩
 rw [Nat.zero_add, h.cell k]
 have e : k = 0 ∨ k = 1 := by simp at hk; omega
 rcases e with rfl | rfl <;> rfl
theorem zod {w : World} {base cap : Nat} {A : Option Addr} {zs : List At64.R1} (h : At64.OwnR w base A cap zs) : RdR w w.heap.size A (zs.map (·.1)) := fun k hk => by
 have hk' : k < zs.length := by simpa using hk
 obtain ⟨g, h1, h2, h3, h4⟩ := h.cell hk'
 refine ⟨g, 0, zs[k].2.1, zs[k].2.2, h1, h3, ?_, ?_⟩
 ·rw [Nat.zero_add, h4, List.getElem_map]
 ·rw [List.getElem_map]
  exact (h.own zs[k] (List.getElem_mem hk')).rd
theorem zeN (b0 b1 b2 b3 b4 b5 b6 b7 fr te kd dst arr op av an bv bn : Int) (hb : I8s [b0, b1, b2, b3, b4, b5, b6, b7]) (ia : I64 an) (ib : I64 bn) (w : World) :
  Calls Tryz.prog 9 #[.agg #[.int .i8 b0, .int .i8 b1, .int .i8 b2, .int .i8 b3, .int .i8 b4, .int .i8 b5, .int .i8 b6, .int .i8 b7], .agg #[fr, te, kd, dst, arr, op, av, an, bv, bn]] w fun e w' => e = .returned (.bool true) ∧ Below w.heap.size w w' := by
 have g0 := hid (fun W => zop b0 b1 b2 b3 b4 b5 b6 b7 hb W)
 have a0 := hid (fun hE hex k9 k10 i1 i2 => zj2 hb (e := ⟨fr, te, kd, dst, arr, op, av, an, bv, bn⟩) hE hex k9 k10 i1 i2)
 have a7 := hid (fun hex k9 k10 i1 i2 z hz => zmY hb (e := ⟨fr, te, kd, dst, arr, op, av, an, bv, bn⟩) hex k9 k10 i1 i2 (z := z) hz)
 obtain ⟨m, hO, r, -⟩ := zfK hb 4 (Nat.le_refl _)
 have hO : boxO [b0, b1, b2, b3, b4, b5, b6, b7] = ⟨2, false, m⟩ := hO
 rw [hO] at g0 a0 a7
 have hk : check ⟨2, false, m⟩ = 0 := zdB (N := 4) (by decide) (by decide) r.cells
 have i3 : m.length = 16 := r.cells.len
 have HT := hid (fun W (hB : w.heap.size ≤ W.heap.size) A cap (h : Rd W W.heap.size A m) => zjx ⟨2, false, m⟩ fr te kd dst arr op av an bv bn ia ib A cap W h (by dsimp only; omega) w.heap.size hB)
 have f9 := hid (fun W => ziK fr te kd dst arr op av an bv bn W)
 rw [zhm ⟨fr, te, kd, dst, arr, op, av, an, bv, bn⟩] at f9
 have a9 := hid (fun (hE : transErr ⟨2, false, m⟩ ⟨fr, te, kd, dst, arr, op, av, an, bv, bn⟩ = 0) W => zlG 2 4 (by omega) fr te kd dst arr op av an bv bn (fun q => zk1 (zcJ hE).2 q) W)
 have a1 := hid (fun (hE : transErr ⟨2, false, m⟩ ⟨fr, te, kd, dst, arr, op, av, an, bv, bn⟩ = 0) (ha : arr ≤ 3) x y (hx : -5 ≤ x ∧ x ≤ 5) (hy : -5 ≤ y ∧ y ≤ 5) => zow ⟨2, false, m⟩ ⟨fr, te, kd, dst, arr, op, av, an, bv, bn⟩ 4 (by omega) 4 (by omega) [x, y] 0 [0, 0, 0, 0] rfl (by show (0 : Int) ≤ 2; omega) (by show (2 : Int) ≤ 64; omega) (zcJ hE).2 (by show arr < 4; omega) rfl (zgm (zdn hx hy)) ia ib)
 have a3 := hid (fun x y (hx : -5 ≤ x ∧ x ≤ 5) (hy : -5 ≤ y ∧ y ≤ 5) A X cap xc W (h : Rd W W.heap.size A m) (h2 : Rd W W.heap.size X [x, y]) => zn7 ⟨2, false, m⟩ hk [x, y] rfl (zdn hx hy) A X cap xc W h (by dsimp only; omega) h2)
 have a4 := hid (fun (hE : transErr ⟨2, false, m⟩ ⟨fr, te, kd, dst, arr, op, av, an, bv, bn⟩ = 0) => show (transAns ⟨2, false, m⟩ ⟨fr, te, kd, dst, arr, op, av, an, bv, bn⟩).m.length ≤ 17592186044416 from (zhj hE).small)
 have c9 : Hid (∀ x y, ¬ HasO ⟨2, false, m⟩ [x, y] → imgF ⟨2, false, m⟩ ⟨fr, te, kd, dst, arr, op, av, an, bv, bn⟩ x y = none) := hid (fun x y h => by unfold imgF; rw [if_neg h])
 have d0 : Hid (∀ x y, HasO ⟨2, false, m⟩ [x, y] → kd = 11 → imgF ⟨2, false, m⟩ ⟨fr, te, kd, dst, arr, op, av, an, bv, bn⟩ x y = some [x, y]) := hid (fun x y h k => by unfold imgF; rw [if_pos h, if_pos k])
 have b9 : Hid (∀ x y, HasO ⟨2, false, m⟩ [x, y] → kd ≠ 11 → imgF ⟨2, false, m⟩ ⟨fr, te, kd, dst, arr, op, av, an, bv, bn⟩ x y = if (oneW (gr1 2 (List.replicate 4 4) ⟨fr, te, kd, dst, arr, op, av, an, bv, bn⟩) (List.replicate 4 [0, 0, 0, 0]) [x, y] 0 0).1 = 0 ∧ (oneW (gr1 2 (List.replicate 4 4) ⟨fr, te, kd, dst, arr, op, av, an, bv, bn⟩) (List.replicate 4 [0, 0, 0, 0]) [x, y] 0 0).2.1 = 0 then
   some (oneW (gr1 2 (List.replicate 4 4) ⟨fr, te, kd, dst, arr, op, av, an, bv, bn⟩) (List.replicate 4 [0, 0, 0, 0]) [x, y] 0 0).2.2 else none) := hid (fun x y h k => by unfold imgF; rw [if_pos h, if_neg k])
 dsimp only at g0 HT a1 a3
 rw [i3] at HT a3
 simp only [znI] at a3 a1
 generalize imgF ⟨2, false, m⟩ ⟨fr, te, kd, dst, arr, op, av, an, bv, bn⟩ = f at *
 generalize (gr1 2 [] ⟨fr, te, kd, dst, arr, op, av, an, bv, bn⟩).es = es at *
 generalize hq : (fun x y : Int => oneW (gr1 2 (List.replicate 4 4) ⟨fr, te, kd, dst, arr, op, av, an, bv, bn⟩) (List.replicate 4 [0, 0, 0, 0]) [x, y] 0 0) = q
 have hq' : ∀ x y, oneW (gr1 2 (List.replicate 4 4) ⟨fr, te, kd, dst, arr, op, av, an, bv, bn⟩) (List.replicate 4 [0, 0, 0, 0]) [x, y] 0 0 = q x y := fun x y => by rw [← hq]
 simp only [hq'] at a1 b9
 clear hq hq'
 generalize hE : transErr ⟨2, false, m⟩ ⟨fr, te, kd, dst, arr, op, av, an, bv, bn⟩ = E at *
 generalize hR : transAns ⟨2, false, m⟩ ⟨fr, te, kd, dst, arr, op, av, an, bv, bn⟩ = R at *
 generalize hX : zb6 ⟨fr, te, kd, dst, arr, op, av, an, bv, bn⟩ = ex at *
 clear hE hR hX hb ia ib r hO hk
 have HML := hid i3
 clear i3
 obtain ⟨p2, p3, a2, -⟩ := zao w #[.int .i8 b0, .int .i8 b1, .int .i8 b2, .int .i8 b3, .int .i8 b4, .int .i8 b5, .int .i8 b6, .int .i8 b7] #[fr, te, kd, dst, arr, op, av, an, bv, bn] 68 44
 go_enter Tryz.func9, Tryz.ntmps9
 go_wp2_with fail
 generalize (w.alloc (Obj.cells #[.int .i8 b0, .int .i8 b1, .int .i8 b2, .int .i8 b3, .int .i8 b4, .int .i8 b5, .int .i8 b6, .int .i8 b7] 68)).alloc (Obj.cells #[fr, te, kd, dst, arr, op, av, an, bv, bn] 44) = w1 at *
 (with_reducible refine (zhv w1).mono ?_)
 rintro e2 w2 ⟨rfl, d7⟩
 replace p2 := p2.later d7
 replace p3 := p3.later d7
 replace a2 := bup a2 d7
 clear d7
 have c0 := p2.cell 0
 have c1 := p2.cell 1
 have c2 := p2.cell 2
 have c3 := p2.cell 3
 have c4 := p2.cell 4
 have c5 := p2.cell 5
 have c6 := p2.cell 6
 have c7 := p2.cell 7
 go_wp2_with fail
 clear c0 c1 c2 c3 c4 c5 c6 c7 p2
 (with_reducible refine (g0.out w2).mono ?_)
 clear g0
 rintro e5 w5 ⟨A5, c5, rfl, d9, g2⟩
 dsimp only at d9 ⊢
 rw [HML.out]
 have n5 := new1 w5 (.cells #[.int .i64 2, false, .slice A5 16 c5] 24)
 have p5 := Blk.new w5 24 #[.int .i64 2, false, .slice A5 16 c5]
 have d1 : Rd (w5.alloc (.cells #[.int .i64 2, false, .slice A5 16 c5] 24)) (w5.alloc (.cells #[.int .i64 2, false, .slice A5 16 c5] 24)).heap.size A5 m := (d9.below n5).rd
 replace p3 := (p3.later g2).later n5
 replace a2 := bup a2 (bup g2 n5)
 clear d9 g2 n5
 have x0 := zaa p5
 have y0 := zam p3
 go_wp2_with fail
 clear x0 y0
 generalize w5.alloc (.cells #[.int .i64 2, false, .slice A5 16 c5] 24) = w6 at *
 generalize w5.heap.size = g5 at *
 (with_reducible refine (HT.out w6 a2.size A5 c5 d1).mono ?_)
 clear HT
 rintro e7 w7 ⟨A6, c6, rfl, sx, e3⟩
 have n8 := new1 w7 (.cells #[R.n, R.e, .slice A6 R.m.length c6] 24)
 have p6 := Blk.new w7 24 #[R.n, R.e, .slice A6 R.m.length c6]
 have e8 := bup e3 n8
 replace sx := sx.later n8 (Nat.le_trans a2.size e3.size)
 replace p3 := p3.later e8
 replace p5 := p5.later e8
 replace d1 := d1.up e8
 replace a2 := bup a2 e8
 clear e3 n8 e8
 by_cases hE : E = 0
 rotate_left
 ·have t1 : (E != 0) = true := by simpa using hE
  clear a0 a7 f9 a9 a1 a3 a4 c9 d0 b9
  go_wp2
  go_ret
  exact ⟨rfl, a2⟩
 subst hE
 replace a0 := hid (a0.out (by first | rfl | trivial))
 replace a9 := hid (a9.out (by first | rfl | trivial))
 replace a1 := hid (a1.out (by first | rfl | trivial))
 replace a4 := hid (a4.out (by first | rfl | trivial))
 have y0 := zam p3
 go_wp2_with fail
 clear y0
 generalize w7.alloc (.cells #[R.n, R.e, .slice A6 R.m.length c6] 24) = w8 at *
 generalize w7.heap.size = g6 at *
 (with_reducible refine (f9.out w8).mono ?_)
 clear f9
 rintro e9 w9 ⟨rfl, e6⟩
 replace sx := sx.later e6 a2.size
 replace p3 := p3.later e6
 replace p5 := p5.later e6
 replace p6 := p6.later e6
 replace d1 := d1.up e6
 replace a2 := bup a2 e6
 clear e6
 cases ex
 ·clear a0 a7 a9 a1 a3 a4 c9 d0 b9
  go_wp2
  go_ret
  exact ⟨rfl, a2⟩
 replace a0 := hid (a0.out (by first | rfl | trivial))
 replace a7 := hid (a7.out (by first | rfl | trivial))
 have y0 := zam p3
 by_cases k9 : kd = 9
 ·have t9 : (kd == 9) = true := by simpa using k9
  clear a0 a7 a9 a1 a3 a4 c9 d0 b9 k9
  go_wp2
  go_ret
  exact ⟨rfl, a2⟩
 have t9 : (kd == 9) = false := by simpa using k9
 by_cases k10 : kd = 10
 ·have t10 : (kd == 10) = true := by simpa using k10
  clear a0 a7 a9 a1 a3 a4 c9 d0 b9 k9 k10
  go_wp2
  go_ret
  exact ⟨rfl, a2⟩
 have t10 : (kd == 10) = false := by simpa using k10
 replace a0 := hid (a0.out k9 k10)
 replace a7 := hid (a7.out k9 k10)
 clear k9 k10
 by_cases q1 : 3 < arr
 ·have uq1 : decide (3 < arr) = true := decide_eq_true q1
  clear a0 a7 a9 a1 a3 a4 c9 d0 b9 q1
  go_wp2
  go_ret
  exact ⟨rfl, a2⟩
 have uq1 : decide (3 < arr) = false := decide_eq_false q1
 by_cases q2 : 1000 < an
 ·have uq2 : decide (1000 < an) = true := decide_eq_true q2
  clear a0 a7 a9 a1 a3 a4 c9 d0 b9 q2
  go_wp2
  go_ret
  exact ⟨rfl, a2⟩
 have uq2 : decide (1000 < an) = false := decide_eq_false q2
 by_cases q3 : an < -1000
 ·have uq3 : decide (an < -1000) = true := decide_eq_true q3
  clear a0 a7 a9 a1 a3 a4 c9 d0 b9 q3
  go_wp2
  go_ret
  exact ⟨rfl, a2⟩
 have uq3 : decide (an < -1000) = false := decide_eq_false q3
 by_cases q4 : 1000 < bn
 ·have uq4 : decide (1000 < bn) = true := decide_eq_true q4
  clear a0 a7 a9 a1 a3 a4 c9 d0 b9 q4
  go_wp2
  go_ret
  exact ⟨rfl, a2⟩
 have uq4 : decide (1000 < bn) = false := decide_eq_false q4
 by_cases q5 : bn < -1000
 ·have uq5 : decide (bn < -1000) = true := decide_eq_true q5
  clear a0 a7 a9 a1 a3 a4 c9 d0 b9 q5
  go_wp2
  go_ret
  exact ⟨rfl, a2⟩
 have uq5 : decide (bn < -1000) = false := decide_eq_false q5
 replace a0 := hid (a0.out (by omega) (by omega))
 replace a7 := hid (a7.out (by omega) (by omega))
 replace a1 := hid (a1.out (by omega))
 clear q1 q2 q3 q4 q5
 go_wp2_with fail
 clear uq1 uq2 uq3 uq4 uq5 t9 t10 y0
 rw [show ((4 : Nat) : Int) = 4 from rfl] at a9
 (with_reducible refine (a9.out w9).mono ?_)
 clear a9
 rintro e10 w10 ⟨D, cd, Ea, ce, rfl, hD, hEr, f6⟩
 obtain ⟨p8, p9, d4, -⟩ := zao w10 #[.slice none 0 0, .int .i64 2, .slice D 4 cd, .int .i64 2, .int .i64 1, .slice Ea es.length ce] #[.int .i64 0, .int .i64 0, .int .i64 0, .int .i64 0] 64 58
 have a6 := bup f6 d4
 replace sx := sx.later a6 a2.size
 replace p3 := p3.later a6
 replace p5 := p5.later a6
 replace p6 := p6.later a6
 replace d1 := d1.up a6
 replace a2 := bup a2 a6
 replace hD := hD.up d4
 replace hEr := hEr.up d4
 clear f6 d4 a6
 go_wp2
 generalize (w10.alloc (.cells #[.slice none 0 0, .int .i64 2, .slice D 4 cd, .int .i64 2, .int .i64 1, .slice Ea es.length ce] 64)).alloc (.cells #[.int .i64 0, .int .i64 0, .int .i64 0, .int .i64 0] 58) = w11 at *
 generalize w10.heap.size + 1 = g9 at *
 generalize w10.heap.size = g8 at *
 refine zab 4 (fun W => Below w11.heap.size w11 W) (by kernel_rfl) (by kernel_rfl) (Below.refl _ _).drew ?_
 refine fl_a ?_
 intro w12 a6
 have n13 := new1 w12 (.cells #[.slice (some ⟨g9, 0, none⟩) 4 4, .slice (some ⟨g9, 0, none⟩) 4 4, .slice (some ⟨g9, 0, none⟩) 4 4, .slice (some ⟨g9, 0, none⟩) 4 4] 22)
 have p10 := Blk.new w12 22 #[.slice (some ⟨g9, 0, none⟩) 4 4, .slice (some ⟨g9, 0, none⟩) 4 4, .slice (some ⟨g9, 0, none⟩) 4 4, .slice (some ⟨g9, 0, none⟩) 4 4]
 have a5 := bup a6 n13
 replace sx := sx.later a5 a2.size
 replace p3 := p3.later a5
 replace p5 := p5.later a5
 replace p6 := p6.later a5
 replace p8 := p8.later a5
 replace p9 := p9.later a5
 replace d1 := d1.up a5
 replace a2 := bup a2 a5
 replace hD := hD.up a5
 replace hEr := hEr.up a5
 clear a6 n13 a5
 go_wp2
 generalize w12.alloc (.cells #[.slice (some ⟨g9, 0, none⟩) 4 4, .slice (some ⟨g9, 0, none⟩) 4 4, .slice (some ⟨g9, 0, none⟩) 4 4, .slice (some ⟨g9, 0, none⟩) 4 4] 22) = w13 at *
 generalize w12.heap.size = g10 at *
 have hRR := zn1 (n := 4) (c := 4) (ks := [0, 0, 0, 0]) p10.lt p9.lt p10 (fun k hk => by
  have e : k = 0 ∨ k = 1 ∨ k = 2 ∨ k = 3 := by omega
  rcases e with rfl | rfl | rfl | rfl <;> rfl) (znX p9)
 clear p9 p10
 have d8 := Below.refl w13.heap.size w13
 go_loopw [11, 12] (fun s t wr => ∃ (x : Int) (zs : List At64.R1) (A : Option Addr) (c : Nat), -5 ≤ x ∧ x ≤ 6 ∧ t = .int .i64 x ∧ s = .slice A zs.length c ∧ Hid (zs.map (·.1) = zhq f x) ∧ At64.OwnR wr w13.heap.size A c zs ∧ Below w13.heap.size w13 wr) (fun _ t _ => (6 - RowKit.intOf t).toNat)
 case atStart => exact ⟨-5, [], none, 0, by omega, by omega, rfl, rfl, hid rfl, At64.OwnR.nil _ _, d8⟩
 case round =>
  clear d8
  obtain ⟨x, zs, A, c, g1, hx6, rfl, rfl, b8, ownz, d5⟩ := hrel
  by_cases hxl : x ≤ 5
  ·have tx : decide (x ≤ 5) = true := decide_eq_true hxl
   go_wp2
   go_loopw [11, 13] (fun s t wr => ∃ (y : Int) (zs : List At64.R1) (A : Option Addr) (c : Nat), -5 ≤ y ∧ y ≤ 6 ∧ t = .int .i64 y ∧ s = .slice A zs.length c ∧ Hid (zs.map (·.1) = zhq f x ++ rowX f x y) ∧ At64.OwnR wr w13.heap.size A c zs ∧ Below w13.heap.size w13 wr) (fun _ t _ => (6 - RowKit.intOf t).toNat)
   case atStart => exact ⟨-5, zs, A, c, by omega, by omega, rfl, rfl, hid (by rw [zkS, List.append_nil]; exact b8.out), ownz, d5⟩
   case round =>
    clear b8 ownz d5
    obtain ⟨y, zs, A, c, d6, hy6, rfl, rfl, b8, ownz, d5⟩ := hrel
    by_cases hyl : y ≤ 5
    ·have ty : decide (y ≤ 5) = true := decide_eq_true hyl
     have HSM : Hid (zs.length ≤ 200) := hid (by
      have h1 := ziF (f := f) (x := x) (y := y) ⟨g1, hx6⟩ ⟨d6, hy6⟩
      rw [← b8.out, List.length_map] at h1; exact h1)
     have n1 := new1 wr (.cells #[.int .i64 x, .int .i64 y] 2)
     have k1 := Blk.new wr 2 #[.int .i64 x, .int .i64 y]
     have c8 := bup d5 n1
     have HH := hid (a3.out x y ⟨g1, hxl⟩ ⟨d6, hyl⟩ A5 (some ⟨wr.heap.size, 0, none⟩) c5 2 (wr.alloc (.cells #[.int .i64 x, .int .i64 y] 2)) (d1.up c8) (znz k1))
     have x0 := zaa (p5.later d5)
     have a8 := ownz.below n1
     clear ownz k1 n1 d5
     go_wp2_with fail
     clear x0
     generalize wr.alloc (.cells #[.int .i64 x, .int .i64 y] 2) = w1 at *
     (with_reducible refine HH.out.mono ?_)
     clear HH
     rintro e2 w2 ⟨b, rfl, hbi, d7⟩
     have g4 := hid hbi
     clear hbi
     replace a8 := a8.below d7
     replace c8 := bup c8 d7
     clear d7
     cases b
     ·have hf := hid (c9.out x y (fun h => by have := g4.out.2 h; simp at this))
      go_wp2
      go_roundw
      case rel => exact ⟨y + 1, zs, A, c, by omega, by omega, by go_num, rfl, hid (by rw [ze6 d6 hf.out]; exact b8.out), a8, c8⟩
      case measure => simp [RowKit.intOf]; omega
     have e1 := hid (g4.out.1 (by simp))
     clear g4
     have y0 := zam (p3.later c8)
     by_cases k11 : kd = 11
     ·have t11 : (kd == 11) = true := by simpa using k11
      have hf := hid (d0.out x y e1.out k11)
      clear k11
      have n3 := new1 w2 (.cells #[.int .i64 x, .int .i64 y] 2)
      have o3 := znD w2 w13.heap.size x y c8.size
      have n4 := new1 (w2.alloc (.cells #[.int .i64 x, .int .i64 y] 2)) (.cells #[.slice (some ⟨w2.heap.size, 0, none⟩) 2 2] 22)
      have k4 := Blk.new (w2.alloc (.cells #[.int .i64 x, .int .i64 y] 2)) 22 #[.slice (some ⟨w2.heap.size, 0, none⟩) 2 2]
      have hs4 : (w2.alloc (.cells #[.int .i64 x, .int .i64 y] 2)).heap.size = w2.heap.size + 1 := by simp
      rw [hs4] at k4
      clear hs4
      have oo := hid ((a8.below n3).below n4)
      have oz := hid (o3.below n4)
      have rr := hid (bup (bup c8 n3) n4)
      have hsm := HSM.out
      clear a8 c8 n3 n4 o3
      go_wp2_with (at_builtin; go_loud (refine At64.wpList_append_row _ _ rfl rfl w13.heap.size A c zs ([x, y], some ⟨w2.heap.size, 0, none⟩, 2) rfl oo.out (w2.heap.size + 1) rfl k4 oz.out (by omega) rr.out.size ?_); intro A7 c7 w7 e0 e3)
      clear y0 k4
      go_roundw
      case rel => exact ⟨y + 1, zs ++ [([x, y], some ⟨w2.heap.size, 0, none⟩, 2)], A7, c7, by omega, by omega, by go_num, by simp, hid (by rw [zgJ d6 hf.out, List.map_append, b8.out, List.append_assoc]; rfl), e0, rr.out.trans e3⟩
      case measure => simp [RowKit.intOf]; omega
     have t11 : (kd == 11) = false := by simpa using k11
     have hf := hid (b9.out x y e1.out k11)
     clear k11 e1
     have n3 := new1 w2 (.cells #[.int .i64 x, .int .i64 y] 2)
     have k3 := Blk.new w2 2 #[.int .i64 x, .int .i64 y]
     have d2 := bup c8 n3
     have HO := hid (a1.out x y ⟨g1, hxl⟩ ⟨d6, hyl⟩ D Ea (some ⟨g10, 0, none⟩) (some ⟨w2.heap.size, 0, none⟩) cd ce 4 2 (w2.alloc (.cells #[.int .i64 x, .int .i64 y] 2)) (hD.up d2) (hEr.up d2) (znz k3) (hRR.up d2))
     have f0 := blk6 (p8.later c8)
     have o1 := a8.below n3
     clear a8 n3 k3 c8
     go_wp2_with fail
     clear f0 y0 t11
     generalize w2.alloc (.cells #[.int .i64 x, .int .i64 y] 2) = w3 at *
     generalize q x y = qq at *
     obtain ⟨qi, qw, z⟩ := qq
     dsimp only at hf
     (with_reducible refine HO.out.mono ?_)
     clear HO
     rintro e4 w4 ⟨Az, cz, rfl, ownq, g7⟩
     dsimp only at ownq ⊢
     replace ownq := ownq.less d2.size
     replace o1 := o1.below g7
     replace d2 := bup d2 g7
     clear g7
     by_cases hqi : qi = 0
     rotate_left
     ·have t1 : (qi == 0) = false := by simpa using hqi
      have f7 := hid (hf.out.trans (if_neg (fun h => hqi h.1)))
      clear hqi
      go_wp2
      go_roundw
      case rel => exact ⟨y + 1, zs, A, c, by omega, by omega, by go_num, rfl, hid (by rw [ze6 d6 f7.out]; exact b8.out), o1, d2⟩
      case measure => simp [RowKit.intOf]; omega
     by_cases hqw : qw = 0
     rotate_left
     ·have t0 : (qi == 0) = true := by simpa using hqi
      have t1 : (qw == 0) = false := by simpa using hqw
      have f7 := hid (hf.out.trans (if_neg (fun h => hqw h.2)))
      clear hqi hqw
      go_wp2
      go_roundw
      case rel => exact ⟨y + 1, zs, A, c, by omega, by omega, by go_num, rfl, hid (by rw [ze6 d6 f7.out]; exact b8.out), o1, d2⟩
      case measure => simp [RowKit.intOf]; omega
     have f7 := hid (hf.out.trans (if_pos ⟨hqi, hqw⟩))
     subst hqi
     subst hqw
     have n5 := new1 w4 (.cells #[.slice Az z.length cz] 22)
     have k5 := Blk.new w4 22 #[.slice Az z.length cz]
     have oo := hid (o1.below n5)
     have oz := hid (ownq.below n5)
     have rr := hid (bup d2 n5)
     have hsm := HSM.out
     clear o1 ownq n5 d2 hf
     go_wp2_with (at_builtin; go_loud (refine At64.wpList_append_row _ _ rfl rfl w13.heap.size A c zs (z, Az, cz) rfl oo.out w4.heap.size rfl k5 oz.out (by omega) rr.out.size ?_); intro A7 c7 w7 e0 e3)
     clear k5
     go_roundw
     case rel => exact ⟨y + 1, zs ++ [(z, Az, cz)], A7, c7, by omega, by omega, by go_num, by simp, hid (by rw [zgJ d6 f7.out, List.map_append, b8.out, List.append_assoc]; rfl), e0, rr.out.trans e3⟩
     case measure => simp [RowKit.intOf]; omega
    ·have ty : decide (y ≤ 5) = false := decide_eq_false hyl
     obtain rfl : y = 6 := by omega
     go_wp2
     go_roundw
     case rel => exact ⟨x + 1, zs, A, c, by omega, by omega, by go_num, rfl, hid (by rw [ziT g1]; exact b8.out), ownz, d5⟩
     case measure => simp [RowKit.intOf]; omega
  ·have tx : decide (x ≤ 5) = false := decide_eq_false hxl
   obtain rfl : x = 6 := by omega
   have hls := zod ownz
   have hm : zs.map (·.1) = imgL f 11 := b8.out
   have i0 := hid (zho 2 (by omega) (imgL f 11) (fun k hk => (a7.out _ (List.getElem_mem hk)).1) (fun k hk i => (a7.out _ (List.getElem_mem hk)).2 i) (by have := zfP f 11; omega) A c wr (by rw [← hm]; exact hls))
   have hll : zs.length = (imgL f 11).length := by rw [← hm, List.length_map]
   rw [hll]
   rw [show ((2 : Nat) : Int) = 2 from rfl] at i0
   clear hls b8 ownz hll hm
   go_wp2_with fail
   (with_reducible refine i0.out.mono ?_)
   clear i0
   rw [← a0.out]
   rintro e14 w14 ⟨A18, c18, rfl, own18, f8⟩
   have n15 := new1 w14 (.cells #[R.n, R.e, .slice A18 R.m.length c18] 24)
   have k15 := Blk.new w14 24 #[R.n, R.e, .slice A18 R.m.length c18]
   have d3 := bup d5 (bup f8 n15)
   have HO := hid (zkg R R A6 A18 c6 c18 (w14.alloc (.cells #[R.n, R.e, .slice A18 R.m.length c18] 24)) ((sx.later d3 a2.size).rd (bup a2 d3).size) (own18.below n15).rd a4.out)
   rw [zhZ R] at HO
   have x0 := zaa (p6.later d3)
   have z0 := zaa k15
   have v0 := zaa (p6.later (bup d5 f8))
   go_wp2_with fail
   (with_reducible refine HO.out.mono ?_)
   rintro e16 w16 ⟨rfl, g3⟩
   go_wp2
   go_ret
   exact ⟨rfl, bup a2 (bup d3 g3)⟩
theorem zeh (b0 b1 b2 b3 b4 b5 b6 b7 : Int) (e : Edg) (hb : I8s [b0, b1, b2, b3, b4, b5, b6, b7]) (ia : I64 e.an) (ib : I64 e.bn) (w : World) :
  Calls Tryz.prog 9 #[.agg #[.int .i8 b0, .int .i8 b1, .int .i8 b2, .int .i8 b3, .int .i8 b4, .int .i8 b5, .int .i8 b6, .int .i8 b7], e.val] w fun e w' => e = .returned (.bool true) ∧ Below w.heap.size w w' :=
 zeN b0 b1 b2 b3 b4 b5 b6 b7 e.fr e.te e.kd e.dst e.arr e.op e.av e.an e.bv e.bn hb ia ib w
end
section
open Go.ChangeShapes Go.WideShapes Go.ChangeAt Go.RowKit Go.Joins
theorem Tryz.own : ownKnob Tryz.prog.godebug = none := by kernel_rfl
theorem Tryz.laidOut : laidOutB Tryz.prog = true := by kernel_rfl
section
variable {H : Type} {enc : TypeId × Value → H} {W : World} {base : Nat} {held : Bool}
theorem zjD {f : Func} {s : ChangeSpec} {W' : World} {args : Array Value} {ds : List (DataW H)} {before : List MemPlace} (hW : DataW.Whole enc Tryz.prog f.params.toList s.vars false W args.toList ds [] before)
  (hrt : f.resultTypes = #[4]) (hv : s.vars = []) (hfn : s.fn H (ds ++ []) = { results := [.lit (.bool true)], args := ds })
  (hargs : DataW.TrodAll enc Tryz.prog W' 0 (fun b => decide (b < W.heap.size)) true f.params.toList args.toList ds before) (hb : Below W.heap.size W W') :
  s.post enc Tryz.prog f false true false false W args (.bool true) W' := by
 refine ⟨ds, [], before, [], before, [], hW, ?_, ?_, ?_, World.keptBut_mono (fun p hp => ⟨hp, .inr (.inl hp)⟩) (hb.frame (· ∈ before)), fun h => by cases h⟩
 ·rw [hfn, hrt]
  exact trodAll_mk1 (shut_bool Tryz.underlying4 _)
 ·rw [hfn]; exact hargs
 ·rw [hfn, hv]; rfl
end
end
section

end
section

end
section
open Go.ChangeShapes Go.WideShapes Go.ChangeAt Go.RowKit Go.Joins
section
variable {H : Type} {enc : TypeId × Value → H} {W : World} {base : Nat} {held : Bool} {spare : Nat → Bool}
theorem zc6 {fs : Array Field} {xs : List (DataW H × List MemPlace)} {n : Nat} {cs : List Value} (hf : ∀ (i : Nat) (f : Field), fs[i]? = some f → DataW.trod enc Tryz.prog W base spare held n f.type ((cs.drop f.offset).take (Tryz.prog.cellsOf f.type)) = xs[i]?)
  (i : Nat) (ty : TypeId) (off : Nat) (hi : (fs[i]?).map (fun f => (f.type, f.offset)) = some (ty, off)) : DataW.trod enc Tryz.prog W base spare held n ty ((cs.drop off).take (Tryz.prog.cellsOf ty)) = xs[i]? := by
 rw [Option.map_eq_some_iff] at hi
 obtain ⟨f, h1, h2⟩ := hi
 injection h2 with h2 h3
 subst h2 h3
 exact hf i f h1
def i64R (n : Int) : Prop := -9223372036854775808 ≤ n ∧ n ≤ 9223372036854775807
theorem zcO {n : Int} (h : (Lit.int .i64 n).wf = true) : i64R n := by
 unfold i64R
 have h : (decide (IntKind.i64.min ≤ n) && decide (n ≤ IntKind.i64.max)) = true := h
 have e1 : IntKind.i64.min = -9223372036854775808 := by kernel_rfl
 have e2 : IntKind.i64.max = 9223372036854775807 := by kernel_rfl
 rw [e1, e2] at h
 simpa using h
theorem zkv : Tryz.prog.cellsOf 3 = 1 := by kernel_rfl
theorem zi9 : Tryz.prog.cellsOf 44 = 10 := by kernel_rfl
theorem zlt : Tryz.prog.cellsOf 26 = 2 := by kernel_rfl
theorem zeg {fuel : Nat} {t : TypeId} {k : IntKind} {cs : List Value} {c : Value} {y : Option (DataW H × List MemPlace)} (ht : Tryz.prog.underlying t = some (.int k)) (h : DataW.trod enc Tryz.prog W base spare held fuel t cs = y) (hy : y.isSome = true) (hc : cs = [c]) : ∃ n, c = .int k n ∧ (Lit.int k n).wf = true := by
 obtain ⟨z, rfl⟩ := Option.isSome_iff_exists.1 hy
 obtain ⟨n, h1, _, h2⟩ := DataW.trod_int ht h
 rw [hc] at h1
 injection h1 with h1
 exact ⟨n, h1, h2⟩
def EdgI (e : Edg) : Prop := i64R e.fr ∧ i64R e.te ∧ i64R e.kd ∧ i64R e.dst ∧ i64R e.arr ∧ i64R e.op ∧ i64R e.av ∧ i64R e.an ∧ i64R e.bv ∧ i64R e.bn
theorem zo2 {α : Type} {l : List α} (h : l.length = 10) : ∃ c0 c1 c2 c3 c4 c5 c6 c7 c8 c9, l = [c0, c1, c2, c3, c4, c5, c6, c7, c8, c9] := by
 match l, h with
 | [c0, c1, c2, c3, c4, c5, c6, c7, c8, c9], _ => exact ⟨c0, c1, c2, c3, c4, c5, c6, c7, c8, c9, rfl⟩
theorem zih {fuel : Nat} {cs : List Value} {c0 c1 : Value} {y : Option (DataW H × List MemPlace)} (h : DataW.trod enc Tryz.prog W base spare held fuel 26 cs = y) (hy : y.isSome = true) (hc : cs = [c0, c1]) :
  ∃ v n, c0 = .int .i64 v ∧ c1 = .int .i64 n ∧ i64R v ∧ i64R n := by
 obtain ⟨z, rfl⟩ := Option.isSome_iff_exists.1 hy
 subst hc
 obtain ⟨xs, n, _, _, _, b0, hf⟩ := DataW.trod_struct Tryz.underlying26 h
 have sm : ∀ i, i < 2 → (xs[i]?).isSome = true := fun i hi => by rw [List.getElem?_eq_getElem (by rw [b0]; exact hi)]; rfl
 have ei : Tryz.prog.cellsOf 3 = 1 := by kernel_rfl
 have el : Tryz.prog.cellsOf 2 = 1 := by kernel_rfl
 have f0 := zc6 hf 0 3 0 rfl
 have f1 := zc6 hf 1 2 1 rfl
 rw [ei] at f0
 rw [el] at f1
 obtain ⟨a, ha, wa⟩ := zeg Tryz.underlying3 f0 (sm 0 (by omega)) rfl
 obtain ⟨b, hb, wb⟩ := zeg Tryz.underlying2 f1 (sm 1 (by omega)) rfl
 exact ⟨a, b, ha, hb, zcO wa, zcO wb⟩
theorem zjB {fuel : Nat} {cs : List Value} {x : DataW H × List MemPlace} (h : DataW.trod enc Tryz.prog W base spare held fuel 44 cs = some x) :
  ∃ e : Edg, cs = e.cells ∧ EdgI e := by
 obtain ⟨xs, n, _, _, hl, b0, hf⟩ := DataW.trod_struct Tryz.underlying44 h
 rw [zi9] at hl
 obtain ⟨c0, c1, c2, c3, c4, c5, c6, c7, c8, c9, rfl⟩ := zo2 hl
 have sm : ∀ i, i < 8 → (xs[i]?).isSome = true := fun i hi => by rw [List.getElem?_eq_getElem (by rw [b0]; exact hi)]; rfl
 have f0 := zc6 hf 0 3 0 rfl
 have f1 := zc6 hf 1 3 1 rfl
 have f2 := zc6 hf 2 3 2 rfl
 have f3 := zc6 hf 3 3 3 rfl
 have f4 := zc6 hf 4 3 4 rfl
 have f5 := zc6 hf 5 3 5 rfl
 have f6 := zc6 hf 6 26 6 rfl
 have f7 := zc6 hf 7 26 8 rfl
 rw [zkv] at f0 f1 f2 f3 f4 f5
 rw [zlt] at f6 f7
 clear hf
 obtain ⟨a0, rfl, w0⟩ := zeg Tryz.underlying3 f0 (sm 0 (by omega)) rfl
 obtain ⟨a1, rfl, w1⟩ := zeg Tryz.underlying3 f1 (sm 1 (by omega)) rfl
 obtain ⟨a2, rfl, w2⟩ := zeg Tryz.underlying3 f2 (sm 2 (by omega)) rfl
 obtain ⟨a3, rfl, w3⟩ := zeg Tryz.underlying3 f3 (sm 3 (by omega)) rfl
 obtain ⟨a4, rfl, w4⟩ := zeg Tryz.underlying3 f4 (sm 4 (by omega)) rfl
 obtain ⟨a5, rfl, w5⟩ := zeg Tryz.underlying3 f5 (sm 5 (by omega)) rfl
 obtain ⟨a6, a7, rfl, rfl, w6, w7⟩ := zih f6 (sm 6 (by omega)) rfl
 obtain ⟨a8, a9, rfl, rfl, w8, w9⟩ := zih f7 (sm 7 (by omega)) rfl
 exact ⟨⟨a0, a1, a2, a3, a4, a5, a6, a7, a8, a9⟩, rfl, zcO w0, zcO w1, zcO w2, zcO w3, zcO w4, zcO w5, w6, w7, w8, w9⟩
end
end
section
open Go.ChangeShapes Go.WideShapes Go.ChangeAt Go.RowKit Go.Joins
section
variable {H : Type} {enc : TypeId × Value → H} {W : World} {base : Nat} {held : Bool} {spare : Nat → Bool} {r : Reach} {b0 : Nat} {v : Value} {d : DataW H} {p : List MemPlace}
theorem zma (hv : Value.okWide Tryz.prog W r b0 44 v) (h : DataW.Trod enc Tryz.prog W base spare held 44 v d p) :
  ∃ e : Edg, v = e.val ∧ I64 e.an ∧ I64 e.bn := by
 obtain ⟨cs, rfl, _⟩ := okWide_struct Tryz.underlying44 hv
 obtain ⟨fuel, hf⟩ := h
 obtain ⟨e, he, hi⟩ := zjB hf
 refine ⟨e, ?_, hi.2.2.2.2.2.2.2.1, hi.2.2.2.2.2.2.2.2.2⟩
 have hc : cs.toList = e.cells := by simpa [Value.cells] using he
 have : cs = e.cells.toArray := by rw [← hc]
 rw [this]
 rfl
end
end
section

end
section
open Go.ChangeShapes Go.WideShapes Go.ChangeAt Go.RowKit Go.Joins
theorem ziE {P : Program} {w : World} {r : Reach} {b0 n : Nat} {t e : TypeId} {v : Value} (ht : P.underlying t = some (.array n e)) (h : Value.okWide P w r b0 t v) : ∃ cs, v = .agg cs ∧ cs.size = P.cellsOf t := by
 simp only [Value.okWide, ht] at h
 obtain ⟨cs, h1, h2, _⟩ := h
 exact ⟨cs, h1, h2⟩
end
section
open Go.ChangeShapes Go.WideShapes Go.ChangeAt Go.RowKit Go.Joins
theorem zmq : Tryz.prog.cellsOf 68 = 8 := by kernel_rfl
theorem zlu : Tryz.prog.cellsOf 67 = 1 := by kernel_rfl
theorem zoq {α : Type} {l : List α} (h : l.length = 8) : ∃ c0 c1 c2 c3 c4 c5 c6 c7, l = [c0, c1, c2, c3, c4, c5, c6, c7] := by
 match l, h with
 | [c0, c1, c2, c3, c4, c5, c6, c7], _ => exact ⟨c0, c1, c2, c3, c4, c5, c6, c7, rfl⟩
theorem zg7 {n : Int} (h : (Lit.int .i8 n).wf = true) : -128 ≤ n ∧ n ≤ 127 := by
 simp [Lit.wf, IntKind.min, IntKind.max, IntKind.signed, IntKind.bits] at h
 omega
section
variable {H : Type} {enc : TypeId × Value → H} {W : World} {base : Nat} {held : Bool} {spare : Nat → Bool} {r : Reach} {b0 : Nat} {v : Value} {d : DataW H} {p : List MemPlace}
theorem zhd {P : Program} {t e : TypeId} {fuel : Nat} {c0 c1 c2 c3 c4 c5 c6 c7 : Value} {x : DataW H × List MemPlace} (ht : P.underlying t = some (.array 8 e)) (hce : P.cellsOf e = 1)
  (h : DataW.trod enc P W base spare held fuel t [c0, c1, c2, c3, c4, c5, c6, c7] = some x) :
  ∃ n y0 y1 y2 y3 y4 y5 y6 y7, DataW.trod enc P W base spare held n e [c0] = some y0 ∧ DataW.trod enc P W base spare held n e [c1] = some y1 ∧ DataW.trod enc P W base spare held n e [c2] = some y2 ∧ DataW.trod enc P W base spare held n e [c3] = some y3 ∧ DataW.trod enc P W base spare held n e [c4] = some y4 ∧ DataW.trod enc P W base spare held n e [c5] = some y5 ∧ DataW.trod enc P W base spare held n e [c6] = some y6 ∧ DataW.trod enc P W base spare held n e [c7] = some y7 := by
 cases fuel with
 | zero => simp [DataW.trod] at h
 | succ n =>
  unfold DataW.trod at h
  rw [ht] at h
  have r8 : List.range 8 = [0, 1, 2, 3, 4, 5, 6, 7] := rfl
  simp [r8, hce] at h
  obtain ⟨_, h⟩ := h
  cases h0 : DataW.trod enc P W base spare held n e [c0] with
  | none => simp [h0] at h
  | some y0 =>
   cases h1 : DataW.trod enc P W base spare held n e [c1] with
   | none => simp [h0, h1] at h
   | some y1 =>
    cases h2 : DataW.trod enc P W base spare held n e [c2] with
    | none => simp [h0, h1, h2] at h
    | some y2 =>
     cases h3 : DataW.trod enc P W base spare held n e [c3] with
     | none => simp [h0, h1, h2, h3] at h
     | some y3 =>
      cases h4 : DataW.trod enc P W base spare held n e [c4] with
      | none => simp [h0, h1, h2, h3, h4] at h
      | some y4 =>
       cases h5 : DataW.trod enc P W base spare held n e [c5] with
       | none => simp [h0, h1, h2, h3, h4, h5] at h
       | some y5 =>
        cases h6 : DataW.trod enc P W base spare held n e [c6] with
        | none => simp [h0, h1, h2, h3, h4, h5, h6] at h
        | some y6 =>
         cases h7 : DataW.trod enc P W base spare held n e [c7] with
         | none => simp [h0, h1, h2, h3, h4, h5, h6, h7] at h
         | some y7 =>
          exact ⟨n, y0, y1, y2, y3, y4, y5, y6, y7, h0, h1, h2, h3, h4, h5, h6, h7⟩
theorem zkE (hv : Value.okWide Tryz.prog W r b0 68 v) (h : DataW.Trod enc Tryz.prog W base spare held 68 v d p) :
  ∃ a0 a1 a2 a3 a4 a5 a6 a7 : Int, v = .agg #[.int .i8 a0, .int .i8 a1, .int .i8 a2, .int .i8 a3, .int .i8 a4, .int .i8 a5, .int .i8 a6, .int .i8 a7] ∧ I8s [a0, a1, a2, a3, a4, a5, a6, a7] := by
 obtain ⟨cs, rfl, hs⟩ := ziE Tryz.underlying68 hv
 rw [zmq] at hs
 obtain ⟨c0, c1, c2, c3, c4, c5, c6, c7, hc⟩ := zoq (l := cs.toList) (by simpa using hs)
 obtain ⟨fuel, hf⟩ := h
 have hf' : DataW.trod enc Tryz.prog W base spare held fuel 68 [c0, c1, c2, c3, c4, c5, c6, c7] = some (d, p) := by rw [← hc]; simpa [Value.cells] using hf
 obtain ⟨n, y0, y1, y2, y3, y4, y5, y6, y7, h0, h1, h2, h3, h4, h5, h6, h7⟩ := zhd Tryz.underlying68 zlu hf'
 obtain ⟨k0, b5, rfl, w0⟩ := DataW.trod_int Tryz.underlying67 h0
 obtain ⟨k1, a8, rfl, w1⟩ := DataW.trod_int Tryz.underlying67 h1
 obtain ⟨k2, b6, rfl, w2⟩ := DataW.trod_int Tryz.underlying67 h2
 obtain ⟨k3, b4, rfl, w3⟩ := DataW.trod_int Tryz.underlying67 h3
 obtain ⟨k4, b3, rfl, w4⟩ := DataW.trod_int Tryz.underlying67 h4
 obtain ⟨k5, a9, rfl, w5⟩ := DataW.trod_int Tryz.underlying67 h5
 obtain ⟨k6, b2, rfl, w6⟩ := DataW.trod_int Tryz.underlying67 h6
 obtain ⟨k7, b1, rfl, w7⟩ := DataW.trod_int Tryz.underlying67 h7
 injection b5 with b5; subst b5
 injection a8 with a8; subst a8
 injection b6 with b6; subst b6
 injection b4 with b4; subst b4
 injection b3 with b3; subst b3
 injection a9 with a9; subst a9
 injection b2 with b2; subst b2
 injection b1 with b1; subst b1
 refine ⟨k0, k1, k2, k3, k4, k5, k6, k7, ?_, fun i => ?_⟩
 ·have : cs = #[.int .i8 k0, .int .i8 k1, .int .i8 k2, .int .i8 k3, .int .i8 k4, .int .i8 k5, .int .i8 k6, .int .i8 k7] := by
   apply Array.ext'
   simpa using hc
  rw [this]
 ·match i with
  | 0 => exact zg7 w0
  | 1 => exact zg7 w1
  | 2 => exact zg7 w2
  | 3 => exact zg7 w3
  | 4 => exact zg7 w4
  | 5 => exact zg7 w5
  | 6 => exact zg7 w6
  | 7 => exact zg7 w7
  | i + 8 => rw [zfs (by simp)]; omega
end
end
end Go.Proofs.YtnmpgijiimglcaaGreat
