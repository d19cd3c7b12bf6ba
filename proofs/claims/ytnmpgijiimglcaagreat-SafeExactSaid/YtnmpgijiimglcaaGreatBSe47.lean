import Derived.Test.YtnmpgijiimglcaaGreatBSe37
import Derived.Test.YtnmpgijiimglcaaGreatBSe34
import Derived.Test.YtnmpgijiimglcaaGreatBSe38
import Derived.Test.YtnmpgijiimglcaaGreatBSe46
import Derived.Test.YtnmpgijiimglcaaGreatBSe33
import Derived.Test.YtnmpgijiimglcaaGreatBSe10
import Derived.Test.YtnmpgijiimglcaaGreatBSe30
import Derived.Test.YtnmpgijiimglcaaGreatBSe35
import Derived.Test.YtnmpgijiimglcaaGreatBSe36
import Derived.Test.YtnmpgijiimglcaaGreatBSe02
import Derived.ProofKit
import Derived.SizedLaws
import Derived.Lib.SmallJoins
import Derived.Test.YtnmpgijiimglcaaGreatBSe11
import Derived.Test.YtnmpgijiimglcaaGreatBSe24
namespace Go.Proofs.YtnmpgijiimglcaaGreat
set_option maxRecDepth 100000
set_option maxHeartbeats 8000000
section
open Go.RowKit
attribute [local go_sem ↓] Go.wp_at_zero Go.wp_at_succ
def safeB (C : O) (kd av an bv bn sz : Int) : Bool :=
 C.e || (if kd = 14 then false else if kd = 1 ∨ kd = 2 ∨ kd = 9 ∨ kd = 12 ∨ kd = 13 then true
  else if kd = 10 ∨ kd = 11 then placeB (opdR (2 * C.n).toNat C.m av an) sz
  else if kd = 3 then fitsK 3 (opdR (2 * C.n).toNat C.m av an) rg0
  else if kd = 4 then (fitsK 4 (opdR (2 * C.n).toNat C.m av an) (opdR (2 * C.n).toNat C.m bv bn) || (decide (0 ≤ av) && decide (0 ≤ bv) && wholeB (sumR (2 * C.n).toNat C.m av.toNat bv.toNat)))
  else if kd = 5 then (fitsK 5 (opdR (2 * C.n).toNat C.m av an) (opdR (2 * C.n).toNat C.m bv bn) || (decide (0 ≤ av) && decide (0 ≤ bv) && wholeB (diffR (2 * C.n).toNat C.m av.toNat bv.toNat)))
  else fitsK kd (opdR (2 * C.n).toNat C.m av an) (opdR (2 * C.n).toNat C.m bv bn))
theorem ziI (o R : O) (fr te kd dst arr op av an bv bn sz er : Int) (her : er ≠ 0) (A : Option Addr) (cap : Nat) (w : World) (hx : Rd w w.heap.size A o.m)
  (HP : ∀ W, w.heap.size ≤ W.heap.size → Rd W W.heap.size A o.m → Calls Tryz.prog 28 #[.agg #[o.n, o.e, .slice A o.m.length cap], .agg #[fr, te, kd, dst, arr, op, av, an, bv, bn]] W (zcX W w.heap.size R er)) :
  Calls Tryz.prog 43 #[.agg #[o.n, o.e, .slice A o.m.length cap], .agg #[fr, te, kd, dst, arr, op, av, an, bv, bn], sz] w fun e w' => e = .returned (.tuple #[false, er]) ∧ Below w.heap.size w w' := by
 have HT := hid HP
 clear HP
 have t1 : (er != 0) = true := by simpa using her
 obtain ⟨p0, p1, a2, -⟩ := zal w #[o.n, o.e, .slice A o.m.length cap] #[fr, te, kd, dst, arr, op, av, an, bv, bn] 24 44
 replace hx := hx.up a2
 go_enter Tryz.func43, Tryz.ntmps43
 have x0 := zaa p0
 have y0 := zae p1
 go_wp2_with fail
 clear x0 y0
 generalize (w.alloc (Obj.cells #[o.n, o.e, .slice A o.m.length cap] 24)).alloc (Obj.cells #[fr, te, kd, dst, arr, op, av, an, bv, bn] 44) = w1 at *
 (with_reducible refine (HT.out w1 a2.size hx).mono ?_)
 rintro e2 w2 ⟨A1, c1, rfl, sx1, hb2⟩
 replace a2 := bup a2 hb2
 clear hb2 sx1 HT hx p0 p1
 replace a2 := bup a2 (new1 w2 (Obj.cells #[R.n, R.e, .slice A1 R.m.length c1] 24))
 go_wp2
 refine bodyPost_ret (v := .tuple #[false, er]) (by simp [results, Tryz.results43, go_sem]) rfl ⟨rfl, a2⟩
theorem ziL (o : O) (fr te kd dst arr op av an bv bn sz : Int) (ia : I64 an) (ib : I64 bn) (A : Option Addr) (cap : Nat) (w : World) (hx : Rd w w.heap.size A o.m) (hm : o.m.length ≤ 17592186044416) :
  Calls Tryz.prog 43 #[.agg #[o.n, o.e, .slice A o.m.length cap], .agg #[fr, te, kd, dst, arr, op, av, an, bv, bn], sz] w fun e w' =>
   e = .returned (.tuple #[.bool (if transErr o ⟨fr, te, kd, dst, arr, op, av, an, bv, bn⟩ = 0 then safeB (closeO o) kd av an bv bn sz else false), .int .i64 (transErr o ⟨fr, te, kd, dst, arr, op, av, an, bv, bn⟩)]) ∧ Below w.heap.size w w' := by
 have HP := fun W (hW : w.heap.size ≤ W.heap.size) (h : Rd W W.heap.size A o.m) => ziM o fr te kd dst arr op av an bv bn ia ib A cap W h hm w.heap.size hW
 by_cases he : transErr o ⟨fr, te, kd, dst, arr, op, av, an, bv, bn⟩ = 0
 ·rw [if_pos he, he]
  rw [he] at HP
  obtain ⟨hk, hr⟩ := ze8 he
  obtain ⟨k1, _, _, ra, rb⟩ := zcv hr
  obtain ⟨n0, _, _, _⟩ := zas hk
  have a0 : av < o.n := by omega
  have a1 : bv < o.n := by omega
  clear he hr ra rb
  generalize transAns o ⟨fr, te, kd, dst, arr, op, av, an, bv, bn⟩ = R at HP
  have hkd : kd = 1 ∨ kd = 2 ∨ kd = 3 ∨ kd = 4 ∨ kd = 5 ∨ kd = 6 ∨ kd = 7 ∨ kd = 8 ∨ kd = 9 ∨ kd = 10 ∨ kd = 11 ∨ kd = 12 ∨ kd = 13 ∨ kd = 14 := by omega
  rcases hkd with rfl | rfl | rfl | rfl | rfl | rfl | rfl | rfl | rfl | rfl | rfl | rfl | rfl | rfl
  ·exact zcS 1 (by omega) o R fr te dst arr op av an bv bn sz a1 ib hk a0 ia (closeO o) rfl A cap w hx hm HP
  ·exact zcS 2 (by omega) o R fr te dst arr op av an bv bn sz a1 ib hk a0 ia (closeO o) rfl A cap w hx hm HP
  ·exact zjw o R fr te dst arr op av an bv bn sz a1 ib hk a0 ia (closeO o) rfl A cap w hx hm HP
  ·exact zjv o R fr te dst arr op av an bv bn sz a1 ib hk a0 ia (closeO o) rfl A cap w hx hm HP
  ·exact zjg o R fr te dst arr op av an bv bn sz a1 ib hk a0 ia (closeO o) rfl A cap w hx hm HP
  ·exact zeK 6 (by omega) o R fr te dst arr op av an bv bn sz a1 ib hk a0 ia (closeO o) rfl A cap w hx hm HP
  ·exact zeK 7 (by omega) o R fr te dst arr op av an bv bn sz a1 ib hk a0 ia (closeO o) rfl A cap w hx hm HP
  ·exact zeK 8 (by omega) o R fr te dst arr op av an bv bn sz a1 ib hk a0 ia (closeO o) rfl A cap w hx hm HP
  ·exact zcS 9 (by omega) o R fr te dst arr op av an bv bn sz a1 ib hk a0 ia (closeO o) rfl A cap w hx hm HP
  ·exact zf6 10 (by omega) o R fr te dst arr op av an bv bn sz a1 ib hk a0 ia (closeO o) rfl A cap w hx hm HP
  ·exact zf6 11 (by omega) o R fr te dst arr op av an bv bn sz a1 ib hk a0 ia (closeO o) rfl A cap w hx hm HP
  ·exact zcS 12 (by omega) o R fr te dst arr op av an bv bn sz a1 ib hk a0 ia (closeO o) rfl A cap w hx hm HP
  ·exact zcS 13 (by omega) o R fr te dst arr op av an bv bn sz a1 ib hk a0 ia (closeO o) rfl A cap w hx hm HP
  ·exact zhW o R fr te dst arr op av an bv bn sz a1 ib hk a0 ia (closeO o) rfl A cap w hx hm HP
 ·rw [if_neg he]
  exact ziI o (transAns o ⟨fr, te, kd, dst, arr, op, av, an, bv, bn⟩) fr te kd dst arr op av an bv bn sz _ he A cap w hx HP
end
section
open Go.RowKit
theorem zhL {n : Int} {m : List Int} {fr te arr op an bv bn : Int} {d : Nat} (hb : bv < 0) (hk : -2305843009213693952 ≤ bn ∧ bn ≤ 2305843009213693952) : zbS ⟨n, false, m⟩ ⟨fr, te, 4, (d : Int), arr, op, (d : Int), an, bv, bn⟩ = closeO ⟨n, false, zbJ (2 * n).toNat d bn m⟩ := by
 unfold zbS
 dsimp only
 rw [if_neg (by omega), if_neg (by omega), if_neg (by omega), if_neg (by omega), if_neg (by omega), if_pos (by omega), if_neg (by omega)]
 rw [show decide ((4 : Int) = 5) = false from rfl]
 unfold zkU
 rw [if_pos (by omega), if_neg (by omega), if_neg (by decide)]
 unfold zcu
 rw [if_neg (by omega), if_neg (by simp)]
 simp
theorem zf8 {n : Int} {m : List Int} {N : Nat} (hN : (N : Int) = 2 * n) (hn : N ≤ 128) (hc : Cells N m) {d : Nat} (hd : (d : Int) < n) {k : Int} (hk : -2305843009213693952 ≤ k ∧ k ≤ 2305843009213693952) {A : Option Addr} {cap B : Nat} {W : World} (hm : m.length ≤ 17592186044416) (hB : B ≤ W.heap.size) (hx : Sx W B A m) :
  Calls Tryz.prog 197 #[.agg #[n, false, .slice A m.length cap], (d : Int), (d : Int), k] W (zar W B (closeO ⟨n, false, zbJ N d k m⟩)) :=
 (zdS n m N hN hn hc d hd k hk A cap W (hx.rd hB) hm).mono fun _ _ h => h.sx hB
theorem zgS (o : O) (fr te arr op an bv bn : Int) (d : Nat) (ia : I64 an) (hb : bv < 0) (hk : -2305843009213693952 ≤ bn ∧ bn ≤ 2305843009213693952) (hd : (d : Int) < o.n) (A : Option Addr) (cap : Nat) (w : World) (hx : Rd w w.heap.size A o.m) (hm : o.m.length ≤ 17592186044416) (B : Nat) (hB : B ≤ w.heap.size) :
  Calls Tryz.prog 28 #[.agg #[o.n, o.e, .slice A o.m.length cap], .agg #[fr, te, .int .i64 4, (d : Int), arr, op, (d : Int), an, bv, bn]] w (zcX w B (transAns o ⟨fr, te, 4, (d : Int), arr, op, (d : Int), an, bv, bn⟩) (transErr o ⟨fr, te, 4, (d : Int), arr, op, (d : Int), an, bv, bn⟩)) := by
 have ib : I64 bn := by unfold I64; omega
 refine zdy o fr te 4 (d : Int) arr op (d : Int) an bv bn A cap w hx hm B hB fun _ N cm Ac cc W hN hn hc _ hBW hsx hmc => ?_
 rw [zhL hb hk, show (2 * o.n).toNat = N by omega]
 refine zdo 4 (by omega) o.n cm fr te d arr op d an bv bn ia ib (by omega) Ac cc W B hBW hsx _ fun W2 hB2 hx2 => ?_
 exact zg8 o.n cm fr te d arr op d an bv bn ia ib (by omega) hb Ac cc W2 B hB2 hx2 _ fun W3 hB3 hx3 => zf8 hN hn hc hd hk hmc hB3 hx3
theorem zgW {n : Int} {m : List Int} {fr te arr op an bv bn : Int} {d : Nat} (hb : bv < 0) (hk : -2305843009213693952 ≤ bn ∧ bn ≤ 2305843009213693952) : zbS ⟨n, false, m⟩ ⟨fr, te, 5, (d : Int), arr, op, (d : Int), an, bv, bn⟩ = closeO ⟨n, false, zbJ (2 * n).toNat d (-bn) m⟩ := by
 have a0 : negW bn = (-bn, 0) := by unfold negW; exact zdk (by omega)
 unfold zbS
 dsimp only
 rw [if_neg (by omega), if_neg (by omega), if_neg (by omega), if_neg (by omega), if_neg (by omega), if_pos (by omega), if_neg (by omega)]
 rw [show decide ((5 : Int) = 5) = true from rfl]
 unfold zkU
 rw [if_pos (by omega), if_neg (by omega), if_pos rfl, a0, if_pos rfl]
 unfold zcu
 rw [if_neg (by omega), if_neg (by simp)]
 simp
theorem zfs (o : O) (fr te arr op an bv bn : Int) (d : Nat) (ia : I64 an) (hb : bv < 0) (hk : -2305843009213693952 ≤ bn ∧ bn ≤ 2305843009213693952) (hd : (d : Int) < o.n) (A : Option Addr) (cap : Nat) (w : World) (hx : Rd w w.heap.size A o.m) (hm : o.m.length ≤ 17592186044416) (B : Nat) (hB : B ≤ w.heap.size) :
  Calls Tryz.prog 28 #[.agg #[o.n, o.e, .slice A o.m.length cap], .agg #[fr, te, .int .i64 5, (d : Int), arr, op, (d : Int), an, bv, bn]] w (zcX w B (transAns o ⟨fr, te, 5, (d : Int), arr, op, (d : Int), an, bv, bn⟩) (transErr o ⟨fr, te, 5, (d : Int), arr, op, (d : Int), an, bv, bn⟩)) := by
 have ib : I64 bn := by unfold I64; omega
 refine zdy o fr te 5 (d : Int) arr op (d : Int) an bv bn A cap w hx hm B hB fun _ N cm Ac cc W hN hn hc _ hBW hsx hmc => ?_
 rw [zgW hb hk, show (2 * o.n).toNat = N by omega]
 refine zdo 5 (by omega) o.n cm fr te d arr op d an bv bn ia ib (by omega) Ac cc W B hBW hsx _ fun W2 hB2 hx2 => ?_
 exact zht o.n cm fr te d arr op d an bv bn ia ib (by omega) hb (by omega) Ac cc W2 B hB2 hx2 _ fun W3 hB3 hx3 => zf8 hN hn hc hd (by omega) hmc hB3 hx3
end
section
open Go.RowKit
attribute [local go_sem ↓] Go.wp_at_zero Go.wp_at_succ
def k17 : O := ⟨1, false, boundM 2 0 1 10 (topM 2 2)⟩
def e17 (kd : Int) : Edg := ⟨0, 0, kd, 0, -1, 0, 0, 0, -1, 1⟩
theorem zcC : k17.m.length = 4 := by unfold k17; dsimp only; rw [zci, zdm 2 2]
theorem zkf : check k17 = 0 := by kernel_rfl
theorem zlv : transErr k17 (e17 4) = 0 := by kernel_rfl
theorem zlj : transErr k17 (e17 5) = 0 := by kernel_rfl
theorem zl1 : ((closeO k17).e || fits4 (opdR (2 * (closeO k17).n).toNat (closeO k17).m 0 0) (opdR (2 * (closeO k17).n).toNat (closeO k17).m (-1) 1)) = true := by kernel_rfl
theorem zl0 : ((closeO k17).e || fits5 (opdR (2 * (closeO k17).n).toNat (closeO k17).m 0 0) (opdR (2 * (closeO k17).n).toNat (closeO k17).m (-1) 1)) = false := by kernel_rfl
theorem zlB (A : Option Addr) (cap : Nat) (W : World) (h : Rd W W.heap.size A k17.m) : Calls Tryz.prog 43 #[.agg #[.int .i64 1, false, .slice A 4 cap], .agg #[.int .i64 0, .int .i64 0, .int .i64 4, .int .i64 0, .int .i64 (-1), .int .i64 0, .int .i64 0, .int .i64 0, .int .i64 (-1), .int .i64 1], .int .i64 0] W fun e w' => e = .returned (.tuple #[true, .int .i64 0]) ∧ Below W.heap.size W w' := by
 have q := zkF k17 (transAns k17 (e17 4)) 0 0 0 (-1) 0 0 0 (-1) 1 0 (by omega) (by unfold I64; omega) zkf (by show (0 : Int) < 1; omega) (by unfold I64; omega) (closeO k17) rfl A cap W h (by rw [zcC]; omega) (fun V hV hr => by
  have h2 := zgS k17 0 0 (-1) 0 0 (-1) 1 0 (by unfold I64; omega) (by omega) (by omega) (by show (0 : Int) < 1; omega) A cap V hr (by rw [zcC]; omega) W.heap.size hV
  rw [show (⟨0, 0, 4, ((0 : Nat) : Int), -1, 0, ((0 : Nat) : Int), 0, -1, 1⟩ : Edg) = e17 4 from rfl, zlv] at h2
  exact h2)
 rw [zl1, zcC] at q
 exact q
theorem zlt (A : Option Addr) (cap : Nat) (W : World) (h : Rd W W.heap.size A k17.m) : Calls Tryz.prog 43 #[.agg #[.int .i64 1, false, .slice A 4 cap], .agg #[.int .i64 0, .int .i64 0, .int .i64 5, .int .i64 0, .int .i64 (-1), .int .i64 0, .int .i64 0, .int .i64 0, .int .i64 (-1), .int .i64 1], .int .i64 0] W fun e w' => e = .returned (.tuple #[false, .int .i64 0]) ∧ Below W.heap.size W w' := by
 have q := zkV k17 (transAns k17 (e17 5)) 0 0 0 (-1) 0 0 0 (-1) 1 0 (by omega) (by unfold I64; omega) zkf (by show (0 : Int) < 1; omega) (by unfold I64; omega) (closeO k17) rfl A cap W h (by rw [zcC]; omega) (fun V hV hr => by
  have h2 := zfs k17 0 0 (-1) 0 0 (-1) 1 0 (by unfold I64; omega) (by omega) (by omega) (by show (0 : Int) < 1; omega) A cap V hr (by rw [zcC]; omega) W.heap.size hV
  rw [show (⟨0, 0, 5, ((0 : Nat) : Int), -1, 0, ((0 : Nat) : Int), 0, -1, 1⟩ : Edg) = e17 5 from rfl, zlj] at h2
  exact h2)
 rw [zl0, zcC] at q
 exact q
def r15 : Rg := ⟨1, 5, true, true⟩
theorem zlX (W : World) : Calls Tryz.prog 46 #[.int .i64 7, .agg #[.int .i64 0, .int .i64 0, false, false], .agg #[.int .i64 1, .int .i64 5, true, true]] W fun e w' => e = .returned (.bool true) ∧ Below W.heap.size W w' :=
 zei rg0 r15 (by unfold rg0 loR hiR I64; simp) (by unfold r15 loR hiR I64; simp) W
theorem zfF (w : World) :
  Calls Tryz.prog 42 #[] w fun e w' => e = .returned (.bool true) ∧ Below w.heap.size w w' := by
 have u_len : (topM 2 2).length = 4 := zdm 2 2
 have HL := hid zcC
 have HS4 := hid zlB
 have HS5 := hid zlt
 go_enter Tryz.func42, Tryz.ntmps42
 go_wp2_with fail
 refine (zjm 1 2 w (by omega) rfl).mono ?_
 rintro e1 w1 ⟨A1, c1, rfl, a2, a6⟩
 dsimp only at a2 ⊢
 rw [u_len]
 have a7 := hid (zh9 1 (topM 2 2) 2 0 1 w.heap.size 10 A1 c1 w1 a2 a6.size rfl (by omega) u_len (by omega) (by omega) (by omega))
 rw [u_len] at a7
 go_wp2_with fail
 refine a7.out.mono ?_
 clear a7
 rintro e2 w2 ⟨rfl, a0, hb2⟩
 have a1 : Below w.heap.size w w2 := a6.trans hb2
 replace a0 : Own w2 w.heap.size A1 c1 k17.m := a0
 have hg : w.heap.size ≤ w2.heap.size := a1.size
 clear a2 a6 hb2 u_len
 obtain ⟨p1, p2, a5, -⟩ := zal w2 #[.int .i64 1, false, .slice A1 4 c1] #[.int .i64 0, .int .i64 0, .int .i64 4, .int .i64 0, .int .i64 (-1), .int .i64 0, .int .i64 0, .int .i64 0, .int .i64 (-1), .int .i64 1] 24 44
 replace a0 := a0.below a5
 replace a1 := bup a1 a5
 clear a5
 have x0 := zaa p1
 have y0 := zae p2
 go_wp2_with fail
 clear x0 y0
 generalize (w2.alloc (Obj.cells #[.int .i64 1, false, .slice A1 4 c1] 24)).alloc (Obj.cells #[.int .i64 0, .int .i64 0, .int .i64 4, .int .i64 0, .int .i64 (-1), .int .i64 0, .int .i64 0, .int .i64 0, .int .i64 (-1), .int .i64 1] 44) = w3 at *
 generalize w2.heap.size = g1 at *
 (with_reducible refine (HS4.out A1 c1 w3 a0.rd).mono ?_)
 rintro e4 w4 ⟨rfl, a3⟩
 replace p1 := p1.later a3
 replace p2 := p2.later a3
 replace a0 := a0.below a3
 replace a1 := bup a1 a3
 clear a3 HS4
 have y0 := zae p2
 have q2 := p2.set_ 2 (.int .i64 5)
 have q1 := p1.far (p := ⟨g1 + 1, 2, none⟩) (by simp) (.int .i64 5)
 have o2 := a0.far1 (i := 2) (v := .int .i64 5) (zan a0 p2 (by decide))
 have a4 := a1.trans (zaL (i := 2) (v := .int .i64 5) (show w.heap.size ≤ g1 + 1 by omega) a1.size)
 have x0 := zaa p1
 go_wp2_with fail
 clear x0 y0 p1 p2 a0 a1
 generalize w4.setCell ⟨g1 + 1, 2, none⟩ (.int .i64 5) = w5 at *
 (with_reducible refine (HS5.out A1 c1 w5 o2.rd).mono ?_)
 rintro e6 w6 ⟨rfl, hb6⟩
 replace a4 := bup a4 hb6
 clear hb6 HS5 q1 q2 o2
 go_wp2_with fail
 (with_reducible refine (zlX _).mono ?_)
 rintro e7 w7 ⟨rfl, hb7⟩
 go_wp2
 go_ret
 exact ⟨rfl, bup a4 hb7⟩
end
section
open Go.RowKit
attribute [local go_sem ↓] Go.wp_at_zero Go.wp_at_succ
theorem zkJ (o : O) (fr te kd dst arr op av an bv bn sz : Int) (hk1 : 1 ≤ kd ∧ kd ≤ 14) (hbv : bv < o.n) (ib : I64 bn) (hk : check o = 0) (hav : av < o.n) (ian : I64 an) (A : Option Addr) (cap : Nat) (w : World) (hx : Rd w w.heap.size A o.m) (hm : o.m.length ≤ 17592186044416) :
  Calls Tryz.prog 45 #[.agg #[o.n, o.e, .slice A o.m.length cap], .agg #[fr, te, kd, dst, arr, op, av, an, bv, bn], sz] w fun e w' => e = .returned (.bool (safeB (closeO o) kd av an bv bn sz)) ∧ Below w.heap.size w w' := by
 have hkd : kd = 1 ∨ kd = 2 ∨ kd = 3 ∨ kd = 4 ∨ kd = 5 ∨ kd = 6 ∨ kd = 7 ∨ kd = 8 ∨ kd = 9 ∨ kd = 10 ∨ kd = 11 ∨ kd = 12 ∨ kd = 13 ∨ kd = 14 := by omega
 rcases hkd with rfl | rfl | rfl | rfl | rfl | rfl | rfl | rfl | rfl | rfl | rfl | rfl | rfl | rfl
 ·exact zlM o fr te dst arr op av an bv bn sz hbv ib hk hav ian (closeO o) rfl A cap w hx hm
 ·exact zl2 o fr te dst arr op av an bv bn sz hbv ib hk hav ian (closeO o) rfl A cap w hx hm
 ·exact zlK o fr te dst arr op av an bv bn sz hbv ib hk hav ian (closeO o) rfl A cap w hx hm
 ·have q := zlO o fr te dst arr op av an bv bn sz hbv ib hk hav ian (closeO o) rfl A cap w hx hm
  rw [Bool.or_comm (decide (0 ≤ av) && decide (0 ≤ bv) && wholeB (sumR (2 * (closeO o).n).toNat (closeO o).m av.toNat bv.toNat))] at q
  exact q
 ·have q := zlY o fr te dst arr op av an bv bn sz hbv ib hk hav ian (closeO o) rfl A cap w hx hm
  rw [Bool.or_comm (decide (0 ≤ av) && decide (0 ≤ bv) && wholeB (diffR (2 * (closeO o).n).toNat (closeO o).m av.toNat bv.toNat))] at q
  exact q
 ·exact zlL o fr te dst arr op av an bv bn sz hbv ib hk hav ian (closeO o) rfl A cap w hx hm
 ·exact zlW o fr te dst arr op av an bv bn sz hbv ib hk hav ian (closeO o) rfl A cap w hx hm
 ·exact zl4 o fr te dst arr op av an bv bn sz hbv ib hk hav ian (closeO o) rfl A cap w hx hm
 ·exact zl6 o fr te dst arr op av an bv bn sz hbv ib hk hav ian (closeO o) rfl A cap w hx hm
 ·exact zk7 o fr te dst arr op av an bv bn sz hbv ib hk hav ian (closeO o) rfl A cap w hx hm
 ·exact zlC o fr te dst arr op av an bv bn sz hbv ib hk hav ian (closeO o) rfl A cap w hx hm
 ·exact zk3 o fr te dst arr op av an bv bn sz hbv ib hk hav ian (closeO o) rfl A cap w hx hm
 ·exact zlp o fr te dst arr op av an bv bn sz hbv ib hk hav ian (closeO o) rfl A cap w hx hm
 ·exact zk9 o fr te dst arr op av an bv bn sz hbv ib hk hav ian (closeO o) rfl A cap w hx hm
theorem zd5 (o : O) (fr te kd dst arr op av an bv bn sz : Int) (ia : I64 an) (ib : I64 bn) (A : Option Addr) (cap : Nat) (w : World) (hx : Rd w w.heap.size A o.m) (hm : o.m.length ≤ 17592186044416) :
  Calls Tryz.prog 12 #[.agg #[o.n, o.e, .slice A o.m.length cap], .agg #[fr, te, kd, dst, arr, op, av, an, bv, bn], sz] w fun e w' => e = .returned (.bool true) ∧ Below w.heap.size w w' := by
 have HS := hid (fun W (h : Rd W W.heap.size A o.m) => ziL o fr te kd dst arr op av an bv bn sz ia ib A cap W h hm)
 have HCK := hid (fun W (h : Rd W W.heap.size A o.m) => zd7 o A cap W h (by omega))
 have a7 := hid (fun W => zfL o fr te kd dst arr op av an bv bn A o.m.length cap W)
 have a6 := hid (fun (hk : check o = 0) W (h : Rd W W.heap.size A o.m) => zfv o A cap W h hm hk)
 have HR := hid (fun (hk : check o = 0) (hr : rightT o.n ⟨fr, te, kd, dst, arr, op, av, an, bv, bn⟩ = true) W (h : Rd W W.heap.size A o.m) => by
  have rt := zcv hr
  obtain ⟨n0, _, _, _⟩ := zas hk
  exact zkJ o fr te kd dst arr op av an bv bn sz rt.kd_ (by have := rt.b_; omega) ib hk (by have := rt.a_; omega) ia A cap W h hm)
 have HE : Hid (transErr o ⟨fr, te, kd, dst, arr, op, av, an, bv, bn⟩ = if check o ≠ 0 then check o else if rightT o.n ⟨fr, te, kd, dst, arr, op, av, an, bv, bn⟩ then 0 else 160) := hid rfl
 generalize transErr o ⟨fr, te, kd, dst, arr, op, av, an, bv, bn⟩ = E at *
 generalize safeB (closeO o) kd av an bv bn sz = Q at *
 generalize rightT o.n ⟨fr, te, kd, dst, arr, op, av, an, bv, bn⟩ = rb at *
 generalize steadyB o = sb at *
 generalize check o = k at *
 obtain ⟨X, hX⟩ : ∃ X, X = (if E = 0 then Q else false) := ⟨_, rfl⟩
 rw [← hX] at HS
 have HX := hid hX
 clear hX
 clear ia ib hm
 obtain ⟨p0, p1, a0, -⟩ := zal w #[o.n, o.e, .slice A o.m.length cap] #[fr, te, kd, dst, arr, op, av, an, bv, bn] 24 44
 replace hx := hx.up a0
 go_enter Tryz.func12, Tryz.ntmps12
 go_wp2_with fail
 generalize (w.alloc (Obj.cells #[o.n, o.e, .slice A o.m.length cap] 24)).alloc (Obj.cells #[fr, te, kd, dst, arr, op, av, an, bv, bn] 44) = w1 at *
 (with_reducible refine (zfF w1).mono ?_)
 rintro e2 w2 ⟨rfl, a3⟩
 replace p0 := p0.later a3
 replace p1 := p1.later a3
 replace hx := hx.up a3
 replace a0 := bup a0 a3
 clear a3
 have x0 := zaa p0
 have y0 := zae p1
 go_wp2_with fail
 clear x0 y0
 (with_reducible refine (HS.out w2 hx).mono ?_)
 rintro e3 w3 ⟨rfl, a1⟩
 replace p0 := p0.later a1
 replace p1 := p1.later a1
 replace hx := hx.up a1
 replace a0 := bup a0 a1
 clear a1 HS
 have x0 := zaa p0
 go_wp2_with fail
 clear x0
 (with_reducible refine (HCK.out w3 hx).mono ?_)
 rintro e4 w4 ⟨rfl, a5⟩
 replace p0 := p0.later a5
 replace p1 := p1.later a5
 replace hx := hx.up a5
 replace a0 := bup a0 a5
 clear a5 HCK
 by_cases hk : k = 0
 rotate_left
 ·have t1 : (k == 0) = false := by rw [beq_eq_false_iff_ne]; exact hk
  have t2 : (k != 0) = true := by simpa using hk
  have hE : E = k := by rw [HE.out, if_pos hk]
  subst hE
  have hX : X = false := by rw [HX.out, if_neg hk]
  subst hX
  clear a7 a6 HR HE HX hk
  go_wp2
  go_ret
  exact ⟨rfl, a0⟩
 ·subst hk
  have x0 := zaa p0
  have y0 := zae p1
  go_wp2_with fail
  clear x0 y0
  (with_reducible refine (a7.out w4).mono ?_)
  rintro e5 w5 ⟨rfl, a2⟩
  replace p0 := p0.later a2
  replace p1 := p1.later a2
  replace hx := hx.up a2
  replace a0 := bup a0 a2
  clear a2 a7
  cases rb with
  | false =>
   have hE : E = 160 := by rw [HE.out]; rfl
   have hX : X = false := by rw [HX.out, hE]; rfl
   subst hE
   subst hX
   clear HE HR a6 HX
   go_wp2
   go_ret
   exact ⟨rfl, a0⟩
  | true =>
   have hE : E = 0 := by rw [HE.out]; rfl
   have hX : X = Q := by rw [HX.out, hE]; rfl
   subst hE
   subst hX
   clear HE HX
   have x0 := zaa p0
   go_wp2_with fail
   clear x0
   (with_reducible refine (a6.out (by first | rfl | trivial) w5 hx).mono ?_)
   rintro e6 w6 ⟨rfl, a4⟩
   replace p0 := p0.later a4
   replace p1 := p1.later a4
   replace hx := hx.up a4
   replace a0 := bup a0 a4
   clear a4 a6
   cases sb with
   | false =>
    clear HR
    go_wp2
    go_ret
    exact ⟨rfl, a0⟩
   | true =>
    have x0 := zaa p0
    have y0 := zae p1
    go_wp2_with fail
    clear x0 y0
    (with_reducible refine (HR.out (by first | rfl | trivial) (by first | rfl | trivial) w6 hx).mono ?_)
    rintro e7 w7 ⟨rfl, hb7⟩
    cases X
    all_goals
     go_wp2
     go_ret
     exact ⟨rfl, bup a0 hb7⟩
theorem zdA (o : O) (e : Edg) (sz : Int) (ia : I64 e.an) (ib : I64 e.bn) (A : Option Addr) (cap : Nat) (w : World) (hx : Rd w w.heap.size A o.m) (hm : o.m.length ≤ 17592186044416) :
  Calls Tryz.prog 12 #[.agg #[o.n, o.e, .slice A o.m.length cap], e.val, sz] w fun e w' => e = .returned (.bool true) ∧ Below w.heap.size w w' :=
 zd5 o e.fr e.te e.kd e.dst e.arr e.op e.av e.an e.bv e.bn sz ia ib A cap w hx hm
end
section
open Go.ChangeShapes Go.WideShapes Go.ChangeAt Go.RowKit Go.Joins
theorem Tryz.own : ownKnob Tryz.prog.godebug = none := by kernel_rfl
theorem Tryz.laidOut : laidOutB Tryz.prog = true := by kernel_rfl
theorem zhh : Tryz.prog.cellsOf 2 = 1 := by kernel_rfl
theorem zh5 : Tryz.prog.cellsOf 24 = 3 := by kernel_rfl
theorem zho : Tryz.prog.bytesOf 2 = 8 := by kernel_rfl
section
variable {H : Type} {enc : TypeId × Value → H} {W : World} {base : Nat} {held : Bool}
theorem zkE {w : World} {p : Addr} {v : Value} (h : w.cell? p = some v) : p.block < w.heap.size ∧ p.spot = none := by
 unfold World.cell? at h
 split at h
 ·rename_i hb
  refine ⟨(Array.getElem?_eq_some_iff.1 hb).1, ?_⟩
  split at h
  ·cases h
  ·rename_i hs
   simpa using hs
 ·cases h
theorem zj4 {spare : Nat → Bool} {fuel : Nat} {cs : List Value} {x : DataW H × List MemPlace} (h : DataW.trod enc Tryz.prog W base spare held fuel 22 cs = some x) :
  ∃ (A : Option Addr) (c : Nat) (m : List Int), cs = [.slice A m.length c] ∧ Rd W W.heap.size A m ∧ ((∀ n ∈ x.1.weights Tryz.prog 22, n ≤ reachBytes) → m.length ≤ 17592186044416) ∧ ∀ i : Nat, gI m i ≤ 9223372036854775807 := by
 rcases open_ints Tryz.underlying22 Tryz.underlying2 zhh h with ⟨rfl, rfl⟩ | ⟨a, len, cap, zs, rfl, _, hl, _, hzl, rfl, hc, hwf⟩
 ·exact ⟨none, 0, [], rfl, fun k hk => absurd hk (by simp), fun _ => by simp, fun i => by simp [gI]⟩
 ·have hle : len ≤ zs.length := by rw [hzl]; split <;> omega
  have hml : (zs.take len).length = len := by simp; omega
  refine ⟨some a, cap, zs.take len, by rw [hml], fun k hk => ?_, fun hw => ?_, fun i => (range_i64 (zs := zs.take len) (fun n hn => hwf n (List.mem_of_mem_take hn)) i).2⟩
  ·rw [hml] at hk
   have h0 := zkE (hc 0 (by omega))
   have hk' := hc k (by omega)
   obtain ⟨b, off, sp⟩ := a
   have hsp : sp = none := by simpa [Addr.add] using h0.2
   subst hsp
   have hb : b < W.heap.size := by simpa [Addr.add] using h0.1
   refine ⟨b, off, rfl, hb, ?_⟩
   have e : (⟨b, off, none⟩ : Addr).add k = ⟨b, off + k, none⟩ := by unfold Addr.add; split <;> simp_all
   rw [← e, hk']
   unfold gI
   rw [getD_take_lt zs len _ 0 (by simpa using hk)]
   rfl
  ·have := hw (((lits (H := H) IntKind.i64 (zs.take len)).length + (lits (H := H) IntKind.i64 (zs.drop len)).length) * Tryz.prog.bytesOf 2) (by simp [DataW.weights, Tryz.underlying22])
   rw [zho] at this
   have hr := reachBytes_lt
   simp [lits] at this
   omega
theorem zi4 {r : Reach} {b0 : Nat} {spare : Nat → Bool} {v : Value} {d : DataW H} {p : List MemPlace} (hv : Value.okWide Tryz.prog W r b0 24 v) (h : DataW.Trod enc Tryz.prog W base spare held 24 v d p) :
  ∃ (A : Option Addr) (c : Nat) (o : O), v = .agg #[o.n, o.e, .slice A o.m.length c] ∧ Rd W W.heap.size A o.m ∧ ((∀ n ∈ d.weights Tryz.prog 24, n ≤ reachBytes) → o.m.length ≤ 17592186044416) := by
 obtain ⟨v0, v1, v2, y0, y1, y2, n, rfl, rfl, rfl, h0, h1, h2⟩ := open_agg3 Tryz.underlying24 (by kernel_rfl) zh5 hv h
 obtain ⟨k, hk, rfl, _⟩ := DataW.trod_int Tryz.underlying3 h0
 obtain ⟨b, hb, rfl⟩ := DataW.trod_bool Tryz.underlying4 h1
 obtain ⟨A, c, m, he, hr, hw, _⟩ := zj4 h2
 injection hk with hk; subst hk
 injection hb with hb; subst hb
 injection he with he; subst he
 refine ⟨A, c, ⟨k, b, m⟩, rfl, hr, fun hn => hw fun q hq => hn q ?_⟩
 have e := Tryz.underlying24
 simp only [DataW.weights, e, DataW.weightsEach, List.map_cons, List.map_nil, List.mem_append]
 exact .inr (.inr (.inl hq))
theorem zg2 {f : Func} {s : ChangeSpec} {W' : World} {args : Array Value} {ds : List (DataW H)} {before : List MemPlace} (hW : DataW.Whole enc Tryz.prog f.params.toList s.vars false W args.toList ds [] before)
  (hrt : f.resultTypes = #[4]) (hv : s.vars = []) (hfn : s.fn H (ds ++ []) = { results := [.lit (.bool true)], args := ds })
  (hargs : DataW.TrodAll enc Tryz.prog W' 0 (fun b => decide (b < W.heap.size)) true f.params.toList args.toList ds before) (hb : Below W.heap.size W W') :
  s.post enc Tryz.prog f false true false false W args (.bool true) W' := by
 refine ⟨ds, [], before, [], before, [], hW, ?_, ?_, ?_, World.keptBut_mono (fun p hp => ⟨hp, .inr (.inl hp)⟩) (hb.frame (· ∈ before)), fun h => by cases h⟩
 ·rw [hfn, hrt]
  exact trodAll_mk1 (shut_bool Tryz.underlying4 _)
 ·rw [hfn]; exact hargs
 ·rw [hfn, hv]; rfl
end
end
section
open Go.ChangeShapes Go.WideShapes Go.ChangeAt Go.RowKit Go.Joins
section
variable {H : Type} {enc : TypeId × Value → H} {W : World} {base : Nat} {held : Bool} {spare : Nat → Bool}
theorem zct {fs : Array Field} {xs : List (DataW H × List MemPlace)} {n : Nat} {cs : List Value} (hf : ∀ (i : Nat) (f : Field), fs[i]? = some f → DataW.trod enc Tryz.prog W base spare held n f.type ((cs.drop f.offset).take (Tryz.prog.cellsOf f.type)) = xs[i]?)
  (i : Nat) (ty : TypeId) (off : Nat) (hi : (fs[i]?).map (fun f => (f.type, f.offset)) = some (ty, off)) : DataW.trod enc Tryz.prog W base spare held n ty ((cs.drop off).take (Tryz.prog.cellsOf ty)) = xs[i]? := by
 rw [Option.map_eq_some_iff] at hi
 obtain ⟨f, h1, h2⟩ := hi
 injection h2 with h2 h3
 subst h2 h3
 exact hf i f h1
def i64R (n : Int) : Prop := -9223372036854775808 ≤ n ∧ n ≤ 9223372036854775807
theorem zcg {n : Int} (h : (Lit.int .i64 n).wf = true) : i64R n := by
 unfold i64R
 have h : (decide (IntKind.i64.min ≤ n) && decide (n ≤ IntKind.i64.max)) = true := h
 have e1 : IntKind.i64.min = -9223372036854775808 := by kernel_rfl
 have e2 : IntKind.i64.max = 9223372036854775807 := by kernel_rfl
 rw [e1, e2] at h
 simpa using h
theorem zhf : Tryz.prog.cellsOf 3 = 1 := by kernel_rfl
theorem zgR : Tryz.prog.cellsOf 44 = 10 := by kernel_rfl
theorem zh8 : Tryz.prog.cellsOf 26 = 2 := by kernel_rfl
theorem zdg {fuel : Nat} {t : TypeId} {k : IntKind} {cs : List Value} {c : Value} {y : Option (DataW H × List MemPlace)} (ht : Tryz.prog.underlying t = some (.int k)) (h : DataW.trod enc Tryz.prog W base spare held fuel t cs = y) (hy : y.isSome = true) (hc : cs = [c]) : ∃ n, c = .int k n ∧ (Lit.int k n).wf = true := by
 obtain ⟨z, rfl⟩ := Option.isSome_iff_exists.1 hy
 obtain ⟨n, h1, _, h2⟩ := DataW.trod_int ht h
 rw [hc] at h1
 injection h1 with h1
 exact ⟨n, h1, h2⟩
def EdgI (e : Edg) : Prop := i64R e.fr ∧ i64R e.te ∧ i64R e.kd ∧ i64R e.dst ∧ i64R e.arr ∧ i64R e.op ∧ i64R e.av ∧ i64R e.an ∧ i64R e.bv ∧ i64R e.bn
theorem zlo {α : Type} {l : List α} (h : l.length = 10) : ∃ c0 c1 c2 c3 c4 c5 c6 c7 c8 c9, l = [c0, c1, c2, c3, c4, c5, c6, c7, c8, c9] := by
 match l, h with
 | [c0, c1, c2, c3, c4, c5, c6, c7, c8, c9], _ => exact ⟨c0, c1, c2, c3, c4, c5, c6, c7, c8, c9, rfl⟩
theorem zf2 {fuel : Nat} {cs : List Value} {c0 c1 : Value} {y : Option (DataW H × List MemPlace)} (h : DataW.trod enc Tryz.prog W base spare held fuel 26 cs = y) (hy : y.isSome = true) (hc : cs = [c0, c1]) :
  ∃ v n, c0 = .int .i64 v ∧ c1 = .int .i64 n ∧ i64R v ∧ i64R n := by
 obtain ⟨z, rfl⟩ := Option.isSome_iff_exists.1 hy
 subst hc
 obtain ⟨xs, n, _, _, _, b0, hf⟩ := DataW.trod_struct Tryz.underlying26 h
 have sm : ∀ i, i < 2 → (xs[i]?).isSome = true := fun i hi => by rw [List.getElem?_eq_getElem (by rw [b0]; exact hi)]; rfl
 have ei : Tryz.prog.cellsOf 3 = 1 := by kernel_rfl
 have el : Tryz.prog.cellsOf 2 = 1 := by kernel_rfl
 have f0 := zct hf 0 3 0 rfl
 have f1 := zct hf 1 2 1 rfl
 rw [ei] at f0
 rw [el] at f1
 obtain ⟨a, ha, wa⟩ := zdg Tryz.underlying3 f0 (sm 0 (by omega)) rfl
 obtain ⟨b, hb, wb⟩ := zdg Tryz.underlying2 f1 (sm 1 (by omega)) rfl
 exact ⟨a, b, ha, hb, zcg wa, zcg wb⟩
theorem zhP {fuel : Nat} {cs : List Value} {x : DataW H × List MemPlace} (h : DataW.trod enc Tryz.prog W base spare held fuel 44 cs = some x) :
  ∃ e : Edg, cs = e.cells ∧ EdgI e := by
 obtain ⟨xs, n, _, _, hl, b0, hf⟩ := DataW.trod_struct Tryz.underlying44 h
 rw [zgR] at hl
 obtain ⟨c0, c1, c2, c3, c4, c5, c6, c7, c8, c9, rfl⟩ := zlo hl
 have sm : ∀ i, i < 8 → (xs[i]?).isSome = true := fun i hi => by rw [List.getElem?_eq_getElem (by rw [b0]; exact hi)]; rfl
 have f0 := zct hf 0 3 0 rfl
 have f1 := zct hf 1 3 1 rfl
 have f2 := zct hf 2 3 2 rfl
 have f3 := zct hf 3 3 3 rfl
 have f4 := zct hf 4 3 4 rfl
 have f5 := zct hf 5 3 5 rfl
 have f6 := zct hf 6 26 6 rfl
 have f7 := zct hf 7 26 8 rfl
 rw [zhf] at f0 f1 f2 f3 f4 f5
 rw [zh8] at f6 f7
 clear hf
 obtain ⟨a0, rfl, w0⟩ := zdg Tryz.underlying3 f0 (sm 0 (by omega)) rfl
 obtain ⟨a1, rfl, w1⟩ := zdg Tryz.underlying3 f1 (sm 1 (by omega)) rfl
 obtain ⟨a2, rfl, w2⟩ := zdg Tryz.underlying3 f2 (sm 2 (by omega)) rfl
 obtain ⟨a3, rfl, w3⟩ := zdg Tryz.underlying3 f3 (sm 3 (by omega)) rfl
 obtain ⟨a4, rfl, w4⟩ := zdg Tryz.underlying3 f4 (sm 4 (by omega)) rfl
 obtain ⟨a5, rfl, w5⟩ := zdg Tryz.underlying3 f5 (sm 5 (by omega)) rfl
 obtain ⟨a6, a7, rfl, rfl, w6, w7⟩ := zf2 f6 (sm 6 (by omega)) rfl
 obtain ⟨a8, a9, rfl, rfl, w8, w9⟩ := zf2 f7 (sm 7 (by omega)) rfl
 exact ⟨⟨a0, a1, a2, a3, a4, a5, a6, a7, a8, a9⟩, rfl, zcg w0, zcg w1, zcg w2, zcg w3, zcg w4, zcg w5, w6, w7, w8, w9⟩
end
end
section
open Go.ChangeShapes Go.WideShapes Go.ChangeAt Go.RowKit Go.Joins
section
variable {H : Type} {enc : TypeId × Value → H} {W : World} {base : Nat} {held : Bool} {spare : Nat → Bool} {r : Reach} {b0 : Nat} {v : Value} {d : DataW H} {p : List MemPlace}
theorem zjE (hv : Value.okWide Tryz.prog W r b0 44 v) (h : DataW.Trod enc Tryz.prog W base spare held 44 v d p) :
  ∃ e : Edg, v = e.val ∧ I64 e.an ∧ I64 e.bn := by
 obtain ⟨cs, rfl, _⟩ := okWide_struct Tryz.underlying44 hv
 obtain ⟨fuel, hf⟩ := h
 obtain ⟨e, he, hi⟩ := zhP hf
 refine ⟨e, ?_, hi.2.2.2.2.2.2.2.1, hi.2.2.2.2.2.2.2.2.2⟩
 have hc : cs.toList = e.cells := by simpa [Value.cells] using he
 have : cs = e.cells.toArray := by rw [← hc]
 rw [this]
 rfl
end
end
end Go.Proofs.YtnmpgijiimglcaaGreat
