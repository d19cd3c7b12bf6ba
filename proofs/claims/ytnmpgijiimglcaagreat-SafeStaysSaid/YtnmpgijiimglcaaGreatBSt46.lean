import Derived.Test.YtnmpgijiimglcaaGreatBSt17
import Derived.Test.YtnmpgijiimglcaaGreatBSt08
import Derived.Test.YtnmpgijiimglcaaGreatRef13
import Derived.Test.YtnmpgijiimglcaaGreatTEdgeO
import Derived.Test.YtnmpgijiimglcaaGreatSEdge
import Derived.Test.YtnmpgijiimglcaaGreatBSt10
import Derived.Test.YtnmpgijiimglcaaGreatBSt33
import Derived.Test.YtnmpgijiimglcaaGreatBSt45
import Derived.Test.YtnmpgijiimglcaaGreatBSt13
namespace Go.Proofs.YtnmpgijiimglcaaGreat
section
open Go.RowKit
set_option maxRecDepth 100000
set_option maxHeartbeats 8000000
attribute [local go_sem ↓] Go.wp_at_zero Go.wp_at_succ
def SomeBool (w : World) (e : Ending) (w' : World) : Prop := ∃ s : Bool, e = .returned (.bool s) ∧ Below w.heap.size w w'
end
section
open Go.RowKit
set_option maxRecDepth 100000
set_option maxHeartbeats 8000000
theorem edge_self {n : Int} {m : List Int} {fr te arr op an bv bn : Int} {d : Nat} (hb : bv < 0) (hk : -2305843009213693952 ≤ bn ∧ bn ≤ 2305843009213693952) : edgeO ⟨n, false, m⟩ ⟨fr, te, 4, (d : Int), arr, op, (d : Int), an, bv, bn⟩ = closeO ⟨n, false, shiftM (2 * n).toNat d bn m⟩ := by
 unfold edgeO
 dsimp only
 rw [if_neg (by omega), if_neg (by omega), if_neg (by omega), if_neg (by omega), if_neg (by omega), if_pos (by omega), if_neg (by omega)]
 rw [show decide ((4 : Int) = 5) = false from rfl]
 unfold addsO
 rw [if_pos (by omega), if_neg (by omega), if_neg (by decide)]
 unfold shiftO
 rw [if_neg (by omega), if_neg (by simp)]
 simp
theorem shift_sx {n : Int} {m : List Int} {N : Nat} (hN : (N : Int) = 2 * n) (hn : N ≤ 128) (hc : Cells N m) {d : Nat} (hd : (d : Int) < n) {k : Int} (hk : -2305843009213693952 ≤ k ∧ k ≤ 2305843009213693952) {A : Option Addr} {cap B : Nat} {W : World} (hm : m.length ≤ 17592186044416) (hB : B ≤ W.heap.size) (hx : Sx W B A m) :
  Calls Tryz.prog 197 #[.agg #[n, false, .slice A m.length cap], (d : Int), (d : Int), k] W (SxRes W B (closeO ⟨n, false, shiftM N d k m⟩)) :=
 (tshift_self n m N hN hn hc d hd k hk A cap W (hx.rd hB) hm).mono fun _ _ h => h.sx hB
theorem tEdge_self (o : O) (fr te arr op an bv bn : Int) (d : Nat) (ia : I64 an) (hb : bv < 0) (hk : -2305843009213693952 ≤ bn ∧ bn ≤ 2305843009213693952) (hd : (d : Int) < o.n) (A : Option Addr) (cap : Nat) (w : World) (hx : Rd w w.heap.size A o.m) (hm : o.m.length ≤ 17592186044416) (B : Nat) (hB : B ≤ w.heap.size) :
  Calls Tryz.prog 28 #[.agg #[o.n, o.e, .slice A o.m.length cap], .agg #[fr, te, .int .i64 4, (d : Int), arr, op, (d : Int), an, bv, bn]] w (ErrSx w B (transAns o ⟨fr, te, 4, (d : Int), arr, op, (d : Int), an, bv, bn⟩) (transErr o ⟨fr, te, 4, (d : Int), arr, op, (d : Int), an, bv, bn⟩)) := by
 have ib : I64 bn := by unfold I64; omega
 refine tEdge_any o fr te 4 (d : Int) arr op (d : Int) an bv bn A cap w hx hm B hB fun _ N cm Ac cc W hN hn hc _ hBW hsx hmc => ?_
 rw [edge_self hb hk, show (2 * o.n).toNat = N by omega]
 refine tedge_av 4 (by omega) o.n cm fr te d arr op d an bv bn ia ib (by omega) Ac cc W B hBW hsx _ fun W2 hB2 hx2 => ?_
 exact tadds_4 o.n cm fr te d arr op d an bv bn ia ib (by omega) hb Ac cc W2 B hB2 hx2 _ fun W3 hB3 hx3 => shift_sx hN hn hc hd hk hmc hB3 hx3
theorem edge_self5 {n : Int} {m : List Int} {fr te arr op an bv bn : Int} {d : Nat} (hb : bv < 0) (hk : -2305843009213693952 ≤ bn ∧ bn ≤ 2305843009213693952) : edgeO ⟨n, false, m⟩ ⟨fr, te, 5, (d : Int), arr, op, (d : Int), an, bv, bn⟩ = closeO ⟨n, false, shiftM (2 * n).toNat d (-bn) m⟩ := by
 have a0 : negW bn = (-bn, 0) := by unfold negW; exact fit_in (by omega)
 unfold edgeO
 dsimp only
 rw [if_neg (by omega), if_neg (by omega), if_neg (by omega), if_neg (by omega), if_neg (by omega), if_pos (by omega), if_neg (by omega)]
 rw [show decide ((5 : Int) = 5) = true from rfl]
 unfold addsO
 rw [if_pos (by omega), if_neg (by omega), if_pos rfl, a0, if_pos rfl]
 unfold shiftO
 rw [if_neg (by omega), if_neg (by simp)]
 simp
theorem tEdge_self5 (o : O) (fr te arr op an bv bn : Int) (d : Nat) (ia : I64 an) (hb : bv < 0) (hk : -2305843009213693952 ≤ bn ∧ bn ≤ 2305843009213693952) (hd : (d : Int) < o.n) (A : Option Addr) (cap : Nat) (w : World) (hx : Rd w w.heap.size A o.m) (hm : o.m.length ≤ 17592186044416) (B : Nat) (hB : B ≤ w.heap.size) :
  Calls Tryz.prog 28 #[.agg #[o.n, o.e, .slice A o.m.length cap], .agg #[fr, te, .int .i64 5, (d : Int), arr, op, (d : Int), an, bv, bn]] w (ErrSx w B (transAns o ⟨fr, te, 5, (d : Int), arr, op, (d : Int), an, bv, bn⟩) (transErr o ⟨fr, te, 5, (d : Int), arr, op, (d : Int), an, bv, bn⟩)) := by
 have ib : I64 bn := by unfold I64; omega
 refine tEdge_any o fr te 5 (d : Int) arr op (d : Int) an bv bn A cap w hx hm B hB fun _ N cm Ac cc W hN hn hc _ hBW hsx hmc => ?_
 rw [edge_self5 hb hk, show (2 * o.n).toNat = N by omega]
 refine tedge_av 5 (by omega) o.n cm fr te d arr op d an bv bn ia ib (by omega) Ac cc W B hBW hsx _ fun W2 hB2 hx2 => ?_
 exact tadds_5 o.n cm fr te d arr op d an bv bn ia ib (by omega) hb (by omega) Ac cc W2 B hB2 hx2 _ fun W3 hB3 hx3 => shift_sx hN hn hc hd (by omega) hmc hB3 hx3
end
section
open Go.RowKit
set_option maxRecDepth 100000
set_option maxHeartbeats 8000000
attribute [local go_sem ↓] Go.wp_at_zero Go.wp_at_succ
def k17 : O := ⟨1, false, boundM 2 0 1 10 (topM 2 2)⟩
def e17 (kd : Int) : Edg := ⟨0, 0, kd, 0, -1, 0, 0, 0, -1, 1⟩
theorem k17_len : k17.m.length = 4 := by unfold k17; dsimp only; rw [boundM_len, topM_len 2 2]
theorem k17_ok : check k17 = 0 := by kernel_rfl
theorem k17_e4 : transErr k17 (e17 4) = 0 := by kernel_rfl
theorem k17_e5 : transErr k17 (e17 5) = 0 := by kernel_rfl
theorem k17_4 : ((closeO k17).e || fits4 (opdR (2 * (closeO k17).n).toNat (closeO k17).m 0 0) (opdR (2 * (closeO k17).n).toNat (closeO k17).m (-1) 1)) = true := by kernel_rfl
theorem k17_5 : ((closeO k17).e || fits5 (opdR (2 * (closeO k17).n).toNat (closeO k17).m 0 0) (opdR (2 * (closeO k17).n).toNat (closeO k17).m (-1) 1)) = false := by kernel_rfl
theorem k17_s4 (A : Option Addr) (cap : Nat) (W : World) (h : Rd W W.heap.size A k17.m) : Calls Tryz.prog 43 #[.agg #[.int .i64 1, false, .slice A 4 cap], .agg #[.int .i64 0, .int .i64 0, .int .i64 4, .int .i64 0, .int .i64 (-1), .int .i64 0, .int .i64 0, .int .i64 0, .int .i64 (-1), .int .i64 1], .int .i64 0] W fun e w' => e = .returned (.tuple #[true, .int .i64 0]) ∧ Below W.heap.size W w' := by
 have q := sedge_4 k17 (transAns k17 (e17 4)) 0 0 0 (-1) 0 0 0 (-1) 1 0 (by omega) (by unfold I64; omega) k17_ok (by show (0 : Int) < 1; omega) (by unfold I64; omega) (closeO k17) rfl A cap W h (by rw [k17_len]; omega) (fun V hV hr => by
  have h2 := tEdge_self k17 0 0 (-1) 0 0 (-1) 1 0 (by unfold I64; omega) (by omega) (by omega) (by show (0 : Int) < 1; omega) A cap V hr (by rw [k17_len]; omega) W.heap.size hV
  rw [show (⟨0, 0, 4, ((0 : Nat) : Int), -1, 0, ((0 : Nat) : Int), 0, -1, 1⟩ : Edg) = e17 4 from rfl, k17_e4] at h2
  exact h2)
 rw [k17_4, k17_len] at q
 exact q
theorem k17_s5 (A : Option Addr) (cap : Nat) (W : World) (h : Rd W W.heap.size A k17.m) : Calls Tryz.prog 43 #[.agg #[.int .i64 1, false, .slice A 4 cap], .agg #[.int .i64 0, .int .i64 0, .int .i64 5, .int .i64 0, .int .i64 (-1), .int .i64 0, .int .i64 0, .int .i64 0, .int .i64 (-1), .int .i64 1], .int .i64 0] W fun e w' => e = .returned (.tuple #[false, .int .i64 0]) ∧ Below W.heap.size W w' := by
 have q := sedge_5 k17 (transAns k17 (e17 5)) 0 0 0 (-1) 0 0 0 (-1) 1 0 (by omega) (by unfold I64; omega) k17_ok (by show (0 : Int) < 1; omega) (by unfold I64; omega) (closeO k17) rfl A cap W h (by rw [k17_len]; omega) (fun V hV hr => by
  have h2 := tEdge_self5 k17 0 0 (-1) 0 0 (-1) 1 0 (by unfold I64; omega) (by omega) (by omega) (by show (0 : Int) < 1; omega) A cap V hr (by rw [k17_len]; omega) W.heap.size hV
  rw [show (⟨0, 0, 5, ((0 : Nat) : Int), -1, 0, ((0 : Nat) : Int), 0, -1, 1⟩ : Edg) = e17 5 from rfl, k17_e5] at h2
  exact h2)
 rw [k17_5, k17_len] at q
 exact q
def r15 : Rg := ⟨1, 5, true, true⟩
theorem k17_f (W : World) : Calls Tryz.prog 46 #[.int .i64 7, .agg #[.int .i64 0, .int .i64 0, false, false], .agg #[.int .i64 1, .int .i64 5, true, true]] W fun e w' => e = .returned (.bool true) ∧ Below W.heap.size W w' :=
 safefits_7 rg0 r15 (by unfold rg0 loR hiR I64; simp) (by unfold r15 loR hiR I64; simp) W
theorem known17_any (w : World) :
  Calls Tryz.prog 42 #[] w fun e w' => e = .returned (.bool true) ∧ Below w.heap.size w w' := by
 have u_len : (topM 2 2).length = 4 := topM_len 2 2
 have HL := hid k17_len
 have HS4 := hid k17_s4
 have HS5 := hid k17_s5
 go_enter Tryz.func42, Tryz.ntmps42
 go_wp2_with fail
 refine (rtop_any 1 2 w (by omega) rfl).mono ?_
 rintro e1 w1 ⟨A1, c1, rfl, a2, a5⟩
 dsimp only at a2 ⊢
 rw [u_len]
 have a7 := hid (rbound_ok 1 (topM 2 2) 2 0 1 w.heap.size 10 A1 c1 w1 a2 a5.size rfl (by omega) u_len (by omega) (by omega) (by omega))
 rw [u_len] at a7
 go_wp2_with fail
 refine a7.out.mono ?_
 clear a7
 rintro e2 w2 ⟨rfl, a0, hb2⟩
 have a1 : Below w.heap.size w w2 := a5.trans hb2
 replace a0 : Own w2 w.heap.size A1 c1 k17.m := a0
 have hg : w.heap.size ≤ w2.heap.size := a1.size
 clear a2 a5 hb2 u_len
 obtain ⟨p1, p2, a4, -⟩ := new_two w2 #[.int .i64 1, false, .slice A1 4 c1] #[.int .i64 0, .int .i64 0, .int .i64 4, .int .i64 0, .int .i64 (-1), .int .i64 0, .int .i64 0, .int .i64 0, .int .i64 (-1), .int .i64 1] 24 44
 replace a0 := a0.below a4
 replace a1 := bup a1 a4
 clear a4
 obtain ⟨x0, x1, x2, fx⟩ := octbox p1
 obtain ⟨y0, y1, y2, y3, y4, y5, y6, y7, y8, y9, fy⟩ := edgbox p2
 go_wp2_with fail
 clear x0 x1 x2 fx y0 y1 y2 y3 y4 y5 y6 y7 y8 y9 fy
 generalize (w2.alloc (Obj.cells #[.int .i64 1, false, .slice A1 4 c1] 24)).alloc (Obj.cells #[.int .i64 0, .int .i64 0, .int .i64 4, .int .i64 0, .int .i64 (-1), .int .i64 0, .int .i64 0, .int .i64 0, .int .i64 (-1), .int .i64 1] 44) = w3 at *
 generalize w2.heap.size = g1 at *
 (with_reducible refine (HS4.out A1 c1 w3 a0.rd).mono ?_)
 rintro e4 w4 ⟨rfl, a3⟩
 replace p1 := p1.later a3
 replace p2 := p2.later a3
 replace a0 := a0.below a3
 replace a1 := bup a1 a3
 clear a3 HS4
 obtain ⟨y0, y1, y2, y3, y4, y5, y6, y7, y8, y9, fy⟩ := edgbox p2
 have q2 := p2.set_ 2 (.int .i64 5)
 have q1 := p1.far (p := ⟨g1 + 1, 2, none⟩) (by simp) (.int .i64 5)
 have o2 := a0.far1 (i := 2) (v := .int .i64 5) (own_blk' a0 p2 (by decide))
 have a6 := a1.trans (below1 (i := 2) (v := .int .i64 5) (show w.heap.size ≤ g1 + 1 by omega) a1.size)
 obtain ⟨x0, x1, x2, fx⟩ := octbox p1
 go_wp2_with fail
 clear x0 x1 x2 fx y0 y1 y2 y3 y4 y5 y6 y7 y8 y9 fy p1 p2 a0 a1
 generalize w4.setCell ⟨g1 + 1, 2, none⟩ (.int .i64 5) = w5 at *
 (with_reducible refine (HS5.out A1 c1 w5 o2.rd).mono ?_)
 rintro e6 w6 ⟨rfl, hb6⟩
 replace a6 := bup a6 hb6
 clear hb6 HS5 q1 q2 o2
 go_wp2_with fail
 (with_reducible refine (k17_f _).mono ?_)
 rintro e7 w7 ⟨rfl, hb7⟩
 go_wp2
 go_ret
 exact ⟨rfl, bup a6 hb7⟩
end
section
open Go.RowKit
set_option maxRecDepth 100000
set_option maxHeartbeats 8000000
attribute [local go_sem ↓] Go.wp_at_zero Go.wp_at_succ
def within (n i j : Int) : Bool := decide (0 ≤ i ∧ i < 2 * n ∧ 0 ≤ j ∧ j < 2 * n)
theorem with_bad (o : O) (i j c : Int) (A : Option Addr) (cap : Nat) (w : World) (hx : Rd w w.heap.size A o.m) (hm : o.m.length ≤ 17592186044416) (hbad : check o ≠ 0 ∨ within o.n i j = false) :
  Calls Tryz.prog 50 #[.agg #[o.n, o.e, .slice A o.m.length cap], i, j, c] w fun e w' => ∃ er, er ≠ 0 ∧ OctErr w ⟨0, false, []⟩ er e w' := by
 obtain ⟨p0, p1, a0, hsz⟩ := new_two w #[o.n, o.e, .slice A o.m.length cap] #[.int .i64 0, false, .slice none 0 0] 24 24
 have hx0 := hx.up a0
 have HSZ := hid hsz
 have HC := hid (check_any o A cap _ hx0 (by omega))
 have HR := hid (fun (h : check o = 0) => show 0 ≤ o.n ∧ o.n ≤ 64 from ⟨(check_ok h).1, (check_ok h).2.1⟩)
 have HB := hid hbad
 clear hsz hbad
 generalize check o = k at *
 go_enter Tryz.func50, Tryz.ntmps50
 go_wp2_with fail
 generalize (w.alloc (Obj.cells #[o.n, o.e, .slice A o.m.length cap] 24)).alloc (Obj.cells #[.int .i64 0, false, .slice none 0 0] 24) = w0 at *
 (with_reducible refine HC.out.mono ?_)
 clear HC
 rintro e1 w1 ⟨rfl, a6⟩
 replace p0 := p0.later a6
 replace p1 := p1.later a6
 replace a0 := bup a0 a6
 obtain ⟨y0, y1, y2, fy⟩ := octbox p1
 by_cases hk : k = 0
 ·subst hk
  obtain ⟨x0, x1, x2, fx⟩ := octbox p0
  have hw : within o.n i j = false := HB.out.resolve_left (by simp)
  have HW := hid (within_any o.n o.e A o.m.length cap i j w1 (HR.out rfl).1 (HR.out rfl).2)
  rw [show decide (0 ≤ i ∧ i < 2 * o.n ∧ 0 ≤ j ∧ j < 2 * o.n) = false from hw] at HW
  go_wp2_with fail
  (with_reducible refine HW.out.mono ?_)
  clear HW x0 x1 x2 fx y0 y1 y2 fy
  rintro e2 w2 ⟨rfl, a3⟩
  replace p1 := p1.later a3
  replace a0 := bup a0 a3
  obtain ⟨y0, y1, y2, fy⟩ := octbox p1
  go_wp2
  clear y0 y1 y2 fy
  have q3 := p1.set3 (v0 := .int .i64 0) (v1 := .bool false) (v2 := .slice none 0 0)
  obtain ⟨z0, z1, z2, fz⟩ := octbox q3
  refine bodyPost_ret (v := .tuple #[.agg #[.int .i64 0, false, .slice none 0 0], .int .i64 122]) (by simp [results, Tryz.results50, go_sem, z0, z1, z2]) rfl ⟨_, by omega, none, 0, rfl, own_nil _ _, a0.trans (below3 (by omega) a0.size)⟩
 ·have t1 : (k != 0) = true := by simpa using hk
  go_wp2
  clear y0 y1 y2 fy
  have q3 := p1.set3 (v0 := .int .i64 0) (v1 := .bool false) (v2 := .slice none 0 0)
  obtain ⟨z0, z1, z2, fz⟩ := octbox q3
  refine bodyPost_ret (v := .tuple #[.agg #[.int .i64 0, false, .slice none 0 0], k]) (by simp [results, Tryz.results50, go_sem, z0, z1, z2]) rfl ⟨_, hk, none, 0, rfl, own_nil _ _, a0.trans (below3 (by omega) a0.size)⟩
theorem calm14_ok (o : O) (A : Option Addr) (cap : Nat) (w : World) (hx : Rd w w.heap.size A o.m) (hm : o.m.length ≤ 17592186044416) (hk : check o = 0) :
  Calls Tryz.prog 51 #[.agg #[o.n, o.e, .slice A o.m.length cap]] w (SomeBool w) := by
 have a0 := new1 w (Obj.cells #[o.n, o.e, .slice A o.m.length cap] 24)
 have p0 := Blk.new w 24 #[o.n, o.e, .slice A o.m.length cap]
 have HC := hid (r13_any o A cap _ (hx.up a0) hm hk)
 clear hk
 go_enter Tryz.func51, Tryz.ntmps51
 obtain ⟨x0, x1, x2, fx⟩ := octbox p0
 go_wp2_with fail
 (with_reducible refine HC.out.mono ?_)
 clear HC x0 x1 x2 fx
 generalize w.alloc (Obj.cells #[o.n, o.e, .slice A o.m.length cap] 24) = w0 at *
 generalize closeO o = q at *
 rintro e1 w1 ⟨A1, c1, s1, rfl, a1, a6⟩
 go_wp2
 go_ret
 exact ⟨_, rfl, bup (bup a0 a6) (new1 _ _)⟩
theorem with_all (o : O) (i j c : Int) (A : Option Addr) (cap : Nat) (w : World) (hx : Rd w w.heap.size A o.m) (hm : o.m.length ≤ 17592186044416) :
  Calls Tryz.prog 50 #[.agg #[o.n, o.e, .slice A o.m.length cap], i, j, c] w fun e w' => ∃ (q : O) (er : Int), OctErr w q er e w' ∧ (er = 0 → check o = 0 ∧ ∃ i' j' : Nat, (i' : Int) < 2 * o.n ∧ (j' : Int) < 2 * o.n ∧ q = withO o i' j' c) := by
 by_cases h : check o = 0 ∧ within o.n i j = true
 ·obtain ⟨hk, hw⟩ := h
  unfold within at hw
  rw [decide_eq_true_eq] at hw
  obtain ⟨i0, i1, j0, j1⟩ := hw
  obtain ⟨i', rfl⟩ := Int.eq_ofNat_of_zero_le i0
  obtain ⟨j', rfl⟩ := Int.eq_ofNat_of_zero_le j0
  exact (with_ok o.n o ⟨rfl, hk⟩ i' j' i1 j1 c A cap w hx hm).mono fun e w' h => ⟨_, 0, h, fun _ => ⟨hk, i', j', i1, j1, rfl⟩⟩
 ·have hb : check o ≠ 0 ∨ within o.n i j = false := by
   by_cases hk : check o = 0
   ·right
    cases hw : within o.n i j
    ·rfl
    ·exact absurd ⟨hk, hw⟩ h
   ·exact .inl hk
  exact (with_bad o i j c A cap w hx hm hb).mono fun e w' ⟨er, h1, h2⟩ => ⟨_, er, h2, fun h => absurd h h1⟩
theorem safeStays_walk (o : O) (fr te kd dst arr op av an bv bn sz i j c : Int) (ia : I64 an) (ib : I64 bn) (A : Option Addr) (cap : Nat) (w : World) (hx : Rd w w.heap.size A o.m) (hm : o.m.length ≤ 17592186044416) :
  Calls Tryz.prog 15 #[.agg #[o.n, o.e, .slice A o.m.length cap], .agg #[fr, te, kd, dst, arr, op, av, an, bv, bn], sz, i, j, c] w fun e w' => e = .returned (.bool true) ∧ Below w.heap.size w w' := by
 have HS := hid (fun W (h : Rd W W.heap.size A o.m) => sEdge_all o fr te kd dst arr op av an bv bn sz ia ib A cap W h hm)
 have HS2 := hid (fun (q : O) A' cap' W (h : Rd W W.heap.size A' q.m) (hm : q.m.length ≤ 17592186044416) => sEdge_all q fr te kd dst arr op av an bv bn sz ia ib A' cap' W h hm)
 have HW := hid (fun W (h : Rd W W.heap.size A o.m) => with_all o i j c A cap W h hm)
 have HC := hid (fun (hk : check o = 0) W (h : Rd W W.heap.size A o.m) => calm14_ok o A cap W h hm hk)
 have a2 := hid (fun (q : O) (i' j' : Nat) (hk : check o = 0) (hi : (i' : Int) < 2 * o.n) (hj : (j' : Int) < 2 * o.n) (hq : q = withO o i' j' c) (hE : transErr o ⟨fr, te, kd, dst, arr, op, av, an, bv, bn⟩ = 0) (hs : safeB (closeO o) kd av an bv bn sz = true) =>
  show check q = 0 ∧ q.m.length ≤ 17592186044416 ∧ transErr q ⟨fr, te, kd, dst, arr, op, av, an, bv, bn⟩ = 0 ∧ safeB (closeO q) kd av an bv bn sz = true from by
   have ok : OkO o.n q := by rw [hq]; exact OkO.with_ ⟨rfl, hk⟩ hi hj c
   obtain ⟨-, hr⟩ := err_right hE
   refine ⟨ok.ok, by have := ok.small; omega, ?_, ?_⟩
   ·unfold transErr
    rw [if_neg (by rw [ok.ok]; simp), ok.n_, if_pos hr]
   ·rw [hq]
    exact stays_law (e := ⟨fr, te, kd, dst, arr, op, av, an, bv, bn⟩) sz hk hi hj hr ia ib hs)
 generalize hE : transErr o ⟨fr, te, kd, dst, arr, op, av, an, bv, bn⟩ = E at *
 generalize hQ : safeB (closeO o) kd av an bv bn sz = Q at *
 clear hE hQ
 obtain ⟨X, hX⟩ : ∃ X, X = (if E = 0 then Q else false) := ⟨_, rfl⟩
 rw [← hX] at HS
 have HX := hid hX
 clear hX ia ib hm
 obtain ⟨p0, p1, a0, -⟩ := new_two w #[o.n, o.e, .slice A o.m.length cap] #[fr, te, kd, dst, arr, op, av, an, bv, bn] 24 44
 replace hx := hx.up a0
 go_enter Tryz.func15, Tryz.ntmps15
 go_wp2_with fail
 generalize (w.alloc (Obj.cells #[o.n, o.e, .slice A o.m.length cap] 24)).alloc (Obj.cells #[fr, te, kd, dst, arr, op, av, an, bv, bn] 44) = w1 at *
 (with_reducible refine (known17_any w1).mono ?_)
 rintro e2 w2 ⟨rfl, a3⟩
 replace p0 := p0.later a3
 replace p1 := p1.later a3
 replace hx := hx.up a3
 replace a0 := bup a0 a3
 clear a3
 obtain ⟨x0, x1, x2, fx⟩ := octbox p0
 obtain ⟨y0, y1, y2, y3, y4, y5, y6, y7, y8, y9, fy⟩ := edgbox p1
 go_wp2_with fail
 clear x0 x1 x2 fx y0 y1 y2 y3 y4 y5 y6 y7 y8 y9 fy
 (with_reducible refine (HS.out w2 hx).mono ?_)
 rintro e3 w3 ⟨rfl, a7⟩
 replace p0 := p0.later a7
 replace p1 := p1.later a7
 replace hx := hx.up a7
 replace a0 := bup a0 a7
 clear a7 HS
 obtain ⟨x0, x1, x2, fx⟩ := octbox p0
 go_wp2_with fail
 clear x0 x1 x2 fx
 (with_reducible refine (HW.out w3 hx).mono ?_)
 rintro e4 w4 ⟨q, er, ⟨A1, c1, rfl, a1, hb4⟩, hq⟩
 have HQ := hid hq
 clear hq HW
 have n5 := new1 w4 (.cells #[q.n, q.e, .slice A1 q.m.length c1] 24)
 have a4 := bup hb4 n5
 replace p0 := p0.later a4
 replace p1 := p1.later a4
 replace hx := hx.up a4
 replace a0 := bup a0 a4
 replace a1 := a1.below n5
 have p2 := Blk.new w4 24 #[q.n, q.e, .slice A1 q.m.length c1]
 clear hb4 n5 a4
 by_cases hE : E = 0
 rotate_left
 ·have t1 : (E != 0) = true := by simpa using hE
  have hX : X = false := by rw [HX.out, if_neg hE]
  subst hX
  clear HX HQ a2 HC
  go_wp2
  go_ret
  exact ⟨rfl, a0⟩
 subst hE
 by_cases hr : er = 0
 rotate_left
 ·have t1 : (er != 0) = true := by simpa using hr
  clear HX HQ a2 HC
  go_wp2
  go_ret
  exact ⟨rfl, a0⟩
 subst hr
 obtain ⟨hk, i', j', hi, hj, hq⟩ := HQ.out rfl
 have hXQ : X = Q := by rw [HX.out]; rfl
 subst hXQ
 clear HX HQ
 cases X
 ·clear a2 HC hk hi hj hq
  go_wp2
  go_ret
  exact ⟨rfl, a0⟩
 obtain ⟨l1, l2, l3, l4⟩ := a2.out q i' j' hk hi hj hq (by first | rfl | trivial) (by first | rfl | trivial)
 have HC1 := hid (HC.out hk)
 have HC2 := hid (fun W (h : Rd W W.heap.size A1 q.m) => calm14_ok q A1 c1 W h l2 l1)
 have a9 := hid (fun W (h : Rd W W.heap.size A1 q.m) => HS2.out q A1 c1 W h l2)
 rw [l3, l4] at a9
 clear HC a2 HS2 hk hi hj hq l1 l2 l3 l4
 have hy := a1.rd
 clear a1
 obtain ⟨x0, x1, x2, fx⟩ := octbox p0
 go_wp2_with fail
 clear x0 x1 x2 fx
 generalize w4.alloc (.cells #[q.n, q.e, .slice A1 q.m.length c1] 24) = w5 at *
 (with_reducible refine (HC1.out w5 hx).mono ?_)
 rintro e6 w6 ⟨s1, rfl, a5⟩
 replace p1 := p1.later a5
 replace p2 := p2.later a5
 replace hy := hy.up a5
 replace a0 := bup a0 a5
 clear a5 HC1 hx p0
 cases s1
 ·go_wp2
  go_ret
  exact ⟨rfl, a0⟩
 obtain ⟨x0, x1, x2, fx⟩ := octbox p2
 go_wp2_with fail
 clear x0 x1 x2 fx
 (with_reducible refine (HC2.out w6 hy).mono ?_)
 rintro e7 w7 ⟨s2, rfl, a8⟩
 replace p1 := p1.later a8
 replace p2 := p2.later a8
 replace hy := hy.up a8
 replace a0 := bup a0 a8
 clear a8 HC2
 cases s2
 ·go_wp2
  go_ret
  exact ⟨rfl, a0⟩
 obtain ⟨x0, x1, x2, fx⟩ := octbox p2
 obtain ⟨y0, y1, y2, y3, y4, y5, y6, y7, y8, y9, fy⟩ := edgbox p1
 go_wp2_with fail
 clear x0 x1 x2 fx y0 y1 y2 y3 y4 y5 y6 y7 y8 y9 fy
 refine (a9.out w7 hy).mono ?_
 rintro e8 w8 ⟨rfl, hb8⟩
 replace a0 := bup a0 hb8
 clear a9
 go_wp2
 go_ret
 exact ⟨rfl, a0⟩
theorem safeStays_walkE (o : O) (e : Edg) (sz i j c : Int) (_ : I64 c) (ia : I64 e.an) (ib : I64 e.bn) (A : Option Addr) (cap : Nat) (w : World) (hx : Rd w w.heap.size A o.m) (hm : o.m.length ≤ 17592186044416) :
  Calls Tryz.prog 15 #[.agg #[o.n, o.e, .slice A o.m.length cap], e.val, sz, i, j, c] w fun e w' => e = .returned (.bool true) ∧ Below w.heap.size w w' :=
 safeStays_walk o e.fr e.te e.kd e.dst e.arr e.op e.av e.an e.bv e.bn sz i j c ia ib A cap w hx hm
end
end Go.Proofs.YtnmpgijiimglcaaGreat
