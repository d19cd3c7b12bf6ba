import Derived.Test.YtnmpgijiimglcaaGreatBSe33
import Derived.Test.YtnmpgijiimglcaaGreatBSe39
import Derived.Test.YtnmpgijiimglcaaGreatBSe40
import Derived.Test.YtnmpgijiimglcaaGreatBSe41
import Derived.Test.YtnmpgijiimglcaaGreatBSe42
import Derived.Test.YtnmpgijiimglcaaGreatBSe45
namespace Go.Proofs.YtnmpgijiimglcaaGreat
open Go.RowKit
set_option maxRecDepth 100000
set_option maxHeartbeats 8000000
structure Rt (n kd dst op av bv : Int) : Prop where
 kd_ : 1 ≤ kd ∧ kd ≤ 14
 dst_ : 2 ≤ kd → kd ≤ 10 → 0 ≤ dst ∧ dst < n
 op_ : kd = 12 → 1 ≤ op ∧ op ≤ 6
 a_ : av = -1 ∨ (0 ≤ av ∧ av < n)
 b_ : bv = -1 ∨ (0 ≤ bv ∧ bv < n)
theorem zcv {n fr te kd dst arr op av an bv bn : Int} (h : rightT n ⟨fr, te, kd, dst, arr, op, av, an, bv, bn⟩ = true) : Rt n kd dst op av bv := by
 unfold rightT rightE at h
 simp only [Bool.and_eq_true, decide_eq_true_eq] at h
 obtain ⟨⟨⟨⟨⟨h1, h2⟩, _⟩, h4⟩, h5⟩, h6⟩ := h
 refine ⟨h1, fun q1 q2 => ?_, fun q => ?_, ?_, ?_⟩
 ·have e : wDst kd = true := by unfold wDst; rw [decide_eq_true_eq]; exact ⟨q1, q2⟩
  rw [e] at h2
  simpa using h2
 ·have e : wOp kd = true := by unfold wOp; rw [decide_eq_true_eq]; exact q
  rw [e] at h4
  simpa using h4
 ·cases e : wA kd
  ·rw [e] at h5; simp [zaD] at h5; exact .inl h5.1
  ·rw [e] at h5; simp [opdOk] at h5; omega
 ·cases e : wB kd
  ·rw [e] at h6; simp [zaD] at h6; exact .inl h6.1
  ·rw [e] at h6; simp [opdOk] at h6; omega
theorem ze8 {o : O} {e : Edg} (h : transErr o e = 0) : check o = 0 ∧ rightT o.n e = true := by
 unfold transErr at h
 by_cases hc : check o = 0
 ·rw [if_neg (by simp [hc])] at h
  by_cases hr : rightT o.n e = true
  ·exact ⟨hc, hr⟩
  ·rw [if_neg hr] at h; cases h
 ·rw [if_pos hc] at h; exact absurd h hc
section
variable {n : Int} {cm : List Int} {N : Nat} (hN : (N : Int) = 2 * n) (hn : N ≤ 128) (hc : Cells N cm) {A : Option Addr} {cap : Nat} {W : World} {B : Nat} (hB : B ≤ W.heap.size) (h : Sx W B A cm)
include hN hn hc hB h
theorem zfl (d j : Nat) (hd : (d : Int) < n) (hj : (j : Int) < 2 * n) : Calls Tryz.prog 134 #[.agg #[n, false, .slice A cm.length cap], (d : Int), (j : Int)] W (zar W B (linkO ⟨n, false, cm⟩ (2 * d) j 0)) :=
 (zg0 ⟨n, false, cm⟩ (OkO.of_cells hN hn hc).ok d j hd hj A cap W (h.rd hB) (OkO.small (OkO.of_cells hN hn hc))).mono fun _ _ q => q.sx hB
theorem zjo (v : Nat) : Calls Tryz.prog 137 #[.agg #[n, false, .slice A cm.length cap], (v : Int)] W (zar W B (ze6 ⟨n, false, cm⟩ v)) := by
 have e : ze6 ⟨n, false, cm⟩ v = closeO ⟨n, false, zc3 N v cm⟩ := by
  have hNt : (2 * n).toNat = N := by omega
  unfold ze6
  dsimp only
  rw [hNt]
 rw [e]
 exact (zia n cm N hN hn hc v A cap W (h.rd hB) (OkO.small (OkO.of_cells hN hn hc))).mono fun _ _ q => q.sx hB
theorem zdN (d y : Nat) (hd : (d : Int) < n) (hy : (y : Int) < n) (k : Int) : Calls Tryz.prog 197 #[.agg #[n, false, .slice A cm.length cap], (d : Int), (y : Int), k] W (zar W B (zcu ⟨n, false, cm⟩ d y k)) := by
 have okc : OkO n ⟨n, false, cm⟩ := OkO.of_cells hN hn hc
 have hm := OkO.small okc
 have hNt : (2 * n).toNat = N := by omega
 unfold zcu
 by_cases hk : 2305843009213693952 < k ∨ k < -2305843009213693952
 ·rw [if_pos hk]
  exact (zgM ⟨n, false, cm⟩ okc.ok d hd y k (by omega) A cap W (h.rd hB) hm).mono fun _ _ q => q.sx hB
 ·rw [if_neg hk]
  by_cases hyd : y = d
  ·subst hyd
   rw [if_neg (by simp)]
   dsimp only
   rw [hNt]
   exact (zdS n cm N hN hn hc y hd k (by omega) A cap W (h.rd hB) hm).mono fun _ _ q => q.sx hB
  ·rw [if_pos hyd]
   exact (zgK ⟨n, false, cm⟩ okc.ok d y hd hy hyd k (by omega) A cap W (h.rd hB) hm).mono fun _ _ q => q.sx hB
end
theorem zgY {n : Int} {o : O} (ok : OkO n o) {A : Option Addr} {cap : Nat} {W : World} {B : Nat} (hB : B ≤ W.heap.size) (h : Sx W B A o.m) (fr te arr op av an bv bn : Int) (d : Nat) (hd : (d : Int) < n) (ia : I64 an) (ib : I64 bn) :
  Calls Tryz.prog 136 #[.agg #[o.n, o.e, .slice A o.m.length cap], .agg #[fr, te, .int .i64 3, (d : Int), arr, op, av, an, bv, bn]] W (zar W B (zaO o 3 d an bn)) :=
 (ziB o ok.ok fr te arr op av an bv bn d (by rw [ok.n_]; exact hd) ia ib A cap W (h.rd hB) (OkO.small ok)).mono fun _ _ q => q.sx hB
theorem zgQ {n : Int} {o : O} (ok : OkO n o) {A : Option Addr} {cap : Nat} {W : World} {B : Nat} (hB : B ≤ W.heap.size) (h : Sx W B A o.m) (fr te arr op av an bv bn : Int) (d : Nat) (hd : (d : Int) < n) (ia : I64 an) (ib : I64 bn) :
  Calls Tryz.prog 136 #[.agg #[o.n, o.e, .slice A o.m.length cap], .agg #[fr, te, .int .i64 4, (d : Int), arr, op, av, an, bv, bn]] W (zar W B (zaO o 4 d an bn)) :=
 (ziK o ok.ok fr te arr op av an bv bn d (by rw [ok.n_]; exact hd) ia ib A cap W (h.rd hB) (OkO.small ok)).mono fun _ _ q => q.sx hB
theorem zgZ {n : Int} {o : O} (ok : OkO n o) {A : Option Addr} {cap : Nat} {W : World} {B : Nat} (hB : B ≤ W.heap.size) (h : Sx W B A o.m) (fr te arr op av an bv bn : Int) (d : Nat) (hd : (d : Int) < n) (ia : I64 an) (ib : I64 bn) :
  Calls Tryz.prog 136 #[.agg #[o.n, o.e, .slice A o.m.length cap], .agg #[fr, te, .int .i64 5, (d : Int), arr, op, av, an, bv, bn]] W (zar W B (zaO o 5 d an bn)) :=
 (zhO o ok.ok fr te arr op av an bv bn d (by rw [ok.n_]; exact hd) ia ib A cap W (h.rd hB) (OkO.small ok)).mono fun _ _ q => q.sx hB
theorem zgo {n : Int} {o : O} (ok : OkO n o) {A : Option Addr} {cap : Nat} {W : World} {B : Nat} (hB : B ≤ W.heap.size) (h : Sx W B A o.m) (fr te arr op av an bv bn : Int) (d : Nat) (hd : (d : Int) < n) (ia : I64 an) (ib : I64 bn) :
  Calls Tryz.prog 136 #[.agg #[o.n, o.e, .slice A o.m.length cap], .agg #[fr, te, .int .i64 6, (d : Int), arr, op, av, an, bv, bn]] W (zar W B (zaO o 6 d an bn)) :=
 (zg5 o ok.ok fr te arr op av an bv bn d (by rw [ok.n_]; exact hd) ia ib A cap W (h.rd hB) (OkO.small ok)).mono fun _ _ q => q.sx hB
theorem zgU {n : Int} {o : O} (ok : OkO n o) {A : Option Addr} {cap : Nat} {W : World} {B : Nat} (hB : B ≤ W.heap.size) (h : Sx W B A o.m) (fr te arr op av an bv bn : Int) (d : Nat) (hd : (d : Int) < n) (ia : I64 an) (ib : I64 bn) :
  Calls Tryz.prog 136 #[.agg #[o.n, o.e, .slice A o.m.length cap], .agg #[fr, te, .int .i64 7, (d : Int), arr, op, av, an, bv, bn]] W (zar W B (zaO o 7 d an bn)) :=
 (zhH o ok.ok fr te arr op av an bv bn d (by rw [ok.n_]; exact hd) ia ib A cap W (h.rd hB) (OkO.small ok)).mono fun _ _ q => q.sx hB
theorem zgt {n : Int} {o : O} (ok : OkO n o) {A : Option Addr} {cap : Nat} {W : World} {B : Nat} (hB : B ≤ W.heap.size) (h : Sx W B A o.m) (fr te arr op av an bv bn : Int) (d : Nat) (hd : (d : Int) < n) (ia : I64 an) (ib : I64 bn) :
  Calls Tryz.prog 136 #[.agg #[o.n, o.e, .slice A o.m.length cap], .agg #[fr, te, .int .i64 8, (d : Int), arr, op, av, an, bv, bn]] W (zar W B (zaO o 8 d an bn)) :=
 (zig o ok.ok fr te arr op av an bv bn d (by rw [ok.n_]; exact hd) ia ib A cap W (h.rd hB) (OkO.small ok)).mono fun _ _ q => q.sx hB
theorem zio (n : Int) (cm : List Int) (N : Nat) (hN : (N : Int) = 2 * n) (hn : N ≤ 128) (hc : Cells N cm) (fr te kd dst arr op av an bv bn : Int) (ia : I64 an) (ib : I64 bn) (rt : Rt n kd dst op av bv) (A : Option Addr) (cap : Nat) (W : World) (B : Nat) (hB : B ≤ W.heap.size) (sx : Sx W B A cm) :
  Calls Tryz.prog 68 #[.agg #[n, false, .slice A cm.length cap], .agg #[fr, te, kd, dst, arr, op, av, an, bv, bn]] W (zar W B (zbS ⟨n, false, cm⟩ ⟨fr, te, kd, dst, arr, op, av, an, bv, bn⟩)) := by
 have okc : OkO n ⟨n, false, cm⟩ := OkO.of_cells hN hn hc
 have hm := OkO.small okc
 have hNt : (2 * n).toNat = N := by omega
 obtain ⟨k1, rd, ro, ra, rb⟩ := rt
 have hk : kd = 1 ∨ kd = 2 ∨ kd = 3 ∨ kd = 4 ∨ kd = 5 ∨ kd = 6 ∨ kd = 7 ∨ kd = 8 ∨ kd = 9 ∨ kd = 10 ∨ kd = 11 ∨ kd = 12 ∨ kd = 13 ∨ kd = 14 := by omega
 rcases hk with rfl | rfl | rfl | rfl | rfl | rfl | rfl | rfl | rfl | rfl | rfl | rfl | rfl | rfl
 ·exact zen 1 (by omega) n cm fr te dst arr op av an bv bn ia ib A cap W B hB sx
 ·
  obtain ⟨d0, d1⟩ := rd (by omega) (by omega)
  obtain ⟨d, rfl⟩ : ∃ d : Nat, dst = (d : Int) := ⟨dst.toNat, by omega⟩
  have e : zbS ⟨n, false, cm⟩ ⟨fr, te, 2, (d : Int), arr, op, av, an, bv, bn⟩ = if av < 0 then giveO ⟨n, false, cm⟩ d (oneR an) else if av = (d : Int) then ⟨n, false, cm⟩ else linkO ⟨n, false, cm⟩ (2 * d) (2 * av.toNat) 0 := rfl
  rw [e]
  by_cases ha : av < 0
  ·obtain rfl : av = -1 := by omega
   rw [if_pos ha]
   exact zjK n cm fr te d arr op an bv bn ia ib A cap W B hB sx _ fun W2 hB2 hx2 => zds okc hB2 hx2 d d1 (oneR an) ia
  ·rw [if_neg ha]
   obtain ⟨v, rfl⟩ : ∃ v : Nat, av = (v : Int) := ⟨av.toNat, by omega⟩
   by_cases hv : v = d
   ·subst hv
    rw [if_pos rfl]
    exact zj5 n cm fr te arr op v an bv bn ia ib (by omega) A cap W B hB sx
   ·rw [if_neg (by omega)]
    refine zje n cm fr te d arr op an bv bn ia ib v (by omega) (by omega) A cap W B hB sx _ fun W2 hB2 hx2 => ?_
    have q := zfl hN hn hc (cap := cap) hB2 hx2 d (2 * v) d1 (by omega)
    rw [show ((2 * v : Nat) : Int) = 2 * (v : Int) by omega] at q
    exact q
 ·
  obtain ⟨d0, d1⟩ := rd (by omega) (by omega)
  obtain ⟨d, rfl⟩ : ∃ d : Nat, dst = (d : Int) := ⟨dst.toNat, by omega⟩
  have e : zbS ⟨n, false, cm⟩ ⟨fr, te, 3, (d : Int), arr, op, av, an, bv, bn⟩ = if av < 0 then zaO ⟨n, false, cm⟩ 3 d an bn else if av = (d : Int) then ze6 ⟨n, false, cm⟩ d else linkO ⟨n, false, cm⟩ (2 * d) (2 * av.toNat + 1) 0 := rfl
  rw [e]
  by_cases ha : av < 0
  ·obtain rfl : av = -1 := by omega
   rw [if_pos ha]
   exact zjN n cm fr te d arr op an bv bn ia ib A cap W B hB sx _ fun W2 hB2 hx2 => zgY okc hB2 hx2 fr te arr op (-1) an bv bn d d1 ia ib
  ·rw [if_neg ha]
   obtain ⟨v, rfl⟩ : ∃ v : Nat, av = (v : Int) := ⟨av.toNat, by omega⟩
   by_cases hv : v = d
   ·subst hv
    rw [if_pos rfl]
    exact zjC n cm fr te arr op v an bv bn ia ib (by omega) A cap W B hB sx _ fun W2 hB2 hx2 => zjo hN hn hc hB2 hx2 v
   ·rw [if_neg (by omega)]
    refine zj1 n cm fr te d arr op an bv bn ia ib v (by omega) (by omega) A cap W B hB sx _ fun W2 hB2 hx2 => ?_
    have q := zfl hN hn hc (cap := cap) hB2 hx2 d (2 * v + 1) d1 (by omega)
    rw [show ((2 * v + 1 : Nat) : Int) = 2 * (v : Int) + 1 by omega] at q
    exact q
 ·
  obtain ⟨d0, d1⟩ := rd (by omega) (by omega)
  obtain ⟨d, rfl⟩ : ∃ d : Nat, dst = (d : Int) := ⟨dst.toNat, by omega⟩
  have e : zbS ⟨n, false, cm⟩ ⟨fr, te, 4, (d : Int), arr, op, av, an, bv, bn⟩ = if av < 0 ∧ bv < 0 then zaO ⟨n, false, cm⟩ 4 d an bn else (if 0 ≤ av then (if 0 ≤ bv then sumsO ⟨n, false, cm⟩ d av.toNat bv.toNat false else zcu ⟨n, false, cm⟩ d av.toNat bn) else zcu ⟨n, false, cm⟩ d bv.toNat an) := rfl
  rw [e]
  by_cases hab : av < 0 ∧ bv < 0
  ·rw [if_pos hab]
   exact zcF 4 (by omega) n cm fr te d arr op av an bv bn ia ib hab.1 hab.2 A cap W B hB sx _ fun W2 hB2 hx2 => zgQ okc hB2 hx2 fr te arr op av an bv bn d d1 ia ib
  ·rw [if_neg hab]
   by_cases ha : 0 ≤ av
   ·rw [if_pos ha]
    refine zdo 4 (by omega) n cm fr te d arr op av an bv bn ia ib ha A cap W B hB sx _ fun W2 hB2 hx2 => ?_
    obtain ⟨u, rfl⟩ : ∃ u : Nat, av = (u : Int) := ⟨av.toNat, by omega⟩
    by_cases hb : 0 ≤ bv
    ·rw [if_pos hb]
     refine zh1 n cm fr te d arr op u an bv bn ia ib ha hb A cap W2 B hB2 hx2 _ fun W3 hB3 hx3 => ?_
     obtain ⟨v, rfl⟩ : ∃ v : Nat, bv = (v : Int) := ⟨bv.toNat, by omega⟩
     exact zkD n cm N hN hn hc d u v d1 (by omega) (by omega) A cap W3 B hB3 hx3
    ·rw [if_neg hb]
     exact zg8 n cm fr te d arr op u an bv bn ia ib ha (by omega) A cap W2 B hB2 hx2 _ fun W3 hB3 hx3 => zdN hN hn hc hB3 hx3 d u d1 (by omega) bn
   ·rw [if_neg ha]
    have hb : 0 ≤ bv := by omega
    refine zfR 4 (by omega) n cm fr te d arr op av an bv bn ia ib (by omega) hb A cap W B hB sx _ fun W2 hB2 hx2 => ?_
    refine zg7 n cm fr te d arr op av an bv bn ia ib (by omega) hb A cap W2 B hB2 hx2 _ fun W3 hB3 hx3 => ?_
    obtain ⟨v, rfl⟩ : ∃ v : Nat, bv = (v : Int) := ⟨bv.toNat, by omega⟩
    exact zdN hN hn hc hB3 hx3 d v d1 (by omega) an
 ·
  obtain ⟨d0, d1⟩ := rd (by omega) (by omega)
  obtain ⟨d, rfl⟩ : ∃ d : Nat, dst = (d : Int) := ⟨dst.toNat, by omega⟩
  have e : zbS ⟨n, false, cm⟩ ⟨fr, te, 5, (d : Int), arr, op, av, an, bv, bn⟩ = if av < 0 ∧ bv < 0 then zaO ⟨n, false, cm⟩ 5 d an bn else (if 0 ≤ av then (if 0 ≤ bv then sumsO ⟨n, false, cm⟩ d av.toNat bv.toNat true else (if (negW bn).2 = 0 then zcu ⟨n, false, cm⟩ d av.toNat (-bn) else giveO ⟨n, false, cm⟩ d rg0)) else giveO ⟨n, false, cm⟩ d (restR an (varR (2 * n).toNat cm bv.toNat))) := rfl
  rw [e]
  by_cases hab : av < 0 ∧ bv < 0
  ·rw [if_pos hab]
   exact zcF 5 (by omega) n cm fr te d arr op av an bv bn ia ib hab.1 hab.2 A cap W B hB sx _ fun W2 hB2 hx2 => zgZ okc hB2 hx2 fr te arr op av an bv bn d d1 ia ib
  ·rw [if_neg hab]
   by_cases ha : 0 ≤ av
   ·rw [if_pos ha]
    refine zdo 5 (by omega) n cm fr te d arr op av an bv bn ia ib ha A cap W B hB sx _ fun W2 hB2 hx2 => ?_
    obtain ⟨u, rfl⟩ : ∃ u : Nat, av = (u : Int) := ⟨av.toNat, by omega⟩
    by_cases hb : 0 ≤ bv
    ·rw [if_pos hb]
     refine zg4 n cm fr te d arr op u an bv bn ia ib ha hb A cap W2 B hB2 hx2 _ fun W3 hB3 hx3 => ?_
     obtain ⟨v, rfl⟩ : ∃ v : Nat, bv = (v : Int) := ⟨bv.toNat, by omega⟩
     exact zkA n cm N hN hn hc d u v d1 (by omega) (by omega) A cap W3 B hB3 hx3
    ·rw [if_neg hb]
     by_cases hbn : bn = -9223372036854775808
     ·rw [if_neg (show ¬ (negW bn).2 = 0 by unfold negW; rw [hbn, zbt (by omega)]; decide)]
      exact zi1 n cm fr te d arr op u an bv bn ia ib ha (by omega) hbn A cap W2 B hB2 hx2 _ fun W3 hB3 hx3 => zds okc hB3 hx3 d d1 rg0 (show I64 (0 : Int) by unfold I64; omega)
     ·rw [if_pos (show (negW bn).2 = 0 by unfold negW; rw [zdk (by unfold I64 at ib; omega)])]
      exact zht n cm fr te d arr op u an bv bn ia ib ha (by omega) hbn A cap W2 B hB2 hx2 _ fun W3 hB3 hx3 => zdN hN hn hc hB3 hx3 d u d1 (by omega) (-bn)
   ·rw [if_neg ha]
    have hb : 0 ≤ bv := by omega
    refine zfR 5 (by omega) n cm fr te d arr op av an bv bn ia ib (by omega) hb A cap W B hB sx _ fun W2 hB2 hx2 => ?_
    obtain ⟨v, rfl⟩ : ∃ v : Nat, bv = (v : Int) := ⟨bv.toNat, by omega⟩
    rw [hNt]
    have ir : I64 (restR an (varR N cm v)).lo := by
     unfold restR
     show I64 (if (varR N cm v).hh then (subW an (varR N cm v).hi).1 else 0)
     split
     ·exact zd1 _
     ·unfold I64; omega
    exact zh4 n cm fr te d arr op av an v bn ia ib v rfl N hN hn hc (by omega) (by omega) hm A cap W2 B hB2 hx2 _ fun W3 hB3 hx3 => zds okc hB3 hx3 d d1 _ ir
 ·
  obtain ⟨d0, d1⟩ := rd (by omega) (by omega)
  obtain ⟨d, rfl⟩ : ∃ d : Nat, dst = (d : Int) := ⟨dst.toNat, by omega⟩
  have e : zbS ⟨n, false, cm⟩ ⟨fr, te, 6, (d : Int), arr, op, av, an, bv, bn⟩ = if av < 0 ∧ bv < 0 then zaO ⟨n, false, cm⟩ 6 d an bn else productsO ⟨n, false, cm⟩ 6 d av an bv bn := rfl
  rw [e]
  by_cases hab : av < 0 ∧ bv < 0
  ·rw [if_pos hab]
   exact zcF 6 (by omega) n cm fr te d arr op av an bv bn ia ib hab.1 hab.2 A cap W B hB sx _ fun W2 hB2 hx2 => zgo okc hB2 hx2 fr te arr op av an bv bn d d1 ia ib
  ·rw [if_neg hab]
   by_cases ha : 0 ≤ av
   ·exact zeJ 6 (by omega) n cm fr te d arr op av an bv bn ia ib ha A cap W B hB sx _ fun W2 hB2 hx2 => zdQ n cm N hN hn hc fr te arr op av an bv bn d d1 (by omega) (by omega) ia ib A cap W2 B hB2 hx2
   ·exact zew 6 (by omega) n cm fr te d arr op av an bv bn ia ib (by omega) (by omega) A cap W B hB sx _ fun W2 hB2 hx2 => zdQ n cm N hN hn hc fr te arr op av an bv bn d d1 (by omega) (by omega) ia ib A cap W2 B hB2 hx2
 ·
  obtain ⟨d0, d1⟩ := rd (by omega) (by omega)
  obtain ⟨d, rfl⟩ : ∃ d : Nat, dst = (d : Int) := ⟨dst.toNat, by omega⟩
  have e : zbS ⟨n, false, cm⟩ ⟨fr, te, 7, (d : Int), arr, op, av, an, bv, bn⟩ = if av < 0 ∧ bv < 0 then zaO ⟨n, false, cm⟩ 7 d an bn else productsO ⟨n, false, cm⟩ 7 d av an bv bn := rfl
  rw [e]
  by_cases hab : av < 0 ∧ bv < 0
  ·rw [if_pos hab]
   exact zcF 7 (by omega) n cm fr te d arr op av an bv bn ia ib hab.1 hab.2 A cap W B hB sx _ fun W2 hB2 hx2 => zgU okc hB2 hx2 fr te arr op av an bv bn d d1 ia ib
  ·rw [if_neg hab]
   by_cases ha : 0 ≤ av
   ·exact zeJ 7 (by omega) n cm fr te d arr op av an bv bn ia ib ha A cap W B hB sx _ fun W2 hB2 hx2 => zdZ n cm N hN hn hc fr te arr op av an bv bn d d1 (by omega) (by omega) ia ib A cap W2 B hB2 hx2
   ·exact zew 7 (by omega) n cm fr te d arr op av an bv bn ia ib (by omega) (by omega) A cap W B hB sx _ fun W2 hB2 hx2 => zdZ n cm N hN hn hc fr te arr op av an bv bn d d1 (by omega) (by omega) ia ib A cap W2 B hB2 hx2
 ·
  obtain ⟨d0, d1⟩ := rd (by omega) (by omega)
  obtain ⟨d, rfl⟩ : ∃ d : Nat, dst = (d : Int) := ⟨dst.toNat, by omega⟩
  have e : zbS ⟨n, false, cm⟩ ⟨fr, te, 8, (d : Int), arr, op, av, an, bv, bn⟩ = if av < 0 ∧ bv < 0 then zaO ⟨n, false, cm⟩ 8 d an bn else productsO ⟨n, false, cm⟩ 8 d av an bv bn := rfl
  rw [e]
  by_cases hab : av < 0 ∧ bv < 0
  ·rw [if_pos hab]
   exact zcF 8 (by omega) n cm fr te d arr op av an bv bn ia ib hab.1 hab.2 A cap W B hB sx _ fun W2 hB2 hx2 => zgt okc hB2 hx2 fr te arr op av an bv bn d d1 ia ib
  ·rw [if_neg hab]
   by_cases ha : 0 ≤ av
   ·exact zeJ 8 (by omega) n cm fr te d arr op av an bv bn ia ib ha A cap W B hB sx _ fun W2 hB2 hx2 => zdV n cm N hN hn hc fr te arr op av an bv bn d d1 (by omega) (by omega) ia ib A cap W2 B hB2 hx2
   ·exact zew 8 (by omega) n cm fr te d arr op av an bv bn ia ib (by omega) (by omega) A cap W B hB sx _ fun W2 hB2 hx2 => zdV n cm N hN hn hc fr te arr op av an bv bn d d1 (by omega) (by omega) ia ib A cap W2 B hB2 hx2
 ·
  obtain ⟨d0, d1⟩ := rd (by omega) (by omega)
  obtain ⟨d, rfl⟩ : ∃ d : Nat, dst = (d : Int) := ⟨dst.toNat, by omega⟩
  have e : zbS ⟨n, false, cm⟩ ⟨fr, te, 9, (d : Int), arr, op, av, an, bv, bn⟩ = forgetO ⟨n, false, cm⟩ d := rfl
  rw [e]
  exact zf1 9 (by omega) n cm fr te d arr op av an bv bn ia ib A cap W B hB sx _ fun W2 hB2 hx2 => zcm okc hB2 hx2 d d1
 ·
  obtain ⟨d0, d1⟩ := rd (by omega) (by omega)
  obtain ⟨d, rfl⟩ : ∃ d : Nat, dst = (d : Int) := ⟨dst.toNat, by omega⟩
  have e : zbS ⟨n, false, cm⟩ ⟨fr, te, 10, (d : Int), arr, op, av, an, bv, bn⟩ = forgetO ⟨n, false, cm⟩ d := rfl
  rw [e]
  exact zf1 10 (by omega) n cm fr te d arr op av an bv bn ia ib A cap W B hB sx _ fun W2 hB2 hx2 => zcm okc hB2 hx2 d d1
 ·exact zen 11 (by omega) n cm fr te dst arr op av an bv bn ia ib A cap W B hB sx
 ·have e : zbS ⟨n, false, cm⟩ ⟨fr, te, 12, dst, arr, op, av, an, bv, bn⟩ = zdu ⟨n, false, cm⟩ op av an bv bn := rfl
  rw [e]
  exact ziR n cm fr te dst arr op av an bv bn ia ib A cap W B hB sx _ fun W2 hB2 hx2 => zgB n cm N hN hn hc op av an bv bn (ro rfl) (by omega) (by omega) ia ib A cap W2 B hB2 hx2 hm
 ·exact zen 13 (by omega) n cm fr te dst arr op av an bv bn ia ib A cap W B hB sx
 ·have e : zbS ⟨n, false, cm⟩ ⟨fr, te, 14, dst, arr, op, av, an, bv, bn⟩ = emptyO n := rfl
  rw [e]
  exact zjL n cm fr te dst arr op av an bv bn ia ib A cap W B hB sx _ fun W2 hB2 hx2 => (zbK n W2 (by omega) (by omega)).mono fun _ _ q => q.sx hB2
theorem ziM (o : O) (fr te kd dst arr op av an bv bn : Int) (ia : I64 an) (ib : I64 bn) (A : Option Addr) (cap : Nat) (w : World) (hx : Rd w w.heap.size A o.m) (hm : o.m.length ≤ 17592186044416) (B : Nat) (hB : B ≤ w.heap.size) :
  Calls Tryz.prog 28 #[.agg #[o.n, o.e, .slice A o.m.length cap], .agg #[fr, te, kd, dst, arr, op, av, an, bv, bn]] w (zcX w B (transAns o ⟨fr, te, kd, dst, arr, op, av, an, bv, bn⟩) (transErr o ⟨fr, te, kd, dst, arr, op, av, an, bv, bn⟩)) :=
 zdy o fr te kd dst arr op av an bv bn A cap w hx hm B hB fun he N cm Ac cc W hN hn hc _ hBW hsx _ =>
  zio o.n cm N hN hn hc fr te kd dst arr op av an bv bn ia ib (zcv (ze8 he).2) Ac cc W B hBW hsx
end Go.Proofs.YtnmpgijiimglcaaGreat
