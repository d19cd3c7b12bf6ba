import Derived.Test.YtnmpgijiimglcaaGreatBTt34
import Derived.Test.YtnmpgijiimglcaaGreatBTt35
import Derived.Test.YtnmpgijiimglcaaGreatBTt36
import Derived.Test.YtnmpgijiimglcaaGreatBTt37
import Derived.Test.YtnmpgijiimglcaaGreatBTt40
import Derived.Test.YtnmpgijiimglcaaGreatBTt32
import Derived.Test.YtnmpgijiimglcaaGreatBTt25
import Derived.Test.YtnmpgijiimglcaaGreatBTt09
namespace Go.Proofs.YtnmpgijiimglcaaGreat
open Go.RowKit
set_option maxRecDepth 100000
set_option maxHeartbeats 8000000
section
structure Rt (n kd dst op av bv : Int) : Prop where
 kd_ : 1 ≤ kd ∧ kd ≤ 14
 dst_ : 2 ≤ kd → kd ≤ 10 → 0 ≤ dst ∧ dst < n
 op_ : kd = 12 → 1 ≤ op ∧ op ≤ 6
 a_ : av = -1 ∨ (0 ≤ av ∧ av < n)
 b_ : bv = -1 ∨ (0 ≤ bv ∧ bv < n)
theorem zht {n fr te kd dst arr op av an bv bn : Int} (h : zbd n ⟨fr, te, kd, dst, arr, op, av, an, bv, bn⟩ = true) : Rt n kd dst op av bv := by
 unfold zbd rightE at h
 simp only [Bool.and_eq_true, decide_eq_true_eq] at h
 obtain ⟨⟨⟨⟨⟨h1, h2⟩, _⟩, h4⟩, h5⟩, h6⟩ := h
 refine ⟨h1, fun q1 q2 => ?_, fun q => ?_, ?_, ?_⟩
 ·have e : wDst kd = true := by unfold wDst; rw [decide_eq_true_eq]; exact ⟨q1, q2⟩
  rw [e] at h2
  simpa using h2
 ·have e : wOp kd = true := by unfold wOp; rw [decide_eq_true_eq]; exact q
  rw [e] at h4
  simpa using h4
 ·cases e : wA kd
  ·rw [e] at h5; simp [zaA] at h5; exact .inl h5.1
  ·rw [e] at h5; simp [opdOk] at h5; omega
 ·cases e : wB kd
  ·rw [e] at h6; simp [zaA] at h6; exact .inl h6.1
  ·rw [e] at h6; simp [opdOk] at h6; omega
theorem zcJ {o : O} {e : Edg} (h : transErr o e = 0) : check o = 0 ∧ zbd o.n e = true := by
 unfold transErr at h
 by_cases hc : check o = 0
 ·rw [if_neg (by simp [hc])] at h
  by_cases hr : zbd o.n e = true
  ·exact ⟨hc, hr⟩
  ·rw [if_neg hr] at h; cases h
 ·rw [if_pos hc] at h; exact absurd h hc
section
variable {n : Int} {cm : List Int} {N : Nat} (hN : (N : Int) = 2 * n) (hn : N ≤ 128) (hc : Cells N cm) {A : Option Addr} {cap : Nat} {W : World} {B : Nat} (hB : B ≤ W.heap.size) (h : Sx W B A cm)
include hN hn hc hB h
theorem zgZ (d j : Nat) (hd : (d : Int) < n) (hj : (j : Int) < 2 * n) : Calls Tryz.prog 134 #[.agg #[n, false, .slice A cm.length cap], (d : Int), (j : Int)] W (zan W B (linkO ⟨n, false, cm⟩ (2 * d) j 0)) :=
 (zi5 ⟨n, false, cm⟩ (OkO.of_cells hN hn hc).ok d j hd hj A cap W (h.rd hB) (OkO.small (OkO.of_cells hN hn hc))).mono fun _ _ q => q.sx hB
theorem zly (v : Nat) : Calls Tryz.prog 137 #[.agg #[n, false, .slice A cm.length cap], (v : Int)] W (zan W B (zcF ⟨n, false, cm⟩ v)) := by
 have e : zcF ⟨n, false, cm⟩ v = closeO ⟨n, false, zdk N v cm⟩ := by
  have hNt : (2 * n).toNat = N := by omega
  unfold zcF
  dsimp only
  rw [hNt]
 rw [e]
 exact (zla n cm N hN hn hc v A cap W (h.rd hB) (OkO.small (OkO.of_cells hN hn hc))).mono fun _ _ q => q.sx hB
theorem zeA (d y : Nat) (hd : (d : Int) < n) (hy : (y : Int) < n) (k : Int) : Calls Tryz.prog 197 #[.agg #[n, false, .slice A cm.length cap], (d : Int), (y : Int), k] W (zan W B (zbL ⟨n, false, cm⟩ d y k)) := by
 have okc : OkO n ⟨n, false, cm⟩ := OkO.of_cells hN hn hc
 have hm := OkO.small okc
 have hNt : (2 * n).toNat = N := by omega
 unfold zbL
 by_cases hk : 2305843009213693952 < k ∨ k < -2305843009213693952
 ·rw [if_pos hk]
  exact (zi3 ⟨n, false, cm⟩ okc.ok d hd y k (by omega) A cap W (h.rd hB) hm).mono fun _ _ q => q.sx hB
 ·rw [if_neg hk]
  by_cases hyd : y = d
  ·subst hyd
   rw [if_neg (by simp)]
   dsimp only
   rw [hNt]
   exact (ze8 n cm N hN hn hc y hd k (by omega) A cap W (h.rd hB) hm).mono fun _ _ q => q.sx hB
  ·rw [if_pos hyd]
   exact (zi0 ⟨n, false, cm⟩ okc.ok d y hd hy hyd k (by omega) A cap W (h.rd hB) hm).mono fun _ _ q => q.sx hB
end
theorem zi2 {n : Int} {o : O} (ok : OkO n o) {A : Option Addr} {cap : Nat} {W : World} {B : Nat} (hB : B ≤ W.heap.size) (h : Sx W B A o.m) (fr te arr op av an bv bn : Int) (d : Nat) (hd : (d : Int) < n) (ia : I64 an) (ib : I64 bn) :
  Calls Tryz.prog 136 #[.agg #[o.n, o.e, .slice A o.m.length cap], .agg #[fr, te, .int .i64 3, (d : Int), arr, op, av, an, bv, bn]] W (zan W B (zaF o 3 d an bn)) :=
 (zj7 o ok.ok fr te arr op av an bv bn d (by rw [ok.n_]; exact hd) ia ib A cap W (h.rd hB) (OkO.small ok)).mono fun _ _ q => q.sx hB
theorem zjm {n : Int} {o : O} (ok : OkO n o) {A : Option Addr} {cap : Nat} {W : World} {B : Nat} (hB : B ≤ W.heap.size) (h : Sx W B A o.m) (fr te arr op av an bv bn : Int) (d : Nat) (hd : (d : Int) < n) (ia : I64 an) (ib : I64 bn) :
  Calls Tryz.prog 136 #[.agg #[o.n, o.e, .slice A o.m.length cap], .agg #[fr, te, .int .i64 4, (d : Int), arr, op, av, an, bv, bn]] W (zan W B (zaF o 4 d an bn)) :=
 (zk2 o ok.ok fr te arr op av an bv bn d (by rw [ok.n_]; exact hd) ia ib A cap W (h.rd hB) (OkO.small ok)).mono fun _ _ q => q.sx hB
theorem ziN {n : Int} {o : O} (ok : OkO n o) {A : Option Addr} {cap : Nat} {W : World} {B : Nat} (hB : B ≤ W.heap.size) (h : Sx W B A o.m) (fr te arr op av an bv bn : Int) (d : Nat) (hd : (d : Int) < n) (ia : I64 an) (ib : I64 bn) :
  Calls Tryz.prog 136 #[.agg #[o.n, o.e, .slice A o.m.length cap], .agg #[fr, te, .int .i64 5, (d : Int), arr, op, av, an, bv, bn]] W (zan W B (zaF o 5 d an bn)) :=
 (zko o ok.ok fr te arr op av an bv bn d (by rw [ok.n_]; exact hd) ia ib A cap W (h.rd hB) (OkO.small ok)).mono fun _ _ q => q.sx hB
theorem ziU {n : Int} {o : O} (ok : OkO n o) {A : Option Addr} {cap : Nat} {W : World} {B : Nat} (hB : B ≤ W.heap.size) (h : Sx W B A o.m) (fr te arr op av an bv bn : Int) (d : Nat) (hd : (d : Int) < n) (ia : I64 an) (ib : I64 bn) :
  Calls Tryz.prog 136 #[.agg #[o.n, o.e, .slice A o.m.length cap], .agg #[fr, te, .int .i64 6, (d : Int), arr, op, av, an, bv, bn]] W (zan W B (zaF o 6 d an bn)) :=
 (zkQ o ok.ok fr te arr op av an bv bn d (by rw [ok.n_]; exact hd) ia ib A cap W (h.rd hB) (OkO.small ok)).mono fun _ _ q => q.sx hB
theorem zjk {n : Int} {o : O} (ok : OkO n o) {A : Option Addr} {cap : Nat} {W : World} {B : Nat} (hB : B ≤ W.heap.size) (h : Sx W B A o.m) (fr te arr op av an bv bn : Int) (d : Nat) (hd : (d : Int) < n) (ia : I64 an) (ib : I64 bn) :
  Calls Tryz.prog 136 #[.agg #[o.n, o.e, .slice A o.m.length cap], .agg #[fr, te, .int .i64 7, (d : Int), arr, op, av, an, bv, bn]] W (zan W B (zaF o 7 d an bn)) :=
 (zkL o ok.ok fr te arr op av an bv bn d (by rw [ok.n_]; exact hd) ia ib A cap W (h.rd hB) (OkO.small ok)).mono fun _ _ q => q.sx hB
theorem ziV {n : Int} {o : O} (ok : OkO n o) {A : Option Addr} {cap : Nat} {W : World} {B : Nat} (hB : B ≤ W.heap.size) (h : Sx W B A o.m) (fr te arr op av an bv bn : Int) (d : Nat) (hd : (d : Int) < n) (ia : I64 an) (ib : I64 bn) :
  Calls Tryz.prog 136 #[.agg #[o.n, o.e, .slice A o.m.length cap], .agg #[fr, te, .int .i64 8, (d : Int), arr, op, av, an, bv, bn]] W (zan W B (zaF o 8 d an bn)) :=
 (zkD o ok.ok fr te arr op av an bv bn d (by rw [ok.n_]; exact hd) ia ib A cap W (h.rd hB) (OkO.small ok)).mono fun _ _ q => q.sx hB
theorem zj5 (n : Int) (cm : List Int) (N : Nat) (hN : (N : Int) = 2 * n) (hn : N ≤ 128) (hc : Cells N cm) (fr te kd dst arr op av an bv bn : Int) (ia : I64 an) (ib : I64 bn) (rt : Rt n kd dst op av bv) (A : Option Addr) (cap : Nat) (W : World) (B : Nat) (hB : B ≤ W.heap.size) (sx : Sx W B A cm) :
  Calls Tryz.prog 68 #[.agg #[n, false, .slice A cm.length cap], .agg #[fr, te, kd, dst, arr, op, av, an, bv, bn]] W (zan W B (zbx ⟨n, false, cm⟩ ⟨fr, te, kd, dst, arr, op, av, an, bv, bn⟩)) := by
 have okc : OkO n ⟨n, false, cm⟩ := OkO.of_cells hN hn hc
 have hm := OkO.small okc
 have hNt : (2 * n).toNat = N := by omega
 obtain ⟨k1, rd, ro, ra, rb⟩ := rt
 have hk : kd = 1 ∨ kd = 2 ∨ kd = 3 ∨ kd = 4 ∨ kd = 5 ∨ kd = 6 ∨ kd = 7 ∨ kd = 8 ∨ kd = 9 ∨ kd = 10 ∨ kd = 11 ∨ kd = 12 ∨ kd = 13 ∨ kd = 14 := by omega
 rcases hk with rfl | rfl | rfl | rfl | rfl | rfl | rfl | rfl | rfl | rfl | rfl | rfl | rfl | rfl
 ·exact zgh 1 (by omega) n cm fr te dst arr op av an bv bn ia ib A cap W B hB sx
 ·
  obtain ⟨d0, d1⟩ := rd (by omega) (by omega)
  obtain ⟨d, rfl⟩ : ∃ d : Nat, dst = (d : Int) := ⟨dst.toNat, by omega⟩
  have e : zbx ⟨n, false, cm⟩ ⟨fr, te, 2, (d : Int), arr, op, av, an, bv, bn⟩ = if av < 0 then giveO ⟨n, false, cm⟩ d (oneR an) else if av = (d : Int) then ⟨n, false, cm⟩ else linkO ⟨n, false, cm⟩ (2 * d) (2 * av.toNat) 0 := rfl
  rw [e]
  by_cases ha : av < 0
  ·obtain rfl : av = -1 := by omega
   rw [if_pos ha]
   exact zl5 n cm fr te d arr op an bv bn ia ib A cap W B hB sx _ fun W2 hB2 hx2 => zeq okc hB2 hx2 d d1 (oneR an) ia
  ·rw [if_neg ha]
   obtain ⟨v, rfl⟩ : ∃ v : Nat, av = (v : Int) := ⟨av.toNat, by omega⟩
   by_cases hv : v = d
   ·subst hv
    rw [if_pos rfl]
    exact zmc n cm fr te arr op v an bv bn ia ib (by omega) A cap W B hB sx
   ·rw [if_neg (by omega)]
    refine zmB n cm fr te d arr op an bv bn ia ib v (by omega) (by omega) A cap W B hB sx _ fun W2 hB2 hx2 => ?_
    have q := zgZ hN hn hc (cap := cap) hB2 hx2 d (2 * v) d1 (by omega)
    rw [show ((2 * v : Nat) : Int) = 2 * (v : Int) by omega] at q
    exact q
 ·
  obtain ⟨d0, d1⟩ := rd (by omega) (by omega)
  obtain ⟨d, rfl⟩ : ∃ d : Nat, dst = (d : Int) := ⟨dst.toNat, by omega⟩
  have e : zbx ⟨n, false, cm⟩ ⟨fr, te, 3, (d : Int), arr, op, av, an, bv, bn⟩ = if av < 0 then zaF ⟨n, false, cm⟩ 3 d an bn else if av = (d : Int) then zcF ⟨n, false, cm⟩ d else linkO ⟨n, false, cm⟩ (2 * d) (2 * av.toNat + 1) 0 := rfl
  rw [e]
  by_cases ha : av < 0
  ·obtain rfl : av = -1 := by omega
   rw [if_pos ha]
   exact zmr n cm fr te d arr op an bv bn ia ib A cap W B hB sx _ fun W2 hB2 hx2 => zi2 okc hB2 hx2 fr te arr op (-1) an bv bn d d1 ia ib
  ·rw [if_neg ha]
   obtain ⟨v, rfl⟩ : ∃ v : Nat, av = (v : Int) := ⟨av.toNat, by omega⟩
   by_cases hv : v = d
   ·subst hv
    rw [if_pos rfl]
    exact zm3 n cm fr te arr op v an bv bn ia ib (by omega) A cap W B hB sx _ fun W2 hB2 hx2 => zly hN hn hc hB2 hx2 v
   ·rw [if_neg (by omega)]
    refine zm1 n cm fr te d arr op an bv bn ia ib v (by omega) (by omega) A cap W B hB sx _ fun W2 hB2 hx2 => ?_
    have q := zgZ hN hn hc (cap := cap) hB2 hx2 d (2 * v + 1) d1 (by omega)
    rw [show ((2 * v + 1 : Nat) : Int) = 2 * (v : Int) + 1 by omega] at q
    exact q
 ·
  obtain ⟨d0, d1⟩ := rd (by omega) (by omega)
  obtain ⟨d, rfl⟩ : ∃ d : Nat, dst = (d : Int) := ⟨dst.toNat, by omega⟩
  have e : zbx ⟨n, false, cm⟩ ⟨fr, te, 4, (d : Int), arr, op, av, an, bv, bn⟩ = if av < 0 ∧ bv < 0 then zaF ⟨n, false, cm⟩ 4 d an bn else (if 0 ≤ av then (if 0 ≤ bv then sumsO ⟨n, false, cm⟩ d av.toNat bv.toNat false else zbL ⟨n, false, cm⟩ d av.toNat bn) else zbL ⟨n, false, cm⟩ d bv.toNat an) := rfl
  rw [e]
  by_cases hab : av < 0 ∧ bv < 0
  ·rw [if_pos hab]
   exact zdD 4 (by omega) n cm fr te d arr op av an bv bn ia ib hab.1 hab.2 A cap W B hB sx _ fun W2 hB2 hx2 => zjm okc hB2 hx2 fr te arr op av an bv bn d d1 ia ib
  ·rw [if_neg hab]
   by_cases ha : 0 ≤ av
   ·rw [if_pos ha]
    refine zfW 4 (by omega) n cm fr te d arr op av an bv bn ia ib ha A cap W B hB sx _ fun W2 hB2 hx2 => ?_
    obtain ⟨u, rfl⟩ : ∃ u : Nat, av = (u : Int) := ⟨av.toNat, by omega⟩
    by_cases hb : 0 ≤ bv
    ·rw [if_pos hb]
     refine zkC n cm fr te d arr op u an bv bn ia ib ha hb A cap W2 B hB2 hx2 _ fun W3 hB3 hx3 => ?_
     obtain ⟨v, rfl⟩ : ∃ v : Nat, bv = (v : Int) := ⟨bv.toNat, by omega⟩
     exact zn6 n cm N hN hn hc d u v d1 (by omega) (by omega) A cap W3 B hB3 hx3
    ·rw [if_neg hb]
     exact zj3 n cm fr te d arr op u an bv bn ia ib ha (by omega) A cap W2 B hB2 hx2 _ fun W3 hB3 hx3 => zeA hN hn hc hB3 hx3 d u d1 (by omega) bn
   ·rw [if_neg ha]
    have hb : 0 ≤ bv := by omega
    refine ziv 4 (by omega) n cm fr te d arr op av an bv bn ia ib (by omega) hb A cap W B hB sx _ fun W2 hB2 hx2 => ?_
    refine zjz n cm fr te d arr op av an bv bn ia ib (by omega) hb A cap W2 B hB2 hx2 _ fun W3 hB3 hx3 => ?_
    obtain ⟨v, rfl⟩ : ∃ v : Nat, bv = (v : Int) := ⟨bv.toNat, by omega⟩
    exact zeA hN hn hc hB3 hx3 d v d1 (by omega) an
 ·
  obtain ⟨d0, d1⟩ := rd (by omega) (by omega)
  obtain ⟨d, rfl⟩ : ∃ d : Nat, dst = (d : Int) := ⟨dst.toNat, by omega⟩
  have e : zbx ⟨n, false, cm⟩ ⟨fr, te, 5, (d : Int), arr, op, av, an, bv, bn⟩ = if av < 0 ∧ bv < 0 then zaF ⟨n, false, cm⟩ 5 d an bn else (if 0 ≤ av then (if 0 ≤ bv then sumsO ⟨n, false, cm⟩ d av.toNat bv.toNat true else (if (negW bn).2 = 0 then zbL ⟨n, false, cm⟩ d av.toNat (-bn) else giveO ⟨n, false, cm⟩ d rg0)) else giveO ⟨n, false, cm⟩ d (restR an (varR (2 * n).toNat cm bv.toNat))) := rfl
  rw [e]
  by_cases hab : av < 0 ∧ bv < 0
  ·rw [if_pos hab]
   exact zdD 5 (by omega) n cm fr te d arr op av an bv bn ia ib hab.1 hab.2 A cap W B hB sx _ fun W2 hB2 hx2 => ziN okc hB2 hx2 fr te arr op av an bv bn d d1 ia ib
  ·rw [if_neg hab]
   by_cases ha : 0 ≤ av
   ·rw [if_pos ha]
    refine zfW 5 (by omega) n cm fr te d arr op av an bv bn ia ib ha A cap W B hB sx _ fun W2 hB2 hx2 => ?_
    obtain ⟨u, rfl⟩ : ∃ u : Nat, av = (u : Int) := ⟨av.toNat, by omega⟩
    by_cases hb : 0 ≤ bv
    ·rw [if_pos hb]
     refine zjw n cm fr te d arr op u an bv bn ia ib ha hb A cap W2 B hB2 hx2 _ fun W3 hB3 hx3 => ?_
     obtain ⟨v, rfl⟩ : ∃ v : Nat, bv = (v : Int) := ⟨bv.toNat, by omega⟩
     exact zol n cm N hN hn hc d u v d1 (by omega) (by omega) A cap W3 B hB3 hx3
    ·rw [if_neg hb]
     by_cases hbn : bn = -9223372036854775808
     ·rw [if_neg (show ¬ (negW bn).2 = 0 by unfold negW; rw [hbn, zbB (by omega)]; decide)]
      exact zmW n cm fr te d arr op u an bv bn ia ib ha (by omega) hbn A cap W2 B hB2 hx2 _ fun W3 hB3 hx3 => zeq okc hB3 hx3 d d1 rg0 (show I64 (0 : Int) by unfold I64; omega)
     ·rw [if_pos (show (negW bn).2 = 0 by unfold negW; rw [zeG (by unfold I64 at ib; omega)])]
      exact znN n cm fr te d arr op u an bv bn ia ib ha (by omega) hbn A cap W2 B hB2 hx2 _ fun W3 hB3 hx3 => zeA hN hn hc hB3 hx3 d u d1 (by omega) (-bn)
   ·rw [if_neg ha]
    have hb : 0 ≤ bv := by omega
    refine ziv 5 (by omega) n cm fr te d arr op av an bv bn ia ib (by omega) hb A cap W B hB sx _ fun W2 hB2 hx2 => ?_
    obtain ⟨v, rfl⟩ : ∃ v : Nat, bv = (v : Int) := ⟨bv.toNat, by omega⟩
    rw [hNt]
    have ir : I64 (restR an (varR N cm v)).lo := by
     unfold restR
     show I64 (if (varR N cm v).hh then (subW an (varR N cm v).hi).1 else 0)
     split
     ·exact zeL _
     ·unfold I64; omega
    exact zkK n cm fr te d arr op av an v bn ia ib v rfl N hN hn hc (by omega) (by omega) hm A cap W2 B hB2 hx2 _ fun W3 hB3 hx3 => zeq okc hB3 hx3 d d1 _ ir
 ·
  obtain ⟨d0, d1⟩ := rd (by omega) (by omega)
  obtain ⟨d, rfl⟩ : ∃ d : Nat, dst = (d : Int) := ⟨dst.toNat, by omega⟩
  have e : zbx ⟨n, false, cm⟩ ⟨fr, te, 6, (d : Int), arr, op, av, an, bv, bn⟩ = if av < 0 ∧ bv < 0 then zaF ⟨n, false, cm⟩ 6 d an bn else productsO ⟨n, false, cm⟩ 6 d av an bv bn := rfl
  rw [e]
  by_cases hab : av < 0 ∧ bv < 0
  ·rw [if_pos hab]
   exact zdD 6 (by omega) n cm fr te d arr op av an bv bn ia ib hab.1 hab.2 A cap W B hB sx _ fun W2 hB2 hx2 => ziU okc hB2 hx2 fr te arr op av an bv bn d d1 ia ib
  ·rw [if_neg hab]
   by_cases ha : 0 ≤ av
   ·exact zga 6 (by omega) n cm fr te d arr op av an bv bn ia ib ha A cap W B hB sx _ fun W2 hB2 hx2 => zeE n cm N hN hn hc fr te arr op av an bv bn d d1 (by omega) (by omega) ia ib A cap W2 B hB2 hx2
   ·exact zfX 6 (by omega) n cm fr te d arr op av an bv bn ia ib (by omega) (by omega) A cap W B hB sx _ fun W2 hB2 hx2 => zeE n cm N hN hn hc fr te arr op av an bv bn d d1 (by omega) (by omega) ia ib A cap W2 B hB2 hx2
 ·
  obtain ⟨d0, d1⟩ := rd (by omega) (by omega)
  obtain ⟨d, rfl⟩ : ∃ d : Nat, dst = (d : Int) := ⟨dst.toNat, by omega⟩
  have e : zbx ⟨n, false, cm⟩ ⟨fr, te, 7, (d : Int), arr, op, av, an, bv, bn⟩ = if av < 0 ∧ bv < 0 then zaF ⟨n, false, cm⟩ 7 d an bn else productsO ⟨n, false, cm⟩ 7 d av an bv bn := rfl
  rw [e]
  by_cases hab : av < 0 ∧ bv < 0
  ·rw [if_pos hab]
   exact zdD 7 (by omega) n cm fr te d arr op av an bv bn ia ib hab.1 hab.2 A cap W B hB sx _ fun W2 hB2 hx2 => zjk okc hB2 hx2 fr te arr op av an bv bn d d1 ia ib
  ·rw [if_neg hab]
   by_cases ha : 0 ≤ av
   ·exact zga 7 (by omega) n cm fr te d arr op av an bv bn ia ib ha A cap W B hB sx _ fun W2 hB2 hx2 => zeD n cm N hN hn hc fr te arr op av an bv bn d d1 (by omega) (by omega) ia ib A cap W2 B hB2 hx2
   ·exact zfX 7 (by omega) n cm fr te d arr op av an bv bn ia ib (by omega) (by omega) A cap W B hB sx _ fun W2 hB2 hx2 => zeD n cm N hN hn hc fr te arr op av an bv bn d d1 (by omega) (by omega) ia ib A cap W2 B hB2 hx2
 ·
  obtain ⟨d0, d1⟩ := rd (by omega) (by omega)
  obtain ⟨d, rfl⟩ : ∃ d : Nat, dst = (d : Int) := ⟨dst.toNat, by omega⟩
  have e : zbx ⟨n, false, cm⟩ ⟨fr, te, 8, (d : Int), arr, op, av, an, bv, bn⟩ = if av < 0 ∧ bv < 0 then zaF ⟨n, false, cm⟩ 8 d an bn else productsO ⟨n, false, cm⟩ 8 d av an bv bn := rfl
  rw [e]
  by_cases hab : av < 0 ∧ bv < 0
  ·rw [if_pos hab]
   exact zdD 8 (by omega) n cm fr te d arr op av an bv bn ia ib hab.1 hab.2 A cap W B hB sx _ fun W2 hB2 hx2 => ziV okc hB2 hx2 fr te arr op av an bv bn d d1 ia ib
  ·rw [if_neg hab]
   by_cases ha : 0 ≤ av
   ·exact zga 8 (by omega) n cm fr te d arr op av an bv bn ia ib ha A cap W B hB sx _ fun W2 hB2 hx2 => ze0 n cm N hN hn hc fr te arr op av an bv bn d d1 (by omega) (by omega) ia ib A cap W2 B hB2 hx2
   ·exact zfX 8 (by omega) n cm fr te d arr op av an bv bn ia ib (by omega) (by omega) A cap W B hB sx _ fun W2 hB2 hx2 => ze0 n cm N hN hn hc fr te arr op av an bv bn d d1 (by omega) (by omega) ia ib A cap W2 B hB2 hx2
 ·
  obtain ⟨d0, d1⟩ := rd (by omega) (by omega)
  obtain ⟨d, rfl⟩ : ∃ d : Nat, dst = (d : Int) := ⟨dst.toNat, by omega⟩
  have e : zbx ⟨n, false, cm⟩ ⟨fr, te, 9, (d : Int), arr, op, av, an, bv, bn⟩ = forgetO ⟨n, false, cm⟩ d := rfl
  rw [e]
  exact zit 9 (by omega) n cm fr te d arr op av an bv bn ia ib A cap W B hB sx _ fun W2 hB2 hx2 => zcW okc hB2 hx2 d d1
 ·
  obtain ⟨d0, d1⟩ := rd (by omega) (by omega)
  obtain ⟨d, rfl⟩ : ∃ d : Nat, dst = (d : Int) := ⟨dst.toNat, by omega⟩
  have e : zbx ⟨n, false, cm⟩ ⟨fr, te, 10, (d : Int), arr, op, av, an, bv, bn⟩ = forgetO ⟨n, false, cm⟩ d := rfl
  rw [e]
  exact zit 10 (by omega) n cm fr te d arr op av an bv bn ia ib A cap W B hB sx _ fun W2 hB2 hx2 => zcW okc hB2 hx2 d d1
 ·exact zgh 11 (by omega) n cm fr te dst arr op av an bv bn ia ib A cap W B hB sx
 ·have e : zbx ⟨n, false, cm⟩ ⟨fr, te, 12, dst, arr, op, av, an, bv, bn⟩ = za2 ⟨n, false, cm⟩ op av an bv bn := rfl
  rw [e]
  exact zna n cm fr te dst arr op av an bv bn ia ib A cap W B hB sx _ fun W2 hB2 hx2 => zfv n cm N hN hn hc op av an bv bn (ro rfl) (by omega) (by omega) ia ib A cap W2 B hB2 hx2 hm
 ·exact zgh 13 (by omega) n cm fr te dst arr op av an bv bn ia ib A cap W B hB sx
 ·have e : zbx ⟨n, false, cm⟩ ⟨fr, te, 14, dst, arr, op, av, an, bv, bn⟩ = emptyO n := rfl
  rw [e]
  exact zmO n cm fr te dst arr op av an bv bn ia ib A cap W B hB sx _ fun W2 hB2 hx2 => (zbR n W2 (by omega) (by omega)).mono fun _ _ q => q.sx hB2
theorem zjx (o : O) (fr te kd dst arr op av an bv bn : Int) (ia : I64 an) (ib : I64 bn) (A : Option Addr) (cap : Nat) (w : World) (hx : Rd w w.heap.size A o.m) (hm : o.m.length ≤ 17592186044416) (B : Nat) (hB : B ≤ w.heap.size) :
  Calls Tryz.prog 28 #[.agg #[o.n, o.e, .slice A o.m.length cap], .agg #[fr, te, kd, dst, arr, op, av, an, bv, bn]] w (zjc w B (transAns o ⟨fr, te, kd, dst, arr, op, av, an, bv, bn⟩) (transErr o ⟨fr, te, kd, dst, arr, op, av, an, bv, bn⟩)) :=
 zgO o fr te kd dst arr op av an bv bn A cap w hx hm B hB fun he N cm Ac cc W hN hn hc _ hBW hsx _ =>
  zj5 o.n cm N hN hn hc fr te kd dst arr op av an bv bn ia ib (zht (zcJ he).2) Ac cc W B hBW hsx
end
section
theorem zhr {ls : List (List Int)} {e : Edg} {xs : List Int} {input : Int} (h : (doesW ls e xs input).1 = 0) (h12 : e.kd = 12 → cmpB e.op (opdX xs e.av e.an) (opdX xs e.bv e.bn) = true) : zeC e xs (doesW ls e xs input).2 := by
 have h14 : e.kd ≠ 14 := fun q => by
  unfold doesW at h
  rw [if_neg (by omega), if_neg (by omega), if_neg (by omega), if_neg (by omega), if_neg (by omega), if_pos q] at h
  cases h
 refine ⟨h14, h12, ?_⟩
 unfold doesW at h ⊢
 by_cases k2 : e.kd = 2
 ·rw [if_pos k2, if_neg (by omega), if_pos k2]
 rw [if_neg k2] at h ⊢
 by_cases k9 : e.kd = 9
 ·rw [if_pos k9, if_pos (.inl k9)]; exact ⟨_, rfl⟩
 rw [if_neg k9] at h ⊢
 by_cases k3 : 3 ≤ e.kd ∧ e.kd ≤ 8
 ·rw [if_pos k3] at h ⊢
  rw [if_neg (by omega), if_neg k2, if_pos k3]
  by_cases w : (kindW e.kd (opdX xs e.av e.an) (opdX xs e.bv e.bn)).2 = 0
  ·rw [if_pos w]; exact ⟨w, rfl⟩
  ·rw [if_neg w] at h; exact absurd h w
 rw [if_neg k3] at h ⊢
 by_cases k10 : e.kd = 10
 ·rw [if_pos k10] at h ⊢
  rw [if_pos (.inr k10)]
  split at h
  ·rename_i q; rw [if_pos q]; exact ⟨_, rfl⟩
  ·cases h
 rw [if_neg k10] at h ⊢
 rw [if_neg (by omega), if_neg k2, if_neg k3]
 repeat' split
 all_goals rfl
end
section
attribute [local go_sem ↓] Go.wp_at_zero Go.wp_at_succ
theorem zgy (v n : Int) (w : World) :
  Calls Tryz.prog 77 #[.agg #[v, n]] w fun e w' => e = .returned (.bool (nearT v n)) ∧ Below w.heap.size w w' := by
 have n0 := new1 w (.cells #[v, n] 26)
 have k0 := Blk.new w 26 #[v, n]
 have c0 := k0.cell 0
 have c1 := k0.cell 1
 go_enter Tryz.func77, Tryz.ntmps77
 by_cases h : 0 ≤ v
 ·go_wp2
  go_ret
  exact ⟨retb (by unfold nearT; rw [decide_eq_true (show 0 ≤ v by omega)]; rfl), n0⟩
 ·by_cases h1 : -2305843009213693952 ≤ n
  ·by_cases h2 : n ≤ 2305843009213693952
   ·go_wp2
    go_ret
    exact ⟨retb (by unfold nearT; rw [decide_eq_false (show ¬ 0 ≤ v by omega), decide_eq_true (show -2305843009213693952 ≤ n ∧ n ≤ 2305843009213693952 by omega)]; rfl), n0⟩
   ·go_wp2
    go_ret
    exact ⟨retb (by unfold nearT; rw [decide_eq_false (show ¬ 0 ≤ v by omega), decide_eq_false (show ¬ (-2305843009213693952 ≤ n ∧ n ≤ 2305843009213693952) by omega)]; rfl), n0⟩
  ·go_wp2
   go_ret
   exact ⟨retb (by unfold nearT; rw [decide_eq_false (show ¬ 0 ≤ v by omega), decide_eq_false (show ¬ (-2305843009213693952 ≤ n ∧ n ≤ 2305843009213693952) by omega)]; rfl), n0⟩
def zfu (kd op av bv : Int) : Bool :=
 if kd = 1 ∨ kd = 11 ∨ kd = 13 ∨ kd = 14 ∨ kd = 9 ∨ kd = 10 ∨ kd = 2 ∨ kd = 3 then true
 else if kd = 12 then (decide (op ≠ 4) || (decide (av < 0) && decide (bv < 0)))
 else if kd = 4 then (decide (av < 0) != decide (bv < 0))
 else if kd = 5 then (decide (0 ≤ av) && decide (bv < 0))
 else false
theorem ziK (fr te kd dst arr op av an bv bn : Int) (w : World) :
  Calls Tryz.prog 33 #[.agg #[fr, te, kd, dst, arr, op, av, an, bv, bn]] w fun e w' => e = .returned (.bool (nearT av an && nearT bv bn && zfu kd op av bv)) ∧ Below w.heap.size w w' := by
 have n0 := new1 w (.cells #[fr, te, kd, dst, arr, op, av, an, bv, bn] 44)
 have k0 := Blk.new w 44 #[fr, te, kd, dst, arr, op, av, an, bv, bn]
 have HA := hid (fun W => zgy av an W)
 have HB := hid (fun W => zgy bv bn W)
 obtain ⟨K, hK⟩ : ∃ K, K = zfu kd op av bv := ⟨_, rfl⟩
 rw [← hK]
 have HK := hid hK
 clear hK
 generalize nearT av an = na at *
 generalize nearT bv bn = nb at *
 have y0 := zam k0
 go_enter Tryz.func33, Tryz.ntmps33
 go_wp2_with fail
 clear y0
 generalize w.alloc (.cells #[fr, te, kd, dst, arr, op, av, an, bv, bn] 44) = w1 at *
 (with_reducible refine (HA.out w1).mono ?_)
 rintro e2 w2 ⟨rfl, a2⟩
 replace k0 := k0.later a2
 replace n0 := bup n0 a2
 clear a2 HA
 cases na
 ·go_wp2
  go_ret
  exact ⟨rfl, n0⟩
 have y0 := zam k0
 go_wp2_with fail
 clear y0
 (with_reducible refine (HB.out w2).mono ?_)
 rintro e3 w3 ⟨rfl, a1⟩
 replace k0 := k0.later a1
 replace n0 := bup n0 a1
 clear a1 HB
 cases nb
 ·go_wp2
  go_ret
  exact ⟨rfl, n0⟩
 have y0 := zam k0
 by_cases h0 : kd = 1 ∨ kd = 11 ∨ kd = 13 ∨ kd = 14 ∨ kd = 9 ∨ kd = 10 ∨ kd = 2 ∨ kd = 3
 ·have e : K = true := by rw [HK.out]; unfold zfu; rw [if_pos h0]
  subst e
  clear HK
  rcases h0 with rfl | rfl | rfl | rfl | rfl | rfl | rfl | rfl
  all_goals
   go_wp2
   go_ret
   exact ⟨rfl, n0⟩
 have a0 : Hid (K = if kd = 12 then (decide (op ≠ 4) || (decide (av < 0) && decide (bv < 0))) else if kd = 4 then (decide (av < 0) != decide (bv < 0)) else if kd = 5 then (decide (0 ≤ av) && decide (bv < 0)) else false) := hid (by
  rw [HK.out]; unfold zfu; rw [if_neg h0])
 clear HK
 simp only [not_or] at h0
 obtain ⟨q1, q2, q3, q4, q5, q6, q7, q8⟩ := h0
 have r1 : (kd == 1) = false := by simpa using q1
 have r2 : (kd == 11) = false := by simpa using q2
 have r3 : (kd == 13) = false := by simpa using q3
 have r4 : (kd == 14) = false := by simpa using q4
 have r5 : (kd == 9) = false := by simpa using q5
 have r6 : (kd == 10) = false := by simpa using q6
 have r7 : (kd == 2) = false := by simpa using q7
 have r8 : (kd == 3) = false := by simpa using q8
 clear q1 q2 q3 q4 q5 q6 q7 q8
 by_cases h12 : kd = 12
 ·have e := a0.out
  rw [if_pos h12] at e
  subst h12
  clear a0
  by_cases ho : op = 4
  ·subst ho
   rw [show decide ((4 : Int) ≠ 4) = false from rfl, Bool.false_or] at e
   by_cases ha : av < 0
   ·rw [decide_eq_true ha, Bool.true_and] at e
    subst e
    go_wp2
    go_ret
    exact ⟨rfl, n0⟩
   ·rw [decide_eq_false ha, Bool.false_and] at e
    subst e
    go_wp2
    go_ret
    exact ⟨rfl, n0⟩
  ·have t1 : (op != 4) = true := by simpa using ho
   rw [decide_eq_true ho, Bool.true_or] at e
   subst e
   go_wp2
   go_ret
   exact ⟨rfl, n0⟩
 have r9 : (kd == 12) = false := by simpa using h12
 by_cases h4 : kd = 4
 ·have e := a0.out
  rw [if_neg h12, if_pos h4] at e
  subst h4
  clear a0
  cases ha : decide (av < 0) <;> cases hb : decide (bv < 0)
  all_goals
   rw [ha, hb] at e
   subst e
   go_wp2
   go_ret
   exact ⟨rfl, n0⟩
 have r10 : (kd == 4) = false := by simpa using h4
 by_cases h5 : kd = 5
 ·have e := a0.out
  rw [if_neg h12, if_neg h4, if_pos h5] at e
  subst h5
  clear a0
  by_cases ha : 0 ≤ av
  ·rw [decide_eq_true ha, Bool.true_and] at e
   subst e
   go_wp2
   go_ret
   exact ⟨rfl, n0⟩
  ·rw [decide_eq_false ha, Bool.false_and] at e
   subst e
   go_wp2
   go_ret
   exact ⟨rfl, n0⟩
 have r11 : (kd == 5) = false := by simpa using h5
 have e := a0.out
 rw [if_neg h12, if_neg h4, if_neg h5] at e
 subst e
 clear a0
 go_wp2
 go_ret
 exact ⟨rfl, n0⟩
end
end Go.Proofs.YtnmpgijiimglcaaGreat
