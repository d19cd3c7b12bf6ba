import Derived.Test.YtnmpgijiimglcaaGreatBSe09
import Derived.Test.YtnmpgijiimglcaaGreatBSe08
namespace Go.Proofs.YtnmpgijiimglcaaGreat
open Go.RowKit
set_option maxRecDepth 100000
set_option maxHeartbeats 8000000
section
attribute [local go_sem ↓] Go.wp_at_zero Go.wp_at_succ
def topR (N : Nat) (m : List Int) (i : Nat) : Nat → List Int
 | 0 => m
 | l + 1 => if i = l then topR N m i l else (topR N m i l).set (i * N + l) 9223372036854775807
def topM (N : Nat) : Nat → List Int
 | 0 => List.replicate (N * N) 0
 | k + 1 => topR N (topM N k) k N
theorem zer (N : Nat) (m : List Int) (i : Nat) : ∀ l, (topR N m i l).length = m.length
 | 0 => rfl
 | l + 1 => by unfold topR; split <;> simp [zer N m i l]
theorem zdm (N : Nat) : ∀ k, (topM N k).length = N * N
 | 0 => by simp [topM]
 | k + 1 => by unfold topM; rw [zer, zdm N k]
theorem zjm (d N : Nat) (w : World) (hd : d ≤ 64) (hNN : (N : Int) = 2 * (d : Int)) :
  Calls Tryz.prog 53 #[(d : Int)] w (zbh w ⟨(d : Int), false, topM N N⟩) := by
 have hM0 : 4 * (d : Int) * (d : Int) = ((N * N : Nat) : Int) := by rw [Int.natCast_mul, hNN, Int.mul_assoc, Int.mul_assoc, Int.mul_left_comm (d : Int) 2 (d : Int), ← Int.mul_assoc 2 2]; rfl
 have hN1 : N ≤ 128 := by omega
 have hqb : N * N ≤ 128 * 128 := Nat.mul_le_mul hN1 hN1
 have hmk := zc6 (N * N) (by omega)
 have hd4 : 0 ≤ 4 * (d : Int) * (d : Int) := by rw [hM0]; omega
 have hd5 : 4 * (d : Int) * (d : Int) ≤ 16384 := by rw [hM0]; omega
 rw [← hM0] at hmk
 have HN := hid hNN
 have hn0 : 0 ≤ 2 * (d : Int) := by omega
 have hn1 : 2 * (d : Int) ≤ 128 := by omega
 have HM0 := hid hM0
 have a8 := new1 w (Obj.cells #[.int .i64 0, false, .slice none 0 0] 24)
 have p0 := Blk.new w 24 #[.int .i64 0, false, .slice none 0 0]
 have b3 := zeD (w.alloc (Obj.cells #[.int .i64 0, false, .slice none 0 0] 24)) (n := N * N) (Nat.le_refl _) (by omega)
 clear hM0 hNN
 go_enter Tryz.func53, Tryz.ntmps53
 go_wp2
 have b1 : (w.alloc (Obj.cells #[.int .i64 0, false, .slice none 0 0] 24)).heap.size = w.heap.size + 1 := by simp
 rw [b1] at b3
 have n2 := new1 (w.alloc (Obj.cells #[.int .i64 0, false, .slice none 0 0] 24)) (Obj.cells (zbq (N * N)) 2)
 have b0 : ((w.alloc (Obj.cells #[.int .i64 0, false, .slice none 0 0] 24)).alloc (Obj.cells (zbq (N * N)) 2)).heap.size = w.heap.size + 2 := by simp
 replace p0 := p0.later n2
 replace a8 := bup a8 n2
 have n3 := new1 ((w.alloc (Obj.cells #[.int .i64 0, false, .slice none 0 0] 24)).alloc (Obj.cells (zbq (N * N)) 2)) (Obj.cells #[(d : Int), false, .slice (some ⟨w.heap.size + 1, 0, none⟩) (N * N) (N * N)] 24)
 have k3 := Blk.new ((w.alloc (Obj.cells #[.int .i64 0, false, .slice none 0 0] 24)).alloc (Obj.cells (zbq (N * N)) 2)) 24 #[(d : Int), false, .slice (some ⟨w.heap.size + 1, 0, none⟩) (N * N) (N * N)]
 replace b3 := b3.below n3
 replace p0 := p0.later n3
 replace a8 := bup a8 n3
 rw [b0] at k3
 clear n2 n3 b1 b0
 generalize ((w.alloc (Obj.cells #[.int .i64 0, false, .slice none 0 0] 24)).alloc (Obj.cells (zbq (N * N)) 2)).alloc (Obj.cells #[(d : Int), false, .slice (some ⟨w.heap.size + 1, 0, none⟩) (N * N) (N * N)] 24) = w3 at *
 have HLM : Hid (∀ k, (topM N k).length = N * N) := hid (zdm N)
 have HLR : Hid (∀ m i l, (topR N m i l).length = m.length) := hid (zer N)
 go_loopw [4] (fun i wr => ∃ k : Nat, k ≤ N ∧ i = .int .i64 k ∧ Blk wr (w.heap.size + 2) 24 #[(d : Int), false, .slice (some ⟨w.heap.size + 1, 0, none⟩) (N * N) (N * N)] ∧ Own wr (w.heap.size + 1) (some ⟨w.heap.size + 1, 0, none⟩) (N * N) (topM N k) ∧ Blk wr w.heap.size 24 #[.int .i64 0, false, .slice none 0 0] ∧ Below w.heap.size w wr) (fun i _ => N - (RowKit.intOf i).toNat)
 case atStart => exact ⟨0, by omega, rfl, k3, b3, p0, a8⟩
 case round =>
  obtain ⟨k, hkN, rfl, kr, ownr, pr, a7⟩ := hrel
  by_cases hlt : k < N
  ·have hltn : (k : Int) < 2 * (d : Int) := by have := HN.out; omega
   have HMS : Hid (topM N (k + 1) = topR N (topM N k) k N) := hid rfl
   have hml := HLM.out k
   have b6 := hid hml
   clear hml
   generalize topM N k = m at *
   go_wp2
   go_loopw [5] (fun j wr => ∃ l : Nat, l ≤ N ∧ j = .int .i64 l ∧ Blk wr (w.heap.size + 2) 24 #[(d : Int), false, .slice (some ⟨w.heap.size + 1, 0, none⟩) (N * N) (N * N)] ∧ Own wr (w.heap.size + 1) (some ⟨w.heap.size + 1, 0, none⟩) (N * N) (topR N m k l) ∧ Blk wr w.heap.size 24 #[.int .i64 0, false, .slice none 0 0] ∧ Below w.heap.size w wr) (fun j _ => N - (RowKit.intOf j).toNat)
   case atStart => exact ⟨0, by omega, rfl, kr, ownr, pr, a7⟩
   case round =>
    clear kr ownr pr a7
    obtain ⟨l, hlN, rfl, kr, ownr, pr, a7⟩ := hrel
    by_cases hlt2 : l < N
    ·have hltn2 : (l : Int) < 2 * (d : Int) := by have := HN.out; omega
     obtain ⟨a1, a2, a3, a4, a5, a6⟩ := zbj HN.out hlt hlt2 hN1
     rw [← Int.mul_assoc] at a1 a2 a3 a5 a6
     have HRL := hid ((HLR.out m k l).trans b6.out)
     cases t1 : ((k : Int) != (l : Int))
     ·have b2 : k = l := by
        have : (k : Int) = (l : Int) := by simpa using t1
        omega
      have b4 : Hid (topR N m k (l + 1) = topR N m k l) := hid (by rw [topR, if_pos b2])
      clear b2
      go_wp2
      go_roundw
      case rel => exact ⟨l + 1, by omega, by go_num, kr, by rw [b4.out]; exact ownr, pr, a7⟩
      case measure => simp [RowKit.intOf]; omega
     ·have b2 : k ≠ l := by have := bne_iff_ne.1 t1; omega
      have b4 : Hid (topR N m k (l + 1) = (topR N m k l).set (k * N + l) 9223372036854775807) := hid (by rw [topR, if_neg b2])
      generalize topR N m k l = r at *
      obtain ⟨g1, o1, e1, _, c4⟩ := ownr.rd (k * N + l) (by rw [HRL.out]; exact a4)
      obtain ⟨rfl, rfl⟩ : w.heap.size + 1 = g1 ∧ 0 = o1 := by simpa using e1
      clear e1
      have f4 := ownr.frozen (k * N + l)
      rw [Nat.zero_add] at c4
      have x0 := zaa kr
      go_wp2
      clear x0 c4 f4
      go_roundw
      case rel => exact ⟨l + 1, by omega, by go_num, kr.far (p := ⟨w.heap.size + 1, k * N + l, none⟩) (by simp) _, by rw [b4.out]; exact ownr.store (k * N + l) 9223372036854775807, pr.far (p := ⟨w.heap.size + 1, k * N + l, none⟩) (by simp) _, a7.trans (zaL (by omega) a7.size)⟩
      case measure => simp [RowKit.intOf]; omega
    ·obtain rfl : l = N := by omega
     have hge : ¬ ((l : Int) < 2 * (d : Int)) := by have := HN.out; omega
     rw [← HMS.out] at ownr
     go_wp2
     go_roundw
     case rel => exact ⟨k + 1, by omega, by go_num, kr, ownr, pr, a7⟩
     case measure => simp [RowKit.intOf]; omega
  ·obtain rfl : k = N := by omega
   have hge : ¬ ((k : Int) < 2 * (d : Int)) := by have := HN.out; omega
   have b6 := hid (HLM.out k)
   generalize topM k k = m at *
   have x0 := zaa kr
   have y0 := zaa pr
   go_wp2
   clear x0 y0
   have q3 := pr.set3 (v0 := .int .i64 (d : Int)) (v1 := .bool false) (v2 := .slice (some ⟨w.heap.size + 1, 0, none⟩) (k * k) (k * k))
   have o3 := ownr.far3 (g := w.heap.size) (v0 := .int .i64 (d : Int)) (v1 := .bool false) (v2 := .slice (some ⟨w.heap.size + 1, 0, none⟩) (k * k) (k * k)) (zan ownr pr (by decide))
   obtain ⟨z0, z1, z2, fz⟩ := zaa q3
   refine bodyPost_ret (v := .agg #[(d : Int), false, .slice (some ⟨w.heap.size + 1, 0, none⟩) (k * k) (k * k)]) (by simp [results, Tryz.results53, go_sem, z0, z1, z2]) rfl ⟨_, _, by rw [b6.out], o3.less (by omega), a7.trans (zah (by omega) a7.size)⟩
def zcQ (N i j : Nat) (v : Int) (m : List Int) : Int := if near v < gI m ((i * N + j : Nat) : Int) then near v else gI m ((i * N + j : Nat) : Int)
def boundM (N i j : Nat) (v : Int) (m : List Int) : List Int := (m.set (i * N + j) (zcQ N i j v m)).set (nx j * N + nx i) (zcQ N i j v m)
theorem zci (N i j : Nat) (v : Int) (m : List Int) : (boundM N i j v m).length = m.length := by simp [boundM]
theorem zh9 (n : Int) (m : List Int) (N i j base : Nat) (v : Int) (A : Option Addr) (c : Nat) (w : World) (own : Own w base A c m) (hbase : base ≤ w.heap.size) (hN : (N : Int) = 2 * n) (hn : N ≤ 128) (hl : m.length = N * N) (hi : i < N) (hj : j < N) (hij : i ≠ j) :
  Calls Tryz.prog 52 #[.agg #[n, false, .slice A m.length c], (i : Int), (j : Int), v] w fun e w' => e = .returned (.agg #[n, false, .slice A m.length c]) ∧ Own w' base A c (boundM N i j v m) ∧ Below base w w' := by
 have a8 : Below w.heap.size w ((w.alloc (Obj.cells #[n, false, .slice A m.length c] 24)).alloc (Obj.cells #[.int .i64 0, false, .slice none 0 0] 24)) := ((Below.refl _ _).alloc (Nat.le_refl _) _).alloc (by simp) _
 obtain ⟨p0, p1⟩ := zdb (w := w) (Below.refl _ ((w.alloc (Obj.cells #[n, false, .slice A m.length c] 24)).alloc (Obj.cells #[.int .i64 0, false, .slice none 0 0] 24)))
 have hni := zcW hN hi
 have hnj := zcW hN hj
 have HIA := hid (zbj hN hi hj hn)
 have HID := hid (zbj hN hnj hni hn)
 have hp1 : w.heap.size + 1 < ((w.alloc (Obj.cells #[n, false, .slice A m.length c] 24)).alloc (Obj.cells #[.int .i64 0, false, .slice none 0 0] 24)).heap.size := p1.lt
 have ho : ∀ g, A = some ⟨g, 0, none⟩ → g < w.heap.size := by
  rcases own.form with ⟨rfl, _⟩ | ⟨g', rfl, _, h'⟩
  ·intro g hg; cases hg
  ·intro g hg; injection hg with hg; injection hg with hg; omega
 replace own := own.below a8
 have hn0 : 0 ≤ 2 * n := by omega
 have hn1 : 2 * n ≤ 128 := by omega
 have HL := hid hl
 rw [← hl] at HIA HID
 have HV : Hid (zcQ N i j v m = if near v < gI m ((i * N + j : Nat) : Int) then near v else gI m ((i * N + j : Nat) : Int)) := hid rfl
 have HM : Hid (boundM N i j v m = (m.set (i * N + j) (zcQ N i j v m)).set (nx j * N + nx i) (zcQ N i j v m)) := hid rfl
 generalize boundM N i j v m = bm at *
 have tij : ((i : Int) == (j : Int)) = false := by rw [beq_eq_false_iff_ne]; omega
 clear hN hl
 go_enter Tryz.func52, Tryz.ntmps52
 go_wp2_with fail
 refine (zaG _ _).mono ?_
 rintro e1 w1 ⟨rfl, rfl⟩
 generalize (w.alloc (Obj.cells #[n, false, .slice A m.length c] 24)).alloc (Obj.cells #[.int .i64 0, false, .slice none 0 0] 24) = w0 at *
 generalize near v = vn at *
 obtain ⟨x0, x1, x2, fx⟩ := zaa p0
 obtain ⟨a1, a2, a3, a4, a5, a6⟩ := HIA.out
 obtain ⟨d1, d2, d3, d4, d5, d6⟩ := HID.out
 go_upto_region 9 with fail
 have f2 := later x2
 clear x0 x1 x2 fx
 obtain ⟨g1, o1, rfl, _, c4⟩ := own.rd (i * N + j) a4
 have hg0 : o1 = 0 := by
  rcases own.form with ⟨h, _⟩ | ⟨g, h, _⟩
  ·cases h
  ·injection h with h; injection h
 subst hg0
 have hg1 : base ≤ g1 := by
  rcases own.form with ⟨h, _⟩ | ⟨g, h, h', _⟩
  ·cases h
  ·injection h with h; injection h with h; omega
 have hg1w : g1 < w.heap.size := ho g1 rfl
 generalize hx : gI m ((i * N + j : Nat) : Int) = x at *
 have f4 := later c4
 rw [Nat.zero_add] at f4
 have fz := own.frozen (i * N + j)
 refine zad 18 (fun X => Below w0.heap.size w0 X) (by kernel_rfl) (by kernel_rfl) (Below.refl _ _).drew ?_
 refine fl_a ?_
 intro W2 hW2
 clear f4 f2 c4
 replace own := own.below hW2
 replace p0 := p0.later hW2
 replace p1 := p1.later hW2
 have b5 := bup a8 hW2
 have fz := own.frozen (i * N + j)
 have c4 : W2.cell? ⟨g1, i * N + j, none⟩ = some (.int .i64 x) := by
  obtain ⟨g2, o2, e2, _, c4⟩ := own.rd (i * N + j) a4
  obtain ⟨rfl, rfl⟩ : g1 = g2 ∧ 0 = o2 := by simpa using e2
  rw [Nat.zero_add, hx] at c4
  exact c4
 have hV := HV.out
 generalize (if vn < x then vn else x) = y at *
 rw [hV] at HM
 go_upto_region 10 with fail
 clear c4 fz
 have hp0 := p0.lt
 have a0 := own.store (i * N + j) y
 replace p0 := p0.far (p := ⟨g1, i * N + j, none⟩) (by simp; omega) (.int .i64 y)
 replace p1 := p1.far (p := ⟨g1, i * N + j, none⟩) (by simp; omega) (.int .i64 y)
 have a9 : Below base w (W2.setCell ⟨g1, i * N + j, none⟩ (.int .i64 y)) := (b5.mono hbase).trans (zaL hg1 (Nat.le_trans hbase b5.size))
 have hgy : gI (m.set (i * N + j) y) ((i * N + j : Nat) : Int) = y := by
  have := zfZ m (i * N + j) y (i * N + j) a4
  rw [if_pos rfl] at this; exact this
 have HGY := hid hgy
 clear hgy own b5 hW2
 generalize W2.setCell ⟨g1, i * N + j, none⟩ (.int .i64 y) = W3 at *
 obtain ⟨x0, x1, x2, fx⟩ := zaa p0
 have f2 := later x2
 clear x0 x1 x2 fx
 have f4 : ∀ X, Below W3.heap.size W3 X → X.cell? ⟨g1, i * N + j, none⟩ = some (.int .i64 y) := by
  obtain ⟨g2, o2, e2, _, c4⟩ := a0.rd (i * N + j) (by rw [List.length_set]; exact a4)
  obtain ⟨rfl, rfl⟩ : g1 = g2 ∧ 0 = o2 := by simpa using e2
  rw [Nat.zero_add, HGY.out] at c4
  exact later c4
 refine zad 18 (fun X => Below W3.heap.size W3 X) (by kernel_rfl) (by kernel_rfl) (Below.refl _ _).drew ?_
 refine fl_a ?_
 (refine fl_c 61 #[(j : Int)] (.int .i64 ((nx j : Nat) : Int)) (fun X hX => (zby j _ (by omega)).mono fun e' w' ⟨he, hw⟩ => ⟨he, hw ▸ hX⟩) ?_)
 refine fl_a ?_
 (refine fl_c 61 #[(i : Int)] (.int .i64 ((nx i : Nat) : Int)) (fun X hX => (zby i _ (by omega)).mono fun e' w' ⟨he, hw⟩ => ⟨he, hw ▸ hX⟩) ?_)
 refine fl_a ?_
 intro W4 hW4
 clear f4 f2
 replace a0 := a0.below hW4
 replace p0 := p0.later hW4
 replace p1 := p1.later hW4
 replace a9 := a9.trans (hW4.mono (Nat.le_trans hbase a9.size))
 obtain ⟨g2, o2, e2, _, c4⟩ := a0.rd (nx j * N + nx i) (by rw [List.length_set]; exact d4)
 obtain ⟨rfl, rfl⟩ : g1 = g2 ∧ 0 = o2 := by simpa using e2
 clear e2
 have fz := a0.frozen (nx j * N + nx i)
 rw [Nat.zero_add] at c4
 go_upto_region 11 with fail
 clear c4 fz
 have hp0' := p0.lt
 replace a0 := a0.store (nx j * N + nx i) y
 replace p0 := p0.far (p := ⟨g1, nx j * N + nx i, none⟩) (by simp; omega) (.int .i64 y)
 replace p1 := p1.far (p := ⟨g1, nx j * N + nx i, none⟩) (by simp; omega) (.int .i64 y)
 replace a9 := a9.trans (zaL (W := W4) (g := g1) (i := nx j * N + nx i) (v := .int .i64 y) hg1 (Nat.le_trans hbase a9.size))
 rw [← HM.out] at a0
 generalize W4.setCell ⟨g1, nx j * N + nx i, none⟩ (.int .i64 y) = W5 at *
 obtain ⟨x0, x1, x2, fx⟩ := zaa p0
 have y0 := zaa p1
 go_wp2
 clear x0 x1 x2 fx y0
 have q3 := p1.set3 (v0 := .int .i64 n) (v1 := .bool false) (v2 := .slice (some ⟨g1, 0, none⟩) m.length c)
 have o3 := a0.far3 (g := w.heap.size + 1) (v0 := .int .i64 n) (v1 := .bool false) (v2 := .slice (some ⟨g1, 0, none⟩) m.length c) (zan a0 p1 (by decide))
 obtain ⟨z0, z1, z2, fz⟩ := zaa q3
 exact bodyPost_ret (v := .agg #[n, false, .slice (some ⟨g1, 0, none⟩) m.length c]) (by simp [results, Tryz.results52, go_sem, z0, z1, z2]) rfl ⟨rfl, o3, a9.trans (zah (by omega) (Nat.le_trans hbase a9.size))⟩
end
section
def emptyO (n : Int) : O := ⟨n, true, []⟩
def withO (o : O) (i j : Nat) (c : Int) : O := if o.e then emptyO o.n else if i = j then (if c < 0 then emptyO o.n else o) else ⟨o.n, false, boundM (2 * o.n).toNat i j c o.m⟩
def zaP (n : Int) : Int := if 2305843009213693952 < n then 9223372036854775807 else if n < -2305843009213693952 then -4611686018427387904 else 2 * n
def negB (n : Int) : Int := if n = -9223372036854775808 then 9223372036854775807 else -n
def hiO (o : O) (v : Nat) (r : Rg) : O := if r.hh then withO o (2 * v) (2 * v + 1) (zaP r.hi) else o
def rangedO (o : O) (v : Nat) (r : Rg) : O := if r.hl then withO (hiO o v r) (2 * v + 1) (2 * v) (zaP (negB r.lo)) else hiO o v r
def zle (N v p : Nat) : Bool := decide (p / N ≠ p % N) && (decide (p / N / 2 = v) || decide (p % N / 2 = v))
def forgetM (N v : Nat) (m : List Int) : List Int := (List.range m.length).map fun p => if zle N v p then 9223372036854775807 else gI m (p : Int)
def forgetO (o : O) (v : Nat) : O := if (closeO o).e then closeO o else ⟨o.n, false, forgetM (2 * o.n).toNat v (closeO o).m⟩
def giveO (o : O) (v : Nat) (r : Rg) : O := closeO (rangedO (forgetO o v) v r)
def zeQ (s : Bool) : Int := if s then -1 else 0
def atMostO (c : O) (av an bv bn : Int) (s : Bool) : O :=
 if 0 ≤ av then
  if 0 ≤ bv then (if av = bv then (if s then emptyO c.n else c) else withO c (2 * av.toNat) (2 * bv.toNat) (zeQ s))
  else if s && decide (bn = -9223372036854775808) then emptyO c.n else rangedO c av.toNat ⟨0, bn + zeQ s, false, true⟩
 else if s && decide (an = 9223372036854775807) then emptyO c.n else rangedO c bv.toNat ⟨an - zeQ s, 0, true, false⟩
def zbu (c : O) (av an bv bn : Int) : O :=
 if av = bv then emptyO c.n
 else
  let o1 := if G (2 * c.n).toNat c.m (2 * av.toNat) (2 * bv.toNat) = 0 then atMostO c av an bv bn true else c
  if G (2 * c.n).toNat c.m (2 * bv.toNat) (2 * av.toNat) = 0 then atMostO o1 bv bn av an true else o1
def unlikeNumO (c : O) (av an bv bn : Int) : O :=
 let r := varR (2 * c.n).toNat c.m av.toNat
 let o1 := if r.hh && decide (r.hi = bn) then atMostO c av an bv bn true else c
 if r.hl && decide (r.lo = bn) then atMostO o1 bv bn av an true else o1
def unlikeO (c : O) (av an bv bn : Int) : O :=
 if av < 0 then (if 0 ≤ av then zbu c bv bn av an else unlikeNumO c bv bn av an)
 else if 0 ≤ bv then zbu c av an bv bn else unlikeNumO c av an bv bn
def zdu (c : O) (op av an bv bn : Int) : O :=
 if av < 0 ∧ bv < 0 then (if cmpB op an bn then c else emptyO c.n)
 else if op = 3 then closeO (atMostO (atMostO c av an bv bn false) bv bn av an false)
 else if op = 4 then closeO (unlikeO c av an bv bn)
 else if op = 5 then closeO (atMostO c bv bn av an true)
 else if op = 1 then closeO (atMostO c av an bv bn true)
 else if op = 6 then closeO (atMostO c bv bn av an false)
 else closeO (atMostO c av an bv bn false)
def linkO (c : O) (i j : Nat) (k : Int) : O := closeO (withO (withO (forgetO c (i / 2)) i j k) j i (-k))
def byK (dst : Nat) (k : Int) (i : Nat) : Int := if i / 2 = dst then (if i % 2 = 0 then k else -k) else 0
def zbJ (N dst : Nat) (k : Int) (m : List Int) : List Int :=
 (List.range m.length).map fun p => if p / N ≠ p % N ∧ gI m (p : Int) ≠ 9223372036854775807 then plus (gI m (p : Int)) (byK dst k (p / N) - byK dst k (p % N)) else gI m (p : Int)
def zcu (c : O) (dst y : Nat) (k : Int) : O :=
 if 2305843009213693952 < k ∨ k < -2305843009213693952 then forgetO c dst
 else if y ≠ dst then linkO c (2 * dst) (2 * y) k
 else closeO ⟨c.n, false, zbJ (2 * c.n).toNat dst k c.m⟩
def otherV (v i : Nat) : Nat := if i / 2 = v then nx i else i
def zc3 (N v : Nat) (m : List Int) : List Int := (List.range m.length).map fun p => G N m (otherV v (p / N)) (otherV v (p % N))
def ze6 (c : O) (v : Nat) : O := closeO ⟨c.n, false, zc3 (2 * c.n).toNat v c.m⟩
def pairO (o : O) (i j : Nat) (r : Rg) : O :=
 let o1 := if r.hh then withO o i j r.hi else o
 if r.hl then withO o1 j i (negB r.lo) else o1
def turnedR (r : Rg) : Rg := ⟨negB r.hi, negB r.lo, r.hh, r.hl⟩
def sumsO (c : O) (dst u w : Nat) (diff : Bool) : O :=
 let N := (2 * c.n).toNat
 let p := varR N c.m u
 let q := if diff then turnedR (varR N c.m w) else varR N c.m w
 let r := if diff then diffR N c.m u w else sumR N c.m u w
 let side := if diff then 2 * w + 1 else 2 * w
 let d := rangedO (forgetO c dst) dst r
 let d1 := if u ≠ w ∧ w ≠ dst then pairO d (2 * dst) side p else d
 let d2 := if u ≠ w ∧ u ≠ dst then pairO d1 (2 * dst) (2 * u) q else d1
 closeO d2
def zgs (kd a b : Int) : Int × Int := if kd = 3 then negW a else if kd = 4 then addW a b else if kd = 5 then subW a b else if kd = 6 then mulW a b else if kd = 7 then divW a b else remW a b
def zaO (c : O) (kd : Int) (dst : Nat) (a b : Int) : O := if (zgs kd a b).2 = 0 then giveO c dst (oneR (zgs kd a b).1) else emptyO c.n
def restR (k : Int) (r : Rg) : Rg :=
 ⟨if r.hh then (subW k r.hi).1 else 0, if r.hl then (subW k r.lo).1 else 0, r.hh && decide ((subW k r.hi).2 = 0), r.hl && decide ((subW k r.lo).2 = 0)⟩
def zkU (c : O) (diff : Bool) (dst : Nat) (av an bv bn : Int) : O :=
 if 0 ≤ av then
  if 0 ≤ bv then sumsO c dst av.toNat bv.toNat diff
  else if diff then (if (negW bn).2 = 0 then zcu c dst av.toNat (-bn) else giveO c dst rg0)
  else zcu c dst av.toNat bn
 else if diff then giveO c dst (restR an (varR (2 * c.n).toNat c.m bv.toNat))
 else zcu c dst bv.toNat an
def kindR (kd : Int) (a b : Rg) : Rg := if kd = 6 then mulR a b else if kd = 7 then divR a b else remR a b
def productsO (c : O) (kd : Int) (dst : Nat) (av an bv bn : Int) : O := giveO c dst (kindR kd (opdR (2 * c.n).toNat c.m av an) (opdR (2 * c.n).toNat c.m bv bn))
end
end Go.Proofs.YtnmpgijiimglcaaGreat
