import Derived.Test.YtnmpgijiimglcaaGreatBTt00
import Derived.Test.YtnmpgijiimglcaaGreatBTt06
namespace Go.Proofs.YtnmpgijiimglcaaGreat
set_option maxRecDepth 100000
set_option maxHeartbeats 8000000
section
open Go.RowKit
def inI (a : Int) : Bool := decide (-9223372036854775808 ≤ a ∧ a ≤ 9223372036854775807)
def fit (a : Int) : Int × Int := if inI a then (a, 0) else (0, 1)
def addW (a b : Int) : Int × Int := fit (a + b)
def subW (a b : Int) : Int × Int := fit (a - b)
def negW (a : Int) : Int × Int := fit (-a)
def mulW (a b : Int) : Int × Int := fit (a * b)
def divErr (a b : Int) : Int := if b = 0 then 2 else if a = -9223372036854775808 ∧ b = -1 then 1 else 0
def divW (a b : Int) : Int × Int := if divErr a b = 0 then (a.tdiv b, 0) else (0, divErr a b)
def remW (a b : Int) : Int × Int := if divErr a b = 0 then (a.tmod b, 0) else (0, divErr a b)
def cmpB (op a b : Int) : Bool := if op = 1 then decide (a < b) else if op = 2 then decide (a ≤ b) else if op = 3 then decide (a = b) else if op = 4 then decide (a ≠ b) else if op = 5 then decide (b < a) else if op = 6 then decide (b ≤ a) else false
def zdl (p : Int × Int) : Value := .tuple #[p.1, p.2]
end
section
open Go.RowKit
structure Rg where
 lo : Int
 hi : Int
 hl : Bool
 hh : Bool
def Rg.val (r : Rg) : Value := .agg #[r.lo, r.hi, r.hl, r.hh]
def rg0 : Rg := ⟨0, 0, false, false⟩
def oneR (n : Int) : Rg := ⟨n, n, true, true⟩
def zcg (up down : Int) : Rg := ⟨if down = 9223372036854775807 then 0 else -down, if up = 9223372036854775807 then 0 else up, !decide (down = 9223372036854775807), !decide (up = 9223372036854775807)⟩
def varR (N : Nat) (m : List Int) (v : Nat) : Rg := zcg (half (G N m (2 * v) (2 * v + 1))) (half (G N m (2 * v + 1) (2 * v)))
def sumR (N : Nat) (m : List Int) (u v : Nat) : Rg := zcg (G N m (2 * u) (2 * v + 1)) (G N m (2 * u + 1) (2 * v))
def diffR (N : Nat) (m : List Int) (u v : Nat) : Rg := zcg (G N m (2 * u) (2 * v)) (G N m (2 * u + 1) (2 * v + 1))
def opdR (N : Nat) (m : List Int) (v n : Int) : Rg := if 0 ≤ v then varR N m v.toNat else oneR n
def nearR (has : Bool) (n : Int) : Bool := has && decide (-1073741824 ≤ n ∧ n ≤ 1073741824)
def mulR (a b : Rg) : Rg :=
 if nearR a.hl a.lo && nearR a.hh a.hi && nearR b.hl b.lo && nearR b.hh b.hi then
  ⟨min (min (a.lo * b.lo) (a.lo * b.hi)) (min (a.hi * b.lo) (a.hi * b.hi)), max (max (a.lo * b.lo) (a.lo * b.hi)) (max (a.hi * b.lo) (a.hi * b.hi)), true, true⟩
 else rg0
def oneOf (b : Rg) : Int := if b.hl && b.hh && decide (b.lo = b.hi) && decide (0 < b.lo) then b.lo else 0
def divR (a b : Rg) : Rg := if oneOf b = 0 then rg0 else ⟨if a.hl then a.lo.tdiv (oneOf b) else 0, if a.hh then a.hi.tdiv (oneOf b) else 0, a.hl, a.hh⟩
def remR (a b : Rg) : Rg :=
 if oneOf b = 0 then rg0
 else ⟨if a.hl && decide (0 ≤ a.lo) then 0 else 1 - oneOf b,
  if a.hh && decide (a.hi ≤ 0) then 0 else if a.hh && (a.hl && decide (0 ≤ a.lo)) then min (oneOf b - 1) a.hi else oneOf b - 1, true, true⟩
end
section
open Go.RowKit
attribute [local go_sem ↓] Go.wp_at_zero Go.wp_at_succ
theorem zda {n : Int} {N i j : Nat} (hN : (N : Int) = 2 * n) (hi : i < N) (hj : j < N) (hn : N ≤ 128) :
  0 ≤ (i : Int) * (2 * n) ∧ (i : Int) * (2 * n) ≤ 16384 ∧ ((i : Int) * (2 * n) + (j : Int)).toNat = i * N + j ∧ i * N + j < N * N ∧ 0 ≤ (i : Int) * (2 * n) + (j : Int) ∧ (i : Int) * (2 * n) + (j : Int) < ((N * N : Nat) : Int) := by
 have h := zbK hN hi hj hn
 rw [Int.mul_comm (2 * n) (i : Int)] at h
 exact h
theorem zdE (i : Nat) (w : World) (h : i ≤ 1000) :
  Calls Tryz.prog 61 #[(i : Int)] w fun e w' => e = .returned (.int .i64 ((nx i : Nat) : Int)) ∧ w = w' := by
 rw [← zeI]
 exact zbb _ _ (by omega) (by omega)
end
section

end
section
open Go.RowKit
attribute [local go_sem ↓] Go.wp_at_zero Go.wp_at_succ
def topR (N : Nat) (m : List Int) (i : Nat) : Nat → List Int
 | 0 => m
 | l + 1 => if i = l then topR N m i l else (topR N m i l).set (i * N + l) 9223372036854775807
def topM (N : Nat) : Nat → List Int
 | 0 => List.replicate (N * N) 0
 | k + 1 => topR N (topM N k) k N
theorem zfV (N : Nat) (m : List Int) (i : Nat) : ∀ l, (topR N m i l).length = m.length
 | 0 => rfl
 | l + 1 => by unfold topR; split <;> simp [zfV N m i l]
theorem zcQ (N : Nat) : ∀ k, (topM N k).length = N * N
 | 0 => by simp [topM]
 | k + 1 => by unfold topM; rw [zfV, zcQ N k]
theorem zf0 (d N : Nat) (w : World) (hd : d ≤ 64) (hNN : (N : Int) = 2 * (d : Int)) :
  Calls Tryz.prog 53 #[(d : Int)] w (zaX w ⟨(d : Int), false, topM N N⟩) := by
 have hM0 : 4 * (d : Int) * (d : Int) = ((N * N : Nat) : Int) := by rw [Int.natCast_mul, hNN, Int.mul_assoc, Int.mul_assoc, Int.mul_left_comm (d : Int) 2 (d : Int), ← Int.mul_assoc 2 2]; rfl
 have hN1 : N ≤ 128 := by omega
 have hqb : N * N ≤ 128 * 128 := Nat.mul_le_mul hN1 hN1
 have hmk := zd0 (N * N) (by omega)
 have hd4 : 0 ≤ 4 * (d : Int) * (d : Int) := by rw [hM0]; omega
 have hd5 : 4 * (d : Int) * (d : Int) ≤ 16384 := by rw [hM0]; omega
 rw [← hM0] at hmk
 have HN := hid hNN
 have hn0 : 0 ≤ 2 * (d : Int) := by omega
 have hn1 : 2 * (d : Int) ≤ 128 := by omega
 have HM0 := hid hM0
 have a8 := new1 w (Obj.cells #[.int .i64 0, false, .slice none 0 0] 24)
 have p0 := Blk.new w 24 #[.int .i64 0, false, .slice none 0 0]
 have b2 := zfH (w.alloc (Obj.cells #[.int .i64 0, false, .slice none 0 0] 24)) (n := N * N) (Nat.le_refl _) (by omega)
 clear hM0 hNN
 go_enter Tryz.func53, Tryz.ntmps53
 go_wp2
 have b1 : (w.alloc (Obj.cells #[.int .i64 0, false, .slice none 0 0] 24)).heap.size = w.heap.size + 1 := by simp
 rw [b1] at b2
 have n2 := new1 (w.alloc (Obj.cells #[.int .i64 0, false, .slice none 0 0] 24)) (Obj.cells (zbn (N * N)) 2)
 have b0 : ((w.alloc (Obj.cells #[.int .i64 0, false, .slice none 0 0] 24)).alloc (Obj.cells (zbn (N * N)) 2)).heap.size = w.heap.size + 2 := by simp
 replace p0 := p0.later n2
 replace a8 := bup a8 n2
 have n3 := new1 ((w.alloc (Obj.cells #[.int .i64 0, false, .slice none 0 0] 24)).alloc (Obj.cells (zbn (N * N)) 2)) (Obj.cells #[(d : Int), false, .slice (some ⟨w.heap.size + 1, 0, none⟩) (N * N) (N * N)] 24)
 have k3 := Blk.new ((w.alloc (Obj.cells #[.int .i64 0, false, .slice none 0 0] 24)).alloc (Obj.cells (zbn (N * N)) 2)) 24 #[(d : Int), false, .slice (some ⟨w.heap.size + 1, 0, none⟩) (N * N) (N * N)]
 replace b2 := b2.below n3
 replace p0 := p0.later n3
 replace a8 := bup a8 n3
 rw [b0] at k3
 clear n2 n3 b1 b0
 generalize ((w.alloc (Obj.cells #[.int .i64 0, false, .slice none 0 0] 24)).alloc (Obj.cells (zbn (N * N)) 2)).alloc (Obj.cells #[(d : Int), false, .slice (some ⟨w.heap.size + 1, 0, none⟩) (N * N) (N * N)] 24) = w3 at *
 have HLM : Hid (∀ k, (topM N k).length = N * N) := hid (zcQ N)
 have HLR : Hid (∀ m i l, (topR N m i l).length = m.length) := hid (zfV N)
 go_loopw [4] (fun i wr => ∃ k : Nat, k ≤ N ∧ i = .int .i64 k ∧ Blk wr (w.heap.size + 2) 24 #[(d : Int), false, .slice (some ⟨w.heap.size + 1, 0, none⟩) (N * N) (N * N)] ∧ Own wr (w.heap.size + 1) (some ⟨w.heap.size + 1, 0, none⟩) (N * N) (topM N k) ∧ Blk wr w.heap.size 24 #[.int .i64 0, false, .slice none 0 0] ∧ Below w.heap.size w wr) (fun i _ => N - (RowKit.intOf i).toNat)
 case atStart => exact ⟨0, by omega, rfl, k3, b2, p0, a8⟩
 case round =>
  obtain ⟨k, hkN, rfl, kr, ownr, pr, a7⟩ := hrel
  by_cases hlt : k < N
  ·have hltn : (k : Int) < 2 * (d : Int) := by have := HN.out; omega
   have HMS : Hid (topM N (k + 1) = topR N (topM N k) k N) := hid rfl
   have hml := HLM.out k
   have b4 := hid hml
   clear hml
   generalize topM N k = m at *
   go_wp2
   go_loopw [5] (fun j wr => ∃ l : Nat, l ≤ N ∧ j = .int .i64 l ∧ Blk wr (w.heap.size + 2) 24 #[(d : Int), false, .slice (some ⟨w.heap.size + 1, 0, none⟩) (N * N) (N * N)] ∧ Own wr (w.heap.size + 1) (some ⟨w.heap.size + 1, 0, none⟩) (N * N) (topR N m k l) ∧ Blk wr w.heap.size 24 #[.int .i64 0, false, .slice none 0 0] ∧ Below w.heap.size w wr) (fun j _ => N - (RowKit.intOf j).toNat)
   case atStart => exact ⟨0, by omega, rfl, kr, ownr, pr, a7⟩
   case round =>
    clear kr ownr pr a7
    obtain ⟨l, hlN, rfl, kr, ownr, pr, a7⟩ := hrel
    by_cases hlt2 : l < N
    ·have hltn2 : (l : Int) < 2 * (d : Int) := by have := HN.out; omega
     obtain ⟨a1, a2, a3, a4, a5, a6⟩ := zda HN.out hlt hlt2 hN1
     rw [← Int.mul_assoc] at a1 a2 a3 a5 a6
     have HRL := hid ((HLR.out m k l).trans b4.out)
     cases t1 : ((k : Int) != (l : Int))
     ·have b3 : k = l := by
        have : (k : Int) = (l : Int) := by simpa using t1
        omega
      have b6 : Hid (topR N m k (l + 1) = topR N m k l) := hid (by rw [topR, if_pos b3])
      clear b3
      go_wp2
      go_roundw
      case rel => exact ⟨l + 1, by omega, by go_num, kr, by rw [b6.out]; exact ownr, pr, a7⟩
      case measure => simp [RowKit.intOf]; omega
     ·have b3 : k ≠ l := by have := bne_iff_ne.1 t1; omega
      have b6 : Hid (topR N m k (l + 1) = (topR N m k l).set (k * N + l) 9223372036854775807) := hid (by rw [topR, if_neg b3])
      generalize topR N m k l = r at *
      obtain ⟨g1, o1, e1, _, c4⟩ := ownr.rd (k * N + l) (by rw [HRL.out]; exact a4)
      obtain ⟨rfl, rfl⟩ : w.heap.size + 1 = g1 ∧ 0 = o1 := by simpa using e1
      clear e1
      have f4 := ownr.frozen (k * N + l)
      rw [Nat.zero_add] at c4
      have x0 := zaa kr
      go_wp2
      clear x0 c4 f4
      go_roundw
      case rel => exact ⟨l + 1, by omega, by go_num, kr.far (p := ⟨w.heap.size + 1, k * N + l, none⟩) (by simp) _, by rw [b6.out]; exact ownr.store (k * N + l) 9223372036854775807, pr.far (p := ⟨w.heap.size + 1, k * N + l, none⟩) (by simp) _, a7.trans (zaG (by omega) a7.size)⟩
      case measure => simp [RowKit.intOf]; omega
    ·obtain rfl : l = N := by omega
     have hge : ¬ ((l : Int) < 2 * (d : Int)) := by have := HN.out; omega
     rw [← HMS.out] at ownr
     go_wp2
     go_roundw
     case rel => exact ⟨k + 1, by omega, by go_num, kr, ownr, pr, a7⟩
     case measure => simp [RowKit.intOf]; omega
  ·obtain rfl : k = N := by omega
   have hge : ¬ ((k : Int) < 2 * (d : Int)) := by have := HN.out; omega
   have b4 := hid (HLM.out k)
   generalize topM k k = m at *
   have x0 := zaa kr
   have y0 := zaa pr
   go_wp2
   clear x0 y0
   have q3 := pr.set3 (v0 := .int .i64 (d : Int)) (v1 := .bool false) (v2 := .slice (some ⟨w.heap.size + 1, 0, none⟩) (k * k) (k * k))
   have o3 := ownr.far3 (g := w.heap.size) (v0 := .int .i64 (d : Int)) (v1 := .bool false) (v2 := .slice (some ⟨w.heap.size + 1, 0, none⟩) (k * k) (k * k)) (zak ownr pr (by decide))
   obtain ⟨z0, z1, z2, fz⟩ := zaa q3
   refine bodyPost_ret (v := .agg #[(d : Int), false, .slice (some ⟨w.heap.size + 1, 0, none⟩) (k * k) (k * k)]) (by simp [results, Tryz.results53, go_sem, z0, z1, z2]) rfl ⟨_, _, by rw [b4.out], o3.less (by omega), a7.trans (zae (by omega) a7.size)⟩
def zcD (N i j : Nat) (v : Int) (m : List Int) : Int := if near v < gI m ((i * N + j : Nat) : Int) then near v else gI m ((i * N + j : Nat) : Int)
def boundM (N i j : Nat) (v : Int) (m : List Int) : List Int := (m.set (i * N + j) (zcD N i j v m)).set (nx j * N + nx i) (zcD N i j v m)
theorem za7 (N i j : Nat) (v : Int) (m : List Int) : (boundM N i j v m).length = m.length := by simp [boundM]
theorem zgr (n : Int) (m : List Int) (N i j base : Nat) (v : Int) (A : Option Addr) (c : Nat) (w : World) (own : Own w base A c m) (hbase : base ≤ w.heap.size) (hN : (N : Int) = 2 * n) (hn : N ≤ 128) (hl : m.length = N * N) (hi : i < N) (hj : j < N) (hij : i ≠ j) :
  Calls Tryz.prog 52 #[.agg #[n, false, .slice A m.length c], (i : Int), (j : Int), v] w fun e w' => e = .returned (.agg #[n, false, .slice A m.length c]) ∧ Own w' base A c (boundM N i j v m) ∧ Below base w w' := by
 have a8 : Below w.heap.size w ((w.alloc (Obj.cells #[n, false, .slice A m.length c] 24)).alloc (Obj.cells #[.int .i64 0, false, .slice none 0 0] 24)) := ((Below.refl _ _).alloc (Nat.le_refl _) _).alloc (by simp) _
 obtain ⟨p0, p1⟩ := zdR (w := w) (Below.refl _ ((w.alloc (Obj.cells #[n, false, .slice A m.length c] 24)).alloc (Obj.cells #[.int .i64 0, false, .slice none 0 0] 24)))
 have hni := zfi hN hi
 have hnj := zfi hN hj
 have HIA := hid (zda hN hi hj hn)
 have HID := hid (zda hN hnj hni hn)
 have hp1 : w.heap.size + 1 < ((w.alloc (Obj.cells #[n, false, .slice A m.length c] 24)).alloc (Obj.cells #[.int .i64 0, false, .slice none 0 0] 24)).heap.size := p1.lt
 have ho : ∀ g, A = some ⟨g, 0, none⟩ → g < w.heap.size := by
  rcases own.form with ⟨rfl, _⟩ | ⟨g', rfl, _, h'⟩
  ·intro g hg; cases hg
  ·intro g hg; injection hg with hg; injection hg with hg; omega
 replace own := own.below a8
 have hn0 : 0 ≤ 2 * n := by omega
 have hn1 : 2 * n ≤ 128 := by omega
 have HL := hid hl
 rw [← hl] at HIA HID
 have HV : Hid (zcD N i j v m = if near v < gI m ((i * N + j : Nat) : Int) then near v else gI m ((i * N + j : Nat) : Int)) := hid rfl
 have HM : Hid (boundM N i j v m = (m.set (i * N + j) (zcD N i j v m)).set (nx j * N + nx i) (zcD N i j v m)) := hid rfl
 generalize boundM N i j v m = bm at *
 have tij : ((i : Int) == (j : Int)) = false := by rw [beq_eq_false_iff_ne]; omega
 clear hN hl
 go_enter Tryz.func52, Tryz.ntmps52
 go_wp2_with fail
 refine (zgu _ _).mono ?_
 rintro e1 w1 ⟨rfl, rfl⟩
 generalize (w.alloc (Obj.cells #[n, false, .slice A m.length c] 24)).alloc (Obj.cells #[.int .i64 0, false, .slice none 0 0] 24) = w0 at *
 generalize near v = vn at *
 obtain ⟨x0, x1, x2, fx⟩ := zaa p0
 obtain ⟨a1, a2, a3, a4, a5, a6⟩ := HIA.out
 obtain ⟨d1, d2, d3, d4, d5, d6⟩ := HID.out
 go_upto_region 9 with fail
 have f2 := later x2
 clear x0 x1 x2 fx
 obtain ⟨g1, o1, rfl, _, c4⟩ := own.rd (i * N + j) a4
 have hg0 : o1 = 0 := by
  rcases own.form with ⟨h, _⟩ | ⟨g, h, _⟩
  ·cases h
  ·injection h with h; injection h
 subst hg0
 have hg1 : base ≤ g1 := by
  rcases own.form with ⟨h, _⟩ | ⟨g, h, h', _⟩
  ·cases h
  ·injection h with h; injection h with h; omega
 have hg1w : g1 < w.heap.size := ho g1 rfl
 generalize hx : gI m ((i * N + j : Nat) : Int) = x at *
 have f4 := later c4
 rw [Nat.zero_add] at f4
 have fz := own.frozen (i * N + j)
 refine zab 18 (fun X => Below w0.heap.size w0 X) (by kernel_rfl) (by kernel_rfl) (Below.refl _ _).drew ?_
 refine fl_a ?_
 intro W2 hW2
 clear f4 f2 c4
 replace own := own.below hW2
 replace p0 := p0.later hW2
 replace p1 := p1.later hW2
 have b5 := bup a8 hW2
 have fz := own.frozen (i * N + j)
 have c4 : W2.cell? ⟨g1, i * N + j, none⟩ = some (.int .i64 x) := by
  obtain ⟨g2, o2, e2, _, c4⟩ := own.rd (i * N + j) a4
  obtain ⟨rfl, rfl⟩ : g1 = g2 ∧ 0 = o2 := by simpa using e2
  rw [Nat.zero_add, hx] at c4
  exact c4
 have hV := HV.out
 generalize (if vn < x then vn else x) = y at *
 rw [hV] at HM
 go_upto_region 10 with fail
 clear c4 fz
 have hp0 := p0.lt
 have a0 := own.store (i * N + j) y
 replace p0 := p0.far (p := ⟨g1, i * N + j, none⟩) (by simp; omega) (.int .i64 y)
 replace p1 := p1.far (p := ⟨g1, i * N + j, none⟩) (by simp; omega) (.int .i64 y)
 have a9 : Below base w (W2.setCell ⟨g1, i * N + j, none⟩ (.int .i64 y)) := (b5.mono hbase).trans (zaG hg1 (Nat.le_trans hbase b5.size))
 have hgy : gI (m.set (i * N + j) y) ((i * N + j : Nat) : Int) = y := by
  have := zic m (i * N + j) y (i * N + j) a4
  rw [if_pos rfl] at this; exact this
 have HGY := hid hgy
 clear hgy own b5 hW2
 generalize W2.setCell ⟨g1, i * N + j, none⟩ (.int .i64 y) = W3 at *
 obtain ⟨x0, x1, x2, fx⟩ := zaa p0
 have f2 := later x2
 clear x0 x1 x2 fx
 have f4 : ∀ X, Below W3.heap.size W3 X → X.cell? ⟨g1, i * N + j, none⟩ = some (.int .i64 y) := by
  obtain ⟨g2, o2, e2, _, c4⟩ := a0.rd (i * N + j) (by rw [List.length_set]; exact a4)
  obtain ⟨rfl, rfl⟩ : g1 = g2 ∧ 0 = o2 := by simpa using e2
  rw [Nat.zero_add, HGY.out] at c4
  exact later c4
 refine zab 18 (fun X => Below W3.heap.size W3 X) (by kernel_rfl) (by kernel_rfl) (Below.refl _ _).drew ?_
 refine fl_a ?_
 (refine fl_c 61 #[(j : Int)] (.int .i64 ((nx j : Nat) : Int)) (fun X hX => (zdE j _ (by omega)).mono fun e' w' ⟨he, hw⟩ => ⟨he, hw ▸ hX⟩) ?_)
 refine fl_a ?_
 (refine fl_c 61 #[(i : Int)] (.int .i64 ((nx i : Nat) : Int)) (fun X hX => (zdE i _ (by omega)).mono fun e' w' ⟨he, hw⟩ => ⟨he, hw ▸ hX⟩) ?_)
 refine fl_a ?_
 intro W4 hW4
 clear f4 f2
 replace a0 := a0.below hW4
 replace p0 := p0.later hW4
 replace p1 := p1.later hW4
 replace a9 := a9.trans (hW4.mono (Nat.le_trans hbase a9.size))
 obtain ⟨g2, o2, e2, _, c4⟩ := a0.rd (nx j * N + nx i) (by rw [List.length_set]; exact d4)
 obtain ⟨rfl, rfl⟩ : g1 = g2 ∧ 0 = o2 := by simpa using e2
 clear e2
 have fz := a0.frozen (nx j * N + nx i)
 rw [Nat.zero_add] at c4
 go_upto_region 11 with fail
 clear c4 fz
 have hp0' := p0.lt
 replace a0 := a0.store (nx j * N + nx i) y
 replace p0 := p0.far (p := ⟨g1, nx j * N + nx i, none⟩) (by simp; omega) (.int .i64 y)
 replace p1 := p1.far (p := ⟨g1, nx j * N + nx i, none⟩) (by simp; omega) (.int .i64 y)
 replace a9 := a9.trans (zaG (W := W4) (g := g1) (i := nx j * N + nx i) (v := .int .i64 y) hg1 (Nat.le_trans hbase a9.size))
 rw [← HM.out] at a0
 generalize W4.setCell ⟨g1, nx j * N + nx i, none⟩ (.int .i64 y) = W5 at *
 obtain ⟨x0, x1, x2, fx⟩ := zaa p0
 have y0 := zaa p1
 go_wp2
 clear x0 x1 x2 fx y0
 have q3 := p1.set3 (v0 := .int .i64 n) (v1 := .bool false) (v2 := .slice (some ⟨g1, 0, none⟩) m.length c)
 have o3 := a0.far3 (g := w.heap.size + 1) (v0 := .int .i64 n) (v1 := .bool false) (v2 := .slice (some ⟨g1, 0, none⟩) m.length c) (zak a0 p1 (by decide))
 obtain ⟨z0, z1, z2, fz⟩ := zaa q3
 exact bodyPost_ret (v := .agg #[n, false, .slice (some ⟨g1, 0, none⟩) m.length c]) (by simp [results, Tryz.results52, go_sem, z0, z1, z2]) rfl ⟨rfl, o3, a9.trans (zae (by omega) (Nat.le_trans hbase a9.size))⟩
end
section
open Go.RowKit
def emptyO (n : Int) : O := ⟨n, true, []⟩
def withO (o : O) (i j : Nat) (c : Int) : O := if o.e then emptyO o.n else if i = j then (if c < 0 then emptyO o.n else o) else ⟨o.n, false, boundM (2 * o.n).toNat i j c o.m⟩
def zaH (n : Int) : Int := if 2305843009213693952 < n then 9223372036854775807 else if n < -2305843009213693952 then -4611686018427387904 else 2 * n
def negB (n : Int) : Int := if n = -9223372036854775808 then 9223372036854775807 else -n
def hiO (o : O) (v : Nat) (r : Rg) : O := if r.hh then withO o (2 * v) (2 * v + 1) (zaH r.hi) else o
def rangedO (o : O) (v : Nat) (r : Rg) : O := if r.hl then withO (hiO o v r) (2 * v + 1) (2 * v) (zaH (negB r.lo)) else hiO o v r
def zpa (N v p : Nat) : Bool := decide (p / N ≠ p % N) && (decide (p / N / 2 = v) || decide (p % N / 2 = v))
def forgetM (N v : Nat) (m : List Int) : List Int := (List.range m.length).map fun p => if zpa N v p then 9223372036854775807 else gI m (p : Int)
def forgetO (o : O) (v : Nat) : O := if (closeO o).e then closeO o else ⟨o.n, false, forgetM (2 * o.n).toNat v (closeO o).m⟩
def giveO (o : O) (v : Nat) (r : Rg) : O := closeO (rangedO (forgetO o v) v r)
def zbO (s : Bool) : Int := if s then -1 else 0
def atMostO (c : O) (av an bv bn : Int) (s : Bool) : O :=
 if 0 ≤ av then
  if 0 ≤ bv then (if av = bv then (if s then emptyO c.n else c) else withO c (2 * av.toNat) (2 * bv.toNat) (zbO s))
  else if s && decide (bn = -9223372036854775808) then emptyO c.n else rangedO c av.toNat ⟨0, bn + zbO s, false, true⟩
 else if s && decide (an = 9223372036854775807) then emptyO c.n else rangedO c bv.toNat ⟨an - zbO s, 0, true, false⟩
def zby (c : O) (av an bv bn : Int) : O :=
 if av = bv then emptyO c.n
 else
  let o1 := if G (2 * c.n).toNat c.m (2 * av.toNat) (2 * bv.toNat) = 0 then atMostO c av an bv bn true else c
  if G (2 * c.n).toNat c.m (2 * bv.toNat) (2 * av.toNat) = 0 then atMostO o1 bv bn av an true else o1
def unlikeNumO (c : O) (av an bv bn : Int) : O :=
 let r := varR (2 * c.n).toNat c.m av.toNat
 let o1 := if r.hh && decide (r.hi = bn) then atMostO c av an bv bn true else c
 if r.hl && decide (r.lo = bn) then atMostO o1 bv bn av an true else o1
def unlikeO (c : O) (av an bv bn : Int) : O :=
 if av < 0 then (if 0 ≤ av then zby c bv bn av an else unlikeNumO c bv bn av an)
 else if 0 ≤ bv then zby c av an bv bn else unlikeNumO c av an bv bn
def za2 (c : O) (op av an bv bn : Int) : O :=
 if av < 0 ∧ bv < 0 then (if cmpB op an bn then c else emptyO c.n)
 else if op = 3 then closeO (atMostO (atMostO c av an bv bn false) bv bn av an false)
 else if op = 4 then closeO (unlikeO c av an bv bn)
 else if op = 5 then closeO (atMostO c bv bn av an true)
 else if op = 1 then closeO (atMostO c av an bv bn true)
 else if op = 6 then closeO (atMostO c bv bn av an false)
 else closeO (atMostO c av an bv bn false)
def linkO (c : O) (i j : Nat) (k : Int) : O := closeO (withO (withO (forgetO c (i / 2)) i j k) j i (-k))
def byK (dst : Nat) (k : Int) (i : Nat) : Int := if i / 2 = dst then (if i % 2 = 0 then k else -k) else 0
def zbf (N dst : Nat) (k : Int) (m : List Int) : List Int :=
 (List.range m.length).map fun p => if p / N ≠ p % N ∧ gI m (p : Int) ≠ 9223372036854775807 then plus (gI m (p : Int)) (byK dst k (p / N) - byK dst k (p % N)) else gI m (p : Int)
def zbL (c : O) (dst y : Nat) (k : Int) : O :=
 if 2305843009213693952 < k ∨ k < -2305843009213693952 then forgetO c dst
 else if y ≠ dst then linkO c (2 * dst) (2 * y) k
 else closeO ⟨c.n, false, zbf (2 * c.n).toNat dst k c.m⟩
def otherV (v i : Nat) : Nat := if i / 2 = v then nx i else i
def zdk (N v : Nat) (m : List Int) : List Int := (List.range m.length).map fun p => G N m (otherV v (p / N)) (otherV v (p % N))
def zcF (c : O) (v : Nat) : O := closeO ⟨c.n, false, zdk (2 * c.n).toNat v c.m⟩
def pairO (o : O) (i j : Nat) (r : Rg) : O :=
 let o1 := if r.hh then withO o i j r.hi else o
 if r.hl then withO o1 j i (negB r.lo) else o1
def turnedR (r : Rg) : Rg := ⟨negB r.hi, negB r.lo, r.hh, r.hl⟩
def sumsO (c : O) (dst u w : Nat) (diff : Bool) : O :=
 let N := (2 * c.n).toNat
 let p := varR N c.m u
 let q := if diff then turnedR (varR N c.m w) else varR N c.m w
 let r := if diff then diffR N c.m u w else sumR N c.m u w
 let side := if diff then 2 * w + 1 else 2 * w
 let d := rangedO (forgetO c dst) dst r
 let d1 := if u ≠ w ∧ w ≠ dst then pairO d (2 * dst) side p else d
 let d2 := if u ≠ w ∧ u ≠ dst then pairO d1 (2 * dst) (2 * u) q else d1
 closeO d2
def kindW (kd a b : Int) : Int × Int := if kd = 3 then negW a else if kd = 4 then addW a b else if kd = 5 then subW a b else if kd = 6 then mulW a b else if kd = 7 then divW a b else remW a b
def zaF (c : O) (kd : Int) (dst : Nat) (a b : Int) : O := if (kindW kd a b).2 = 0 then giveO c dst (oneR (kindW kd a b).1) else emptyO c.n
def restR (k : Int) (r : Rg) : Rg :=
 ⟨if r.hh then (subW k r.hi).1 else 0, if r.hl then (subW k r.lo).1 else 0, r.hh && decide ((subW k r.hi).2 = 0), r.hl && decide ((subW k r.lo).2 = 0)⟩
def zhL (c : O) (diff : Bool) (dst : Nat) (av an bv bn : Int) : O :=
 if 0 ≤ av then
  if 0 ≤ bv then sumsO c dst av.toNat bv.toNat diff
  else if diff then (if (negW bn).2 = 0 then zbL c dst av.toNat (-bn) else giveO c dst rg0)
  else zbL c dst av.toNat bn
 else if diff then giveO c dst (restR an (varR (2 * c.n).toNat c.m bv.toNat))
 else zbL c dst bv.toNat an
def kindR (kd : Int) (a b : Rg) : Rg := if kd = 6 then mulR a b else if kd = 7 then divR a b else remR a b
def productsO (c : O) (kd : Int) (dst : Nat) (av an bv bn : Int) : O := giveO c dst (kindR kd (opdR (2 * c.n).toNat c.m av an) (opdR (2 * c.n).toNat c.m bv bn))
end
section
open Go.RowKit
theorem zdV (N i j : Nat) (v : Int) (m : List Int) : zcD N i j v m = min (G N m i j) (near v) := by
 unfold zcD G; split <;> omega
theorem zf7 {N : Nat} (hN : N % 2 = 0) {m : List Int} (hl : m.length = N * N) {i j : Nat} (hi : i < N) (hj : j < N) (v : Int) {a b : Nat} (_ha : a < N) (hb : b < N) :
  G N (boundM N i j v m) a b = if (a = i ∧ b = j) ∨ (a = nx j ∧ b = nx i) then min (G N m i j) (near v) else G N m a b := by
 unfold boundM
 rw [zdX (by rw [List.length_set]; exact hl) (nxl hN hj) (nxl hN hi) _ hb, zdX hl hi hj _ hb, zdV]
 by_cases h1 : a = nx j ∧ b = nx i
 ·rw [if_pos h1, if_pos (.inr h1)]
 ·rw [if_neg h1]
  by_cases h2 : a = i ∧ b = j
  ·rw [if_pos h2, if_pos (.inl h2)]
  ·rw [if_neg h2, if_neg (fun h => h.elim h2 h1)]
theorem zeb {N : Nat} (hN : N % 2 = 0) {m : List Int} (h : Cells N m) {i j : Nat} (hi : i < N) (hj : j < N) (hij : i ≠ j) (v : Int) : Cells N (boundM N i j v m) := by
 have g := fun (a b : Nat) (ha : a < N) (hb : b < N) => zf7 hN h.len hi hj v (a := a) (b := b) ha hb
 refine ⟨by rw [za7]; exact h.len, fun a b ha hb => ?_, fun a ha => ?_, fun a b ha hb => ?_⟩
 ·show zag (G N _ a b) = true
  rw [g a b ha hb]
  split
  ·exact zaY (h.bd i j hi hj) (zb5 _)
  ·exact h.bd a b ha hb
 ·show G N _ a a = 0
  rw [g a a ha ha, if_neg]
  ·exact h.diag a ha
  ·rintro (⟨h1, h2⟩ | ⟨h1, h2⟩)
   ·exact hij (h1.symm.trans h2)
   ·exact hij (zdL (h2.symm.trans h1))
 ·show G N _ a b = G N _ (nx b) (nx a)
  rw [g a b ha hb, g (nx b) (nx a) (nxl hN hb) (nxl hN ha)]
  have e : ((a = i ∧ b = j) ∨ (a = nx j ∧ b = nx i)) ↔ ((nx b = i ∧ nx a = j) ∨ (nx b = nx j ∧ nx a = nx i)) := by
   constructor
   ·rintro (⟨rfl, rfl⟩ | ⟨rfl, rfl⟩)
    ·exact .inr ⟨rfl, rfl⟩
    ·exact .inl ⟨zbv _, zbv _⟩
   ·rintro (⟨rfl, rfl⟩ | ⟨h1, h2⟩)
    ·exact .inr ⟨(zbv _).symm, (zbv _).symm⟩
    ·exact .inl ⟨zdL h2, zdL h1⟩
  by_cases c : (a = i ∧ b = j) ∨ (a = nx j ∧ b = nx i)
  ·rw [if_pos c, if_pos (e.1 c)]
  ·rw [if_neg c, if_neg (fun q => c (e.2 q))]
   exact h.mir a b ha hb
theorem zhR {N L : Nat} (hL : L = N * N) (f : Nat → Int) {a b : Nat} (ha : a < N) (hb : b < N) : G N ((List.range L).map f) a b = f (a * N + b) := by
 have hlt : a * N + b < L := by rw [hL]; exact zlC ha hb
 unfold G gI
 rw [Int.toNat_natCast]
 simp [List.getD, hlt]
theorem zcC {N a b : Nat} (hb : b < N) : (a * N + b) / N = a := by
 rw [Nat.add_comm, Nat.add_mul_div_right _ _ (by omega), Nat.div_eq_of_lt hb, Nat.zero_add]
theorem zc8 {N a b : Nat} (hb : b < N) : (a * N + b) % N = b := by
 rw [Nat.add_comm, Nat.add_mul_mod_self_right, Nat.mod_eq_of_lt hb]
theorem zcu (a : Nat) : nx a / 2 = a / 2 := by unfold nx; split <;> omega
theorem zcH {N v : Nat} {m : List Int} (hl : m.length = N * N) {a b : Nat} (ha : a < N) (hb : b < N) : G N (forgetM N v m) a b = if a ≠ b ∧ (a / 2 = v ∨ b / 2 = v) then 9223372036854775807 else G N m a b := by
 unfold forgetM
 rw [zhR hl _ ha hb]
 unfold zpa
 rw [zcC hb, zc8 hb]
 by_cases h : a ≠ b ∧ (a / 2 = v ∨ b / 2 = v)
 ·rw [if_pos h, if_pos (by simpa using h)]
 ·rw [if_neg h, if_neg (by simpa using h)]; rfl
theorem zdc (N v : Nat) (m : List Int) : (forgetM N v m).length = m.length := by simp [forgetM]
theorem zdK {N v : Nat} (hN : N % 2 = 0) {m : List Int} (h : Cells N m) : Cells N (forgetM N v m) := by
 have g := fun (a b : Nat) (ha : a < N) (hb : b < N) => zcH (v := v) h.len (a := a) (b := b) ha hb
 refine ⟨by rw [zdc]; exact h.len, fun a b ha hb => ?_, fun a ha => ?_, fun a b ha hb => ?_⟩
 ·show zag (G N _ a b) = true
  rw [g a b ha hb]
  split
  ·decide
  ·exact h.bd a b ha hb
 ·show G N _ a a = 0
  rw [g a a ha ha, if_neg (fun q => q.1 rfl)]
  exact h.diag a ha
 ·show G N _ a b = G N _ (nx b) (nx a)
  rw [g a b ha hb, g (nx b) (nx a) (nxl hN hb) (nxl hN ha), zcu, zcu]
  by_cases c : a ≠ b ∧ (a / 2 = v ∨ b / 2 = v)
  ·rw [if_pos c, if_pos ⟨fun e => c.1 (zdL e).symm, c.2.symm⟩]
  ·rw [if_neg c, if_neg (fun q => c ⟨fun e => q.1 (by rw [e]), q.2.symm⟩)]
   exact h.mir a b ha hb
theorem znt (dst : Nat) (k : Int) (i : Nat) : byK dst k (nx i) = -byK dst k i := by
 unfold byK
 rw [zcu]
 by_cases h : i / 2 = dst
 ·rw [if_pos h, if_pos h]
  unfold nx
  by_cases e : i % 2 = 0
  ·rw [if_pos e, if_pos e, if_neg (by omega)]
  ·rw [if_neg e, if_neg e, if_pos (by omega), Int.neg_neg]
 ·rw [if_neg h, if_neg h]; rfl
theorem zf4 {N dst : Nat} {k : Int} {m : List Int} (hl : m.length = N * N) {a b : Nat} (ha : a < N) (hb : b < N) :
  G N (zbf N dst k m) a b = if a ≠ b ∧ G N m a b ≠ 9223372036854775807 then plus (G N m a b) (byK dst k a - byK dst k b) else G N m a b := by
 unfold zbf
 rw [zhR hl _ ha hb, zcC hb, zc8 hb]
 rfl
theorem zfz (N dst : Nat) (k : Int) (m : List Int) : (zbf N dst k m).length = m.length := by simp [zbf]
theorem zb3 {N dst : Nat} {k : Int} (hN : N % 2 = 0) {m : List Int} (h : Cells N m) : Cells N (zbf N dst k m) := by
 have g := fun (a b : Nat) (ha : a < N) (hb : b < N) => zf4 (dst := dst) (k := k) h.len (a := a) (b := b) ha hb
 refine ⟨by rw [zfz]; exact h.len, fun a b ha hb => ?_, fun a ha => ?_, fun a b ha hb => ?_⟩
 ·show zag (G N _ a b) = true
  rw [g a b ha hb]
  split
  ·exact zbi _ _
  ·exact h.bd a b ha hb
 ·show G N _ a a = 0
  rw [g a a ha ha, if_neg (fun q => q.1 rfl)]
  exact h.diag a ha
 ·show G N _ a b = G N _ (nx b) (nx a)
  have e : G N m (nx b) (nx a) = G N m a b := (h.mir a b ha hb).symm
  rw [g a b ha hb, g (nx b) (nx a) (nxl hN hb) (nxl hN ha), znt, znt, e]
  by_cases c : a ≠ b ∧ G N m a b ≠ 9223372036854775807
  ·rw [if_pos c, if_pos ⟨fun q => c.1 (zdL q).symm, c.2⟩, show -byK dst k b - -byK dst k a = byK dst k a - byK dst k b by omega]
  ·rw [if_neg c, if_neg (fun q => c ⟨fun e => q.1 (by rw [e]), q.2⟩)]
theorem zbs {N v i : Nat} (hN : N % 2 = 0) (hi : i < N) : otherV v i < N := by unfold otherV; split; exact nxl hN hi; exact hi
theorem zg6 (v i : Nat) : otherV v (nx i) = nx (otherV v i) := by
 unfold otherV
 rw [zcu]
 split <;> rfl
theorem zhA {N v : Nat} {m : List Int} (hl : m.length = N * N) {a b : Nat} (ha : a < N) (hb : b < N) : G N (zdk N v m) a b = G N m (otherV v a) (otherV v b) := by
 unfold zdk
 rw [zhR hl _ ha hb, zcC hb, zc8 hb]
theorem zgM (N v : Nat) (m : List Int) : (zdk N v m).length = m.length := by simp [zdk]
theorem zcr {N v : Nat} (hN : N % 2 = 0) {m : List Int} (h : Cells N m) : Cells N (zdk N v m) := by
 have g := fun (a b : Nat) (ha : a < N) (hb : b < N) => zhA (v := v) h.len (a := a) (b := b) ha hb
 refine ⟨by rw [zgM]; exact h.len, fun a b ha hb => ?_, fun a ha => ?_, fun a b ha hb => ?_⟩
 ·show zag (G N _ a b) = true
  rw [g a b ha hb]
  exact h.bd _ _ (zbs hN ha) (zbs hN hb)
 ·show G N _ a a = 0
  rw [g a a ha ha]
  exact h.diag _ (zbs hN ha)
 ·show G N _ a b = G N _ (nx b) (nx a)
  rw [g a b ha hb, g (nx b) (nx a) (nxl hN hb) (nxl hN ha), zg6, zg6]
  exact h.mir _ _ (zbs hN ha) (zbs hN hb)
structure OkO (n : Int) (o : O) : Prop where
 n_ : o.n = n
 ok : check o = 0
theorem zkz {n : Int} (h0 : 0 ≤ n) (h1 : n ≤ 64) : OkO n (emptyO n) := ⟨rfl, zex ⟨h0, h1⟩⟩
section
variable {n : Int} {o : O}
theorem OkO.rng (h : OkO n o) : 0 ≤ n ∧ n ≤ 64 := by
 obtain ⟨h0, h1, _, _⟩ := zbD h.ok
 rw [h.n_] at h0 h1
 exact ⟨h0, h1⟩
theorem OkO.empty (h : OkO n o) : OkO n (emptyO n) := zkz h.rng.1 h.rng.2
theorem OkO.form (h : OkO n o) : o = emptyO n ∨ ∃ (N : Nat) (m : List Int), (N : Int) = 2 * n ∧ N ≤ 128 ∧ o = ⟨n, false, m⟩ ∧ Cells N m := by
 obtain ⟨h0, h1, he, _⟩ := zbD h.ok
 have hn := h.n_
 have hc := h.ok
 obtain ⟨n', e, m⟩ := o
 dsimp only at *
 subst hn
 cases e with
 | true =>
  have := he rfl
  subst this
  exact .inl rfl
 | false =>
  refine .inr ⟨(2 * n').toNat, m, by omega, by omega, rfl, zdM (by omega) hc⟩
theorem OkO.of_cells {N : Nat} {m : List Int} (hN : (N : Int) = 2 * n) (hn : N ≤ 128) (h : Cells N m) : OkO n ⟨n, false, m⟩ := ⟨rfl, zdB hN hn h⟩
theorem OkO.close (h : OkO n o) : OkO n (closeO o) := ⟨(zme o).trans h.n_, zgI h.ok⟩
theorem OkO.with_ (h : OkO n o) {i j : Nat} (hi : (i : Int) < 2 * n) (hj : (j : Int) < 2 * n) (c : Int) : OkO n (withO o i j c) := by
 rcases h.form with rfl | ⟨N, m, hN, hn, rfl, hc⟩
 ·exact h
 ·unfold withO
  rw [if_neg (by simp)]
  split
  ·split
   ·exact h.empty
   ·exact h
  ·rename_i hij
   dsimp only
   rw [show (2 * n).toNat = N by omega]
   exact OkO.of_cells hN hn (zeb (by omega) hc (by omega) (by omega) hij c)
theorem OkO.hi_ (h : OkO n o) {v : Nat} (hv : (v : Int) < n) (r : Rg) : OkO n (hiO o v r) := by
 unfold hiO
 split
 ·exact h.with_ (by omega) (by omega) _
 ·exact h
theorem OkO.ranged (h : OkO n o) {v : Nat} (hv : (v : Int) < n) (r : Rg) : OkO n (rangedO o v r) := by
 unfold rangedO
 split
 ·exact (h.hi_ hv r).with_ (by omega) (by omega) _
 ·exact h.hi_ hv r
theorem OkO.forget (h : OkO n o) (v : Nat) : OkO n (forgetO o v) := by
 have hc := h.close
 unfold forgetO
 split
 ·exact hc
 ·rename_i he
  rcases hc.form with e | ⟨N, m, hN, hn, e, hcs⟩
  ·rw [e] at he; exact absurd rfl he
  ·rw [e, h.n_]
   dsimp only
   rw [show (2 * n).toNat = N by omega]
   exact OkO.of_cells hN hn (zdK (by omega) hcs)
theorem OkO.give (h : OkO n o) {v : Nat} (hv : (v : Int) < n) (r : Rg) : OkO n (giveO o v r) := ((h.forget v).ranged hv r).close
theorem OkO.atMost (h : OkO n o) {av an bv bn : Int} {s : Bool} (ha : av < n) (hb : bv < n) (hab : 0 ≤ av ∨ 0 ≤ bv) : OkO n (atMostO o av an bv bn s) := by
 have h0 := h.empty
 unfold atMostO
 rw [h.n_]
 split
 ·split
  ·split
   ·split
    ·exact h0
    ·exact h
   ·exact h.with_ (by omega) (by omega) _
  ·split
   ·exact h0
   ·exact h.ranged (by omega) _
 ·split
  ·exact h0
  ·exact h.ranged (by omega) _
theorem OkO.pair (h : OkO n o) {i j : Nat} (hi : (i : Int) < 2 * n) (hj : (j : Int) < 2 * n) (r : Rg) : OkO n (pairO o i j r) := by
 unfold pairO
 dsimp only
 split
 ·split
  ·exact (h.with_ hi hj _).with_ hj hi _
  ·exact h.with_ hj hi _
 ·split
  ·exact h.with_ hi hj _
  ·exact h
end
end
end Go.Proofs.YtnmpgijiimglcaaGreat
