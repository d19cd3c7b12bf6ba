import Derived.Test.YtnmpgijiimglcaaGreatBSe03
import Derived.Test.YtnmpgijiimglcaaGreatBSe02
namespace Go.Proofs.YtnmpgijiimglcaaGreat
set_option maxRecDepth 100000
set_option maxHeartbeats 8000000
section
open Go.RowKit
attribute [local go_sem ↓] Go.wp_at_zero Go.wp_at_succ
theorem zc7 (n : Int) (w : World) :
  Calls Tryz.prog 65 #[n] w fun e w' => e = .returned (.agg #[n, true, .slice none 0 0]) ∧ Below w.heap.size w w' := by
 go_enter Tryz.func65, Tryz.ntmps65
 go_wp2
 refine bodyPost_ret (v := .agg #[n, true, .slice none 0 0]) (by simp [results, Tryz.results65, go_sem]) rfl ⟨rfl, ?_⟩
 exact (Below.refl _ _).alloc (Nat.le_refl _) _
end
section

end
section

end
section
open Go.RowKit
theorem zde (xs : List Int) {k : Nat} (h : k < xs.length) : xs.take (k + 1) = xs.take k ++ [gI xs k] := by
 rw [List.take_succ_eq_append_getElem h]; unfold gI; simp [h]
theorem zid (xs ys : List Int) (A A' : Option Addr) (c c' : Nat) (w : World) (hx : Rd w w.heap.size A xs) (hy : Rd w w.heap.size A' ys) (hm : xs.length ≤ 17592186044416) :
  Calls Tryz.prog 55 #[.slice A xs.length c, .slice A' ys.length c'] w fun e w' => e = .returned (.bool (decide (xs = ys))) ∧ Below w.heap.size w w' := by
 by_cases hl : xs.length = ys.length
 ·have tl : ((xs.length : Int) != (ys.length : Int)) = false := by rw [bne_eq_false_iff_eq]; omega
  have HL := hid hl
  have hxl : xs.length ≤ ys.length := by omega
  have hyl : ys.length ≤ xs.length := by omega
  clear hl
  go_enter Tryz.func55, Tryz.ntmps55
  go_wp2
  go_loopw [5] (fun i wr => ∃ k : Nat, k ≤ xs.length ∧ i = .int .i64 k ∧ Hid (xs.take k = ys.take k) ∧ Below w.heap.size w wr) (fun i _ => xs.length - (RowKit.intOf i).toNat)
  case atStart => exact ⟨0, by omega, rfl, hid (by simp), Below.refl _ _⟩
  case round =>
   obtain ⟨k, hk, rfl, hs, hb⟩ := hrel
   by_cases hlt : k < xs.length
   ·obtain ⟨b, off, rfl, hB, hc⟩ := hx k hlt
    obtain ⟨b', off', rfl, hB', hc'⟩ := hy k (by omega)
    have c1 : ∀ W, Below w.heap.size w W → W.cell? ⟨b, off + k, none⟩ = some (.int .i64 (gI xs k)) := fun W hW => (hW.cell (p := ⟨b, off + k, none⟩) hB).trans hc
    have c2 : ∀ W, Below w.heap.size w W → W.cell? ⟨b', off' + k, none⟩ = some (.int .i64 (gI ys k)) := fun W hW => (hW.cell (p := ⟨b', off' + k, none⟩) hB').trans hc'
    have hi0 : (0 : Int) ≤ (k : Int) := by omega
    have hi1 : (k : Int) < (xs.length : Int) := by omega
    have hi2 : (k : Int) < (ys.length : Int) := by omega
    clear hc hc'
    cases tv : (gI xs k == gI ys k)
    ·have tv' : (gI xs k != gI ys k) = true := by rw [bne_iff_ne]; simpa using tv
     go_wp2
     refine zad 9 (fun W => Below w.heap.size w W) (by kernel_rfl) (by kernel_rfl) hb.drew ?_
     refine fl_a ?_
     intro w4 a1
     go_wp2
     go_ret
     refine ⟨retb ?_, a1⟩
     symm; rw [decide_eq_false_iff_not]; rintro rfl
     simp at tv
    ·have tv' : (gI xs k != gI ys k) = false := by rw [bne_eq_false_iff_eq]; simpa using tv
     go_wp2
     refine zad 9 (fun W => Below w.heap.size w W) (by kernel_rfl) (by kernel_rfl) hb.drew ?_
     refine fl_a ?_
     intro w4 a1
     go_wp2
     go_roundw
     case rel => exact ⟨k + 1, by omega, by go_num, hid (by rw [zde xs hlt, zde ys (by omega), hs.out, show gI xs k = gI ys k by simpa using tv]), a1⟩
     case measure => simp [RowKit.intOf]; omega
   ·have hkk : k = xs.length := by omega
    have he : xs = ys := by
     have := hs.out
     rw [List.take_of_length_le (by omega), List.take_of_length_le (by omega)] at this
     exact this
    have he := hid he
    clear hkk
    go_wp2
    go_ret
    exact ⟨retb (by rw [decide_eq_true he.out]), hb⟩
 ·have tl : ((xs.length : Int) != (ys.length : Int)) = true := by rw [bne_iff_ne]; omega
  go_enter Tryz.func55, Tryz.ntmps55
  go_wp2
  go_ret
  exact ⟨retb (by symm; rw [decide_eq_false_iff_not]; rintro rfl; exact hl rfl), Below.refl _ _⟩
def eqO (o p : O) : Bool := decide (o.n = p.n) && (decide (o.e = p.e) && decide (o.m = p.m))
theorem zk0 (o p : O) (A A' : Option Addr) (c c' : Nat) (w : World) (hx : Rd w w.heap.size A o.m) (hy : Rd w w.heap.size A' p.m) (hm : o.m.length ≤ 17592186044416) :
  Calls Tryz.prog 23 #[.agg #[o.n, o.e, .slice A o.m.length c], .agg #[p.n, p.e, .slice A' p.m.length c']] w fun e w' => e = .returned (.bool (eqO o p)) ∧ Below w.heap.size w w' := by
 obtain ⟨n, e, m⟩ := o
 obtain ⟨n', e', m'⟩ := p
 dsimp only at *
 have a0 : ∀ o1 o2, Below w.heap.size w ((w.alloc o1).alloc o2) := fun o1 o2 => ((Below.refl _ _).alloc (Nat.le_refl _) _).alloc (by simp) _
 by_cases hn : n = n'
 ·have tn : (n == n') = true := by simpa using hn
  have HN := hid hn; clear hn
  by_cases he : e = e'
  ·subst he
   go_enter Tryz.func23, Tryz.ntmps23
   go_wp2_with (go_at_call 55; refine (zid m m' A A' c c' _ ((hx.below (a0 _ _)).more (by simp; omega)) ((hy.below (a0 _ _)).more (by simp; omega)) hm).mono ?_; rintro e' w1 ⟨rfl, hb1⟩)
   go_ret
   exact ⟨retb (by unfold eqO; rw [decide_eq_true HN.out]; simp), (a0 _ _).trans (hb1.mono (by simp; omega))⟩
  ·have te : (e == e') = false := by simpa using he
   have HE := hid he; clear he
   go_enter Tryz.func23, Tryz.ntmps23
   go_wp2
   go_ret
   exact ⟨retb (by unfold eqO; rw [decide_eq_false HE.out]; simp), a0 _ _⟩
 ·have tn : (n == n') = false := by simpa using hn
  have HN := hid hn; clear hn
  go_enter Tryz.func23, Tryz.ntmps23
  go_wp2
  go_ret
  exact ⟨retb (by unfold eqO; rw [decide_eq_false HN.out]; simp), a0 _ _⟩
end
section

end
section
open Go.RowKit
attribute [local go_sem ↓] Go.wp_at_zero Go.wp_at_succ
def rep {α : Type} (f : Nat → α → α) : Nat → α → α
 | 0, x => x
 | t + 1, x => f t (rep f t x)
def AllB (xs : List Int) : Prop := ∀ i : Nat, zaq (gI xs i) = true
theorem zfZ (xs : List Int) (k : Nat) (v : Int) (i : Nat) (hk : k < xs.length) : gI (xs.set k v) i = if i = k then v else gI xs i := by
 unfold gI
 simp only [Int.toNat_natCast, List.getD, List.getElem?_set]
 by_cases h : k = i
 ·subst h; simp [hk]
 ·rw [if_neg h, if_neg (fun e => h e.symm)]
theorem AllB.set {xs : List Int} (h : AllB xs) {k : Nat} {v : Int} (hv : zaq v = true) (hk : k < xs.length) : AllB (xs.set k v) := fun i => by
 rw [zfZ xs k v i hk]
 split
 ·exact hv
 ·exact h i
theorem zkN {W : World} {base cap g i : Nat} {A : Option Addr} {m : List Int} {v : Value} (h : Own W base A cap m) (hn : ∀ k, A = some ⟨k, 0, none⟩ → k ≠ g) : Own (W.setCell ⟨g, i, none⟩ v) base A cap m := by
 refine h.grown (zay W ⟨g, i, none⟩ v) ?_
 rcases h.form with ⟨rfl, _⟩ | ⟨g', rfl, _⟩
 ·exact .inl rfl
 ·refine .inr fun e => hn g' rfl ?_
  simpa [Value.ownBlock] using e
def MX (B gx : Nat) (n : Int) (A : Option Addr) (cap : Nat) (e : Bool) (xs : List Int) (W : World) : Prop :=
 B ≤ gx ∧ (∀ g, A = some ⟨g, 0, none⟩ → g ≠ gx) ∧ (∃ s, Blk W gx 181 #[n, .slice A xs.length cap, .bool s, e]) ∧ Own W B A cap xs
def SX (w0 : World) (gx : Nat) (n : Int) (A : Option Addr) (L cap : Nat) (e : Bool) (W : World) : Prop :=
 w0.grownBy W (some gx) ∧ ∃ s, Blk W gx 181 #[n, .slice A L cap, .bool s, e]
section
variable {B gx cap gm : Nat} {n : Int} {A : Option Addr} {e : Bool} {xs : List Int} {W W' w0 : World}
theorem MX.base (h : MX B gx n A cap e xs W) : B ≤ gx := h.1
theorem MX.sx (h : MX B gx n A cap e xs W) : SX W gx n A xs.length cap e W := ⟨World.grownBy.refl _ _, h.2.2.1⟩
theorem MX.go (h : MX B gx n A cap e xs w0) (hs : SX w0 gx n A xs.length cap e W) : MX B gx n A cap e xs W := by
 refine ⟨h.1, h.2.1, hs.2, h.2.2.2.grown hs.1 ?_⟩
 rcases h.2.2.2.form with ⟨rfl, _⟩ | ⟨g, rfl, _⟩
 ·exact .inl rfl
 ·refine .inr fun e => h.2.1 g rfl ?_
  simpa [Value.ownBlock] using e
theorem SX.up {L : Nat} (h : SX w0 gx n A L cap e W) (hb : Below W.heap.size W W') : SX w0 gx n A L cap e W' :=
 ⟨h.1.trans (za1 hb _), h.2.imp fun _ hk => hk.later hb⟩
theorem SX.drew {L : Nat} (h : SX w0 gx n A L cap e W) : SX w0 gx n A L cap e W.drew := h.up (Below.refl _ _).drew
theorem MX.up (h : MX B gx n A cap e xs W) (hb : Below W.heap.size W W') : MX B gx n A cap e xs W' := h.go (h.sx.up hb)
theorem SX.bel {L : Nat} (h : SX w0 gx n A L cap e W) (hB : B ≤ gx) (hB' : B ≤ w0.heap.size) : Below B w0 W := zaW h.1 (fun k hk => by injection hk with hk; omega) hB'
theorem MX.some (h : MX B gx n A cap e xs W) (hl : 0 < xs.length) : ∃ gm, A = .some ⟨gm, 0, none⟩ ∧ B ≤ gm ∧ gm < W.heap.size ∧ gm ≠ gx := by
 rcases h.2.2.2.form with ⟨_, h0, _⟩ | ⟨g, h1, h2, h3⟩
 ·rw [h0] at hl; simp at hl
 ·exact ⟨g, h1, h2, h3, h.2.1 g h1⟩
theorem MX.n_ (h : MX B gx n A cap e xs W) : W.cell? ⟨gx, 0, none⟩ = Option.some (.int .i64 n) := by obtain ⟨s, hk⟩ := h.2.2.1; exact hk.cell 0
theorem MX.m_ (h : MX B gx n A cap e xs W) : W.cell? ⟨gx, 1, none⟩ = Option.some (.slice A xs.length cap) := by obtain ⟨s, hk⟩ := h.2.2.1; exact hk.cell 1
theorem MX.e_ (h : MX B gx n A cap e xs W) : W.cell? ⟨gx, 3, none⟩ = Option.some (.bool e) := by obtain ⟨s, hk⟩ := h.2.2.1; exact hk.cell 3
theorem MX.c_ (h : MX B gx n (.some ⟨gm, 0, none⟩) cap e xs W) {k : Nat} (hk : k < xs.length) : W.cell? ⟨gm, k, none⟩ = Option.some (.int .i64 (gI xs k)) := by
 obtain ⟨b, off, hA, _, hc⟩ := h.2.2.2.rd k hk
 simp only [Option.some.injEq, Addr.mk.injEq] at hA
 obtain ⟨rfl, rfl, _⟩ := hA
 simpa using hc
theorem MX.f_ (h : MX B gx n (.some ⟨gm, 0, none⟩) cap e xs W) (k : Nat) : W.frozen? ⟨gm, k, none⟩ = false := h.2.2.2.frozen k
theorem MX.set (h : MX B gx n (.some ⟨gm, 0, none⟩) cap e xs W) (k : Nat) (v : Int) : MX B gx n (.some ⟨gm, 0, none⟩) cap e (xs.set k v) (W.setCell ⟨gm, k, none⟩ (.int .i64 v)) := by
 refine ⟨h.1, h.2.1, ?_, h.2.2.2.store k v⟩
 obtain ⟨s, hk⟩ := h.2.2.1
 rw [List.length_set]
 exact ⟨s, hk.far (p := ⟨gm, k, none⟩) (h.2.1 gm rfl) _⟩
theorem MX.setE (h : MX B gx n A cap e xs W) (u : Bool) : MX B gx n A cap u xs (W.setCell ⟨gx, 3, none⟩ (.bool u)) := by
 obtain ⟨s, hk⟩ := h.2.2.1
 exact ⟨h.1, h.2.1, ⟨s, hk.set_ 3 (.bool u)⟩, zkN h.2.2.2 h.2.1⟩
end
theorem zbs {n : Int} {N i j : Nat} (hN : (N : Int) = 2 * n) (hi : i < N) (hj : j < N) (hn : N ≤ 128) :
  0 ≤ 2 * n * (i : Int) ∧ 2 * n * (i : Int) ≤ 16384 ∧ (2 * n * (i : Int) + (j : Int)).toNat = i * N + j ∧ i * N + j < N * N ∧ 0 ≤ 2 * n * (i : Int) + (j : Int) ∧ 2 * n * (i : Int) + (j : Int) < ((N * N : Nat) : Int) := by
 rw [← hN]
 have e1 : (N : Int) * (i : Int) = ((i * N : Nat) : Int) := by rw [Int.natCast_mul, Int.mul_comm]
 have h1 : i * N + N ≤ N * N := by
  have := Nat.mul_le_mul_right N (show i + 1 ≤ N from hi)
  rw [Nat.add_mul] at this; omega
 have h2 : N * N ≤ 128 * 128 := Nat.mul_le_mul hn hn
 rw [e1]
 refine ⟨by omega, by omega, by omega, by omega, by omega, by omega⟩
theorem zb8 {B gx cap gm : Nat} {n : Int} {e : Bool} {xs : List Int} {W : World} (i j N : Nat) (h : MX B gx n (some ⟨gm, 0, none⟩) cap e xs W) (hN : (N : Int) = 2 * n) (hn : N ≤ 128) (hl : xs.length = N * N) (hi : i < N) (hj : j < N) :
  Calls Tryz.prog 212 #[.pointer (some ⟨gx, 0, none⟩), (i : Int), (j : Int)] W fun e' W' => e' = .returned (.pointer (some ⟨gm, i * N + j, none⟩)) ∧ Below W.heap.size W W' := by
 obtain ⟨b1, b2, b3, b4, b5, b6⟩ := zbs hN hi hj hn
 rw [← hl] at b6
 have fn := later h.n_
 have fm := later h.m_
 have hn0 : 0 ≤ 2 * n := by omega
 have hn1 : 2 * n ≤ 128 := by omega
 have HN := hid hN
 have HL := hid hl
 clear hN hl b4
 go_enter Tryz.func212, Tryz.ntmps212
 go_wp2
 refine zad 15 (fun X => Below W.heap.size W X) (by kernel_rfl) (by kernel_rfl) (Below.refl _ _).drew ?_
 refine fl_a ?_
 intro w4 hb4
 go_wp2
 go_ret
 exact ⟨rfl, hb4⟩
theorem zfP {B gx cap : Nat} {n : Int} {A : Option Addr} {e : Bool} {xs : List Int} {W : World} (a b : Int) (h : MX B gx n A cap e xs W) :
  Calls Tryz.prog 213 #[.pointer (some ⟨gx, 0, none⟩), a, b] W fun e' W' => e' = .returned (.int .i64 (plus a b)) ∧ SX W gx n A xs.length cap e W' := by
 obtain ⟨s, hk⟩ := h.2.2.1
 have c2 := hk.cell 2
 have f2 := hk.fr 2
 have k2 := fun u => hk.set_ 2 (.bool u)
 cases s
 ·go_enter Tryz.func213, Tryz.ntmps213
  go_wp2_with fail
  refine (zkq a b _).mono ?_
  rintro e1 w1 ⟨rfl, rfl⟩
  go_wp2_with fail
  refine (zek a b _).mono ?_
  rintro e1 w1 ⟨rfl, rfl⟩
  go_wp2
  go_ret
  exact ⟨rfl, zay _ ⟨gx, 2, none⟩ _, _, k2 _⟩
 ·go_enter Tryz.func213, Tryz.ntmps213
  go_wp2_with fail
  refine (zek a b _).mono ?_
  rintro e1 w1 ⟨rfl, rfl⟩
  go_wp2
  go_ret
  exact ⟨rfl, zay _ ⟨gx, 2, none⟩ _, _, k2 _⟩
end
section
open Go.RowKit
attribute [local go_sem ↓] Go.wp_at_zero Go.wp_at_succ
theorem zc5 {a : Int} (h : zaq a = true) : near a = a := by
 unfold zaq at h
 rw [decide_eq_true_eq] at h
 unfold near
 rcases h with rfl | ⟨h1, h2⟩
 ·rfl
 ·rw [if_neg (by omega), if_neg (by omega)]
theorem zcf (a : Int) : zaq (near a) = true := by
 unfold zaq
 rw [decide_eq_true_eq]
 exact zaw a
theorem zbz (a b : Int) : zaq (plus a b) = true := by
 unfold plus
 split
 ·decide
 ·exact zcf _
theorem zaF {a b : Int} (ha : zaq a = true) (hb : zaq b = true) : zaq (min a b) = true := by
 rcases Int.le_total a b with h | h
 ·rw [Int.min_eq_left h]; exact ha
 ·rw [Int.min_eq_right h]; exact hb
theorem zfr {a b : Int} (ha : zaq a = true) (hb : zaq b = true) : less a b = min a b := by
 unfold less; rw [zc5 ha, zc5 hb]
def zlH (N k i j : Nat) (xs : List Int) : List Int := xs.set (i * N + j) (min (gI xs ((i * N + j : Nat) : Int)) (plus (gI xs ((i * N + k : Nat) : Int)) (gI xs ((k * N + j : Nat) : Int))))
def pRow (N k i : Nat) (t : Nat) (xs : List Int) : List Int := rep (fun j => zlH N k i j) t xs
def pMat (N k : Nat) (t : Nat) (xs : List Int) : List Int := rep (fun i => pRow N k i N) t xs
def zbR (N : Nat) (t : Nat) (xs : List Int) : List Int := rep (fun k => pMat N k N) t xs
theorem zhA {B gx cap : Nat} {n : Int} {A : Option Addr} {e : Bool} {xs : List Int} {W : World} (N : Nat) (h : MX B gx n A cap e xs W) (hN : (N : Int) = 2 * n) (hn : N ≤ 128) (hl : xs.length = N * N) (hb : AllB xs) (hB : B ≤ W.heap.size) :
  Calls Tryz.prog 165 #[.pointer (some ⟨gx, 0, none⟩)] W fun e' W' => (∃ v, e' = .returned v) ∧ MX B gx n A cap e (zbR N N xs) W' ∧ AllB (zbR N N xs) ∧ (zbR N N xs).length = N * N ∧ Below B W W' := by
 have hn0 : 0 ≤ 2 * n := by omega
 have hn1 : 2 * n ≤ 128 := by omega
 have HN := hid hN
 have x0 := h.n_
 clear hN
 go_enter Tryz.func165, Tryz.ntmps165
 go_wp2
 clear x0
 go_loopw [11] (fun t wr => ∃ (k : Nat) (ys : List Int), k ≤ N ∧ t = .int .i64 k ∧ Hid (ys = zbR N k xs) ∧ Hid (ys.length = N * N) ∧ MX B gx n A cap e ys wr ∧ AllB ys ∧ Below B W wr) (fun t _ => N - (RowKit.intOf t).toNat)
 case atStart => exact ⟨0, xs, by omega, rfl, hid rfl, hid hl, h, hb, Below.refl _ _⟩
 case round =>
  clear h hl hb
  obtain ⟨k, ys, hk, rfl, hys, hl, hM, hb, a0⟩ := hrel
  by_cases hkN : k < N
  ·have t1 : (k : Int) < 2 * n := by have := HN.out; omega
   have x0 := hM.n_
   go_wp2
   clear x0
   go_loopw [19] (fun t wr => ∃ (i : Nat) (zs : List Int), i ≤ N ∧ t = .int .i64 i ∧ Hid (zs = pMat N k i ys) ∧ Hid (zs.length = N * N) ∧ MX B gx n A cap e zs wr ∧ AllB zs ∧ Below B W wr) (fun t _ => N - (RowKit.intOf t).toNat)
   case atStart => exact ⟨0, ys, by omega, rfl, hid rfl, hl, hM, hb, a0⟩
   case round =>
    clear hM hb a0 hl
    obtain ⟨i, zs, hi, rfl, hzs, hl, hM, hb, a0⟩ := hrel
    by_cases hiN : i < N
    ·have t2 : (i : Int) < 2 * n := by have := HN.out; omega
     have x0 := hM.n_
     go_wp2
     clear x0
     go_loopw [27] (fun t wr => ∃ (j : Nat) (us : List Int), j ≤ N ∧ t = .int .i64 j ∧ Hid (us = pRow N k i j zs) ∧ Hid (us.length = N * N) ∧ MX B gx n A cap e us wr ∧ AllB us ∧ Below B W wr) (fun t _ => N - (RowKit.intOf t).toNat)
     case atStart => exact ⟨0, zs, by omega, rfl, hid rfl, hl, hM, hb, a0⟩
     case round =>
      clear hM hb a0 hl
      obtain ⟨j, us, hj, rfl, hus, hl, hM, hb, a0⟩ := hrel
      by_cases hjN : j < N
      ·have t3 : (j : Int) < 2 * n := by have := HN.out; omega
       obtain ⟨_, _, _, g1, _, _⟩ := zbs HN.out hiN hjN hn
       obtain ⟨_, _, _, g2, _, _⟩ := zbs HN.out hiN hkN hn
       obtain ⟨_, _, _, g3, _, _⟩ := zbs HN.out hkN hjN hn
       rw [← hl.out] at g1 g2 g3
       obtain ⟨gm, rfl, hgB, hgW, hgx⟩ := hM.some (by omega)
       go_wp2_with fail
       refine (zb8 i j N hM HN.out hn hl.out hiN hjN).mono ?_
       rintro e5 w5 ⟨rfl, a3⟩
       have hM5 := hM.up a3
       have a2 : Below B W w5 := a0.trans (a3.mono (by have := a0.size; omega))
       have fc : ∀ X, SX w5 gx n (some ⟨gm, 0, none⟩) us.length cap e X → X.cell? ⟨gm, i * N + j, none⟩ = some (.int .i64 (gI us ((i * N + j : Nat) : Int))) := fun X hX => (hM5.go hX).c_ g1
       have fd : ∀ X, SX w5 gx n (some ⟨gm, 0, none⟩) us.length cap e X → X.cell? ⟨gm, i * N + k, none⟩ = some (.int .i64 (gI us ((i * N + k : Nat) : Int))) := fun X hX => (hM5.go hX).c_ g2
       have fe : ∀ X, SX w5 gx n (some ⟨gm, 0, none⟩) us.length cap e X → X.cell? ⟨gm, k * N + j, none⟩ = some (.int .i64 (gI us ((k * N + j : Nat) : Int))) := fun X hX => (hM5.go hX).c_ g3
       clear hM a0 a3
       go_wp2
       refine zad 20 (SX w5 gx n (some ⟨gm, 0, none⟩) us.length cap e) (by kernel_rfl) (by kernel_rfl) hM5.sx.drew ?_
       refine fl_a ?_
       refine Flow.call 212 #[.pointer (some ⟨gx, 0, none⟩), (i : Int), (k : Int)] (.pointer (some ⟨gm, i * N + k, none⟩)) (by rfl) (fun X hX => by go_simp) (fun X hX => (zb8 i k N (hM5.go hX) HN.out hn hl.out hiN hkN).mono fun e' w' ⟨he, hb'⟩ => ⟨he, hX.up hb'⟩) ?_
       simp only [Act.put, List.setIfInBounds_toArray, List.set_cons_zero, List.set_cons_succ]
       refine fl_a ?_
       refine Flow.call 212 #[.pointer (some ⟨gx, 0, none⟩), (k : Int), (j : Int)] (.pointer (some ⟨gm, k * N + j, none⟩)) (by rfl) (fun X hX => by go_simp) (fun X hX => (zb8 k j N (hM5.go hX) HN.out hn hl.out hkN hjN).mono fun e' w' ⟨he, hb'⟩ => ⟨he, hX.up hb'⟩) ?_
       simp only [Act.put, List.setIfInBounds_toArray, List.set_cons_zero, List.set_cons_succ]
       refine fl_a ?_
       refine Flow.call 213 #[.pointer (some ⟨gx, 0, none⟩), .int .i64 (gI us ((i * N + k : Nat) : Int)), .int .i64 (gI us ((k * N + j : Nat) : Int))] (.int .i64 (plus (gI us ((i * N + k : Nat) : Int)) (gI us ((k * N + j : Nat) : Int)))) (by rfl) (fun X hX => by go_simp) (fun X hX => (zfP _ _ (hM5.go hX)).mono fun e' w' ⟨he, hs⟩ => ⟨he, hX.1.trans hs.1, hs.2⟩) ?_
       simp only [Act.put, List.setIfInBounds_toArray, List.set_cons_zero, List.set_cons_succ]
       refine Flow.call 117 #[.int .i64 (gI us ((i * N + j : Nat) : Int)), .int .i64 (plus (gI us ((i * N + k : Nat) : Int)) (gI us ((k * N + j : Nat) : Int)))] (.int .i64 (less (gI us ((i * N + j : Nat) : Int)) (plus (gI us ((i * N + k : Nat) : Int)) (gI us ((k * N + j : Nat) : Int))))) (by rfl) (fun X hX => by go_simp) (fun X hX => (zcM _ _ _).mono fun e' w' ⟨he, hw⟩ => ⟨he, hw ▸ hX⟩) ?_
       simp only [Act.put, List.setIfInBounds_toArray, List.set_cons_zero, List.set_cons_succ]
       refine fl_a ?_
       intro w6 h6
       have hM6 := hM5.go h6
       have c6 := hM6.c_ g1
       have f6 := hM6.f_ (i * N + j)
       have a1 := zfr (hb (i * N + j)) (zbz (gI us ((i * N + k : Nat) : Int)) (gI us ((k * N + j : Nat) : Int)))
       have hM7 := hM6.set (i * N + j) (less (gI us ((i * N + j : Nat) : Int)) (plus (gI us ((i * N + k : Nat) : Int)) (gI us ((k * N + j : Nat) : Int))))
       have hb7 : AllB (us.set (i * N + j) (less (gI us ((i * N + j : Nat) : Int)) (plus (gI us ((i * N + k : Nat) : Int)) (gI us ((k * N + j : Nat) : Int))))) := hb.set (by rw [a1]; exact zaF (hb _) (zbz _ _)) g1
       have a4 : Below B W (w6.setCell ⟨gm, i * N + j, none⟩ (.int .i64 (less (gI us ((i * N + j : Nat) : Int)) (plus (gI us ((i * N + k : Nat) : Int)) (gI us ((k * N + j : Nat) : Int)))))) := (a2.trans (h6.bel hM5.base (by have := a2.size; omega))).setCell (by simpa using hgB) _
       have a5 : Hid (us.set (i * N + j) (less (gI us ((i * N + j : Nat) : Int)) (plus (gI us ((i * N + k : Nat) : Int)) (gI us ((k * N + j : Nat) : Int)))) = pRow N k i (j + 1) zs) := hid (by rw [a1]; have := hus.out; subst this; rfl)
       have HL6 := hid a1
       clear a1 fc fd fe
       go_wp2
       go_roundw
       case rel => exact ⟨j + 1, _, by omega, by go_num, a5, hid (by rw [List.length_set]; exact hl.out), hM7, hb7, a4⟩
       case measure => simp [RowKit.intOf]; omega
      ·have t3 : ¬ (j : Int) < 2 * n := by have := HN.out; omega
       have hjN' : j = N := by omega
       subst hjN'
       go_wp2
       go_roundw
       case rel => exact ⟨i + 1, us, by omega, by go_num, hid (by rw [hus.out, hzs.out]; rfl), hl, hM, hb, a0⟩
       case measure => simp [RowKit.intOf]; omega
    ·have t2 : ¬ (i : Int) < 2 * n := by have := HN.out; omega
     have hiN' : i = N := by omega
     subst hiN'
     go_wp2
     go_roundw
     case rel => exact ⟨k + 1, zs, by omega, by go_num, hid (by rw [hzs.out, hys.out]; rfl), hl, hM, hb, a0⟩
     case measure => simp [RowKit.intOf]; omega
  ·have t1 : ¬ (k : Int) < 2 * n := by have := HN.out; omega
   have hkN' : k = N := by omega
   subst hkN'
   have hy := hys.out
   subst hy
   have HLL := hl
   go_wp2
   go_end0
   exact ⟨⟨_, rfl⟩, hM, HLL.out, a0⟩
end
end Go.Proofs.YtnmpgijiimglcaaGreat
