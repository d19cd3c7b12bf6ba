import Derived.Test.YtnmpgijiimglcaaGreatBTt43
import Derived.Test.YtnmpgijiimglcaaGreatBTt17
import Derived.Test.YtnmpgijiimglcaaGreatBTt22
import Derived.Test.YtnmpgijiimglcaaGreatBTt06
import Derived.Test.YtnmpgijiimglcaaGreatBTt10
import Derived.Test.YtnmpgijiimglcaaGreatBTt09
namespace Go.Proofs.YtnmpgijiimglcaaGreat
set_option maxRecDepth 100000
set_option maxHeartbeats 8000000
section
open Go.RowKit
attribute [local go_sem ↓] Go.wp_at_zero Go.wp_at_succ
def zc5 (b : List Int) : Nat → List Int
 | 0 => topM 4 4
 | k + 1 => boundM 4 k (nx k) (min (gI b (k : Int)) 10) (zc5 b k)
def boxPM (b : List Int) : Nat → List Int
 | 0 => zc5 b 4
 | k + 1 => if gI b ((4 + k : Nat) : Int) < 100 then boundM 4 (pxI k) (pxJ k) (gI b ((4 + k : Nat) : Int)) (boxPM b k) else boxPM b k
theorem znj (b : List Int) : ∀ k, boxU b k = ⟨2, false, zc5 b k⟩
 | 0 => rfl
 | k + 1 => by unfold boxU zc5; rw [znj b k, zcy (fun e => zkN k e.symm)]
theorem zoE (k : Nat) : pxI k ≠ pxJ k := by unfold pxI pxJ; split <;> (try split) <;> (try split) <;> omega
theorem zjK (b : List Int) : ∀ k, boxP b k = ⟨2, false, boxPM b k⟩
 | 0 => znj b 4
 | k + 1 => by
  unfold boxP boxPM
  split
  ·rw [zjK b k, zcy (zoE k)]
  ·exact zjK b k
theorem ze3 (b : List Int) : ∀ k, (zc5 b k).length = 16
 | 0 => zcQ 4 4
 | k + 1 => by unfold zc5; rw [za7]; exact ze3 b k
theorem zeX (b : List Int) : ∀ k, (boxPM b k).length = 16
 | 0 => ze3 b 4
 | k + 1 => by
  unfold boxPM
  split
  ·rw [za7]; exact zeX b k
  ·exact zeX b k
theorem zoc (a : Int) : (if 10 < a then 10 else a) = min a 10 := by split <;> omega
theorem zou {w w6 w7 : World} {A1 : Option Addr} {c1 g2 g3 g4 : Nat} {ta tb : TypeId} {ca cb cd : Array Value} {m m' m2 : List Int} (own : Own w6 w.heap.size A1 c1 m) (p3 : Blk w6 g3 24 #[.int .i64 2, false, .slice A1 16 c1]) (p1 : Blk w6 w.heap.size ta ca) (p2 : Blk w6 g2 24 cb) (p4 : Blk w6 g4 tb cd) (hg : w6.grownBy w7 (rowB A1)) (hbw : Below w.heap.size w w6) (ne1 : g3 ≠ w.heap.size) (ne2 : g3 ≠ g2) (ne4 : g3 ≠ g4) (hge : w.heap.size ≤ g3) (own7 : Own w7 w.heap.size A1 c1 m') (e : m2 = m') (ha : ta ≠ 2 := by decide) (hb : tb ≠ 2 := by decide) :
  Own (((w7.setCell ⟨g3, 0, none⟩ (.int .i64 2)).setCell ⟨g3, 1, none⟩ (.bool false)).setCell ⟨g3, 2, none⟩ (.slice A1 16 c1)) w.heap.size A1 c1 m2 ∧ Blk (((w7.setCell ⟨g3, 0, none⟩ (.int .i64 2)).setCell ⟨g3, 1, none⟩ (.bool false)).setCell ⟨g3, 2, none⟩ (.slice A1 16 c1)) w.heap.size ta ca ∧ Blk (((w7.setCell ⟨g3, 0, none⟩ (.int .i64 2)).setCell ⟨g3, 1, none⟩ (.bool false)).setCell ⟨g3, 2, none⟩ (.slice A1 16 c1)) g2 24 cb ∧ Blk (((w7.setCell ⟨g3, 0, none⟩ (.int .i64 2)).setCell ⟨g3, 1, none⟩ (.bool false)).setCell ⟨g3, 2, none⟩ (.slice A1 16 c1)) g3 24 #[.int .i64 2, false, .slice A1 16 c1] ∧ Blk (((w7.setCell ⟨g3, 0, none⟩ (.int .i64 2)).setCell ⟨g3, 1, none⟩ (.bool false)).setCell ⟨g3, 2, none⟩ (.slice A1 16 c1)) g4 tb cd ∧ Below w.heap.size w (((w7.setCell ⟨g3, 0, none⟩ (.int .i64 2)).setCell ⟨g3, 1, none⟩ (.bool false)).setCell ⟨g3, 2, none⟩ (.slice A1 16 c1)) := by
 subst e
 have q1 := p1.kept hg (zfE own p1 ha)
 have q2 := p2.kept hg (zfE own p2 (by decide))
 have q3 := p3.kept hg (zfE own p3 (by decide))
 have q4 := p4.kept hg (zfE own p4 hb)
 have hbe : Below w.heap.size w6 w7 := zat hg (fun kk hkk => by
  rcases own.form with ⟨rfl, _⟩ | ⟨g, rfl, hg, _⟩
  ·simp [rowB] at hkk
  ·simp [rowB] at hkk; omega) hbw.size
 exact ⟨own7.far3 (zak own7 q3 (by decide)), q1.far3 ne1, q2.far3 ne2, q3.set3, q4.far3 ne4, (hbw.trans hbe).trans (zae hge (hbw.trans hbe).size)⟩
theorem zop (b0 b1 b2 b3 b4 b5 b6 b7 : Int) (hb : I8s [b0, b1, b2, b3, b4, b5, b6, b7]) (w : World) :
  Calls Tryz.prog 39 #[.agg #[.int .i8 b0, .int .i8 b1, .int .i8 b2, .int .i8 b3, .int .i8 b4, .int .i8 b5, .int .i8 b6, .int .i8 b7]] w (zaX w (boxO [b0, b1, b2, b3, b4, b5, b6, b7])) := by
 have a6 := hid (zjK [b0, b1, b2, b3, b4, b5, b6, b7] 4)
 have HUL := hid (ze3 [b0, b1, b2, b3, b4, b5, b6, b7])
 have a4 := hid (zeX [b0, b1, b2, b3, b4, b5, b6, b7])
 have HUS := hid (fun k => show zc5 [b0, b1, b2, b3, b4, b5, b6, b7] (k + 1) = boundM 4 k (nx k) (min (gI [b0, b1, b2, b3, b4, b5, b6, b7] (k : Int)) 10) (zc5 [b0, b1, b2, b3, b4, b5, b6, b7] k) from rfl)
 have HPS := hid (fun k => show boxPM [b0, b1, b2, b3, b4, b5, b6, b7] (k + 1) = if gI [b0, b1, b2, b3, b4, b5, b6, b7] ((4 + k : Nat) : Int) < 100 then boundM 4 (pxI k) (pxJ k) (gI [b0, b1, b2, b3, b4, b5, b6, b7] ((4 + k : Nat) : Int)) (boxPM [b0, b1, b2, b3, b4, b5, b6, b7] k) else boxPM [b0, b1, b2, b3, b4, b5, b6, b7] k from rfl)
 have HU0 : Hid (zc5 [b0, b1, b2, b3, b4, b5, b6, b7] 0 = topM 4 4) := hid rfl
 have HP0 : Hid (boxPM [b0, b1, b2, b3, b4, b5, b6, b7] 0 = zc5 [b0, b1, b2, b3, b4, b5, b6, b7] 4) := hid rfl
 have HBO : Hid (boxO [b0, b1, b2, b3, b4, b5, b6, b7] = boxP [b0, b1, b2, b3, b4, b5, b6, b7] 4) := hid rfl
 have HB8 := hid hb
 clear hb
 rw [HBO.out, a6.out]
 obtain ⟨p1, p2, hbw, -⟩ := zao w #[.int .i8 b0, .int .i8 b1, .int .i8 b2, .int .i8 b3, .int .i8 b4, .int .i8 b5, .int .i8 b6, .int .i8 b7] #[.int .i64 0, false, .slice none 0 0] 68 24
 have q1 := p1.lt
 have q2 := p2.lt
 go_enter Tryz.func39, Tryz.ntmps39
 go_wp2_with fail
 generalize (w.alloc (Obj.cells #[.int .i8 b0, .int .i8 b1, .int .i8 b2, .int .i8 b3, .int .i8 b4, .int .i8 b5, .int .i8 b6, .int .i8 b7] 68)).alloc (Obj.cells #[.int .i64 0, false, .slice none 0 0] 24) = w1 at *
 have hg2 : Hid (w.heap.size ≤ w.heap.size + 1) := hid (by omega)
 generalize w.heap.size + 1 = g2 at *
 refine (zf0 2 4 w1 (by omega) rfl).mono ?_
 rintro e2 w2 ⟨A1, c1, rfl, own, hb2'⟩
 dsimp only at own ⊢
 rw [show ((2 : Nat) : Int) = 2 from rfl]
 rw [show (topM 4 4).length = 16 from zcQ 4 4]
 rw [← HU0.out] at own
 replace own := own.less hbw.size
 replace p1 := p1.later hb2'
 replace p2 := p2.later hb2'
 replace hbw := bup hbw hb2'
 clear hb2' HU0
 have p1b := p1
 have p2b := p2
 have n3 := new1 w2 (.cells #[.int .i64 2, false, .slice A1 16 c1] 24)
 have p3 := Blk.new w2 24 #[.int .i64 2, false, .slice A1 16 c1]
 replace own := own.below n3
 replace p1 := p1.later n3
 replace p2 := p2.later n3
 replace hbw := bup hbw n3
 clear n3
 have n4 := new1 (w2.alloc (.cells #[.int .i64 2, false, .slice A1 16 c1] 24)) (.cells #[.int .i64 0, .int .i64 1, .int .i64 1, .int .i64 0, .int .i64 2, .int .i64 3, .int .i64 3, .int .i64 2] 115)
 have p4 := Blk.new (w2.alloc (.cells #[.int .i64 2, false, .slice A1 16 c1] 24)) 115 #[.int .i64 0, .int .i64 1, .int .i64 1, .int .i64 0, .int .i64 2, .int .i64 3, .int .i64 3, .int .i64 2]
 have hs4 : (w2.alloc (.cells #[.int .i64 2, false, .slice A1 16 c1] 24)).heap.size = w2.heap.size + 1 := by simp
 rw [hs4] at p4
 have ne2 : Hid (w2.heap.size ≠ g2) := hid (by have := p2b.lt; omega)
 have ne1 : Hid (w2.heap.size ≠ w.heap.size) := hid (by have := p1b.lt; omega)
 have ne4 : Hid (w2.heap.size ≠ w2.heap.size + 1) := hid (by omega)
 have hge : Hid (w.heap.size ≤ w2.heap.size) := hid (by have := p1b.lt; omega)
 clear p1b p2b
 replace own := own.below n4
 replace p1 := p1.later n4
 replace p2 := p2.later n4
 replace p3 := p3.later n4
 replace hbw := bup hbw n4
 clear n4 hs4
 go_wp2
 generalize (w2.alloc (.cells #[.int .i64 2, false, .slice A1 16 c1] 24)).alloc (.cells #[.int .i64 0, .int .i64 1, .int .i64 1, .int .i64 0, .int .i64 2, .int .i64 3, .int .i64 3, .int .i64 2] 115) = w4 at *
 generalize w2.heap.size + 1 = g4 at *
 generalize w2.heap.size = g3 at *
 go_loopw [5] (fun t wq => ∃ k : Nat, k ≤ 4 ∧ t = .int .i64 (k : Int) ∧ Own wq w.heap.size A1 c1 (zc5 [b0, b1, b2, b3, b4, b5, b6, b7] k) ∧ Blk wq w.heap.size 68 #[.int .i8 b0, .int .i8 b1, .int .i8 b2, .int .i8 b3, .int .i8 b4, .int .i8 b5, .int .i8 b6, .int .i8 b7] ∧ Blk wq g2 24 #[.int .i64 0, false, .slice none 0 0] ∧ Blk wq g3 24 #[.int .i64 2, false, .slice A1 16 c1] ∧ Blk wq g4 115 #[.int .i64 0, .int .i64 1, .int .i64 1, .int .i64 0, .int .i64 2, .int .i64 3, .int .i64 3, .int .i64 2] ∧ Below w.heap.size w wq) (fun t _ => 4 - (RowKit.intOf t).toNat)
 case atStart => exact ⟨0, by omega, rfl, own, p1, p2, p3, p4, hbw⟩
 case round =>
  clear own p1 p2 p3 p4 hbw
  obtain ⟨k, hk, rfl, own, p1, p2, p3, p4, hbw⟩ := hrel
  by_cases hkl : k < 4
  ·have a7 : (k : Int) < 4 := by omega
   have a5 : (k : Int) < 8 := by omega
   obtain ⟨b, hb⟩ : ∃ b, b = gI [b0, b1, b2, b3, b4, b5, b6, b7] (k : Int) := ⟨_, rfl⟩
   have k4 : k = 0 ∨ k = 1 ∨ k = 2 ∨ k = 3 := by omega
   have e0 : ∀ X, Below wr.heap.size wr X → X.cell? ⟨w.heap.size, k, none⟩ = some (.int .i8 b) := later ((p1.cell k).trans (by rw [hb]; rcases k4 with rfl | rfl | rfl | rfl <;> rfl))
   have m0 : ∀ X, Below wr.heap.size wr X → X.cell? ⟨g4, k * 2, none⟩ = some (.int .i64 (k : Int)) := later ((p4.cell _).trans (by rcases k4 with rfl | rfl | rfl | rfl <;> rfl))
   have m1 : ∀ X, Below wr.heap.size wr X → X.cell? ⟨g4, k * 2 + 1, none⟩ = some (.int .i64 ((nx k : Nat) : Int)) := later ((p4.cell _).trans (by rcases k4 with rfl | rfl | rfl | rfl <;> rfl))
   have HB : Hid (∀ v W, Own W w.heap.size A1 c1 (zc5 [b0, b1, b2, b3, b4, b5, b6, b7] k) → w.heap.size ≤ W.heap.size → Calls Tryz.prog 52 #[.agg #[.int .i64 2, false, .slice A1 16 c1], .int .i64 (k : Int), .int .i64 ((nx k : Nat) : Int), .int .i64 v] W fun e w' => e = .returned (.agg #[.int .i64 2, false, .slice A1 16 c1]) ∧ Own w' w.heap.size A1 c1 (boundM 4 k (nx k) v (zc5 [b0, b1, b2, b3, b4, b5, b6, b7] k)) ∧ W.grownBy w' (rowB A1)) := hid (fun v W h hw => by
    have := zfy 2 (zc5 [b0, b1, b2, b3, b4, b5, b6, b7] k) 4 k (nx k) w.heap.size v A1 c1 W h hw rfl (by omega) (HUL.out k) hkl (nxl (by decide) hkl) (fun e => zkN k e.symm)
    rw [HUL.out k] at this
    exact this)
   have HS : Hid (zc5 [b0, b1, b2, b3, b4, b5, b6, b7] (k + 1) = boundM 4 k (nx k) (if 10 < b then 10 else b) (zc5 [b0, b1, b2, b3, b4, b5, b6, b7] k)) := hid (by rw [zoc, hb]; exact HUS.out k)
   have hbb : -128 ≤ b ∧ b ≤ 127 := by rw [hb]; exact HB8.out k
   clear hb k4
   go_wp2
   obtain ⟨x0, x1, x2, fx⟩ := zaa p3
   have f0 := later x0
   have f1 := later x1
   have f2 := later x2
   clear x0 x1 x2 fx
   refine zab 14 (fun W => Below wr.heap.size wr W) (by kernel_rfl) (by kernel_rfl) (Below.refl _ _).drew ?_
   refine fl_a ?_
   intro w6 a0
   generalize (if 10 < b then 10 else b) = v at *
   clear f0 f1 f2 m0 m1 e0
   replace own := own.below a0
   replace p1 := p1.later a0
   replace p2 := p2.later a0
   replace p3 := p3.later a0
   replace p4 := p4.later a0
   replace hbw := bup hbw a0
   have a3 := hid (HB.out v w6 own hbw.size)
   go_wp2_with fail
   (with_reducible refine a3.out.mono ?_)
   clear a3 HB
   rintro e7 w7 ⟨rfl, own7, a1⟩
   have hq := hid (zou own p3 p1 p2 p4 a1 hbw ne1.out ne2.out ne4.out hge.out own7 HS.out)
   replace p3 := p3.kept a1 (zfE own p3 (by decide))
   obtain ⟨x0, x1, x2, fx⟩ := zaa p3
   clear a1 own own7 p1 p2 p3 p4 hbw a5 a7
   go_wp2
   go_roundw
   case rel => exact ⟨k + 1, by omega, by go_num, hq.out⟩
   case measure => simp [RowKit.intOf]; omega
  ·obtain rfl : k = 4 := by omega
   rw [show ((4 : Nat) : Int) = 4 from rfl]
   have n6 := new1 wr (.cells #[.int .i64 0, .int .i64 2, .int .i64 2, .int .i64 0, .int .i64 0, .int .i64 3, .int .i64 1, .int .i64 2] 115)
   have p6 := Blk.new wr 115 #[.int .i64 0, .int .i64 2, .int .i64 2, .int .i64 0, .int .i64 0, .int .i64 3, .int .i64 1, .int .i64 2]
   have ne6 : Hid (g3 ≠ wr.heap.size) := hid (by have := p3.lt; omega)
   rw [← HP0.out] at own
   replace own := own.below n6
   replace p1 := p1.later n6
   replace p2 := p2.later n6
   replace p3 := p3.later n6
   replace hbw := bup hbw n6
   clear n6 p4 ne4
   go_wp2
   generalize wr.alloc (.cells #[.int .i64 0, .int .i64 2, .int .i64 2, .int .i64 0, .int .i64 0, .int .i64 3, .int .i64 1, .int .i64 2] 115) = w8 at *
   generalize wr.heap.size = g6 at *
   go_loopw [7] (fun t wq => ∃ k : Nat, k ≤ 4 ∧ t = .int .i64 (k : Int) ∧ Own wq w.heap.size A1 c1 (boxPM [b0, b1, b2, b3, b4, b5, b6, b7] k) ∧ Blk wq w.heap.size 68 #[.int .i8 b0, .int .i8 b1, .int .i8 b2, .int .i8 b3, .int .i8 b4, .int .i8 b5, .int .i8 b6, .int .i8 b7] ∧ Blk wq g2 24 #[.int .i64 0, false, .slice none 0 0] ∧ Blk wq g3 24 #[.int .i64 2, false, .slice A1 16 c1] ∧ Blk wq g6 115 #[.int .i64 0, .int .i64 2, .int .i64 2, .int .i64 0, .int .i64 0, .int .i64 3, .int .i64 1, .int .i64 2] ∧ Below w.heap.size w wq) (fun t _ => 4 - (RowKit.intOf t).toNat)
   case atStart => exact ⟨0, by omega, rfl, own, p1, p2, p3, p6, hbw⟩
   case round =>
    clear own p1 p2 p3 p6 hbw
    obtain ⟨k, hk, rfl, own, p1, p2, p3, p6, hbw⟩ := hrel
    by_cases hkl : k < 4
    ·have a7 : (k : Int) < 4 := by omega
     have a5 : 4 + (k : Int) < 8 := by omega
     have hk0 : (0 : Int) ≤ 4 + (k : Int) := by omega
     have htn : (4 + (k : Int)).toNat = 4 + k := by omega
     obtain ⟨b, hb⟩ : ∃ b, b = gI [b0, b1, b2, b3, b4, b5, b6, b7] ((4 + k : Nat) : Int) := ⟨_, rfl⟩
     have k4 : k = 0 ∨ k = 1 ∨ k = 2 ∨ k = 3 := by omega
     have e9 : wr.cell? ⟨w.heap.size, 4 + k, none⟩ = some (.int .i8 b) := (p1.cell _).trans (by rw [hb]; rcases k4 with rfl | rfl | rfl | rfl <;> rfl)
     have hbb : -128 ≤ b ∧ b ≤ 127 := by rw [hb]; exact HB8.out _
     have a2 := HPS.out k
     rw [← hb] at a2
     have k5 := hid k4
     clear hb k4
     by_cases hlt : b < 100
     ·have tl : decide (b < 100) = true := decide_eq_true hlt
      have HS : Hid (boxPM [b0, b1, b2, b3, b4, b5, b6, b7] (k + 1) = boundM 4 (pxI k) (pxJ k) b (boxPM [b0, b1, b2, b3, b4, b5, b6, b7] k)) := hid (a2.trans (if_pos hlt))
      have HB : Hid (∀ W, Own W w.heap.size A1 c1 (boxPM [b0, b1, b2, b3, b4, b5, b6, b7] k) → w.heap.size ≤ W.heap.size → Calls Tryz.prog 52 #[.agg #[.int .i64 2, false, .slice A1 16 c1], .int .i64 ((pxI k : Nat) : Int), .int .i64 ((pxJ k : Nat) : Int), .int .i64 b] W fun e w' => e = .returned (.agg #[.int .i64 2, false, .slice A1 16 c1]) ∧ Own w' w.heap.size A1 c1 (boundM 4 (pxI k) (pxJ k) b (boxPM [b0, b1, b2, b3, b4, b5, b6, b7] k)) ∧ W.grownBy w' (rowB A1)) := hid (fun W h hw => by
       have := zfy 2 (boxPM [b0, b1, b2, b3, b4, b5, b6, b7] k) 4 (pxI k) (pxJ k) w.heap.size b A1 c1 W h hw rfl (by omega) (a4.out k) (by unfold pxI; split <;> (try split) <;> omega) (by unfold pxJ; split <;> (try split) <;> omega) (zoE k)
       rw [a4.out k] at this
       exact this)
      have e0 := later e9
      have m0 : ∀ X, Below wr.heap.size wr X → X.cell? ⟨g6, k * 2, none⟩ = some (.int .i64 ((pxI k : Nat) : Int)) := later ((p6.cell _).trans (by rcases k5.out with rfl | rfl | rfl | rfl <;> rfl))
      have m1 : ∀ X, Below wr.heap.size wr X → X.cell? ⟨g6, k * 2 + 1, none⟩ = some (.int .i64 ((pxJ k : Nat) : Int)) := later ((p6.cell _).trans (by rcases k5.out with rfl | rfl | rfl | rfl <;> rfl))
      clear a2 hlt
      go_wp2
      obtain ⟨x0, x1, x2, fx⟩ := zaa p3
      have f0 := later x0
      have f1 := later x1
      have f2 := later x2
      clear x0 x1 x2 fx e9
      refine zab 14 (fun W => Below wr.heap.size wr W) (by kernel_rfl) (by kernel_rfl) (Below.refl _ _).drew ?_
      refine fl_a ?_
      intro w6 a0
      clear f0 f1 f2 m0 m1 e0
      replace own := own.below a0
      replace p1 := p1.later a0
      replace p2 := p2.later a0
      replace p3 := p3.later a0
      replace p6 := p6.later a0
      replace hbw := bup hbw a0
      have a3 := hid (HB.out w6 own hbw.size)
      go_wp2_with fail
      (with_reducible refine a3.out.mono ?_)
      clear a3 HB
      rintro e7 w7 ⟨rfl, own7, a1⟩
      have hq := hid (zou own p3 p1 p2 p6 a1 hbw ne1.out ne2.out ne6.out hge.out own7 HS.out)
      replace p3 := p3.kept a1 (zfE own p3 (by decide))
      obtain ⟨x0, x1, x2, fx⟩ := zaa p3
      clear a1 own own7 p1 p2 p3 p6 hbw a5 a7 hk0 htn tl
      go_wp2
      go_roundw
      case rel => exact ⟨k + 1, by omega, by go_num, hq.out⟩
      case measure => simp [RowKit.intOf]; omega
     ·have tl : decide (b < 100) = false := decide_eq_false hlt
      have HS : Hid (boxPM [b0, b1, b2, b3, b4, b5, b6, b7] (k + 1) = boxPM [b0, b1, b2, b3, b4, b5, b6, b7] k) := hid (a2.trans (if_neg hlt))
      clear a2 hlt
      go_wp2
      go_roundw
      case rel => exact ⟨k + 1, by omega, by go_num, by rw [HS.out]; exact own, p1, p2, p3, p6, hbw⟩
      case measure => simp [RowKit.intOf]; omega
    ·obtain rfl : k = 4 := by omega
     obtain ⟨x0, x1, x2, fx⟩ := zaa p3
     have y0 := zaa p2
     have HM := hid (a4.out 4)
     generalize boxPM [b0, b1, b2, b3, b4, b5, b6, b7] 4 = PM at *
     go_wp2
     have q9 := p2.set3 (v0 := .int .i64 2) (v1 := .bool false) (v2 := .slice A1 16 c1)
     have o9 := own.far3 (g := g2) (v0 := .int .i64 2) (v1 := .bool false) (v2 := .slice A1 16 c1) (zak own p2 (by decide))
     have hb9 := hbw.trans (zae (W := wr) (g := g2) (v0 := .int .i64 2) (v1 := .bool false) (v2 := .slice A1 16 c1) hg2.out hbw.size)
     obtain ⟨z0, z1, z2, fz⟩ := zaa q9
     refine bodyPost_ret (v := .agg #[.int .i64 2, false, .slice A1 16 c1]) (by simp [results, Tryz.results39, go_sem, z0, z1, z2]) rfl ?_
     exact ⟨A1, c1, by dsimp only; rw [HM.out], o9, hb9⟩
end
section
open Go.RowKit
attribute [local go_sem ↓] Go.wp_at_zero Go.wp_at_succ
theorem zgl {L : Nat} {f g : Nat → Int} (h : ∀ p, p < L → f p = g p) : (List.range L).map f = (List.range L).map g := List.map_congr_left fun p hp => h p (List.mem_range.1 hp)
end
section

end
section
open Go.RowKit
attribute [local go_sem ↓] Go.wp_at_zero Go.wp_at_succ
theorem zfb {N i a : Nat} (ha : a < N) : ∀ (l : Nat) (m : List Int), l ≤ N → gI (topR N m i l) ((a * N + a : Nat) : Int) = gI m ((a * N + a : Nat) : Int)
 | 0, _, _ => rfl
 | l + 1, m, hl => by
  unfold topR
  split
  ·exact zfb ha l m (by omega)
  ·rename_i hne
   have hp : i * N + l ≠ a * N + a := fun e => by
    obtain ⟨e1, e2⟩ := zkb (N := N) (by omega) ha e
    omega
   rw [← zfb (N := N) (i := i) ha l m (by omega)]
   generalize a * N + a = q at *
   unfold gI
   simp [List.getD_eq_getElem?_getD, List.getElem?_set_ne hp]
theorem zgU {N a : Nat} (ha : a < N) : ∀ k, gI (topM N k) ((a * N + a : Nat) : Int) = 0
 | 0 => by
  unfold topM gI
  have h := zfo ha ha
  generalize a * N + a = q at *
  simp [List.getD_eq_getElem?_getD, h]
 | k + 1 => by unfold topM; rw [zfb ha N _ (Nat.le_refl _)]; exact zgU ha k
def zpj (w : World) (o : O) (e : Ending) (w' : World) : Prop := ∃ A1 c1, e = .returned (.tuple #[.agg #[o.n, o.e, .slice A1 o.m.length c1], .int .i64 0]) ∧ Own w' w.heap.size A1 c1 o.m ∧ Below w.heap.size w w'
end
section
open Go.RowKit
attribute [local go_sem ↓] Go.wp_at_zero Go.wp_at_succ
def zfd (N : Nat) (m x : List Int) (k : Nat) : Prop := ∀ i j : Nat, i < N → j < N → i * N + j < k → Lets (G N m i j) (apartX x i j)
theorem zfd.step {N : Nat} {m x : List Int} {i j : Nat} (h : zfd N m x (i * N + j)) (hj : j < N) (k : Lets (G N m i j) (apartX x i j)) : zfd N m x (i * N + j + 1) := fun a b ha hb hlt => by
 by_cases e : a * N + b = i * N + j
 ·have e1 : a = i := by
   have h1 := zcC (N := N) (a := a) hb
   have h2 := zcC (N := N) (a := i) hj
   rw [e] at h1; omega
  subst e1
  have e2 : b = j := by omega
  subst e2
  exact k
 ·exact h a b ha hb (by omega)
theorem zfd.row {N : Nat} {m x : List Int} {i : Nat} (h : zfd N m x (i * N + N)) : zfd N m x ((i + 1) * N) := by rw [Nat.add_mul, Nat.one_mul]; exact h
theorem zfd.all {N : Nat} {m x : List Int} (h : zfd N m x (N * N)) : HasM N m x := fun i j hi hj => h i j hi hj (zlC hi hj)
theorem ziA (x : List Int) (i : Nat) : apartX x i i = 0 := by unfold apartX; omega
def zn2 (o : O) (xs : List Int) (w : World) (e : Ending) (w' : World) : Prop := ∃ b, e = .returned (.bool b) ∧ (b = true ↔ HasO o xs) ∧ Below w.heap.size w w'
theorem zn7 (o : O) (hk : check o = 0) (xs : List Int) (hl : (xs.length : Int) = o.n) (hn : ∀ k : Nat, zcN (gI xs (k : Int))) (A X : Option Addr) (cap xc : Nat) (w : World) (hx : Rd w w.heap.size A o.m) (hm : o.m.length ≤ 17592186044416) (hxs : Rd w w.heap.size X xs) :
  Calls Tryz.prog 40 #[.agg #[o.n, o.e, .slice A o.m.length cap], .slice X xs.length xc] w (zn2 o xs w) := by
 have HCK := hid (fun W (h : Rd W W.heap.size A o.m) => (show Calls Tryz.prog 21 #[.agg #[o.n, o.e, .slice A o.m.length cap]] W fun e w' => e = .returned (.int .i64 0) ∧ Below W.heap.size W w' from by have := zjl o A cap W h (by omega); rw [hk] at this; exact this))
 have HI : Hid (HasO o xs ↔ o.e = false ∧ HasM (2 * o.n).toNat o.m xs) := hid ⟨fun h => ⟨h.1, h.2.2⟩, fun h => ⟨h.1, hl, h.2⟩⟩
 obtain ⟨h0, h1, -, h3⟩ := zbD hk
 obtain ⟨n, e, m⟩ := o
 dsimp only at *
 obtain ⟨N, hN⟩ : ∃ N : Nat, (N : Int) = 2 * n := ⟨(2 * n).toNat, by omega⟩
 have hN1 : N ≤ 128 := by omega
 have HM : Hid (e = false → Cells N m) := hid (fun q => by subst q; exact zdM hN hk)
 have HDF := hid (fun i j (hi : i < N) (hj : j < N) W (h : Rd W W.heap.size X xs) => zgo xs hn i j (by omega) (by omega) ⟨by omega, by omega⟩ X xc W h)
 rw [show (2 * n).toNat = N by omega] at HI
 have b2 := hid hN
 have HL := hid hl
 obtain ⟨p0, a8, -⟩ := zaw w #[n, .bool e, .slice A m.length cap] 24
 replace hx := hx.up a8
 replace hxs := hxs.up a8
 have t2 : ((xs.length : Int) != n) = false := by rw [hl]; simp
 clear hk hN hl hn h3
 go_enter Tryz.func40, Tryz.ntmps40
 have x0 := zaa p0
 go_wp2_with fail
 clear x0
 generalize w.alloc (Obj.cells #[n, .bool e, .slice A m.length cap] 24) = w1 at *
 (with_reducible refine (HCK.out w1 hx).mono ?_)
 clear HCK
 rintro e2 w2 ⟨rfl, b1⟩
 replace p0 := p0.later b1
 replace hx := hx.up b1
 replace hxs := hxs.up b1
 replace a8 := bup a8 b1
 clear b1
 have x0 := zaa p0
 cases e
 rotate_left
 ·go_wp2
  go_ret
  exact ⟨false, rfl, by rw [HI.out]; simp, a8⟩
 have b4 := HM.out rfl
 have HMC := hid b4
 have a9 : m.length = N * N := b4.len
 have HML := hid a9
 clear HM b4 a9
 have hn0 : 0 ≤ 2 * n := by omega
 have hn1 : 2 * n ≤ 128 := by omega
 go_wp2
 clear t2 x0
 go_loopw [6] (fun t wq => ∃ i : Nat, i ≤ N ∧ t = .int .i64 i ∧ Hid (zfd N m xs (i * N)) ∧ Below w2.heap.size w2 wq) (fun t _ => N - (RowKit.intOf t).toNat)
 case atStart => exact ⟨0, by omega, rfl, hid (fun _ _ _ _ h => by omega), Below.refl _ _⟩
 case round =>
  obtain ⟨i, hi, rfl, a7, a0⟩ := hrel
  by_cases hlt : i < N
  ·have b7 : (i : Int) < 2 * n := by have := b2.out; omega
   go_wp2
   go_loopw [7] (fun t wq => ∃ j : Nat, j ≤ N ∧ t = .int .i64 j ∧ Hid (zfd N m xs (i * N + j)) ∧ Below w2.heap.size w2 wq) (fun t _ => N - (RowKit.intOf t).toNat)
   case atStart => exact ⟨0, by omega, rfl, a7, a0⟩
   case round =>
    clear a7 a0
    obtain ⟨j, hj, rfl, a7, a0⟩ := hrel
    by_cases hlt2 : j < N
    ·have b5 : (j : Int) < 2 * n := by have := b2.out; omega
     have x0 := zaa (p0.later a0)
     obtain ⟨a1, a2, a3, a4, a5, a6⟩ := zda b2.out hlt hlt2 hN1
     have hx1 := hx.up a0
     have a9 := HML.out
     obtain ⟨b, off, rfl, hB, hc⟩ := hx1.at_ a5 (by rw [a9]; exact a6)
     rw [a3] at hc
     rw [← a9] at a4 a6
     have b3 := hid (fun k => a7.out.step hlt2 k)
     have HNO : Hid (HasM N m xs → Lets (G N m i j) (apartX xs i j)) := hid (fun h => h i j hlt hlt2)
     have HSE : Hid (i = j → Lets (G N m i j) (apartX xs i j)) := hid (fun q => by subst q; rw [ziA, HMC.out.d hlt]; exact .inr (Int.le_refl _))
     have hg : gI m ((i : Int) * (2 * n) + (j : Int)) = G N m i j := by
      unfold gI G gI
      rw [a3, Int.toNat_natCast]
     rw [hg] at hc
     have HDI := hid (HDF.out i j hlt hlt2)
     have b8 := hxs.up a0
     clear a7 a9 hg hx1
     unfold Lets at b3 HNO HSE
     generalize apartX xs i j = R at *
     generalize G N m i j = c at *
     by_cases hinf : c = 9223372036854775807
     ·have t1 : (c == 9223372036854775807) = true := by rw [hinf]; rfl
      have hs := b3.out (.inl hinf)
      clear hinf
      go_wp2
      go_roundw
      case rel => exact ⟨j + 1, by omega, by go_num, hid hs, a0⟩
      case measure => simp [RowKit.intOf]; omega
     ·have t1 : (c == 9223372036854775807) = false := by rw [beq_eq_false_iff_ne]; exact hinf
      by_cases hij : i = j
      ·have t2 : ((i : Int) == (j : Int)) = true := by rw [hij]; simp
       have hs := b3.out (HSE.out hij)
       clear hij hinf
       go_wp2
       go_roundw
       case rel => exact ⟨j + 1, by omega, by go_num, hid hs, a0⟩
       case measure => simp [RowKit.intOf]; omega
      ·have t2 : ((i : Int) == (j : Int)) = false := by rw [beq_eq_false_iff_ne]; omega
       clear hij
       go_wp2_with fail
       (with_reducible refine (HDI.out _ b8).mono ?_)
       rintro e5 w5 ⟨rfl, hb5⟩
       clear x0 hc
       have b0 := bup a0 hb5
       by_cases hle : R ≤ c
       ·have t3 : decide (c < R) = false := decide_eq_false (by omega)
        have hs := b3.out (.inr hle)
        clear hle hinf
        go_wp2
        go_roundw
        case rel => exact ⟨j + 1, by omega, by go_num, hid hs, b0⟩
        case measure => simp [RowKit.intOf]; omega
       ·have t3 : decide (c < R) = true := decide_eq_true (by omega)
        have hno : ¬ HasM N m xs := fun h => by have := HNO.out h; omega
        have HNH := hid hno
        clear hno hle hinf
        go_wp2
        go_ret
        exact ⟨false, rfl, by rw [HI.out]; simp; exact HNH.out, bup a8 b0⟩
    ·have b5 : ¬ (j : Int) < 2 * n := by have := b2.out; omega
     have hje : N = j := by omega
     subst hje
     have hs := a7.out.row
     clear a7
     go_wp2
     go_roundw
     case rel => exact ⟨i + 1, by omega, by go_num, hid hs, a0⟩
     case measure => simp [RowKit.intOf]; omega
  ·have b7 : ¬ (i : Int) < 2 * n := by have := b2.out; omega
   have hie : N = i := by omega
   subst hie
   have b6 := hid (a7.out.all)
   clear a7
   go_wp2
   go_ret
   exact ⟨true, rfl, by rw [HI.out]; simp; exact b6.out, bup a8 a0⟩
end
end Go.Proofs.YtnmpgijiimglcaaGreat
