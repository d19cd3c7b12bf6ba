import Derived.Test.YtnmpgijiimglcaaGreatBTt32
import Derived.Test.YtnmpgijiimglcaaGreatBTt45
import Derived.Test.YtnmpgijiimglcaaGreatBTt21
import Derived.Test.YtnmpgijiimglcaaGreatBTt17
import Derived.Test.YtnmpgijiimglcaaGreatBTt34
import Derived.Test.YtnmpgijiimglcaaGreatBTt08
import Derived.Test.YtnmpgijiimglcaaGreatBTt37
import Derived.Test.YtnmpgijiimglcaaGreatBTt02
import Derived.Test.YtnmpgijiimglcaaGreatBTt41
namespace Go.Proofs.YtnmpgijiimglcaaGreat
set_option maxRecDepth 100000
set_option maxHeartbeats 8000000
section
open Go.RowKit
attribute [local go_sem ↓] Go.wp_at_zero Go.wp_at_succ
def zmz (w : World) (n : Int) (na : Nat) (es : List Edg) (e : Ending) (w' : World) : Prop :=
 ∃ D cd E ce, e = .returned (.agg #[.slice none 0 0, n, .slice D na cd, .int .i64 2, .int .i64 1, .slice E es.length ce]) ∧ RdD w' w'.heap.size D (List.replicate na 4) ∧ RdE w' w'.heap.size E es ∧ Below w.heap.size w w'
theorem Blk.set6 {W : World} {g : Nat} {t : TypeId} {a0 a1 a2 a3 a4 a5 v0 v1 v2 v3 v4 v5 : Value} (h : Blk W g t #[a0, a1, a2, a3, a4, a5]) :
  Blk ((((((W.setCell ⟨g, 0, none⟩ v0).setCell ⟨g, 1, none⟩ v1).setCell ⟨g, 2, none⟩ v2).setCell ⟨g, 3, none⟩ v3).setCell ⟨g, 4, none⟩ v4).setCell ⟨g, 5, none⟩ v5) g t #[v0, v1, v2, v3, v4, v5] := by
 have h0 : Blk _ g t #[v0, a1, a2, a3, a4, a5] := h.set_ 0 v0
 have h1 : Blk _ g t #[v0, v1, a2, a3, a4, a5] := h0.set_ 1 v1
 have h2 : Blk _ g t #[v0, v1, v2, a3, a4, a5] := h1.set_ 2 v2
 have h3 : Blk _ g t #[v0, v1, v2, v3, a4, a5] := h2.set_ 3 v3
 have h4 : Blk _ g t #[v0, v1, v2, v3, v4, a5] := h3.set_ 4 v4
 have h5 : Blk _ g t #[v0, v1, v2, v3, v4, v5] := h4.set_ 5 v5
 exact h5
theorem zni {W : World} {B g : Nat} {v0 v1 v2 v3 v4 v5 : Value} (hg : B ≤ g) (hB : B ≤ W.heap.size) :
  Below B W ((((((W.setCell ⟨g, 0, none⟩ v0).setCell ⟨g, 1, none⟩ v1).setCell ⟨g, 2, none⟩ v2).setCell ⟨g, 3, none⟩ v3).setCell ⟨g, 4, none⟩ v4).setCell ⟨g, 5, none⟩ v5) := by
 have h0 := zaG (W := W) (B := B) (g := g) (i := 0) (v := v0) hg hB
 have h1 := h0.setCell (p := ⟨g, 1, none⟩) hg v1
 have h2 := h1.setCell (p := ⟨g, 2, none⟩) hg v2
 have h3 := h2.setCell (p := ⟨g, 3, none⟩) hg v3
 have h4 := h3.setCell (p := ⟨g, 4, none⟩) hg v4
 exact h4.setCell (p := ⟨g, 5, none⟩) hg v5
theorem OwnD.set6 {w : World} {base cap g : Nat} {A : Option Addr} {sz : List Int} {s v0 v1 v2 v3 v4 v5 : Value} (h : OwnD w base s A cap sz) (hg : g < base) : OwnD ((((((w.setCell ⟨g, 0, none⟩ v0).setCell ⟨g, 1, none⟩ v1).setCell ⟨g, 2, none⟩ v2).setCell ⟨g, 3, none⟩ v3).setCell ⟨g, 4, none⟩ v4).setCell ⟨g, 5, none⟩ v5) base s A cap sz :=
 (((((h.setFar (p := ⟨g, 0, none⟩) hg v0).setFar (p := ⟨g, 1, none⟩) hg v1).setFar (p := ⟨g, 2, none⟩) hg v2).setFar (p := ⟨g, 3, none⟩) hg v3).setFar (p := ⟨g, 4, none⟩) hg v4).setFar (p := ⟨g, 5, none⟩) hg v5
theorem OwnE.setFar {w : World} {base cap : Nat} {A : Option Addr} {es : List Edg} (h : OwnE w base A cap es) {p : Addr} (hp : p.block < base) (u : Value) : OwnE (w.setCell p u) base A cap es :=
 World.ownsRow.kept h (zal w p u) (by
  rcases h.2 with ⟨h1, _⟩ | ⟨g2, cap', cur, h1, hb, _⟩
  ·rw [h1]; exact .inl rfl
  ·rw [h1]; exact .inr (fun e => by simp [Value.ownBlock] at e; omega))
theorem OwnE.set6 {w : World} {base cap g : Nat} {A : Option Addr} {es : List Edg} {v0 v1 v2 v3 v4 v5 : Value} (h : OwnE w base A cap es) (hg : g < base) : OwnE ((((((w.setCell ⟨g, 0, none⟩ v0).setCell ⟨g, 1, none⟩ v1).setCell ⟨g, 2, none⟩ v2).setCell ⟨g, 3, none⟩ v3).setCell ⟨g, 4, none⟩ v4).setCell ⟨g, 5, none⟩ v5) base A cap es :=
 (((((h.setFar (p := ⟨g, 0, none⟩) hg v0).setFar (p := ⟨g, 1, none⟩) hg v1).setFar (p := ⟨g, 2, none⟩) hg v2).setFar (p := ⟨g, 3, none⟩) hg v3).setFar (p := ⟨g, 4, none⟩) hg v4).setFar (p := ⟨g, 5, none⟩) hg v5
theorem zmS {w : World} {base cap : Nat} {A : Option Addr} {es : List Edg} (h : OwnE w base A cap es) : ∀ g, (Value.slice A es.length cap).ownBlock = some g → ∃ cs t, Blk w g t cs ∧ t ≠ 90 := fun g e => by
 rcases h.2 with ⟨h1, _⟩ | ⟨g2, cap', cur, h1, _, h3, _⟩
 ·rw [h1] at e; simp [Value.ownBlock] at e
 ·rw [h1] at e
  have : g2 = g := by simpa [Value.ownBlock] using e
  subst this
  exact ⟨cur, _, h3, by decide⟩
theorem zlG (n : Int) (na : Nat) (hna : na ≤ 16) (fr te kd dst arr op av an bv bn : Int) (hop : kd = 12 → 1 ≤ op ∧ op ≤ 6) (w : World) :
  Calls Tryz.prog 38 #[n, (na : Int), .agg #[fr, te, kd, dst, arr, op, av, an, bv, bn]] w (zmz w n na (gr1 n [] ⟨fr, te, kd, dst, arr, op, av, an, bv, bn⟩).es) := by
 obtain ⟨p0, p1, p2, hb0, hs0⟩ := zah w #[fr, te, kd, dst, arr, op, av, an, bv, bn] #[.slice none 0 0, .int .i64 0, .slice none 0 0, .int .i64 0, .int .i64 0, .slice none 0 0] #[.slice none 0 0, n, .slice none 0 0, .int .i64 2, .int .i64 1, .slice none 0 0] 44 64 64
 have HG : Hid ((gr1 n [] ⟨fr, te, kd, dst, arr, op, av, an, bv, bn⟩).es = if kd = 12 then [e01 ⟨fr, te, kd, dst, arr, op, av, an, bv, bn⟩, e01n ⟨fr, te, kd, dst, arr, op, av, an, bv, bn⟩] else [e01 ⟨fr, te, kd, dst, arr, op, av, an, bv, bn⟩]) := hid rfl
 generalize (gr1 n [] ⟨fr, te, kd, dst, arr, op, av, an, bv, bn⟩).es = es at *
 go_enter Tryz.func38, Tryz.ntmps38
 go_wp2
 generalize ((w.alloc (.cells #[fr, te, kd, dst, arr, op, av, an, bv, bn] 44)).alloc (.cells #[.slice none 0 0, .int .i64 0, .slice none 0 0, .int .i64 0, .int .i64 0, .slice none 0 0] 64)).alloc (.cells #[.slice none 0 0, n, .slice none 0 0, .int .i64 2, .int .i64 1, .slice none 0 0] 64) = w1 at *
 go_loopw [8] (fun t wr => ∃ (k : Nat) (L : List Int) (D : Option Addr) (cd : Nat), k ≤ na ∧ t = .int .i64 k ∧ Blk wr (w.heap.size + 2) 64 #[.slice none 0 0, n, .slice D L.length cd, .int .i64 2, .int .i64 1, .slice none 0 0] ∧ OwnD wr (w.heap.size + 3) (.string ⟨#[97]⟩) D cd L ∧ L = List.replicate k 4 ∧ Blk wr w.heap.size 44 #[fr, te, kd, dst, arr, op, av, an, bv, bn] ∧ Blk wr (w.heap.size + 1) 64 #[.slice none 0 0, .int .i64 0, .slice none 0 0, .int .i64 0, .int .i64 0, .slice none 0 0] ∧ Below w.heap.size w wr ∧ w.heap.size + 3 ≤ wr.heap.size) (fun t _ => na - (RowKit.intOf t).toNat)
 case atStart => exact ⟨0, [], none, 0, by omega, rfl, p2, OwnD.nil _ _ _, rfl, p0, p1, hb0, by omega⟩
 case round =>
  obtain ⟨k, L, D, cd, hk, rfl, kc, od, hL, ke, kp, hb, hsz⟩ := hrel
  clear p0 p1 p2 hb0 hs0
  by_cases hlt : k < na
  ·have hlt' : (k : Int) < (na : Int) := by omega
   have c2 := kc.cell 2
   have HL := hid hL
   have hll : L.length ≤ 16 := by rw [hL, List.length_replicate]; omega
   clear hL
   have n8 := new1 wr (.cells #[.string ⟨#[97]⟩, .int .i64 4] 90)
   have k8 := Blk.new wr 90 #[.string ⟨#[97]⟩, .int .i64 4]
   have od8 := od.below n8
   have kc8 := kc.later n8
   have ke8 := ke.later n8
   have kp8 := kp.later n8
   have hb8 := bup hb n8
   have hs8 := n8.size
   clear od kc ke kp hb
   go_wp2_with (at_builtin; go_loud (refine zds _ _ rfl rfl (w.heap.size + 3) D cd ⟨#[97]⟩ L 4 rfl od8 wr.heap.size rfl k8 (by omega) (by omega) ?_); intro D' cd' w9 od9 hg9 a6; have c9 := (a6.cell (p := ⟨w.heap.size + 2, 2, none⟩) (by show w.heap.size + 2 < w.heap.size + 3; omega)).trans (kc8.cell 2); have f9 := (kc8.below a6 (by omega)).fr 2)
   have kc10 := (kc8.below a6 (by omega)).set_ 2 (.slice D' (L.length + 1) cd')
   have od10 := od9.setFar (p := ⟨w.heap.size + 2, 2, none⟩) (by show w.heap.size + 2 < w.heap.size + 3; omega) (.slice D' (L.length + 1) cd')
   have ke10 := (ke8.below a6 (by omega)).far (p := ⟨w.heap.size + 2, 2, none⟩) (by show w.heap.size + 2 ≠ w.heap.size; omega) (.slice D' (L.length + 1) cd')
   have kp10 := (kp8.below a6 (by omega)).far (p := ⟨w.heap.size + 2, 2, none⟩) (by show w.heap.size + 2 ≠ w.heap.size + 1; omega) (.slice D' (L.length + 1) cd')
   have a7 := (hb8.trans (a6.mono (by omega))).setCell (p := ⟨w.heap.size + 2, 2, none⟩) (by show w.heap.size ≤ w.heap.size + 2; omega) (.slice D' (L.length + 1) cd')
   have a8 : w.heap.size + 3 ≤ (w9.setCell ⟨w.heap.size + 2, 2, none⟩ (.slice D' (L.length + 1) cd')).heap.size := by have := a6.size; simp; omega
   have hl1 : (L ++ [(4 : Int)]).length = L.length + 1 := by simp
   clear c9 f9 hg9 a6 od9 od8 kc8 ke8 kp8 hb8 k8 n8 c2 hs8
   go_roundw
   case rel =>
    refine ⟨k + 1, L ++ [(4 : Int)], D', cd', by omega, by go_num, ?_, od10, ?_, ke10, kp10, a7, a8⟩
    ·rw [hl1]; exact kc10
    ·rw [HL.out]; exact (List.replicate_succ' ..).symm
   case measure => simp [RowKit.intOf]; omega
  ·obtain rfl : k = na := by omega
   have hln : L.length = k := by rw [hL, List.length_replicate]
   have hlk := hna
   clear hlt hk
   rw [hln] at kc
   have ke5 : Blk ((wr.setCell ⟨w.heap.size, 0, none⟩ (.int .i64 0)).setCell ⟨w.heap.size, 1, none⟩ (.int .i64 1)) w.heap.size 44 #[.int .i64 0, .int .i64 1, kd, dst, arr, op, av, an, bv, bn] := (ke.set_ 0 (.int .i64 0)).set_ 1 (.int .i64 1)
   have kc5 := (kc.far (p := ⟨w.heap.size, 0, none⟩) (by show w.heap.size ≠ w.heap.size + 2; omega) (.int .i64 0)).far (p := ⟨w.heap.size, 1, none⟩) (by show w.heap.size ≠ w.heap.size + 2; omega) (.int .i64 1)
   have kp5 := (kp.far (p := ⟨w.heap.size, 0, none⟩) (by show w.heap.size ≠ w.heap.size + 1; omega) (.int .i64 0)).far (p := ⟨w.heap.size, 1, none⟩) (by show w.heap.size ≠ w.heap.size + 1; omega) (.int .i64 1)
   have od5 := (od.setFar (p := ⟨w.heap.size, 0, none⟩) (by show w.heap.size < w.heap.size + 3; omega) (.int .i64 0)).setFar (p := ⟨w.heap.size, 1, none⟩) (by show w.heap.size < w.heap.size + 3; omega) (.int .i64 1)
   have hb5 := (hb.setCell (p := ⟨w.heap.size, 0, none⟩) (Nat.le_refl _) (.int .i64 0)).setCell (p := ⟨w.heap.size, 1, none⟩) (Nat.le_refl _) (.int .i64 1)
   have hs5 : ((wr.setCell ⟨w.heap.size, 0, none⟩ (.int .i64 0)).setCell ⟨w.heap.size, 1, none⟩ (.int .i64 1)).heap.size = wr.heap.size := by simp
   have y0 := zam ke
   have f0 := blk6 kc
   have n6 := new1 ((wr.setCell ⟨w.heap.size, 0, none⟩ (.int .i64 0)).setCell ⟨w.heap.size, 1, none⟩ (.int .i64 1)) (.cells #[.int .i64 0, .int .i64 1, kd, dst, arr, op, av, an, bv, bn] 44)
   have k6 := Blk.new ((wr.setCell ⟨w.heap.size, 0, none⟩ (.int .i64 0)).setCell ⟨w.heap.size, 1, none⟩ (.int .i64 1)) 44 #[.int .i64 0, .int .i64 1, kd, dst, arr, op, av, an, bv, bn]
   rw [hs5] at k6
   have ke6 := ke5.later n6
   have kc6 := kc5.later n6
   have kp6 := kp5.later n6
   have od6 := od5.below n6
   have hb6 := bup hb5 n6
   have hs6 : w.heap.size + 3 ≤ (((wr.setCell ⟨w.heap.size, 0, none⟩ (.int .i64 0)).setCell ⟨w.heap.size, 1, none⟩ (.int .i64 1)).alloc (.cells #[.int .i64 0, .int .i64 1, kd, dst, arr, op, av, an, bv, bn] 44)).heap.size := by have := n6.size; omega
   clear ke5 kc5 kp5 od5 hb5 n6 od kp
   go_upto_region 9 with (at_builtin; go_loud (refine zb4 _ _ rfl rfl (w.heap.size + 3) none 0 [] (e01 ⟨fr, te, kd, dst, arr, op, av, an, bv, bn⟩) rfl (OwnE.nil _ _) wr.heap.size rfl k6 (by simp) hs6 ?_); intro E' ce' wB oe hgB a9; have c9 := (a9.cell (p := ⟨w.heap.size + 2, 5, none⟩) (by show w.heap.size + 2 < w.heap.size + 3; omega)).trans (kc6.cell 5); have f9 := (kc6.below a9 (by omega)).fr 5)
   clear y0 f0 ke kc c9 f9 k6 hs5
   have ke10 := (ke6.below a9 (by omega)).far (p := ⟨w.heap.size + 2, 5, none⟩) (by show w.heap.size + 2 ≠ w.heap.size; omega) (.slice E' 1 ce')
   have kp10 := (kp6.below a9 (by omega)).far (p := ⟨w.heap.size + 2, 5, none⟩) (by show w.heap.size + 2 ≠ w.heap.size + 1; omega) (.slice E' 1 ce')
   have kc10 := (kc6.below a9 (by omega)).set_ 5 (.slice E' 1 ce')
   replace kc10 : Blk (wB.setCell ⟨w.heap.size + 2, 5, none⟩ (.slice E' 1 ce')) (w.heap.size + 2) 64 #[.slice none 0 0, n, .slice D k cd, .int .i64 2, .int .i64 1, .slice E' 1 ce'] := kc10
   have od10 := (od6.other hgB (fun g e => by simp [Value.ownBlock] at e)).setFar (p := ⟨w.heap.size + 2, 5, none⟩) (by show w.heap.size + 2 < w.heap.size + 3; omega) (.slice E' 1 ce')
   have oe10 : OwnE _ (w.heap.size + 3) E' ce' [e01 ⟨fr, te, kd, dst, arr, op, av, an, bv, bn⟩] := oe.setFar (p := ⟨w.heap.size + 2, 5, none⟩) (by show w.heap.size + 2 < w.heap.size + 3; omega) (.slice E' 1 ce')
   have a7 := (hb6.trans (a9.mono (by omega))).setCell (p := ⟨w.heap.size + 2, 5, none⟩) (by show w.heap.size ≤ w.heap.size + 2; omega) (.slice E' 1 ce')
   have a8 : w.heap.size + 3 ≤ (wB.setCell ⟨w.heap.size + 2, 5, none⟩ (.slice E' 1 ce')).heap.size := by have := a9.size; simp; omega
   clear ke6 kp6 kc6 od6 oe hb6 hgB a9 hs6 hb hsz
   generalize wB.setCell ⟨w.heap.size + 2, 5, none⟩ (.slice E' 1 ce') = w10 at *
   have y0 := zam ke10
   have f0 := blk6 kc10
   by_cases h12 : kd = 12
   ·subst h12
    obtain ⟨o1, o2⟩ := hop rfl
    obtain ⟨m, rfl⟩ : ∃ m : Nat, op = (m : Int) := ⟨op.toNat, by omega⟩
    have HN : Hid (e01n ⟨fr, te, 12, dst, arr, (m : Int), av, an, bv, bn⟩ = ⟨0, 1, 12, dst, arr, notOp (m : Int), av, an, bv, bn⟩) := hid rfl
    rw [HN.out] at HG
    have nA := new1 w10 (.cells #[.int .i64 0, .int .i64 6, .int .i64 5, .int .i64 4, .int .i64 3, .int .i64 2, .int .i64 1] 73)
    have kA := Blk.new w10 73 #[.int .i64 0, .int .i64 6, .int .i64 5, .int .i64 4, .int .i64 3, .int .i64 2, .int .i64 1]
    have ca : (w10.alloc (.cells #[.int .i64 0, .int .i64 6, .int .i64 5, .int .i64 4, .int .i64 3, .int .i64 2, .int .i64 1] 73)).cell? ⟨w10.heap.size, m, none⟩ = some (.int .i64 (notOp (m : Int))) := by
     rw [kA.cell m]
     have e : m = 1 ∨ m = 2 ∨ m = 3 ∨ m = 4 ∨ m = 5 ∨ m = 6 := by omega
     rcases e with rfl | rfl | rfl | rfl | rfl | rfl <;> rfl
    clear kA HN
    generalize notOp (m : Int) = q at *
    have ke11 := ke10.later nA
    have kc11 := kc10.later nA
    have kp11 := kp10.later nA
    have od11 := od10.below nA
    have oe11 := oe10.below nA
    have b3 := bup a7 nA
    have b1 := Nat.le_trans a8 nA.size
    clear ke10 kc10 kp10 od10 oe10 a7
    go_upto_region 11 with fail
    clear y0 f0 nA a8
    generalize w10.alloc (.cells #[.int .i64 0, .int .i64 6, .int .i64 5, .int .i64 4, .int .i64 3, .int .i64 2, .int .i64 1] 73) = w11 at *
    generalize w10.heap.size = ga at *
    have y0 := zam ke11
    go_upto_region 13 with fail
    clear y0 ca
    have ke12 : Blk (w11.setCell ⟨w.heap.size, 5, none⟩ (.int .i64 q)) w.heap.size 44 #[.int .i64 0, .int .i64 1, .int .i64 12, dst, arr, q, av, an, bv, bn] := ke11.set_ 5 (.int .i64 q)
    have kc12 := kc11.far (p := ⟨w.heap.size, 5, none⟩) (by show w.heap.size ≠ w.heap.size + 2; omega) (.int .i64 q)
    have kp12 := kp11.far (p := ⟨w.heap.size, 5, none⟩) (by show w.heap.size ≠ w.heap.size + 1; omega) (.int .i64 q)
    have od12 := od11.setFar (p := ⟨w.heap.size, 5, none⟩) (by show w.heap.size < w.heap.size + 3; omega) (.int .i64 q)
    have oe12 := oe11.setFar (p := ⟨w.heap.size, 5, none⟩) (by show w.heap.size < w.heap.size + 3; omega) (.int .i64 q)
    have b6 := b3.setCell (p := ⟨w.heap.size, 5, none⟩) (Nat.le_refl _) (.int .i64 q)
    have b2 : w.heap.size + 3 ≤ (w11.setCell ⟨w.heap.size, 5, none⟩ (.int .i64 q)).heap.size := by simpa using b1
    clear ke11 kc11 kp11 od11 oe11 b3 b1
    generalize w11.setCell ⟨w.heap.size, 5, none⟩ (.int .i64 q) = w12 at *
    have n13 := new1 w12 (.cells #[.int .i64 0, .int .i64 1, .int .i64 12, dst, arr, q, av, an, bv, bn] 44)
    have k13 := Blk.new w12 44 #[.int .i64 0, .int .i64 1, .int .i64 12, dst, arr, q, av, an, bv, bn]
    have y0 := zam ke12
    have f0 := blk6 kc12
    have kc13 := kc12.later n13
    have kp13 := kp12.later n13
    have od13 := od12.below n13
    have oe13 := oe12.below n13
    have b7 := bup b6 n13
    have b4 := Nat.le_trans b2 n13.size
    go_upto_region 14 with (at_builtin; go_loud (refine zb4 _ _ rfl rfl (w.heap.size + 3) E' ce' [e01 ⟨fr, te, 12, dst, arr, (m : Int), av, an, bv, bn⟩] ⟨0, 1, 12, dst, arr, q, av, an, bv, bn⟩ rfl oe13 w12.heap.size rfl k13 (by simp) b4 ?_); intro E2 ce2 wC oe14 hgC b0; have c9 := (b0.cell (p := ⟨w.heap.size + 2, 5, none⟩) (by show w.heap.size + 2 < w.heap.size + 3; omega)).trans (kc13.cell 5); have f9 := (kc13.below b0 (by omega)).fr 5)
    clear y0 f0 c9 f9 k13 n13 ke12 kc12 kp12 od12 oe12 b6 b2
    have kpW := (kp13.below b0 (by omega)).far (p := ⟨w.heap.size + 2, 5, none⟩) (by show w.heap.size + 2 ≠ w.heap.size + 1; omega) (.slice E2 2 ce2)
    have kc14 : Blk (wC.setCell ⟨w.heap.size + 2, 5, none⟩ (.slice E2 2 ce2)) (w.heap.size + 2) 64 #[.slice none 0 0, n, .slice D k cd, .int .i64 2, .int .i64 1, .slice E2 2 ce2] := (kc13.below b0 (by omega)).set_ 5 (.slice E2 2 ce2)
    have odW := (od13.other hgC (zmS oe13)).setFar (p := ⟨w.heap.size + 2, 5, none⟩) (by show w.heap.size + 2 < w.heap.size + 3; omega) (.slice E2 2 ce2)
    have oeW : OwnE _ (w.heap.size + 3) E2 ce2 [e01 ⟨fr, te, 12, dst, arr, (m : Int), av, an, bv, bn⟩, ⟨0, 1, 12, dst, arr, q, av, an, bv, bn⟩] := oe14.setFar (p := ⟨w.heap.size + 2, 5, none⟩) (by show w.heap.size + 2 < w.heap.size + 3; omega) (.slice E2 2 ce2)
    have b5 := (b7.trans (b0.mono (by omega))).setCell (p := ⟨w.heap.size + 2, 5, none⟩) (by show w.heap.size ≤ w.heap.size + 2; omega) (.slice E2 2 ce2)
    clear kc13 kp13 od13 oe13 oe14 b7 b4 hgC b0
    generalize wC.setCell ⟨w.heap.size + 2, 5, none⟩ (.slice E2 2 ce2) = w14 at *
    have f0 := blk6 kc14
    have x0 := blk6 kpW
    go_wp2
    clear f0 x0 kc14
    have q9 := kpW.set6 (v0 := .slice none 0 0) (v1 := .int .i64 n) (v2 := .slice D k cd) (v3 := .int .i64 2) (v4 := .int .i64 1) (v5 := .slice E2 2 ce2)
    have od9 := odW.set6 (g := w.heap.size + 1) (v0 := .slice none 0 0) (v1 := .int .i64 n) (v2 := .slice D k cd) (v3 := .int .i64 2) (v4 := .int .i64 1) (v5 := .slice E2 2 ce2) (by omega)
    have oe9 := oeW.set6 (g := w.heap.size + 1) (v0 := .slice none 0 0) (v1 := .int .i64 n) (v2 := .slice D k cd) (v3 := .int .i64 2) (v4 := .int .i64 1) (v5 := .slice E2 2 ce2) (by omega)
    have a6 := b5.trans (zni (W := w14) (B := w.heap.size) (g := w.heap.size + 1) (v0 := .slice none 0 0) (v1 := .int .i64 n) (v2 := .slice D k cd) (v3 := .int .i64 2) (v4 := .int .i64 1) (v5 := .slice E2 2 ce2) (by omega) b5.size)
    obtain ⟨z0, z1, z2, z3, z4, z5, zf⟩ := blk6 q9
    have hD := od9.rd rfl
    rw [hL] at hD
    refine bodyPost_ret (v := .agg #[.slice none 0 0, n, .slice D k cd, .int .i64 2, .int .i64 1, .slice E2 2 ce2]) (by simp [results, Tryz.results38, go_sem, z0, z1, z2, z3, z4, z5]) rfl ?_
    rw [HG.out, if_pos (by first | rfl | trivial)]
    exact ⟨D, cd, E2, ce2, rfl, hD, oe9.rd, a6⟩
   ·have t12 : (kd == 12) = false := by rw [beq_eq_false_iff_ne]; exact h12
    have kpW := kp10
    have odW := od10
    have oeW := oe10
    have b5 := a7
    have x0 := blk6 kpW
    go_wp2
    clear y0 f0 x0
    have q9 := kpW.set6 (v0 := .slice none 0 0) (v1 := .int .i64 n) (v2 := .slice D k cd) (v3 := .int .i64 2) (v4 := .int .i64 1) (v5 := .slice E' 1 ce')
    have od9 := odW.set6 (g := w.heap.size + 1) (v0 := .slice none 0 0) (v1 := .int .i64 n) (v2 := .slice D k cd) (v3 := .int .i64 2) (v4 := .int .i64 1) (v5 := .slice E' 1 ce') (by omega)
    have oe9 := oeW.set6 (g := w.heap.size + 1) (v0 := .slice none 0 0) (v1 := .int .i64 n) (v2 := .slice D k cd) (v3 := .int .i64 2) (v4 := .int .i64 1) (v5 := .slice E' 1 ce') (by omega)
    have a6 := b5.trans (zni (W := w10) (B := w.heap.size) (g := w.heap.size + 1) (v0 := .slice none 0 0) (v1 := .int .i64 n) (v2 := .slice D k cd) (v3 := .int .i64 2) (v4 := .int .i64 1) (v5 := .slice E' 1 ce') (by omega) b5.size)
    obtain ⟨z0, z1, z2, z3, z4, z5, zf⟩ := blk6 q9
    have hD := od9.rd rfl
    rw [hL] at hD
    refine bodyPost_ret (v := .agg #[.slice none 0 0, n, .slice D k cd, .int .i64 2, .int .i64 1, .slice E' 1 ce']) (by simp [results, Tryz.results38, go_sem, z0, z1, z2, z3, z4, z5]) rfl ?_
    rw [HG.out, if_neg h12]
    exact ⟨D, cd, E', ce', rfl, hD, oe9.rd, a6⟩
end
section

end
section
open Go.RowKit
theorem zkF {n : Int} {m : List Int} {fr te arr op an bv bn : Int} {d : Nat} (hb : bv < 0) (hk : -2305843009213693952 ≤ bn ∧ bn ≤ 2305843009213693952) : zbx ⟨n, false, m⟩ ⟨fr, te, 4, (d : Int), arr, op, (d : Int), an, bv, bn⟩ = closeO ⟨n, false, zbf (2 * n).toNat d bn m⟩ := by
 unfold zbx
 dsimp only
 rw [if_neg (by omega), if_neg (by omega), if_neg (by omega), if_neg (by omega), if_neg (by omega), if_pos (by omega), if_neg (by omega)]
 rw [show decide ((4 : Int) = 5) = false from rfl]
 unfold zhL
 rw [if_pos (by omega), if_neg (by omega), if_neg (by decide)]
 unfold zbL
 rw [if_neg (by omega), if_neg (by simp)]
 simp
theorem zmA {n : Int} {m : List Int} {N : Nat} (hN : (N : Int) = 2 * n) (hn : N ≤ 128) (hc : Cells N m) {d : Nat} (hd : (d : Int) < n) {k : Int} (hk : -2305843009213693952 ≤ k ∧ k ≤ 2305843009213693952) {A : Option Addr} {cap B : Nat} {W : World} (hm : m.length ≤ 17592186044416) (hB : B ≤ W.heap.size) (hx : Sx W B A m) :
  Calls Tryz.prog 197 #[.agg #[n, false, .slice A m.length cap], (d : Int), (d : Int), k] W (zan W B (closeO ⟨n, false, zbf N d k m⟩)) :=
 (ze8 n m N hN hn hc d hd k hk A cap W (hx.rd hB) hm).mono fun _ _ h => h.sx hB
theorem ziH (o : O) (fr te arr op an bv bn : Int) (d : Nat) (ia : I64 an) (hb : bv < 0) (hk : -2305843009213693952 ≤ bn ∧ bn ≤ 2305843009213693952) (hd : (d : Int) < o.n) (A : Option Addr) (cap : Nat) (w : World) (hx : Rd w w.heap.size A o.m) (hm : o.m.length ≤ 17592186044416) (B : Nat) (hB : B ≤ w.heap.size) :
  Calls Tryz.prog 28 #[.agg #[o.n, o.e, .slice A o.m.length cap], .agg #[fr, te, .int .i64 4, (d : Int), arr, op, (d : Int), an, bv, bn]] w (zjc w B (transAns o ⟨fr, te, 4, (d : Int), arr, op, (d : Int), an, bv, bn⟩) (transErr o ⟨fr, te, 4, (d : Int), arr, op, (d : Int), an, bv, bn⟩)) := by
 have ib : I64 bn := by unfold I64; omega
 refine zgO o fr te 4 (d : Int) arr op (d : Int) an bv bn A cap w hx hm B hB fun _ N cm Ac cc W hN hn hc _ hBW hsx hmc => ?_
 rw [zkF hb hk, show (2 * o.n).toNat = N by omega]
 refine zfW 4 (by omega) o.n cm fr te d arr op d an bv bn ia ib (by omega) Ac cc W B hBW hsx _ fun W2 hB2 hx2 => ?_
 exact zj3 o.n cm fr te d arr op d an bv bn ia ib (by omega) hb Ac cc W2 B hB2 hx2 _ fun W3 hB3 hx3 => zmA hN hn hc hd hk hmc hB3 hx3
end
section
open Go.RowKit
attribute [local go_sem ↓] Go.wp_at_zero Go.wp_at_succ
def uO (x : Int) : O := ⟨1, false, boundM 2 1 0 0 (boundM 2 0 1 (2 * x) (topM 2 2))⟩
theorem ze4 : (topM 2 2).length = 4 := zcQ 2 2
theorem zns (x : Int) (hx : 0 ≤ x ∧ x ≤ 1000) (w : World) : Calls Tryz.prog 54 #[x] w (zaX w (uO x)) := by
 have h1 : (boundM 2 0 1 (2 * x) (topM 2 2)).length = 4 := by rw [za7, ze4]
 have h2 : (boundM 2 1 0 0 (boundM 2 0 1 (2 * x) (topM 2 2))).length = 4 := by rw [za7, h1]
 obtain ⟨p0, a3, -⟩ := zaw w #[.int .i64 0, false, .slice none 0 0] 24
 go_enter Tryz.func54, Tryz.ntmps54
 go_wp2_with fail
 generalize w.alloc (Obj.cells #[.int .i64 0, false, .slice none 0 0] 24) = w0 at *
 refine (zf0 1 2 w0 (by omega) rfl).mono ?_
 rintro e1 w1 ⟨A1, c1, rfl, a1, a6⟩
 have hp0 : w.heap.size < w0.heap.size := p0.lt
 have b4 := a3.size
 dsimp only at a1 ⊢
 rw [ze4]
 replace p0 := p0.later a6
 replace a3 := bup a3 a6
 have a5 := hid (zgr 1 (topM 2 2) 2 0 1 w0.heap.size (2 * x) A1 c1 w1 a1 a6.size rfl (by omega) ze4 (by omega) (by omega) (by omega))
 rw [ze4] at a5
 go_wp2_with fail
 refine a5.out.mono ?_
 clear a5
 rintro e2 w2 ⟨rfl, b5, a0⟩
 replace p0 := p0.below a0 hp0
 have b6 := a6.trans a0
 replace a3 := a3.trans (a0.mono b4)
 have a5 := hid (zgr 1 (boundM 2 0 1 (2 * x) (topM 2 2)) 2 1 0 w0.heap.size 0 A1 c1 w2 b5 b6.size rfl (by omega) h1 (by omega) (by omega) (by omega))
 rw [h1] at a5
 go_wp2_with fail
 refine a5.out.mono ?_
 clear a5
 rintro e3 w3 ⟨rfl, a9, hb3⟩
 replace p0 := p0.below hb3 hp0
 replace a3 := a3.trans (hb3.mono b4)
 have y0 := zaa p0
 have HO := hid (show uO x = ⟨1, false, boundM 2 1 0 0 (boundM 2 0 1 (2 * x) (topM 2 2))⟩ from rfl)
 have HM := hid h2
 clear h1 h2
 generalize boundM 2 1 0 0 (boundM 2 0 1 (2 * x) (topM 2 2)) = om at *
 go_wp2
 have q9 := p0.set3 (v0 := .int .i64 1) (v1 := .bool false) (v2 := .slice A1 4 c1)
 have o9 := a9.far3 (g := w.heap.size) (v0 := .int .i64 1) (v1 := .bool false) (v2 := .slice A1 4 c1) (zak a9 p0 (by decide))
 obtain ⟨z0, z1, z2, fz⟩ := zaa q9
 refine bodyPost_ret (v := .agg #[.int .i64 1, false, .slice A1 4 c1]) (by simp [results, Tryz.results54, go_sem, z0, z1, z2]) rfl ?_
 rw [HO.out]
 exact ⟨A1, c1, by dsimp only; rw [HM.out], o9.less b4, a3.trans (zae (by omega) a3.size)⟩
def e16 : Edg := ⟨0, 0, 4, 0, -1, 0, 0, 0, -1, 1⟩
theorem zhZ (o : O) : eqO o o = true := by unfold eqO; simp
theorem zpv : assumeErr (uO 5) 1 0 (-1) = 0 := by kernel_rfl
theorem zpb : assumeAns (uO 5) 1 0 0 (-1) 3 = ⟨1, false, (uO 2).m⟩ := by kernel_rfl
theorem zpt : transErr (uO 5) e16 = 0 := by kernel_rfl
theorem zpe : transAns (uO 5) e16 = ⟨1, false, [0, 12, -2, 0]⟩ := by kernel_rfl
theorem znq (x : Int) : (uO x).m.length = 4 := by unfold uO; dsimp only; rw [za7, za7, ze4]
theorem zhv (w : World) :
  Calls Tryz.prog 19 #[] w fun e w' => e = .returned (.bool true) ∧ Below w.heap.size w w' := by
 have hl2 := znq 2
 have a7 := znq 5
 have HA : Hid (∀ (A : Option Addr) (cap : Nat) (W : World), Rd W W.heap.size A (uO 5).m → Calls Tryz.prog 20 #[.agg #[.int .i64 1, false, .slice A 4 cap], .int .i64 1, .agg #[.int .i64 0, .int .i64 0], .agg #[.int .i64 (-1), .int .i64 3]] W (zjc W W.heap.size ⟨1, false, (uO 2).m⟩ 0)) := hid (fun A cap W h => by
  have h2 := zhT (uO 5) 1 0 0 (-1) 3 (by unfold I64; omega) (by unfold I64; omega) A cap W h (by rw [a7]; omega) W.heap.size (Nat.le_refl _)
  rw [zpv, zpb, a7] at h2
  exact h2)
 have HE : Hid (∀ (A : Option Addr) (cap : Nat) (W : World), Rd W W.heap.size A (uO 5).m → Calls Tryz.prog 28 #[.agg #[.int .i64 1, false, .slice A 4 cap], .agg #[.int .i64 0, .int .i64 0, .int .i64 4, .int .i64 0, .int .i64 (-1), .int .i64 0, .int .i64 0, .int .i64 0, .int .i64 (-1), .int .i64 1]] W (zjc W W.heap.size ⟨1, false, [0, 12, -2, 0]⟩ 0)) := hid (fun A cap W h => by
  have h2 := ziH (uO 5) 0 0 (-1) 0 0 (-1) 1 0 (by unfold I64; omega) (by omega) (by omega) (by show (0 : Int) < 1; omega) A cap W h (by rw [a7]; omega) W.heap.size (Nat.le_refl _)
  rw [show (⟨0, 0, 4, ((0 : Nat) : Int), -1, 0, ((0 : Nat) : Int), 0, -1, 1⟩ : Edg) = e16 from rfl, zpt, zpe, a7] at h2
  exact h2)
 have hu5 : (uO 5).n = 1 ∧ (uO 5).e = false := ⟨rfl, rfl⟩
 have hu2 : (uO 2).n = 1 ∧ (uO 2).e = false := ⟨rfl, rfl⟩
 have b7 : Hid (∀ W, Calls Tryz.prog 54 #[.int .i64 5] W (zaX W ⟨1, false, (uO 5).m⟩)) := hid (fun W => zns 5 (by omega) W)
 have HU2 : Hid (∀ W, Calls Tryz.prog 54 #[.int .i64 2] W (zaX W ⟨1, false, (uO 2).m⟩)) := hid (fun W => zns 2 (by omega) W)
 clear hu5 hu2
 have b1 := hid hl2
 have HL5 := hid a7
 clear hl2 a7
 generalize (uO 5).m = m5 at *
 generalize (uO 2).m = m2 at *
 go_enter Tryz.func19, Tryz.ntmps19
 go_wp2_with fail
 refine (b7.out w).mono ?_
 rintro e1 w1 ⟨A1, c1, rfl, a1, a6⟩
 dsimp only at a1 ⊢
 rw [HL5.out]
 go_wp2_with fail
 refine (HA.out A1 c1 w1 a1.rd).mono ?_
 clear HA
 rintro e2 w2 ⟨A2, c2, rfl, b8, a0⟩
 dsimp only at b8 ⊢
 rw [b1.out]
 have a2 := b8.rd a0.size
 replace a0 := bup a6 a0
 clear b8 a1 a6
 go_wp2_with fail
 obtain ⟨k1, n1, -⟩ := zaw w2 #[.int .i64 1, false, .slice A2 4 c2] 24
 replace a2 := a2.up n1
 replace a0 := bup a0 n1
 clear n1
 generalize w2.alloc (Obj.cells #[.int .i64 1, false, .slice A2 4 c2] 24) = w3 at *
 generalize w2.heap.size = g1 at *
 refine (b7.out w3).mono ?_
 clear b7
 rintro e4 w4 ⟨A4, c4, rfl, a4, b0⟩
 dsimp only at a4 ⊢
 rw [HL5.out]
 replace a2 := a2.up b0
 replace k1 := k1.later b0
 replace a0 := bup a0 b0
 clear b0
 go_wp2_with fail
 refine (HE.out A4 c4 w4 a4.rd).mono ?_
 clear HE
 rintro e5 w5 ⟨A5, c5, rfl, b2, a8⟩
 dsimp only [List.length_cons, List.length_nil] at b2 ⊢
 replace a2 := a2.up a8
 replace k1 := k1.later a8
 have b3 := b2.rd a8.size
 replace a0 := bup a0 a8
 clear b2 a4 a8
 obtain ⟨k3, n3, -⟩ := zaw w5 #[.int .i64 1, false, .slice A5 4 c5] 24
 replace a2 := a2.up n3
 replace b3 := b3.up n3
 replace k1 := k1.later n3
 replace a0 := bup a0 n3
 clear n3
 go_upto_region 3 with fail
 generalize w5.alloc (Obj.cells #[.int .i64 1, false, .slice A5 4 c5] 24) = w6 at *
 generalize w5.heap.size = g3 at *
 obtain ⟨x0, x1, x2, fx⟩ := zaa k1
 obtain ⟨y0, y1, y2, fy⟩ := zaa k3
 have f0 := zac x0
 have f1 := zac x1
 have f2 := zac x2
 have j2 := zac y2
 clear x0 x1 x2 fx y0 y1 y2 fy
 refine zad 15 [Sp.val (.int .i64 0), Sp.val (.bool true), Sp.val (.bool true), Sp.val (.int .i64 0), Sp.val (.bool true), Sp.val (.bool true), Sp.val (.bool true), Sp.val (.agg #[.int .i64 1, false, .slice A2 4 c2]), Sp.any (zfM ⟨1, false, m2⟩), Sp.val (.bool true), Sp.val (.bool true), Sp.val (.bool true), Sp.val (.pointer (some ⟨g3, 2, none⟩)), Sp.val (.slice A5 4 c5), Sp.any (znL 2 #[.int .i64 0, .int .i64 12, .int .i64 (-2), .int .i64 0] 4)] (by kernel_rfl) (by kernel_rfl) ?_
 iterate 8 (refine fe_t (fun _ _ => ?_))
 refine zaf.call 54 #[.int .i64 2] (by rfl) (fun W hW => by go_simp) (fun W hW => (HU2.out W).mono fun _ _ ⟨A1, c1, he, ho, hb⟩ => ⟨_, he, hb, A1, c1, rfl, ho⟩) (fun v8 l8 h8 => ?_)
 refine fe_p ?_
 refine zaf.callFV (by rfl) (fun W hW hf => ?_) (fun l9 h9 => ?_)
 ·obtain ⟨A8, c8, rfl, o8, _, _, _⟩ := zej (show Sp.fact w6.drew (Sp.any (zfM ⟨1, false, m2⟩)) v8 l8 h8 W from hf 8 (by kernel_rfl))
  refine ⟨23, #[.agg #[.int .i64 1, false, .slice A2 4 c2], .agg #[.int .i64 1, false, .slice A8 m2.length c8]], by go_simp, ?_⟩
  have h := zkg ⟨1, false, m2⟩ ⟨1, false, m2⟩ A2 A8 c2 c8 W (a2.up (Ext.trans (Below.refl _ _).drew hW)) o8.rd (by dsimp only; rw [b1.out]; omega)
  dsimp only at h
  rw [zhZ, b1.out] at h
  rw [b1.out]
  exact h
 refine fe_p ?_
 iterate 4 (refine fe_t (fun _ _ => ?_))
 refine zaf.step (by rfl) (fun W hW K hK => ?_) (fun v14 l14 h14 => ?_)
 ·go_simp
  exact hK _ _ (new1 _ _) ⟨_, rfl, Blk.new _ _ _⟩
 refine fe_p ?_
 refine zaf.tail (fun W hW hf hd => ?_)
 replace hW : Below w6.heap.size w6 W := Ext.trans (Below.refl _ _).drew hW
 obtain ⟨gN, rfl, kN⟩ := zlZ (show Sp.fact w6.drew (Sp.any (znL 2 #[.int .i64 0, .int .i64 12, .int .i64 (-2), .int .i64 0] 4)) v14 l14 h14 W from hf 14)
 clear hf hd f0 f1 f2 j2
 have hLG := hid (ziZ [0, 12, -2, 0] A5 (some ⟨gN, 0, none⟩) c5 4 W (b3.up hW) (Blk.rd kN) (by decide))
 dsimp only [List.length_cons, List.length_nil] at hLG
 replace a0 := bup a0 hW
 go_wp2_with fail
 refine hLG.out.mono ?_
 rintro e7 w7 ⟨rfl, hb7⟩
 go_wp2
 go_ret
 exact ⟨rfl, bup a0 hb7⟩
end
section

end
section
open Go.RowKit
attribute [local go_sem ↓] Go.wp_at_zero Go.wp_at_succ
theorem zn1 {w : World} {g ga : Nat} {t : TypeId} {ks : List Int} (hg : g < w.heap.size) (_hga : ga < w.heap.size) {cs : Array Value} (h : Blk w g t cs) {n c : Nat} (hcs : ∀ k, k < n → cs[k]? = some (.slice (some ⟨ga, 0, none⟩) ks.length c)) (hk : Rd w w.heap.size (some ⟨ga, 0, none⟩) ks) : RdR w w.heap.size (some ⟨g, 0, none⟩) (List.replicate n ks) := by
 intro k hk'
 have hkn : k < n := by simpa using hk'
 refine ⟨g, 0, some ⟨ga, 0, none⟩, c, rfl, hg, ?_, ?_⟩
 ·rw [Nat.zero_add, h.cell k, hcs k hkn, List.getElem_replicate]
 ·rw [List.getElem_replicate]; exact hk
theorem znX {w : World} {g : Nat} {t : TypeId} {a0 a1 a2 a3 : Int} (h : Blk w g t #[a0, a1, a2, a3]) : Rd w w.heap.size (some ⟨g, 0, none⟩) [a0, a1, a2, a3] := by
 intro k hk
 refine ⟨g, 0, rfl, h.lt, ?_⟩
 rw [Nat.zero_add, h.cell k]
 have e : k = 0 ∨ k = 1 ∨ k = 2 ∨ k = 3 := by simp at hk; omega
 rcases e with rfl | rfl | rfl | rfl <;> rfl
theorem zk1 {n : Int} {e : Edg} (hr : zbd n e = true) (k12 : e.kd = 12) : 1 ≤ e.op ∧ e.op ≤ 6 := by
 unfold zbd rightE wOp at hr
 simp only [Bool.and_eq_true] at hr
 have := hr.1.1.2
 rw [decide_eq_true k12] at this
 simpa using this
theorem zhj {o : O} {e : Edg} (h : transErr o e = 0) : OkO o.n (transAns o e) := by
 obtain ⟨hc, hr⟩ := zcJ h
 have okc := (⟨rfl, hc⟩ : OkO o.n o).close
 unfold transAns
 rw [if_pos h]
 unfold transO
 split
 ·exact okc
 ·rename_i he
  exact zlE okc (by simpa using he) okc.rng.1 hr
theorem zow (o : O) (e : Edg) (na : Nat) (hna : na ≤ 16) (sz : Int) (hsz : 1 ≤ sz ∧ sz ≤ 1024) (xs : List Int) (input : Int) (ks : List Int) (hks : (ks.length : Int) = sz) (n0 : 0 ≤ o.n) (n1 : o.n ≤ 64) (hr : zbd o.n e = true) (harr : e.arr < na) (hxl : (xs.length : Int) = o.n) (hI : I64s xs) (ia : I64 e.an) (ib : I64 e.bn)
  (D E A X : Option Addr) (cd ce ca xc : Nat) (W : World) (hD : RdD W W.heap.size D (List.replicate na sz)) (hE : RdE W W.heap.size E (gr1 o.n [] e).es) (hX : Rd W W.heap.size X xs) (hA : RdR W W.heap.size A (List.replicate na ks)) :
  Calls Tryz.prog 37 #[.agg #[.slice none 0 0, o.n, .slice D na cd, .int .i64 2, .int .i64 1, .slice E (gr1 o.n [] e).es.length ce], .slice X xs.length xc, .slice A na ca, input, .int .i64 0] W (znl W (oneW (gr1 o.n (List.replicate na sz) e) (List.replicate na ks) xs input 0)) := by
 have hrr := znB (na := ((List.replicate na sz).length : Nat)) hr (by simp; exact harr) (by omega)
 have hc := zoM (e := e) (sz := List.replicate na sz) n0 n1 (by simp; exact hna) (fun s h => by rw [List.eq_of_mem_replicate h]; omega) hrr
 have := zk7 (gr1 o.n (List.replicate na sz) e) none D E 0 cd ce xs X xc (List.replicate na ks) A ca input 0 W hD hE hX hA hI (fun x hx => by
   have hx' : x = e01 e ∨ x = e01n e := by
    unfold gr1 at hx
    dsimp only at hx
    split at hx
    ·simpa using hx
    ·left; simpa using hx
   rcases hx' with rfl | rfl <;> exact ⟨ia, ib⟩) hc (by show ((0 : Nat) : Int) < 2; omega) (by
   rw [show (gr1 o.n (List.replicate na sz) e).all = o.n by unfold Gr.all gr1; dsimp only; omega]; exact hxl) (by show (List.replicate na ks).length = (List.replicate na sz).length; simp) (fun k h => by
   have h4 : k < na := by simpa using h
   rw [List.getElem_replicate]
   show ((ks.length : Nat) : Int) = gI (List.replicate na sz) (k : Int)
   unfold gI
   simp [h4]
   omega)
 unfold grV at this
 rw [List.length_replicate] at this
 rw [show (gr1 o.n (List.replicate na sz) e).sz.length = na from List.length_replicate] at this
 exact this
end
end Go.Proofs.YtnmpgijiimglcaaGreat
