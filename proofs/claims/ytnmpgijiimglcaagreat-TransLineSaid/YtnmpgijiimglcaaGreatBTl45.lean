import Derived.Test.YtnmpgijiimglcaaGreatBTl32
import Derived.Test.YtnmpgijiimglcaaGreatBTl44
import Derived.Test.YtnmpgijiimglcaaGreatBTl21
import Derived.Test.YtnmpgijiimglcaaGreatBTl17
import Derived.Test.YtnmpgijiimglcaaGreatBTl34
import Derived.Test.YtnmpgijiimglcaaGreatBTl09
namespace Go.Proofs.YtnmpgijiimglcaaGreat
section
open Go.RowKit
set_option maxRecDepth 100000
set_option maxHeartbeats 8000000
attribute [local go_sem ↓] Go.wp_at_zero Go.wp_at_succ
def GraphRes (w : World) (n : Int) (na : Nat) (es : List Edg) (e : Ending) (w' : World) : Prop :=
 ∃ D cd E ce, e = .returned (.agg #[.slice none 0 0, n, .slice D na cd, .int .i64 2, .int .i64 1, .slice E es.length ce]) ∧ RdD w' w'.heap.size D (List.replicate na 4) ∧ RdE w' w'.heap.size E es ∧ Below w.heap.size w w'
theorem Blk.set6 {W : World} {g : Nat} {t : TypeId} {a0 a1 a2 a3 a4 a5 v0 v1 v2 v3 v4 v5 : Value} (h : Blk W g t #[a0, a1, a2, a3, a4, a5]) :
  Blk ((((((W.setCell ⟨g, 0, none⟩ v0).setCell ⟨g, 1, none⟩ v1).setCell ⟨g, 2, none⟩ v2).setCell ⟨g, 3, none⟩ v3).setCell ⟨g, 4, none⟩ v4).setCell ⟨g, 5, none⟩ v5) g t #[v0, v1, v2, v3, v4, v5] := by
 have h0 : Blk _ g t #[v0, a1, a2, a3, a4, a5] := h.set_ 0 v0
 have h1 : Blk _ g t #[v0, v1, a2, a3, a4, a5] := h0.set_ 1 v1
 have h2 : Blk _ g t #[v0, v1, v2, a3, a4, a5] := h1.set_ 2 v2
 have h3 : Blk _ g t #[v0, v1, v2, v3, a4, a5] := h2.set_ 3 v3
 have h4 : Blk _ g t #[v0, v1, v2, v3, v4, a5] := h3.set_ 4 v4
 have h5 : Blk _ g t #[v0, v1, v2, v3, v4, v5] := h4.set_ 5 v5
 exact h5
theorem below6 {W : World} {B g : Nat} {v0 v1 v2 v3 v4 v5 : Value} (hg : B ≤ g) (hB : B ≤ W.heap.size) :
  Below B W ((((((W.setCell ⟨g, 0, none⟩ v0).setCell ⟨g, 1, none⟩ v1).setCell ⟨g, 2, none⟩ v2).setCell ⟨g, 3, none⟩ v3).setCell ⟨g, 4, none⟩ v4).setCell ⟨g, 5, none⟩ v5) := by
 have h0 := below1 (W := W) (B := B) (g := g) (i := 0) (v := v0) hg hB
 have h1 := h0.setCell (p := ⟨g, 1, none⟩) hg v1
 have h2 := h1.setCell (p := ⟨g, 2, none⟩) hg v2
 have h3 := h2.setCell (p := ⟨g, 3, none⟩) hg v3
 have h4 := h3.setCell (p := ⟨g, 4, none⟩) hg v4
 exact h4.setCell (p := ⟨g, 5, none⟩) hg v5
theorem OwnD.set6 {w : World} {base cap g : Nat} {A : Option Addr} {sz : List Int} {s v0 v1 v2 v3 v4 v5 : Value} (h : OwnD w base s A cap sz) (hg : g < base) : OwnD ((((((w.setCell ⟨g, 0, none⟩ v0).setCell ⟨g, 1, none⟩ v1).setCell ⟨g, 2, none⟩ v2).setCell ⟨g, 3, none⟩ v3).setCell ⟨g, 4, none⟩ v4).setCell ⟨g, 5, none⟩ v5) base s A cap sz :=
 (((((h.setFar (p := ⟨g, 0, none⟩) hg v0).setFar (p := ⟨g, 1, none⟩) hg v1).setFar (p := ⟨g, 2, none⟩) hg v2).setFar (p := ⟨g, 3, none⟩) hg v3).setFar (p := ⟨g, 4, none⟩) hg v4).setFar (p := ⟨g, 5, none⟩) hg v5
theorem OwnE.setFar {w : World} {base cap : Nat} {A : Option Addr} {es : List Edg} (h : OwnE w base A cap es) {p : Addr} (hp : p.block < base) (u : Value) : OwnE (w.setCell p u) base A cap es :=
 World.ownsRow.kept h (grown_setCell w p u) (by
  rcases h.2 with ⟨h1, _⟩ | ⟨g2, cap', cur, h1, hb, _⟩
  ·rw [h1]; exact .inl rfl
  ·rw [h1]; exact .inr (fun e => by simp [Value.ownBlock] at e; omega))
theorem OwnE.set6 {w : World} {base cap g : Nat} {A : Option Addr} {es : List Edg} {v0 v1 v2 v3 v4 v5 : Value} (h : OwnE w base A cap es) (hg : g < base) : OwnE ((((((w.setCell ⟨g, 0, none⟩ v0).setCell ⟨g, 1, none⟩ v1).setCell ⟨g, 2, none⟩ v2).setCell ⟨g, 3, none⟩ v3).setCell ⟨g, 4, none⟩ v4).setCell ⟨g, 5, none⟩ v5) base A cap es :=
 (((((h.setFar (p := ⟨g, 0, none⟩) hg v0).setFar (p := ⟨g, 1, none⟩) hg v1).setFar (p := ⟨g, 2, none⟩) hg v2).setFar (p := ⟨g, 3, none⟩) hg v3).setFar (p := ⟨g, 4, none⟩) hg v4).setFar (p := ⟨g, 5, none⟩) hg v5
theorem OwnE_row {w : World} {base cap : Nat} {A : Option Addr} {es : List Edg} (h : OwnE w base A cap es) : ∀ g, (Value.slice A es.length cap).ownBlock = some g → ∃ cs t, Blk w g t cs ∧ t ≠ 90 := fun g e => by
 rcases h.2 with ⟨h1, _⟩ | ⟨g2, cap', cur, h1, _, h3, _⟩
 ·rw [h1] at e; simp [Value.ownBlock] at e
 ·rw [h1] at e
  have : g2 = g := by simpa [Value.ownBlock] using e
  subst this
  exact ⟨cur, _, h3, by decide⟩
theorem graph_ok (n : Int) (na : Nat) (hna : na ≤ 16) (fr te kd dst arr op av an bv bn : Int) (hop : kd = 12 → 1 ≤ op ∧ op ≤ 6) (w : World) :
  Calls Tryz.prog 38 #[n, (na : Int), .agg #[fr, te, kd, dst, arr, op, av, an, bv, bn]] w (GraphRes w n na (gr1 n [] ⟨fr, te, kd, dst, arr, op, av, an, bv, bn⟩).es) := by
 obtain ⟨p0, p1, p2, hb0, hs0⟩ := new_three w #[fr, te, kd, dst, arr, op, av, an, bv, bn] #[.slice none 0 0, .int .i64 0, .slice none 0 0, .int .i64 0, .int .i64 0, .slice none 0 0] #[.slice none 0 0, n, .slice none 0 0, .int .i64 2, .int .i64 1, .slice none 0 0] 44 64 64
 have HG : Hid ((gr1 n [] ⟨fr, te, kd, dst, arr, op, av, an, bv, bn⟩).es = if kd = 12 then [e01 ⟨fr, te, kd, dst, arr, op, av, an, bv, bn⟩, e01n ⟨fr, te, kd, dst, arr, op, av, an, bv, bn⟩] else [e01 ⟨fr, te, kd, dst, arr, op, av, an, bv, bn⟩]) := hid rfl
 generalize (gr1 n [] ⟨fr, te, kd, dst, arr, op, av, an, bv, bn⟩).es = es at *
 go_enter Tryz.func38, Tryz.ntmps38
 go_wp2
 generalize ((w.alloc (.cells #[fr, te, kd, dst, arr, op, av, an, bv, bn] 44)).alloc (.cells #[.slice none 0 0, .int .i64 0, .slice none 0 0, .int .i64 0, .int .i64 0, .slice none 0 0] 64)).alloc (.cells #[.slice none 0 0, n, .slice none 0 0, .int .i64 2, .int .i64 1, .slice none 0 0] 64) = w1 at *
 go_loopw [8] (fun t wr => ∃ (k : Nat) (L : List Int) (D : Option Addr) (cd : Nat), k ≤ na ∧ t = .int .i64 k ∧ Blk wr (w.heap.size + 2) 64 #[.slice none 0 0, n, .slice D L.length cd, .int .i64 2, .int .i64 1, .slice none 0 0] ∧ OwnD wr (w.heap.size + 3) (.string ⟨#[97]⟩) D cd L ∧ L = List.replicate k 4 ∧ Blk wr w.heap.size 44 #[fr, te, kd, dst, arr, op, av, an, bv, bn] ∧ Blk wr (w.heap.size + 1) 64 #[.slice none 0 0, .int .i64 0, .slice none 0 0, .int .i64 0, .int .i64 0, .slice none 0 0] ∧ Below w.heap.size w wr ∧ w.heap.size + 3 ≤ wr.heap.size) (fun t _ => na - (RowKit.intOf t).toNat)
 case atStart => exact ⟨0, [], none, 0, by omega, rfl, p2, OwnD.nil _ _ _, rfl, p0, p1, hb0, by omega⟩
 case round =>
  obtain ⟨k, L, D, cd, hk, rfl, kc, od, hL, ke, kp, hb, hsz⟩ := hrel
  clear p0 p1 p2 hb0 hs0
  by_cases hlt : k < na
  ·have hlt' : (k : Int) < (na : Int) := by omega
   have c2 := kc.cell 2
   have HL := hid hL
   have hll : L.length ≤ 16 := by rw [hL, List.length_replicate]; omega
   clear hL
   have n8 := new1 wr (.cells #[.string ⟨#[97]⟩, .int .i64 4] 90)
   have k8 := Blk.new wr 90 #[.string ⟨#[97]⟩, .int .i64 4]
   have od8 := od.below n8
   have kc8 := kc.later n8
   have ke8 := ke.later n8
   have kp8 := kp.later n8
   have hb8 := bup hb n8
   have hs8 := n8.size
   clear od kc ke kp hb
   go_wp2_with (at_builtin; go_loud (refine wpList_append_decl _ _ rfl rfl (w.heap.size + 3) D cd ⟨#[97]⟩ L 4 rfl od8 wr.heap.size rfl k8 (by omega) (by omega) ?_); intro D' cd' w9 od9 hg9 a6; have c9 := (a6.cell (p := ⟨w.heap.size + 2, 2, none⟩) (by show w.heap.size + 2 < w.heap.size + 3; omega)).trans (kc8.cell 2); have f9 := (kc8.below a6 (by omega)).fr 2)
   have kc10 := (kc8.below a6 (by omega)).set_ 2 (.slice D' (L.length + 1) cd')
   have od10 := od9.setFar (p := ⟨w.heap.size + 2, 2, none⟩) (by show w.heap.size + 2 < w.heap.size + 3; omega) (.slice D' (L.length + 1) cd')
   have ke10 := (ke8.below a6 (by omega)).far (p := ⟨w.heap.size + 2, 2, none⟩) (by show w.heap.size + 2 ≠ w.heap.size; omega) (.slice D' (L.length + 1) cd')
   have kp10 := (kp8.below a6 (by omega)).far (p := ⟨w.heap.size + 2, 2, none⟩) (by show w.heap.size + 2 ≠ w.heap.size + 1; omega) (.slice D' (L.length + 1) cd')
   have a7 := (hb8.trans (a6.mono (by omega))).setCell (p := ⟨w.heap.size + 2, 2, none⟩) (by show w.heap.size ≤ w.heap.size + 2; omega) (.slice D' (L.length + 1) cd')
   have a8 : w.heap.size + 3 ≤ (w9.setCell ⟨w.heap.size + 2, 2, none⟩ (.slice D' (L.length + 1) cd')).heap.size := by have := a6.size; simp; omega
   have hl1 : (L ++ [(4 : Int)]).length = L.length + 1 := by simp
   clear c9 f9 hg9 a6 od9 od8 kc8 ke8 kp8 hb8 k8 n8 c2 hs8
   go_roundw
   case rel =>
    refine ⟨k + 1, L ++ [(4 : Int)], D', cd', by omega, by go_num, ?_, od10, ?_, ke10, kp10, a7, a8⟩
    ·rw [hl1]; exact kc10
    ·rw [HL.out]; exact (List.replicate_succ' ..).symm
   case measure => simp [RowKit.intOf]; omega
  ·obtain rfl : k = na := by omega
   have hln : L.length = k := by rw [hL, List.length_replicate]
   have hlk := hna
   clear hlt hk
   rw [hln] at kc
   have ke5 : Blk ((wr.setCell ⟨w.heap.size, 0, none⟩ (.int .i64 0)).setCell ⟨w.heap.size, 1, none⟩ (.int .i64 1)) w.heap.size 44 #[.int .i64 0, .int .i64 1, kd, dst, arr, op, av, an, bv, bn] := (ke.set_ 0 (.int .i64 0)).set_ 1 (.int .i64 1)
   have kc5 := (kc.far (p := ⟨w.heap.size, 0, none⟩) (by show w.heap.size ≠ w.heap.size + 2; omega) (.int .i64 0)).far (p := ⟨w.heap.size, 1, none⟩) (by show w.heap.size ≠ w.heap.size + 2; omega) (.int .i64 1)
   have kp5 := (kp.far (p := ⟨w.heap.size, 0, none⟩) (by show w.heap.size ≠ w.heap.size + 1; omega) (.int .i64 0)).far (p := ⟨w.heap.size, 1, none⟩) (by show w.heap.size ≠ w.heap.size + 1; omega) (.int .i64 1)
   have od5 := (od.setFar (p := ⟨w.heap.size, 0, none⟩) (by show w.heap.size < w.heap.size + 3; omega) (.int .i64 0)).setFar (p := ⟨w.heap.size, 1, none⟩) (by show w.heap.size < w.heap.size + 3; omega) (.int .i64 1)
   have hb5 := (hb.setCell (p := ⟨w.heap.size, 0, none⟩) (Nat.le_refl _) (.int .i64 0)).setCell (p := ⟨w.heap.size, 1, none⟩) (Nat.le_refl _) (.int .i64 1)
   have hs5 : ((wr.setCell ⟨w.heap.size, 0, none⟩ (.int .i64 0)).setCell ⟨w.heap.size, 1, none⟩ (.int .i64 1)).heap.size = wr.heap.size := by simp
   obtain ⟨y0, y1, y2, y3, y4, y5, y6, y7, y8, y9, fy⟩ := edgbox ke
   obtain ⟨f0, f1, f2, f3, f4, f5, ff⟩ := blk6 kc
   have n6 := new1 ((wr.setCell ⟨w.heap.size, 0, none⟩ (.int .i64 0)).setCell ⟨w.heap.size, 1, none⟩ (.int .i64 1)) (.cells #[.int .i64 0, .int .i64 1, kd, dst, arr, op, av, an, bv, bn] 44)
   have k6 := Blk.new ((wr.setCell ⟨w.heap.size, 0, none⟩ (.int .i64 0)).setCell ⟨w.heap.size, 1, none⟩ (.int .i64 1)) 44 #[.int .i64 0, .int .i64 1, kd, dst, arr, op, av, an, bv, bn]
   rw [hs5] at k6
   have ke6 := ke5.later n6
   have kc6 := kc5.later n6
   have kp6 := kp5.later n6
   have od6 := od5.below n6
   have hb6 := bup hb5 n6
   have hs6 : w.heap.size + 3 ≤ (((wr.setCell ⟨w.heap.size, 0, none⟩ (.int .i64 0)).setCell ⟨w.heap.size, 1, none⟩ (.int .i64 1)).alloc (.cells #[.int .i64 0, .int .i64 1, kd, dst, arr, op, av, an, bv, bn] 44)).heap.size := by have := n6.size; omega
   clear ke5 kc5 kp5 od5 hb5 n6 od kp
   go_upto_region 9 with (at_builtin; go_loud (refine wpList_append_edge _ _ rfl rfl (w.heap.size + 3) none 0 [] (e01 ⟨fr, te, kd, dst, arr, op, av, an, bv, bn⟩) rfl (OwnE.nil _ _) wr.heap.size rfl k6 (by simp) hs6 ?_); intro E' ce' wB oe hgB a9; have c9 := (a9.cell (p := ⟨w.heap.size + 2, 5, none⟩) (by show w.heap.size + 2 < w.heap.size + 3; omega)).trans (kc6.cell 5); have f9 := (kc6.below a9 (by omega)).fr 5)
   clear y0 y1 y2 y3 y4 y5 y6 y7 y8 y9 fy f0 f1 f2 f3 f4 f5 ff ke kc c9 f9 k6 hs5
   have ke10 := (ke6.below a9 (by omega)).far (p := ⟨w.heap.size + 2, 5, none⟩) (by show w.heap.size + 2 ≠ w.heap.size; omega) (.slice E' 1 ce')
   have kp10 := (kp6.below a9 (by omega)).far (p := ⟨w.heap.size + 2, 5, none⟩) (by show w.heap.size + 2 ≠ w.heap.size + 1; omega) (.slice E' 1 ce')
   have kc10 := (kc6.below a9 (by omega)).set_ 5 (.slice E' 1 ce')
   replace kc10 : Blk (wB.setCell ⟨w.heap.size + 2, 5, none⟩ (.slice E' 1 ce')) (w.heap.size + 2) 64 #[.slice none 0 0, n, .slice D k cd, .int .i64 2, .int .i64 1, .slice E' 1 ce'] := kc10
   have od10 := (od6.other hgB (fun g e => by simp [Value.ownBlock] at e)).setFar (p := ⟨w.heap.size + 2, 5, none⟩) (by show w.heap.size + 2 < w.heap.size + 3; omega) (.slice E' 1 ce')
   have oe10 : OwnE _ (w.heap.size + 3) E' ce' [e01 ⟨fr, te, kd, dst, arr, op, av, an, bv, bn⟩] := oe.setFar (p := ⟨w.heap.size + 2, 5, none⟩) (by show w.heap.size + 2 < w.heap.size + 3; omega) (.slice E' 1 ce')
   have a7 := (hb6.trans (a9.mono (by omega))).setCell (p := ⟨w.heap.size + 2, 5, none⟩) (by show w.heap.size ≤ w.heap.size + 2; omega) (.slice E' 1 ce')
   have a8 : w.heap.size + 3 ≤ (wB.setCell ⟨w.heap.size + 2, 5, none⟩ (.slice E' 1 ce')).heap.size := by have := a9.size; simp; omega
   clear ke6 kp6 kc6 od6 oe hb6 hgB a9 hs6 hb hsz
   generalize wB.setCell ⟨w.heap.size + 2, 5, none⟩ (.slice E' 1 ce') = w10 at *
   obtain ⟨y0, y1, y2, y3, y4, y5, y6, y7, y8, y9, fy⟩ := edgbox ke10
   obtain ⟨f0, f1, f2, f3, f4, f5, ff⟩ := blk6 kc10
   by_cases h12 : kd = 12
   ·subst h12
    obtain ⟨o1, o2⟩ := hop rfl
    obtain ⟨m, rfl⟩ : ∃ m : Nat, op = (m : Int) := ⟨op.toNat, by omega⟩
    have HN : Hid (e01n ⟨fr, te, 12, dst, arr, (m : Int), av, an, bv, bn⟩ = ⟨0, 1, 12, dst, arr, notOp (m : Int), av, an, bv, bn⟩) := hid rfl
    rw [HN.out] at HG
    have nA := new1 w10 (.cells #[.int .i64 0, .int .i64 6, .int .i64 5, .int .i64 4, .int .i64 3, .int .i64 2, .int .i64 1] 73)
    have kA := Blk.new w10 73 #[.int .i64 0, .int .i64 6, .int .i64 5, .int .i64 4, .int .i64 3, .int .i64 2, .int .i64 1]
    have ca : (w10.alloc (.cells #[.int .i64 0, .int .i64 6, .int .i64 5, .int .i64 4, .int .i64 3, .int .i64 2, .int .i64 1] 73)).cell? ⟨w10.heap.size, m, none⟩ = some (.int .i64 (notOp (m : Int))) := by
     rw [kA.cell m]
     have e : m = 1 ∨ m = 2 ∨ m = 3 ∨ m = 4 ∨ m = 5 ∨ m = 6 := by omega
     rcases e with rfl | rfl | rfl | rfl | rfl | rfl <;> rfl
    clear kA HN
    generalize notOp (m : Int) = q at *
    have ke11 := ke10.later nA
    have kc11 := kc10.later nA
    have kp11 := kp10.later nA
    have od11 := od10.below nA
    have oe11 := oe10.below nA
    have b5 := bup a7 nA
    have b1 := Nat.le_trans a8 nA.size
    clear ke10 kc10 kp10 od10 oe10 a7
    go_upto_region 11 with fail
    clear y0 y1 y2 y3 y4 y5 y6 y7 y8 y9 fy f0 f1 f2 f3 f4 f5 ff nA a8
    generalize w10.alloc (.cells #[.int .i64 0, .int .i64 6, .int .i64 5, .int .i64 4, .int .i64 3, .int .i64 2, .int .i64 1] 73) = w11 at *
    generalize w10.heap.size = ga at *
    obtain ⟨y0, y1, y2, y3, y4, y5, y6, y7, y8, y9, fy⟩ := edgbox ke11
    go_upto_region 13 with fail
    clear y0 y1 y2 y3 y4 y5 y6 y7 y8 y9 fy ca
    have ke12 : Blk (w11.setCell ⟨w.heap.size, 5, none⟩ (.int .i64 q)) w.heap.size 44 #[.int .i64 0, .int .i64 1, .int .i64 12, dst, arr, q, av, an, bv, bn] := ke11.set_ 5 (.int .i64 q)
    have kc12 := kc11.far (p := ⟨w.heap.size, 5, none⟩) (by show w.heap.size ≠ w.heap.size + 2; omega) (.int .i64 q)
    have kp12 := kp11.far (p := ⟨w.heap.size, 5, none⟩) (by show w.heap.size ≠ w.heap.size + 1; omega) (.int .i64 q)
    have od12 := od11.setFar (p := ⟨w.heap.size, 5, none⟩) (by show w.heap.size < w.heap.size + 3; omega) (.int .i64 q)
    have oe12 := oe11.setFar (p := ⟨w.heap.size, 5, none⟩) (by show w.heap.size < w.heap.size + 3; omega) (.int .i64 q)
    have b2 := b5.setCell (p := ⟨w.heap.size, 5, none⟩) (Nat.le_refl _) (.int .i64 q)
    have b7 : w.heap.size + 3 ≤ (w11.setCell ⟨w.heap.size, 5, none⟩ (.int .i64 q)).heap.size := by simpa using b1
    clear ke11 kc11 kp11 od11 oe11 b5 b1
    generalize w11.setCell ⟨w.heap.size, 5, none⟩ (.int .i64 q) = w12 at *
    have n13 := new1 w12 (.cells #[.int .i64 0, .int .i64 1, .int .i64 12, dst, arr, q, av, an, bv, bn] 44)
    have k13 := Blk.new w12 44 #[.int .i64 0, .int .i64 1, .int .i64 12, dst, arr, q, av, an, bv, bn]
    obtain ⟨y0, y1, y2, y3, y4, y5, y6, y7, y8, y9, fy⟩ := edgbox ke12
    obtain ⟨f0, f1, f2, f3, f4, f5, ff⟩ := blk6 kc12
    have kc13 := kc12.later n13
    have kp13 := kp12.later n13
    have od13 := od12.below n13
    have oe13 := oe12.below n13
    have b4 := bup b2 n13
    have b3 := Nat.le_trans b7 n13.size
    go_upto_region 14 with (at_builtin; go_loud (refine wpList_append_edge _ _ rfl rfl (w.heap.size + 3) E' ce' [e01 ⟨fr, te, 12, dst, arr, (m : Int), av, an, bv, bn⟩] ⟨0, 1, 12, dst, arr, q, av, an, bv, bn⟩ rfl oe13 w12.heap.size rfl k13 (by simp) b3 ?_); intro E2 ce2 wC oe14 hgC b0; have c9 := (b0.cell (p := ⟨w.heap.size + 2, 5, none⟩) (by show w.heap.size + 2 < w.heap.size + 3; omega)).trans (kc13.cell 5); have f9 := (kc13.below b0 (by omega)).fr 5)
    clear y0 y1 y2 y3 y4 y5 y6 y7 y8 y9 fy f0 f1 f2 f3 f4 f5 ff c9 f9 k13 n13 ke12 kc12 kp12 od12 oe12 b2 b7
    have kpW := (kp13.below b0 (by omega)).far (p := ⟨w.heap.size + 2, 5, none⟩) (by show w.heap.size + 2 ≠ w.heap.size + 1; omega) (.slice E2 2 ce2)
    have kc14 : Blk (wC.setCell ⟨w.heap.size + 2, 5, none⟩ (.slice E2 2 ce2)) (w.heap.size + 2) 64 #[.slice none 0 0, n, .slice D k cd, .int .i64 2, .int .i64 1, .slice E2 2 ce2] := (kc13.below b0 (by omega)).set_ 5 (.slice E2 2 ce2)
    have odW := (od13.other hgC (OwnE_row oe13)).setFar (p := ⟨w.heap.size + 2, 5, none⟩) (by show w.heap.size + 2 < w.heap.size + 3; omega) (.slice E2 2 ce2)
    have oeW : OwnE _ (w.heap.size + 3) E2 ce2 [e01 ⟨fr, te, 12, dst, arr, (m : Int), av, an, bv, bn⟩, ⟨0, 1, 12, dst, arr, q, av, an, bv, bn⟩] := oe14.setFar (p := ⟨w.heap.size + 2, 5, none⟩) (by show w.heap.size + 2 < w.heap.size + 3; omega) (.slice E2 2 ce2)
    have b6 := (b4.trans (b0.mono (by omega))).setCell (p := ⟨w.heap.size + 2, 5, none⟩) (by show w.heap.size ≤ w.heap.size + 2; omega) (.slice E2 2 ce2)
    clear kc13 kp13 od13 oe13 oe14 b4 b3 hgC b0
    generalize wC.setCell ⟨w.heap.size + 2, 5, none⟩ (.slice E2 2 ce2) = w14 at *
    obtain ⟨f0, f1, f2, f3, f4, f5, ff⟩ := blk6 kc14
    obtain ⟨x0, x1, x2, x3, x4, x5, fx⟩ := blk6 kpW
    go_wp2
    clear f0 f1 f2 f3 f4 f5 ff x0 x1 x2 x3 x4 x5 fx kc14
    have q9 := kpW.set6 (v0 := .slice none 0 0) (v1 := .int .i64 n) (v2 := .slice D k cd) (v3 := .int .i64 2) (v4 := .int .i64 1) (v5 := .slice E2 2 ce2)
    have od9 := odW.set6 (g := w.heap.size + 1) (v0 := .slice none 0 0) (v1 := .int .i64 n) (v2 := .slice D k cd) (v3 := .int .i64 2) (v4 := .int .i64 1) (v5 := .slice E2 2 ce2) (by omega)
    have oe9 := oeW.set6 (g := w.heap.size + 1) (v0 := .slice none 0 0) (v1 := .int .i64 n) (v2 := .slice D k cd) (v3 := .int .i64 2) (v4 := .int .i64 1) (v5 := .slice E2 2 ce2) (by omega)
    have a6 := b6.trans (below6 (W := w14) (B := w.heap.size) (g := w.heap.size + 1) (v0 := .slice none 0 0) (v1 := .int .i64 n) (v2 := .slice D k cd) (v3 := .int .i64 2) (v4 := .int .i64 1) (v5 := .slice E2 2 ce2) (by omega) b6.size)
    obtain ⟨z0, z1, z2, z3, z4, z5, zf⟩ := blk6 q9
    have hD := od9.rd rfl
    rw [hL] at hD
    refine bodyPost_ret (v := .agg #[.slice none 0 0, n, .slice D k cd, .int .i64 2, .int .i64 1, .slice E2 2 ce2]) (by simp [results, Tryz.results38, go_sem, z0, z1, z2, z3, z4, z5]) rfl ?_
    rw [HG.out, if_pos (by first | rfl | trivial)]
    exact ⟨D, cd, E2, ce2, rfl, hD, oe9.rd, a6⟩
   ·have t12 : (kd == 12) = false := by rw [beq_eq_false_iff_ne]; exact h12
    have kpW := kp10
    have odW := od10
    have oeW := oe10
    have b6 := a7
    obtain ⟨x0, x1, x2, x3, x4, x5, fx⟩ := blk6 kpW
    go_wp2
    clear y0 y1 y2 y3 y4 y5 y6 y7 y8 y9 fy f0 f1 f2 f3 f4 f5 ff x0 x1 x2 x3 x4 x5 fx
    have q9 := kpW.set6 (v0 := .slice none 0 0) (v1 := .int .i64 n) (v2 := .slice D k cd) (v3 := .int .i64 2) (v4 := .int .i64 1) (v5 := .slice E' 1 ce')
    have od9 := odW.set6 (g := w.heap.size + 1) (v0 := .slice none 0 0) (v1 := .int .i64 n) (v2 := .slice D k cd) (v3 := .int .i64 2) (v4 := .int .i64 1) (v5 := .slice E' 1 ce') (by omega)
    have oe9 := oeW.set6 (g := w.heap.size + 1) (v0 := .slice none 0 0) (v1 := .int .i64 n) (v2 := .slice D k cd) (v3 := .int .i64 2) (v4 := .int .i64 1) (v5 := .slice E' 1 ce') (by omega)
    have a6 := b6.trans (below6 (W := w10) (B := w.heap.size) (g := w.heap.size + 1) (v0 := .slice none 0 0) (v1 := .int .i64 n) (v2 := .slice D k cd) (v3 := .int .i64 2) (v4 := .int .i64 1) (v5 := .slice E' 1 ce') (by omega) b6.size)
    obtain ⟨z0, z1, z2, z3, z4, z5, zf⟩ := blk6 q9
    have hD := od9.rd rfl
    rw [hL] at hD
    refine bodyPost_ret (v := .agg #[.slice none 0 0, n, .slice D k cd, .int .i64 2, .int .i64 1, .slice E' 1 ce']) (by simp [results, Tryz.results38, go_sem, z0, z1, z2, z3, z4, z5]) rfl ?_
    rw [HG.out, if_neg h12]
    exact ⟨D, cd, E', ce', rfl, hD, oe9.rd, a6⟩
end
section
open Go.RowKit
set_option maxRecDepth 100000
set_option maxHeartbeats 8000000
section
variable {P : Program} {ops : Array Oper} {Q : Exit → Act → World → Prop} {w0 : World}
theorem FlowE.takeF {m k : Nat} {x : Value} {sl : List Sp} {o : Oper} {rest : List Oper} {a : Act} {fs : Nat → World → Prop} {iv : Nat → Nat × Nat} (hw : Region.wanted o (yielded ops a.tmps) = true)
  (h : ∀ w, Ext w0 w → (∀ i, reachB .any ops i ops.size k = true → fs i w) → ∀ R : Value → Prop, R x → Yl R w ((execOp a.eval o).run P w)) (hr : ∀ lo hi, FlowE P ops Q w0 m sl rest (k + 1) (a.put o.dst x) (upd fs k (Sp.fact w0 (Sp.val x) x lo hi)) (updI iv k (lo, hi))) :
  FlowE P ops Q w0 (m + 1) (Sp.val x :: sl) (o :: rest) k a fs iv := by
 unfold FlowE
 refine ⟨.inl ⟨hw, fun w hS hf K hK => ?_⟩, fun v lo hi hv => by rw [show v = x from hv]; exact hr lo hi⟩
 have h1 := h w hS hf (fun y => y = x) rfl
 unfold Oper.wp
 generalize (execOp a.eval o).run P w = r at *
 cases r with
 | ok n w' =>
  cases n with
  | value y => obtain ⟨e1, e2⟩ := h1; subst e1; subst e2; exact hK _ _ _ rfl (Ext.refl _) rfl
  | _ => exact h1.elim
 | halt x w' => exact h1.elim
theorem FlowE.takeR {m k : Nat} {p : Value → World → World → Prop} {sl : List Sp} {o : Oper} {rest : List Oper} {a : Act} {fs : Nat → World → Prop} {iv : Nat → Nat × Nat} (hw : Region.wanted o (yielded ops a.tmps) = true)
  (h : ∀ w, Ext w0 w → (∀ i, reachB .any ops i ops.size k = true → fs i w) → ∃ x, (∀ R : Value → Prop, R x → Yl R w ((execOp a.eval o).run P w)) ∧ p x w w) (hr : ∀ v lo hi, FlowE P ops Q w0 m sl rest (k + 1) (a.put o.dst v) (upd fs k (Sp.fact w0 (Sp.any p) v lo hi)) (updI iv k (lo, hi))) :
  FlowE P ops Q w0 (m + 1) (Sp.any p :: sl) (o :: rest) k a fs iv :=
 FlowE.stepF hw (fun w hS hf K hK => by
  obtain ⟨x, h0, hp⟩ := h w hS hf
  have h1 := h0 (fun y => y = x) rfl
  unfold Oper.wp
  generalize (execOp a.eval o).run P w = r at *
  cases r with
  | ok n w' =>
   cases n with
   | value y => obtain ⟨e1, e2⟩ := h1; subst e1; subst e2; exact hK _ _ (Ext.refl _) hp
   | _ => exact h1.elim
  | halt x w' => exact h1.elim) hr
end
end
section
open Go.RowKit
set_option maxRecDepth 100000
set_option maxHeartbeats 8000000
theorem edge_self {n : Int} {m : List Int} {fr te arr op an bv bn : Int} {d : Nat} (hb : bv < 0) (hk : -2305843009213693952 ≤ bn ∧ bn ≤ 2305843009213693952) : edgeO ⟨n, false, m⟩ ⟨fr, te, 4, (d : Int), arr, op, (d : Int), an, bv, bn⟩ = closeO ⟨n, false, shiftM (2 * n).toNat d bn m⟩ := by
 unfold edgeO
 dsimp only
 rw [if_neg (by omega), if_neg (by omega), if_neg (by omega), if_neg (by omega), if_neg (by omega), if_pos (by omega), if_neg (by omega)]
 rw [show decide ((4 : Int) = 5) = false from rfl]
 unfold addsO
 rw [if_pos (by omega), if_neg (by omega), if_neg (by decide)]
 unfold shiftO
 rw [if_neg (by omega), if_neg (by simp)]
 simp
theorem shift_sx {n : Int} {m : List Int} {N : Nat} (hN : (N : Int) = 2 * n) (hn : N ≤ 128) (hc : Cells N m) {d : Nat} (hd : (d : Int) < n) {k : Int} (hk : -2305843009213693952 ≤ k ∧ k ≤ 2305843009213693952) {A : Option Addr} {cap B : Nat} {W : World} (hm : m.length ≤ 17592186044416) (hB : B ≤ W.heap.size) (hx : Sx W B A m) :
  Calls Tryz.prog 197 #[.agg #[n, false, .slice A m.length cap], (d : Int), (d : Int), k] W (SxRes W B (closeO ⟨n, false, shiftM N d k m⟩)) :=
 (tshift_self n m N hN hn hc d hd k hk A cap W (hx.rd hB) hm).mono fun _ _ h => h.sx hB
theorem tEdge_self (o : O) (fr te arr op an bv bn : Int) (d : Nat) (ia : I64 an) (hb : bv < 0) (hk : -2305843009213693952 ≤ bn ∧ bn ≤ 2305843009213693952) (hd : (d : Int) < o.n) (A : Option Addr) (cap : Nat) (w : World) (hx : Rd w w.heap.size A o.m) (hm : o.m.length ≤ 17592186044416) (B : Nat) (hB : B ≤ w.heap.size) :
  Calls Tryz.prog 28 #[.agg #[o.n, o.e, .slice A o.m.length cap], .agg #[fr, te, .int .i64 4, (d : Int), arr, op, (d : Int), an, bv, bn]] w (ErrSx w B (transAns o ⟨fr, te, 4, (d : Int), arr, op, (d : Int), an, bv, bn⟩) (transErr o ⟨fr, te, 4, (d : Int), arr, op, (d : Int), an, bv, bn⟩)) := by
 have ib : I64 bn := by unfold I64; omega
 refine tEdge_any o fr te 4 (d : Int) arr op (d : Int) an bv bn A cap w hx hm B hB fun _ N cm Ac cc W hN hn hc _ hBW hsx hmc => ?_
 rw [edge_self hb hk, show (2 * o.n).toNat = N by omega]
 refine tedge_av 4 (by omega) o.n cm fr te d arr op d an bv bn ia ib (by omega) Ac cc W B hBW hsx _ fun W2 hB2 hx2 => ?_
 exact tadds_4 o.n cm fr te d arr op d an bv bn ia ib (by omega) hb Ac cc W2 B hB2 hx2 _ fun W3 hB3 hx3 => shift_sx hN hn hc hd hk hmc hB3 hx3
end
section
open Go.RowKit
set_option maxRecDepth 100000
set_option maxHeartbeats 8000000
attribute [local go_sem ↓] Go.wp_at_zero Go.wp_at_succ
def uO (x : Int) : O := ⟨1, false, boundM 2 1 0 0 (boundM 2 0 1 (2 * x) (topM 2 2))⟩
theorem u16_len : (topM 2 2).length = 4 := topM_len 2 2
theorem upTo16 (x : Int) (hx : 0 ≤ x ∧ x ≤ 1000) (w : World) : Calls Tryz.prog 54 #[x] w (OctOwn w (uO x)) := by
 have h1 : (boundM 2 0 1 (2 * x) (topM 2 2)).length = 4 := by rw [boundM_len, u16_len]
 have h2 : (boundM 2 1 0 0 (boundM 2 0 1 (2 * x) (topM 2 2))).length = 4 := by rw [boundM_len, h1]
 obtain ⟨p0, a3, -⟩ := new_one w #[.int .i64 0, false, .slice none 0 0] 24
 go_enter Tryz.func54, Tryz.ntmps54
 go_wp2_with fail
 generalize w.alloc (Obj.cells #[.int .i64 0, false, .slice none 0 0] 24) = w0 at *
 refine (rtop_any 1 2 w0 (by omega) rfl).mono ?_
 rintro e1 w1 ⟨A1, c1, rfl, a1, a5⟩
 have hp0 : w.heap.size < w0.heap.size := p0.lt
 have b8 := a3.size
 dsimp only at a1 ⊢
 rw [u16_len]
 replace p0 := p0.later a5
 replace a3 := bup a3 a5
 have a6 := hid (rbound_ok 1 (topM 2 2) 2 0 1 w0.heap.size (2 * x) A1 c1 w1 a1 a5.size rfl (by omega) u16_len (by omega) (by omega) (by omega))
 rw [u16_len] at a6
 go_wp2_with fail
 refine a6.out.mono ?_
 clear a6
 rintro e2 w2 ⟨rfl, b2, a0⟩
 replace p0 := p0.below a0 hp0
 have b7 := a5.trans a0
 replace a3 := a3.trans (a0.mono b8)
 have a6 := hid (rbound_ok 1 (boundM 2 0 1 (2 * x) (topM 2 2)) 2 1 0 w0.heap.size 0 A1 c1 w2 b2 b7.size rfl (by omega) h1 (by omega) (by omega) (by omega))
 rw [h1] at a6
 go_wp2_with fail
 refine a6.out.mono ?_
 clear a6
 rintro e3 w3 ⟨rfl, a9, hb3⟩
 replace p0 := p0.below hb3 hp0
 replace a3 := a3.trans (hb3.mono b8)
 obtain ⟨y0, y1, y2, fy⟩ := octbox p0
 have HO := hid (show uO x = ⟨1, false, boundM 2 1 0 0 (boundM 2 0 1 (2 * x) (topM 2 2))⟩ from rfl)
 have HM := hid h2
 clear h1 h2
 generalize boundM 2 1 0 0 (boundM 2 0 1 (2 * x) (topM 2 2)) = om at *
 go_wp2
 have q9 := p0.set3 (v0 := .int .i64 1) (v1 := .bool false) (v2 := .slice A1 4 c1)
 have o9 := a9.far3 (g := w.heap.size) (v0 := .int .i64 1) (v1 := .bool false) (v2 := .slice A1 4 c1) (own_blk' a9 p0 (by decide))
 obtain ⟨z0, z1, z2, fz⟩ := octbox q9
 refine bodyPost_ret (v := .agg #[.int .i64 1, false, .slice A1 4 c1]) (by simp [results, Tryz.results54, go_sem, z0, z1, z2]) rfl ?_
 rw [HO.out]
 exact ⟨A1, c1, by dsimp only; rw [HM.out], o9.less b8, a3.trans (below3 (by omega) a3.size)⟩
def e16 : Edg := ⟨0, 0, 4, 0, -1, 0, 0, 0, -1, 1⟩
theorem eqO_same (o : O) : eqO o o = true := by unfold eqO; simp
theorem k16_a : assumeErr (uO 5) 1 0 (-1) = 0 := by kernel_rfl
theorem k16_b : assumeAns (uO 5) 1 0 0 (-1) 3 = ⟨1, false, (uO 2).m⟩ := by kernel_rfl
theorem k16_c : transErr (uO 5) e16 = 0 := by kernel_rfl
theorem k16_d : transAns (uO 5) e16 = ⟨1, false, [0, 12, -2, 0]⟩ := by kernel_rfl
theorem uO_len (x : Int) : (uO x).m.length = 4 := by unfold uO; dsimp only; rw [boundM_len, boundM_len, u16_len]
theorem known16_any (w : World) :
  Calls Tryz.prog 19 #[] w fun e w' => e = .returned (.bool true) ∧ Below w.heap.size w w' := by
 have hl2 := uO_len 2
 have a7 := uO_len 5
 have HA : Hid (∀ (A : Option Addr) (cap : Nat) (W : World), Rd W W.heap.size A (uO 5).m → Calls Tryz.prog 20 #[.agg #[.int .i64 1, false, .slice A 4 cap], .int .i64 1, .agg #[.int .i64 0, .int .i64 0], .agg #[.int .i64 (-1), .int .i64 3]] W (ErrSx W W.heap.size ⟨1, false, (uO 2).m⟩ 0)) := hid (fun A cap W h => by
  have h2 := tassume_any (uO 5) 1 0 0 (-1) 3 (by unfold I64; omega) (by unfold I64; omega) A cap W h (by rw [a7]; omega) W.heap.size (Nat.le_refl _)
  rw [k16_a, k16_b, a7] at h2
  exact h2)
 have HE : Hid (∀ (A : Option Addr) (cap : Nat) (W : World), Rd W W.heap.size A (uO 5).m → Calls Tryz.prog 28 #[.agg #[.int .i64 1, false, .slice A 4 cap], .agg #[.int .i64 0, .int .i64 0, .int .i64 4, .int .i64 0, .int .i64 (-1), .int .i64 0, .int .i64 0, .int .i64 0, .int .i64 (-1), .int .i64 1]] W (ErrSx W W.heap.size ⟨1, false, [0, 12, -2, 0]⟩ 0)) := hid (fun A cap W h => by
  have h2 := tEdge_self (uO 5) 0 0 (-1) 0 0 (-1) 1 0 (by unfold I64; omega) (by omega) (by omega) (by show (0 : Int) < 1; omega) A cap W h (by rw [a7]; omega) W.heap.size (Nat.le_refl _)
  rw [show (⟨0, 0, 4, ((0 : Nat) : Int), -1, 0, ((0 : Nat) : Int), 0, -1, 1⟩ : Edg) = e16 from rfl, k16_c, k16_d, a7] at h2
  exact h2)
 have hu5 : (uO 5).n = 1 ∧ (uO 5).e = false := ⟨rfl, rfl⟩
 have hu2 : (uO 2).n = 1 ∧ (uO 2).e = false := ⟨rfl, rfl⟩
 have b4 : Hid (∀ W, Calls Tryz.prog 54 #[.int .i64 5] W (OctOwn W ⟨1, false, (uO 5).m⟩)) := hid (fun W => upTo16 5 (by omega) W)
 have HU2 : Hid (∀ W, Calls Tryz.prog 54 #[.int .i64 2] W (OctOwn W ⟨1, false, (uO 2).m⟩)) := hid (fun W => upTo16 2 (by omega) W)
 clear hu5 hu2
 have b1 := hid hl2
 have HL5 := hid a7
 clear hl2 a7
 generalize (uO 5).m = m5 at *
 generalize (uO 2).m = m2 at *
 go_enter Tryz.func19, Tryz.ntmps19
 go_wp2_with fail
 refine (b4.out w).mono ?_
 rintro e1 w1 ⟨A1, c1, rfl, a1, a5⟩
 dsimp only at a1 ⊢
 rw [HL5.out]
 go_wp2_with fail
 refine (HA.out A1 c1 w1 a1.rd).mono ?_
 clear HA
 rintro e2 w2 ⟨A2, c2, rfl, b3, a0⟩
 dsimp only at b3 ⊢
 rw [b1.out]
 have a2 := b3.rd a0.size
 replace a0 := bup a5 a0
 clear b3 a1 a5
 go_wp2_with fail
 obtain ⟨k1, n1, -⟩ := new_one w2 #[.int .i64 1, false, .slice A2 4 c2] 24
 replace a2 := a2.up n1
 replace a0 := bup a0 n1
 clear n1
 generalize w2.alloc (Obj.cells #[.int .i64 1, false, .slice A2 4 c2] 24) = w3 at *
 generalize w2.heap.size = g1 at *
 refine (b4.out w3).mono ?_
 clear b4
 rintro e4 w4 ⟨A4, c4, rfl, a4, b0⟩
 dsimp only at a4 ⊢
 rw [HL5.out]
 replace a2 := a2.up b0
 replace k1 := k1.later b0
 replace a0 := bup a0 b0
 clear b0
 go_wp2_with fail
 refine (HE.out A4 c4 w4 a4.rd).mono ?_
 clear HE
 rintro e5 w5 ⟨A5, c5, rfl, b5, a8⟩
 dsimp only [List.length_cons, List.length_nil] at b5 ⊢
 replace a2 := a2.up a8
 replace k1 := k1.later a8
 have b6 := b5.rd a8.size
 replace a0 := bup a0 a8
 clear b5 a4 a8
 obtain ⟨k3, n3, -⟩ := new_one w5 #[.int .i64 1, false, .slice A5 4 c5] 24
 replace a2 := a2.up n3
 replace b6 := b6.up n3
 replace k1 := k1.later n3
 replace a0 := bup a0 n3
 clear n3
 go_upto_region 3 with fail
 generalize w5.alloc (Obj.cells #[.int .i64 1, false, .slice A5 4 c5] 24) = w6 at *
 generalize w5.heap.size = g3 at *
 obtain ⟨x0, x1, x2, fx⟩ := octbox k1
 obtain ⟨y0, y1, y2, fy⟩ := octbox k3
 have f0 := laterE x0
 have f1 := laterE x1
 have f2 := laterE x2
 have j2 := laterE y2
 clear x0 x1 x2 fx y0 y1 y2 fy
 refine wp_region_flowE 15 [Sp.val (.int .i64 0), Sp.val (.bool true), Sp.val (.bool true), Sp.val (.int .i64 0), Sp.val (.bool true), Sp.val (.bool true), Sp.val (.bool true), Sp.val (.agg #[.int .i64 1, false, .slice A2 4 c2]), Sp.any (IsOct ⟨1, false, m2⟩), Sp.val (.bool true), Sp.val (.bool true), Sp.val (.bool true), Sp.val (.pointer (some ⟨g3, 2, none⟩)), Sp.val (.slice A5 4 c5), Sp.any (IsNew 2 #[.int .i64 0, .int .i64 12, .int .i64 (-2), .int .i64 0] 4)] (by kernel_rfl) (by kernel_rfl) ?_
 iterate 8 (refine fe_t (fun _ _ => ?_))
 refine FlowE.call 54 #[.int .i64 2] (by rfl) (fun W hW => by go_simp) (fun W hW => (HU2.out W).mono fun _ _ ⟨A1, c1, he, ho, hb⟩ => ⟨_, he, hb, A1, c1, rfl, ho⟩) (fun v8 l8 h8 => ?_)
 refine fe_p ?_
 refine FlowE.callFV (by rfl) (fun W hW hf => ?_) (fun l9 h9 => ?_)
 ·obtain ⟨A8, c8, rfl, o8, _, _, _⟩ := fact_oct (show Sp.fact w6.drew (Sp.any (IsOct ⟨1, false, m2⟩)) v8 l8 h8 W from hf 8 (by kernel_rfl))
  refine ⟨23, #[.agg #[.int .i64 1, false, .slice A2 4 c2], .agg #[.int .i64 1, false, .slice A8 m2.length c8]], by go_simp, ?_⟩
  have h := oct_any ⟨1, false, m2⟩ ⟨1, false, m2⟩ A2 A8 c2 c8 W (a2.up (Ext.trans (Below.refl _ _).drew hW)) o8.rd (by dsimp only; rw [b1.out]; omega)
  dsimp only at h
  rw [eqO_same, b1.out] at h
  rw [b1.out]
  exact h
 refine fe_p ?_
 iterate 4 (refine fe_t (fun _ _ => ?_))
 refine FlowE.step (by rfl) (fun W hW K hK => ?_) (fun v14 l14 h14 => ?_)
 ·go_simp
  exact hK _ _ (new1 _ _) ⟨_, rfl, Blk.new _ _ _⟩
 refine fe_p ?_
 refine FlowE.tail (fun W hW hf hd => ?_)
 replace hW : Below w6.heap.size w6 W := Ext.trans (Below.refl _ _).drew hW
 obtain ⟨gN, rfl, kN⟩ := fact_new (show Sp.fact w6.drew (Sp.any (IsNew 2 #[.int .i64 0, .int .i64 12, .int .i64 (-2), .int .i64 0] 4)) v14 l14 h14 W from hf 14)
 clear hf hd f0 f1 f2 j2
 have hLG := hid (longs_self [0, 12, -2, 0] A5 (some ⟨gN, 0, none⟩) c5 4 W (b6.up hW) (Blk.rd kN) (by decide))
 dsimp only [List.length_cons, List.length_nil] at hLG
 replace a0 := bup a0 hW
 go_wp2_with fail
 refine hLG.out.mono ?_
 rintro e7 w7 ⟨rfl, hb7⟩
 go_wp2
 go_ret
 exact ⟨rfl, bup a0 hb7⟩
end
end Go.Proofs.YtnmpgijiimglcaaGreat
