import Derived.Test.YtnmpgijiimglcaaGreatBSe18
namespace Go.Proofs.YtnmpgijiimglcaaGreat
open Go.RowKit
set_option maxRecDepth 100000
set_option maxHeartbeats 8000000
attribute [local go_sem ↓] Go.wp_at_zero Go.wp_at_succ
theorem zkt (a b c d e f g h : Value) (W : World) : (Instr.index 218 (.agg #[a, b, c, d, e, f, g, h]) (.int .i64 0)).run Tryz.prog W = .ok (.agg #[a, b, c, d]) W := by
 simp [Instr.index, run_underlying Tryz.underlying218, asIntOf, go_sem]
theorem zkC (a b c d e f g h : Value) (W : World) : (Instr.index 218 (.agg #[a, b, c, d, e, f, g, h]) (.int .i64 1)).run Tryz.prog W = .ok (.agg #[e, f, g, h]) W := by
 simp [Instr.index, run_underlying Tryz.underlying218, asIntOf, go_sem]
def uV (N : Nat) (c : O) (a : Nat) (an : Int) (b : Nat) (bn : Int) : Nat → O
 | 0 => c
 | 1 => if G N c.m (2 * a) (2 * b) = 0 then atMostO c (a : Int) an (b : Int) bn true else c
 | _ => if G N c.m (2 * b) (2 * a) = 0 then atMostO (if G N c.m (2 * a) (2 * b) = 0 then atMostO c (a : Int) an (b : Int) bn true else c) (b : Int) bn (a : Int) an true else (if G N c.m (2 * a) (2 * b) = 0 then atMostO c (a : Int) an (b : Int) bn true else c)
theorem zkk (N : Nat) (c : O) (a : Nat) (an : Int) (b : Nat) (bn : Int) : uV N c a an b bn (0 + 1) = if G N c.m (2 * a) (2 * b) = 0 then atMostO (uV N c a an b bn 0) (a : Int) an (b : Int) bn true else uV N c a an b bn 0 := rfl
theorem zkh (N : Nat) (c : O) (a : Nat) (an : Int) (b : Nat) (bn : Int) : uV N c a an b bn (1 + 1) = if G N c.m (2 * b) (2 * a) = 0 then atMostO (uV N c a an b bn 1) (b : Int) bn (a : Int) an true else uV N c a an b bn 1 := rfl
theorem zlI {N : Nat} {n : Int} {c : O} {a b : Nat} {an bn : Int} (h : OkO n c) (ha : (a : Int) < n) (hb : (b : Int) < n) (k : Nat) : OkO n (uV N c a an b bn k) := by
 have h1 : OkO n (if G N c.m (2 * a) (2 * b) = 0 then atMostO c (a : Int) an (b : Int) bn true else c) := by
  split
  ·exact h.atMost ha hb (by omega)
  ·exact h
 match k with
 | 0 => exact h
 | 1 => exact h1
 | k + 2 =>
  show OkO n (if _ then _ else _)
  split
  ·exact h1.atMost hb ha (by omega)
  ·exact h1
theorem zgP (n : Int) (m : List Int) (N : Nat) (hN : (N : Int) = 2 * n) (hn : N ≤ 128) (hc : Cells N m) (a b : Nat) (an bn : Int) (hab : a ≠ b) (ha : (a : Int) < n) (hb : (b : Int) < n) (ia : I64 an) (ib : I64 bn) (A : Option Addr) (cap : Nat) (w : World) (B : Nat) (hB : B ≤ w.heap.size) (hx : Sx w B A m) (hm : m.length ≤ 17592186044416) :
  Calls Tryz.prog 189 #[.agg #[n, false, .slice A m.length cap], .agg #[(a : Int), an], .agg #[(b : Int), bn]] w (zar w B (uV N ⟨n, false, m⟩ a an b bn 2)) := by
 have HOK := hid (OkO.of_cells hN hn hc)
 have HN := hid hN
 have HA := hid (And.intro ha hb)
 have t1 : ((a : Int) == (b : Int)) = false := by rw [beq_eq_false_iff_ne]; omega
 clear hN ha hb hab
 obtain ⟨k0, k1, k2, k3, hbk, e6⟩ := zax w #[n, false, .slice A m.length cap] #[(a : Int), an] #[(b : Int), bn] #[.int .i64 0, false, .slice none 0 0] 24 26 26 24
 have e8 := zaa k0
 obtain ⟨e7, e5, e2⟩ := zai k1
 obtain ⟨f5, e9, f9⟩ := zai k2
 obtain ⟨p0, p1, p2, p3, p5, a1, c9⟩ := zjQ w #[n, false, .slice A m.length cap] #[(a : Int), an] #[(b : Int), bn] #[.int .i64 0, false, .slice none 0 0] #[n, false, .slice A m.length cap] 24 26 26 24 24
 replace hx := hx.later a1 hB
 clear c9 e6
 go_enter Tryz.func189, Tryz.ntmps189
 have b6 := zaa p0
 obtain ⟨c3, c7, c4⟩ := zai p1
 obtain ⟨b9, c0, b5⟩ := zai p2
 go_wp2
 clear b6 c3 c7 c4 b9 c0 b5
 clear k0 k1 k2 k3 hbk e8 e7 e5 e2 f5 e9 f9
 generalize ((((w.alloc (Obj.cells #[n, false, .slice A m.length cap] 24)).alloc (Obj.cells #[(a : Int), an] 26)).alloc (Obj.cells #[(b : Int), bn] 26)).alloc (Obj.cells #[.int .i64 0, false, .slice none 0 0] 24)).alloc (Obj.cells #[n, false, .slice A m.length cap] 24) = w1 at *
 have sxo := hx
 go_loopw [28] (fun t wr => ∃ (k : Nat) (A1 : Option Addr) (c1 : Nat), k ≤ 2 ∧ t = .int .i64 k ∧ Sx wr B A1 (uV N ⟨n, false, m⟩ a an b bn k).m ∧ Blk wr (w.heap.size + 1 + 1 + 1 + 1) 24 #[.int .i64 (uV N ⟨n, false, m⟩ a an b bn k).n, .bool (uV N ⟨n, false, m⟩ a an b bn k).e, .slice A1 (uV N ⟨n, false, m⟩ a an b bn k).m.length c1] ∧ Sx wr B A m ∧ Blk wr w.heap.size 24 #[n, false, .slice A m.length cap] ∧ Blk wr (w.heap.size + 1 + 1 + 1) 24 #[.int .i64 0, false, .slice none 0 0] ∧ Blk wr (w.heap.size + 1) 26 #[(a : Int), an] ∧ Blk wr (w.heap.size + 1 + 1) 26 #[(b : Int), bn] ∧ Below w.heap.size w wr) (fun t _ => 2 - (RowKit.intOf t).toNat)
 case atStart => exact ⟨0, A, cap, by omega, rfl, sxo, p5, hx, p0, p3, p1, p2, a1⟩
 case round =>
  clear hx sxo p0 p1 p2 p3 p5 a1
  obtain ⟨k, A1, c1, hk, rfl, sxo, p5, hx, p0, p3, p1, p2, a1⟩ := hrel
  have hk3 : k = 0 ∨ k = 1 ∨ k = 2 := by omega
  rcases hk3 with rfl | rfl | rfl
  ·have f3 := fun W => zkt (.int .i64 (a : Int)) (.int .i64 an) (.int .i64 (b : Int)) (.int .i64 bn) (.int .i64 (b : Int)) (.int .i64 bn) (.int .i64 (a : Int)) (.int .i64 an) W
   obtain ⟨p9, a9, -⟩ := zak wr #[(a : Int), an, (b : Int), bn] 217
   replace p0 := p0.later a9
   replace p1 := p1.later a9
   replace p2 := p2.later a9
   replace p3 := p3.later a9
   replace p5 := p5.later a9
   replace hx := hx.later a9 (Nat.le_trans hB a1.size)
   replace sxo := sxo.later a9 (Nat.le_trans hB a1.size)
   replace a1 := bup a1 a9
   go_wp2_with fail
   clear f3
   generalize wr.alloc (Obj.cells #[(a : Int), an, (b : Int), bn] 217) = w11 at *
   generalize wr.heap.size = g9 at *
   have hB1 := Nat.le_trans hB a1.size
   have d9 := hx.rd hB1
   have f0 := later (p0.cell 0)
   have f1 := later (p0.cell 1)
   have f2 := later (p0.cell 2)
   have k0 := later (p9.cell 0)
   have k1 := later (p9.cell 1)
   have k2 := later (p9.cell 2)
   have k3 := later (p9.cell 3)
   replace f0 : ∀ W, Below w11.heap.size w11 W → W.cell? ⟨w.heap.size, 0, none⟩ = some (.int .i64 n) := f0
   replace f1 : ∀ W, Below w11.heap.size w11 W → W.cell? ⟨w.heap.size, 1, none⟩ = some (.bool false) := f1
   replace f2 : ∀ W, Below w11.heap.size w11 W → W.cell? ⟨w.heap.size, 2, none⟩ = some (.slice A m.length cap) := f2
   replace k0 : ∀ W, Below w11.heap.size w11 W → W.cell? ⟨g9, 0, none⟩ = some (.int .i64 (a : Int)) := k0
   replace k1 : ∀ W, Below w11.heap.size w11 W → W.cell? ⟨g9, 1, none⟩ = some (.int .i64 an) := k1
   replace k2 : ∀ W, Below w11.heap.size w11 W → W.cell? ⟨g9, 2, none⟩ = some (.int .i64 (b : Int)) := k2
   replace k3 : ∀ W, Below w11.heap.size w11 W → W.cell? ⟨g9, 3, none⟩ = some (.int .i64 bn) := k3
   obtain ⟨gv, d2⟩ : ∃ v, v = G N m (2 * a) (2 * b) := ⟨_, rfl⟩
   have b0 := hid (fun W (h : Rd W W.heap.size A m) => zeg n m N (2 * a) (2 * b) A cap W HN.out hn hc (by have := HN.out; have := HA.out; omega) (by have := HN.out; have := HA.out; omega) h hm)
   rw [← d2] at b0
   have d5 := hid d2
   clear d2
   have hab : (a : Int) < n ∧ (b : Int) < n ∧ n ≤ 64 := by have := HN.out; have := HA.out; omega
   refine zad 14 (fun X => Below w11.heap.size w11 X) (by kernel_rfl) (by kernel_rfl) (Below.refl _ _).drew ?_
   refine fl_a ?_
   (refine fl_c 135 #[(a : Int)] (.int .i64 ((2 * a : Nat) : Int)) (fun X hX => (zaJ a (by omega) _).mono fun e' w' ⟨he, hw⟩ => ⟨he, hw ▸ hX⟩) ?_)
   refine fl_a ?_
   (refine fl_c 135 #[(b : Int)] (.int .i64 ((2 * b : Nat) : Int)) (fun X hX => (zaJ b (by omega) _).mono fun e' w' ⟨he, hw⟩ => ⟨he, hw ▸ hX⟩) ?_)
   refine fl_a ?_
   (refine fl_c 216 #[.agg #[n, false, .slice A m.length cap], .int .i64 ((2 * a : Nat) : Int), .int .i64 ((2 * b : Nat) : Int)] (.tuple #[gv, .int .i64 0]) (fun X hX => (b0.out X (d9.up hX)).mono fun e' w' ⟨he, hb'⟩ => ⟨he, zaI hX hX.size hb'⟩) ?_)
   refine fl_a ?_
   intro w12 a7
   clear f0 f1 f2 k0 k1 k2 k3 d9 b0
   replace p0 := p0.later a7
   replace p1 := p1.later a7
   replace p2 := p2.later a7
   replace p3 := p3.later a7
   replace p5 := p5.later a7
   replace p9 := p9.later a7
   replace hx := hx.later a7 (Nat.le_trans hB a1.size)
   replace sxo := sxo.later a7 (Nat.le_trans hB a1.size)
   replace a1 := bup a1 a7
   cases t4 : (gv == 0)
   ·have e0 : gv ≠ 0 := by rw [beq_eq_false_iff_ne] at t4; exact t4
    have HQ : Hid (uV N ⟨n, false, m⟩ a an b bn (0 + 1) = uV N ⟨n, false, m⟩ a an b bn 0) := hid (by rw [zkk, ← d5.out, if_neg e0])
    clear e0
    go_wp2
    skip
    clear t4
    rw [← HQ.out] at sxo p5
    go_roundw
    case rel => exact ⟨0 + 1, A1, c1, by omega, rfl, sxo, p5, hx, p0, p3, p1, p2, a1⟩
    case measure => simp [RowKit.intOf]
   ·have d8 : gv = 0 := by rw [beq_iff_eq] at t4; exact t4
    have HQ : Hid (uV N ⟨n, false, m⟩ a an b bn (0 + 1) = atMostO (uV N ⟨n, false, m⟩ a an b bn 0) (a : Int) an (b : Int) bn true) := hid (by rw [zkk, ← d5.out, if_pos d8])
    clear d8
    have okq := zlI (N := N) (a := a) (b := b) (an := an) (bn := bn) HOK.out hab.1 hab.2.1 0
    have f8 := OkO.small okq
    skip
    have a3 := zaa p5
    have d1 := zag p9
    go_wp2_with fail
    clear a3 d1
    have hB2 := Nat.le_trans hB a1.size
    have HX := hid (zaZ n (uV N ⟨n, false, m⟩ a an b bn 0) okq (a : Int) an (b : Int) bn true (by omega) (by omega) (by omega) ia ib A1 c1 w12 (sxo.rd hB2) f8)
    (try dsimp only at HX)
    (with_reducible refine HX.out.mono ?_)
    clear HX
    rintro d7 w13 ⟨A2, c2, rfl, al2, a0⟩
    have a8 := Sx.alias al2 sxo a0 hB2
    replace p0 := p0.later a0
    replace p1 := p1.later a0
    replace p2 := p2.later a0
    replace p3 := p3.later a0
    replace p5 := p5.later a0
    replace p9 := p9.later a0
    replace hx := hx.later a0 (Nat.le_trans hB a1.size)
    replace sxo := sxo.later a0 (Nat.le_trans hB a1.size)
    replace a1 := bup a1 a0
    rw [← HQ.out] at a8 ⊢
    obtain ⟨q2, b1⟩ : ∃ q, q = uV N ⟨n, false, m⟩ a an b bn (0 + 1) := ⟨_, rfl⟩
    rw [← b1] at a8 ⊢
    have d6 := hid b1
    clear b1
    have a3 := zaa p5
    go_wp2
    clear a3
    have hl5 := p5.lt
    clear sxo
    replace hx := hx.far3 (g := w.heap.size + 1 + 1 + 1 + 1) (v0 := .int .i64 q2.n) (v1 := .bool q2.e) (v2 := .slice A2 q2.m.length c2) (by omega) p5 (by decide)
    replace a8 := a8.far3 (g := w.heap.size + 1 + 1 + 1 + 1) (v0 := .int .i64 q2.n) (v1 := .bool q2.e) (v2 := .slice A2 q2.m.length c2) (by omega) p5 (by decide)
    replace p0 := p0.far3 (g := w.heap.size + 1 + 1 + 1 + 1) (v0 := .int .i64 q2.n) (v1 := .bool q2.e) (v2 := .slice A2 q2.m.length c2) (by omega)
    replace p1 := p1.far3 (g := w.heap.size + 1 + 1 + 1 + 1) (v0 := .int .i64 q2.n) (v1 := .bool q2.e) (v2 := .slice A2 q2.m.length c2) (by omega)
    replace p2 := p2.far3 (g := w.heap.size + 1 + 1 + 1 + 1) (v0 := .int .i64 q2.n) (v1 := .bool q2.e) (v2 := .slice A2 q2.m.length c2) (by omega)
    replace p3 := p3.far3 (g := w.heap.size + 1 + 1 + 1 + 1) (v0 := .int .i64 q2.n) (v1 := .bool q2.e) (v2 := .slice A2 q2.m.length c2) (by omega)
    replace p5 := p5.set3 (v0 := .int .i64 q2.n) (v1 := .bool q2.e) (v2 := .slice A2 q2.m.length c2)
    replace a1 := a1.trans (zah (W := w13) (g := w.heap.size + 1 + 1 + 1 + 1) (v0 := .int .i64 q2.n) (v1 := .bool q2.e) (v2 := .slice A2 q2.m.length c2) (by omega) a1.size)
    generalize ((w13.setCell ⟨w.heap.size + 1 + 1 + 1 + 1, 0, none⟩ (.int .i64 q2.n)).setCell ⟨w.heap.size + 1 + 1 + 1 + 1, 1, none⟩ (.bool q2.e)).setCell ⟨w.heap.size + 1 + 1 + 1 + 1, 2, none⟩ (.slice A2 q2.m.length c2) = w14 at *
    rw [d6.out] at a8 p5
    go_roundw
    case rel => exact ⟨0 + 1, A2, c2, by omega, rfl, a8, p5, hx, p0, p3, p1, p2, a1⟩
    case measure => simp [RowKit.intOf]
  ·have f3 := fun W => zkC (.int .i64 (a : Int)) (.int .i64 an) (.int .i64 (b : Int)) (.int .i64 bn) (.int .i64 (b : Int)) (.int .i64 bn) (.int .i64 (a : Int)) (.int .i64 an) W
   obtain ⟨p9, a9, -⟩ := zak wr #[(b : Int), bn, (a : Int), an] 217
   replace p0 := p0.later a9
   replace p1 := p1.later a9
   replace p2 := p2.later a9
   replace p3 := p3.later a9
   replace p5 := p5.later a9
   replace hx := hx.later a9 (Nat.le_trans hB a1.size)
   replace sxo := sxo.later a9 (Nat.le_trans hB a1.size)
   replace a1 := bup a1 a9
   go_wp2_with fail
   clear f3
   generalize wr.alloc (Obj.cells #[(b : Int), bn, (a : Int), an] 217) = w11 at *
   generalize wr.heap.size = g9 at *
   have hB1 := Nat.le_trans hB a1.size
   have d9 := hx.rd hB1
   have f0 := later (p0.cell 0)
   have f1 := later (p0.cell 1)
   have f2 := later (p0.cell 2)
   have k0 := later (p9.cell 0)
   have k1 := later (p9.cell 1)
   have k2 := later (p9.cell 2)
   have k3 := later (p9.cell 3)
   replace f0 : ∀ W, Below w11.heap.size w11 W → W.cell? ⟨w.heap.size, 0, none⟩ = some (.int .i64 n) := f0
   replace f1 : ∀ W, Below w11.heap.size w11 W → W.cell? ⟨w.heap.size, 1, none⟩ = some (.bool false) := f1
   replace f2 : ∀ W, Below w11.heap.size w11 W → W.cell? ⟨w.heap.size, 2, none⟩ = some (.slice A m.length cap) := f2
   replace k0 : ∀ W, Below w11.heap.size w11 W → W.cell? ⟨g9, 0, none⟩ = some (.int .i64 (b : Int)) := k0
   replace k1 : ∀ W, Below w11.heap.size w11 W → W.cell? ⟨g9, 1, none⟩ = some (.int .i64 bn) := k1
   replace k2 : ∀ W, Below w11.heap.size w11 W → W.cell? ⟨g9, 2, none⟩ = some (.int .i64 (a : Int)) := k2
   replace k3 : ∀ W, Below w11.heap.size w11 W → W.cell? ⟨g9, 3, none⟩ = some (.int .i64 an) := k3
   obtain ⟨gv, d2⟩ : ∃ v, v = G N m (2 * b) (2 * a) := ⟨_, rfl⟩
   have b0 := hid (fun W (h : Rd W W.heap.size A m) => zeg n m N (2 * b) (2 * a) A cap W HN.out hn hc (by have := HN.out; have := HA.out; omega) (by have := HN.out; have := HA.out; omega) h hm)
   rw [← d2] at b0
   have d5 := hid d2
   clear d2
   have hab : (a : Int) < n ∧ (b : Int) < n ∧ n ≤ 64 := by have := HN.out; have := HA.out; omega
   refine zad 14 (fun X => Below w11.heap.size w11 X) (by kernel_rfl) (by kernel_rfl) (Below.refl _ _).drew ?_
   refine fl_a ?_
   (refine fl_c 135 #[(b : Int)] (.int .i64 ((2 * b : Nat) : Int)) (fun X hX => (zaJ b (by omega) _).mono fun e' w' ⟨he, hw⟩ => ⟨he, hw ▸ hX⟩) ?_)
   refine fl_a ?_
   (refine fl_c 135 #[(a : Int)] (.int .i64 ((2 * a : Nat) : Int)) (fun X hX => (zaJ a (by omega) _).mono fun e' w' ⟨he, hw⟩ => ⟨he, hw ▸ hX⟩) ?_)
   refine fl_a ?_
   (refine fl_c 216 #[.agg #[n, false, .slice A m.length cap], .int .i64 ((2 * b : Nat) : Int), .int .i64 ((2 * a : Nat) : Int)] (.tuple #[gv, .int .i64 0]) (fun X hX => (b0.out X (d9.up hX)).mono fun e' w' ⟨he, hb'⟩ => ⟨he, zaI hX hX.size hb'⟩) ?_)
   refine fl_a ?_
   intro w12 a7
   clear f0 f1 f2 k0 k1 k2 k3 d9 b0
   replace p0 := p0.later a7
   replace p1 := p1.later a7
   replace p2 := p2.later a7
   replace p3 := p3.later a7
   replace p5 := p5.later a7
   replace p9 := p9.later a7
   replace hx := hx.later a7 (Nat.le_trans hB a1.size)
   replace sxo := sxo.later a7 (Nat.le_trans hB a1.size)
   replace a1 := bup a1 a7
   cases t4 : (gv == 0)
   ·have e0 : gv ≠ 0 := by rw [beq_eq_false_iff_ne] at t4; exact t4
    have HQ : Hid (uV N ⟨n, false, m⟩ a an b bn (1 + 1) = uV N ⟨n, false, m⟩ a an b bn 1) := hid (by rw [zkh, ← d5.out, if_neg e0])
    clear e0
    go_wp2
    skip
    clear t4
    rw [← HQ.out] at sxo p5
    go_roundw
    case rel => exact ⟨1 + 1, A1, c1, by omega, rfl, sxo, p5, hx, p0, p3, p1, p2, a1⟩
    case measure => simp [RowKit.intOf]
   ·have d8 : gv = 0 := by rw [beq_iff_eq] at t4; exact t4
    have HQ : Hid (uV N ⟨n, false, m⟩ a an b bn (1 + 1) = atMostO (uV N ⟨n, false, m⟩ a an b bn 1) (b : Int) bn (a : Int) an true) := hid (by rw [zkh, ← d5.out, if_pos d8])
    clear d8
    have okq := zlI (N := N) (a := a) (b := b) (an := an) (bn := bn) HOK.out hab.1 hab.2.1 1
    have f8 := OkO.small okq
    skip
    have a3 := zaa p5
    have d1 := zag p9
    go_wp2_with fail
    clear a3 d1
    have hB2 := Nat.le_trans hB a1.size
    have HX := hid (zaZ n (uV N ⟨n, false, m⟩ a an b bn 1) okq (b : Int) bn (a : Int) an true (by omega) (by omega) (by omega) ib ia A1 c1 w12 (sxo.rd hB2) f8)
    (try dsimp only at HX)
    (with_reducible refine HX.out.mono ?_)
    clear HX
    rintro d7 w13 ⟨A2, c2, rfl, al2, a0⟩
    have a8 := Sx.alias al2 sxo a0 hB2
    replace p0 := p0.later a0
    replace p1 := p1.later a0
    replace p2 := p2.later a0
    replace p3 := p3.later a0
    replace p5 := p5.later a0
    replace p9 := p9.later a0
    replace hx := hx.later a0 (Nat.le_trans hB a1.size)
    replace sxo := sxo.later a0 (Nat.le_trans hB a1.size)
    replace a1 := bup a1 a0
    rw [← HQ.out] at a8 ⊢
    obtain ⟨q2, b1⟩ : ∃ q, q = uV N ⟨n, false, m⟩ a an b bn (1 + 1) := ⟨_, rfl⟩
    rw [← b1] at a8 ⊢
    have d6 := hid b1
    clear b1
    have a3 := zaa p5
    go_wp2
    clear a3
    have hl5 := p5.lt
    clear sxo
    replace hx := hx.far3 (g := w.heap.size + 1 + 1 + 1 + 1) (v0 := .int .i64 q2.n) (v1 := .bool q2.e) (v2 := .slice A2 q2.m.length c2) (by omega) p5 (by decide)
    replace a8 := a8.far3 (g := w.heap.size + 1 + 1 + 1 + 1) (v0 := .int .i64 q2.n) (v1 := .bool q2.e) (v2 := .slice A2 q2.m.length c2) (by omega) p5 (by decide)
    replace p0 := p0.far3 (g := w.heap.size + 1 + 1 + 1 + 1) (v0 := .int .i64 q2.n) (v1 := .bool q2.e) (v2 := .slice A2 q2.m.length c2) (by omega)
    replace p1 := p1.far3 (g := w.heap.size + 1 + 1 + 1 + 1) (v0 := .int .i64 q2.n) (v1 := .bool q2.e) (v2 := .slice A2 q2.m.length c2) (by omega)
    replace p2 := p2.far3 (g := w.heap.size + 1 + 1 + 1 + 1) (v0 := .int .i64 q2.n) (v1 := .bool q2.e) (v2 := .slice A2 q2.m.length c2) (by omega)
    replace p3 := p3.far3 (g := w.heap.size + 1 + 1 + 1 + 1) (v0 := .int .i64 q2.n) (v1 := .bool q2.e) (v2 := .slice A2 q2.m.length c2) (by omega)
    replace p5 := p5.set3 (v0 := .int .i64 q2.n) (v1 := .bool q2.e) (v2 := .slice A2 q2.m.length c2)
    replace a1 := a1.trans (zah (W := w13) (g := w.heap.size + 1 + 1 + 1 + 1) (v0 := .int .i64 q2.n) (v1 := .bool q2.e) (v2 := .slice A2 q2.m.length c2) (by omega) a1.size)
    generalize ((w13.setCell ⟨w.heap.size + 1 + 1 + 1 + 1, 0, none⟩ (.int .i64 q2.n)).setCell ⟨w.heap.size + 1 + 1 + 1 + 1, 1, none⟩ (.bool q2.e)).setCell ⟨w.heap.size + 1 + 1 + 1 + 1, 2, none⟩ (.slice A2 q2.m.length c2) = w14 at *
    rw [d6.out] at a8 p5
    go_roundw
    case rel => exact ⟨1 + 1, A2, c2, by omega, rfl, a8, p5, hx, p0, p3, p1, p2, a1⟩
    case measure => simp [RowKit.intOf]
  ·obtain ⟨q2, b1⟩ : ∃ q, q = uV N ⟨n, false, m⟩ a an b bn 2 := ⟨_, rfl⟩
   rw [← b1] at sxo p5
   have d6 := hid b1
   clear b1
   have a3 := zaa p5
   have c6 := zaa p3
   go_wp2
   clear a3 c6
   have hBz := a1.size
   have s9 := sxo.far3 (g := w.heap.size + 1 + 1 + 1) (v0 := .int .i64 q2.n) (v1 := .bool q2.e) (v2 := .slice A1 q2.m.length c1) (by omega) p3 (by decide)
   have q9 := p3.set3 (v0 := .int .i64 q2.n) (v1 := .bool q2.e) (v2 := .slice A1 q2.m.length c1)
   have e1 := a1.trans (zah (W := wr) (g := w.heap.size + 1 + 1 + 1) (v0 := .int .i64 q2.n) (v1 := .bool q2.e) (v2 := .slice A1 q2.m.length c1) (by omega) a1.size)
   obtain ⟨z0, z1, z2, fz⟩ := zaa q9
   refine bodyPost_ret (v := .agg #[q2.n, q2.e, .slice A1 q2.m.length c1]) (by simp [results, Tryz.results189, go_sem, z0, z1, z2]) rfl ?_
   rw [← d6.out]
   exact ⟨_, _, rfl, s9, e1⟩
theorem zfq (n : Int) (m : List Int) (h0 : 0 ≤ n) (h1 : n ≤ 64) (a : Nat) (an bn : Int) (A : Option Addr) (cap : Nat) (w : World) (B : Nat) (hB : B ≤ w.heap.size) :
  Calls Tryz.prog 189 #[.agg #[n, false, .slice A m.length cap], .agg #[(a : Int), an], .agg #[(a : Int), bn]] w (zar w B (emptyO n)) := by
 have t1 : ((a : Int) == (a : Int)) = true := by simp
 obtain ⟨p0, p1, p2, p3, a1, c9⟩ := zax w #[n, false, .slice A m.length cap] #[(a : Int), an] #[(a : Int), bn] #[.int .i64 0, false, .slice none 0 0] 24 26 26 24
 have f4 := hid c9
 clear c9
 go_enter Tryz.func189, Tryz.ntmps189
 have b6 := zaa p0
 obtain ⟨c3, c7, c4⟩ := zai p1
 obtain ⟨b9, c0, b5⟩ := zai p2
 go_wp2_with fail
 clear b6 c3 c7 c4 b9 c0 b5
 generalize (((w.alloc (Obj.cells #[n, false, .slice A m.length cap] 24)).alloc (Obj.cells #[(a : Int), an] 26)).alloc (Obj.cells #[(a : Int), bn] 26)).alloc (Obj.cells #[.int .i64 0, false, .slice none 0 0] 24) = w1 at *
 (with_reducible refine (zbK n w1 h0 h1).mono ?_)
 rintro e4 w2 ⟨A2, c2, rfl, own, a2⟩
 have hle : B ≤ w1.heap.size := by have := f4.out; omega
 have a8 := Sx.of_own own hle
 replace p0 := p0.later a2
 replace p1 := p1.later a2
 replace p2 := p2.later a2
 replace p3 := p3.later a2
 replace a1 := bup a1 a2
 generalize emptyO n = q2 at *
 have c6 := zaa p3
 go_wp2
 clear c6
 have hBz := a1.size
 have s9 := a8.far3 (g := w.heap.size + 1 + 1 + 1) (v0 := .int .i64 q2.n) (v1 := .bool q2.e) (v2 := .slice A2 q2.m.length c2) (by omega) p3 (by decide)
 have q9 := p3.set3 (v0 := .int .i64 q2.n) (v1 := .bool q2.e) (v2 := .slice A2 q2.m.length c2)
 have e1 := a1.trans (zah (W := w2) (g := w.heap.size + 1 + 1 + 1) (v0 := .int .i64 q2.n) (v1 := .bool q2.e) (v2 := .slice A2 q2.m.length c2) (by omega) a1.size)
 obtain ⟨z0, z1, z2, fz⟩ := zaa q9
 refine bodyPost_ret (v := .agg #[q2.n, q2.e, .slice A2 q2.m.length c2]) (by simp [results, Tryz.results189, go_sem, z0, z1, z2]) rfl ?_
 exact ⟨_, _, rfl, s9, e1⟩
theorem zfu (n : Int) (m : List Int) (a b : Nat) (an bn : Int) (q : O) (A : Option Addr) (cap : Nat) (w : World) (B : Nat) (hB : B ≤ w.heap.size) (hx : Sx w B A m)
  (HV : Hid (∀ W, Sx W B A m → B ≤ W.heap.size → Calls Tryz.prog 189 #[.agg #[n, false, .slice A m.length cap], .agg #[(a : Int), an], .agg #[(b : Int), bn]] W (zar W B q))) :
  Calls Tryz.prog 124 #[.agg #[n, false, .slice A m.length cap], .agg #[(a : Int), an], .agg #[(b : Int), bn]] w (zar w B q) := by
 have t1 : decide ((a : Int) < 0) = false := by rw [decide_eq_false_iff_not]; omega
 have t2 : decide (0 ≤ (b : Int)) = true := by rw [decide_eq_true_eq]; omega
 obtain ⟨p0, p1, p2, p3, a1, c9⟩ := zax w #[n, false, .slice A m.length cap] #[(a : Int), an] #[(b : Int), bn] #[.int .i64 0, false, .slice none 0 0] 24 26 26 24
 replace hx := hx.later a1 hB
 have f4 := hid c9
 clear c9
 go_enter Tryz.func124, Tryz.ntmps124
 have b6 := zaa p0
 obtain ⟨c3, c7, c4⟩ := zai p1
 obtain ⟨b9, c0, b5⟩ := zai p2
 go_wp2_with fail
 clear b6 c3 c7 c4 b9 c0 b5
 generalize (((w.alloc (Obj.cells #[n, false, .slice A m.length cap] 24)).alloc (Obj.cells #[(a : Int), an] 26)).alloc (Obj.cells #[(b : Int), bn] 26)).alloc (Obj.cells #[.int .i64 0, false, .slice none 0 0] 24) = w1 at *
 have hB1 := Nat.le_trans hB a1.size
 (with_reducible refine (HV.out w1 hx hB1).mono ?_)
 rintro e4 w2 ⟨A2, c2, rfl, a8, a2⟩
 have hle : B ≤ w1.heap.size := by have := f4.out; omega
 replace p0 := p0.later a2
 replace p1 := p1.later a2
 replace p2 := p2.later a2
 replace p3 := p3.later a2
 replace hx := hx.later a2 (Nat.le_trans hB a1.size)
 replace a1 := bup a1 a2
 have c6 := zaa p3
 go_wp2
 clear c6
 have hBz := a1.size
 have s9 := a8.far3 (g := w.heap.size + 1 + 1 + 1) (v0 := .int .i64 q.n) (v1 := .bool q.e) (v2 := .slice A2 q.m.length c2) (by omega) p3 (by decide)
 have q9 := p3.set3 (v0 := .int .i64 q.n) (v1 := .bool q.e) (v2 := .slice A2 q.m.length c2)
 have e1 := a1.trans (zah (W := w2) (g := w.heap.size + 1 + 1 + 1) (v0 := .int .i64 q.n) (v1 := .bool q.e) (v2 := .slice A2 q.m.length c2) (by omega) a1.size)
 obtain ⟨z0, z1, z2, fz⟩ := zaa q9
 refine bodyPost_ret (v := .agg #[q.n, q.e, .slice A2 q.m.length c2]) (by simp [results, Tryz.results124, go_sem, z0, z1, z2]) rfl ?_
 exact ⟨_, _, rfl, s9, e1⟩
theorem zem (n : Int) (m : List Int) (N : Nat) (hN : (N : Int) = 2 * n) (hn : N ≤ 128) (hc : Cells N m) (a b : Nat) (an bn : Int) (ha : (a : Int) < n) (hb : (b : Int) < n) (ia : I64 an) (ib : I64 bn) (A : Option Addr) (cap : Nat) (w : World) (B : Nat) (hB : B ≤ w.heap.size) (hx : Sx w B A m) (hm : m.length ≤ 17592186044416) :
  Calls Tryz.prog 189 #[.agg #[n, false, .slice A m.length cap], .agg #[(a : Int), an], .agg #[(b : Int), bn]] w (zar w B (zbu ⟨n, false, m⟩ (a : Int) an (b : Int) bn)) := by
 unfold zbu
 by_cases h : a = b
 ·subst h
  rw [if_pos rfl]
  exact zfq n m (by omega) (by omega) a an bn A cap w B hB
 ·rw [if_neg (by omega)]
  have := zgP n m N hN hn hc a b an bn h ha hb ia ib A cap w B hB hx hm
  dsimp only
  rw [show (2 * n).toNat = N by omega, Int.toNat_natCast, Int.toNat_natCast]
  exact this
theorem ziC (n : Int) (m : List Int) (N : Nat) (hN : (N : Int) = 2 * n) (hn : N ≤ 128) (hc : Cells N m) (av an bv bn : Int) (ha : av < n) (hb : bv < n) (hab : 0 ≤ av ∨ 0 ≤ bv) (ia : I64 an) (ib : I64 bn) (A : Option Addr) (cap : Nat) (w : World) (B : Nat) (hB : B ≤ w.heap.size) (hx : Sx w B A m) (hm : m.length ≤ 17592186044416) :
  Calls Tryz.prog 124 #[.agg #[n, false, .slice A m.length cap], .agg #[av, an], .agg #[bv, bn]] w (zar w B (unlikeO ⟨n, false, m⟩ av an bv bn)) := by
 unfold unlikeO
 by_cases h : av < 0
 ·rw [if_pos h, if_neg (by omega)]
  obtain ⟨b, rfl⟩ := Int.eq_ofNat_of_zero_le (show 0 ≤ bv by omega)
  exact zfo n m N hN hn hc b bn av an h hb ib ia A cap w B hB hx hm
 ·rw [if_neg h]
  obtain ⟨a, rfl⟩ := Int.eq_ofNat_of_zero_le (show 0 ≤ av by omega)
  by_cases h1 : 0 ≤ bv
  ·rw [if_pos h1]
   obtain ⟨b, rfl⟩ := Int.eq_ofNat_of_zero_le h1
   exact zfu n m a b an bn _ A cap w B hB hx (hid fun W hX hB' => zem n m N hN hn hc a b an bn ha hb ia ib A cap W B hB' hX hm)
  ·rw [if_neg h1]
   exact zgu n m N hN hn hc a an bv bn (by omega) ha ia ib A cap w B hB hx hm
end Go.Proofs.YtnmpgijiimglcaaGreat
