import Derived.Test.YtnmpgijiimglcaaGreatBSe21
import Derived.Test.YtnmpgijiimglcaaGreatBSe12
import Derived.RangeFuncFrom
import Derived.WalkMore
namespace Go.Proofs.YtnmpgijiimglcaaGreat
open Go.RowKit
set_option maxRecDepth 100000
set_option maxHeartbeats 8000000
attribute [local go_sem] Oper.semAt_some
attribute [local go_sem ↓] Go.wp_at_zero Go.wp_at_succ
theorem zky (a b : Value) (W : World) : (Instr.index 114 (.agg #[a, b]) (.int .i64 0)).run Tryz.prog W = .ok a W := by
 simp [Instr.index, run_underlying Tryz.underlying114, asIntOf, go_sem]
theorem zkR (a b : Value) (W : World) : (Instr.index 114 (.agg #[a, b]) (.int .i64 1)).run Tryz.prog W = .ok b W := by
 simp [Instr.index, run_underlying Tryz.underlying114, asIntOf, go_sem]
def SW (w4 w5 : World) : Bool → World → Prop
 | false => fun W => W = w4
 | true => fun W => W = w5
theorem SW.any {w4 w5 W : World} (h : AnyB (SW w4 w5) W) : W = w4 ∨ W = w5 := by
 obtain ⟨b, h⟩ := h
 cases b
 ·exact .inl h
 ·exact .inr h
def zl7 (base : Nat) (A : Option Addr) (cap : Nat) (n : Int) (L : Nat) (m' : List Int) (w : World) (e : Ending) (w' : World) : Prop := e = .returned (.agg #[n, false, .slice A L cap]) ∧ Own w' base A cap m' ∧ Below base w w'
theorem zft {H : Type} (n : Int) (m : List Int) (N : Nat) (hN : (N : Int) = 2 * n) (hn : N ≤ 128) (hc : Cells N m) (v : Nat) (hv : (v : Int) < n) (gA cap base b nn : Nat) (d : DataW H) {R : Value → Option (DataW H × List MemPlace)} (w : World) (own : Own w base (some ⟨gA, 0, none⟩) cap m) (hbase : base ≤ w.heap.size) (hmap : w.ownsMap Tryz.prog 3 R b nn (.map [(.int .i64 (v : Int), d)])) :
  CallsIn (zbm none) 10 Tryz.prog 227 #[.agg #[n, false, .slice (some ⟨gA, 0, none⟩) m.length cap], .map (some b)] w (zl7 base (some ⟨gA, 0, none⟩) cap n m.length (forgetM N v m) w) := by
 obtain ⟨p0, p1, b6, hsz⟩ := zal w #[n, false, .slice (some ⟨gA, 0, none⟩) m.length cap] #[.int .i64 0, false, .slice none 0 0] 24 24
 have HFA := hid (zfK hc.len (v := v) (by omega))
 have HL := hid hc.len
 have HN := hid hN
 have HV := hid hv
 have hgA : base ≤ gA ∧ gA < w.heap.size := by
  rcases own.form with ⟨h, _⟩ | ⟨g, h, h1, h2⟩
  ·cases h
  ·injection h with h; injection h with h; subst h; exact ⟨h1, h2⟩
 have hn0 : 0 ≤ 2 * n := by omega
 have hn1 : 2 * n ≤ 128 := by omega
 have hn2 : 0 ≤ n := by omega
 have hv2 : (v : Int) ≤ 64 := by omega
 replace own := own.below b6
 replace hmap := (hmap.alloc (Obj.cells #[n, false, .slice (some ⟨gA, 0, none⟩) m.length cap] 24)).alloc (Obj.cells #[.int .i64 0, false, .slice none 0 0] 24)
 clear hN hv hc
 have HG := hid hgA
 have HSZ := hid hsz
 clear hgA hsz
 refine callsIn_of_wp_marks Tryz.func227 rfl trivial ?_ rfl
 simp only [Tryz.ntmps227, List.size_toArray, List.length_cons, List.length_nil, Nat.reduceAdd, Nat.reduceSub, Array.replicate_succ, Array.replicate_zero, List.push_toArray, List.append_toArray, List.nil_append, List.cons_append]
 obtain ⟨x0, x1, x2, fx⟩ := zaa p0
 gi_wp2_with fail
 clear x0 x1 x2 fx
 generalize (w.alloc (Obj.cells #[n, false, .slice (some ⟨gA, 0, none⟩) m.length cap] 24)).alloc (Obj.cells #[.int .i64 0, false, .slice none 0 0] 24) = w0 at *
 refine (zec (zj7 (some b) w0)).mono ?_
 rintro e1 w1 ⟨rfl, rfl⟩
 gi_wp2
 have nK := new1 w0 (.cells #[.map (some b)] 221)
 have kK := Blk.new w0 221 #[.map (some b)]
 replace own := own.below nK
 replace p0 := p0.later nK
 replace p1 := p1.later nK
 replace b6 := bup b6 nK
 replace hmap := hmap.alloc (.cells #[.map (some b)] 221)
 have hw1 : w.heap.size + 2 < (w0.alloc (.cells #[.map (some b)] 221)).heap.size := by have := HSZ.out; simp; omega
 clear nK
 generalize w0.alloc (.cells #[.map (some b)] 221) = w1 at *
 have hgK := kK.lt
 generalize w0.heap.size = gK at *
 have hbB : Below base w w1 := b6.mono hbase
 refine zjY (fun a0 ha0 => ?_)
 have b7 := hid ha0
 clear ha0
 refine wpIn_rangeFunc_ownH (F := zbm none) rfl (by omega) (gf := 252) (lb := #[.pointer (some ⟨gK, 0, none⟩)]) (by rw [b7.out]; rfl) trivial (enters_of Tryz.func252 (by kernel_rfl) rfl)
  (ziT (10 - 1) (by omega) gK b nn (v : Int) d w1 hgK (kK.cell 0) hmap) walksK_t walksK_b (Below.refl _ _) (fun _ => rfl)
  (fun pre W => ((Blk W w.heap.size 24 #[n, false, .slice (some ⟨gA, 0, none⟩) m.length cap] ∧ Own W base (some ⟨gA, 0, none⟩) cap (if pre.length = 0 then m else forgetM N v m) ∧ Blk W (w.heap.size + 1) 24 #[.int .i64 0, false, .slice none 0 0]) ∧ w1.heap.size ≤ W.heap.size) ∧ Below base w W)
  (fun _ _ _ => False)
  (OwnFrom.and (Own.from (fun pre X Y row ⟨⟨h1, h2, h3⟩, h7⟩ hg hr => ⟨⟨zeB h1 hg hr, zga h2 hg hr, zeB h3 hg hr⟩, Nat.le_trans h7 hg.size⟩) _) (ownFrom_below hbase (by omega)))
  (fun _ _ _ _ _ hs _ _ => hs)
  ⟨⟨⟨p0, own, p1⟩, Nat.le_refl _⟩, hbB⟩
  (fun _ a' _ => a' = { tmps := (((#[14] : Array Nat).zip #[Value.int .i64 (v : Int)]).foldl (fun t (p, v) => t.setIfInBounds p v) a0.tmps).setIfInBounds 5 (.int .i64 (v : Int)), defers := [] })
  (fun x a' _ X Y row h hg hr => h)
  ?assign ?body ?done ?stop
 case assign =>
  rintro l pre x W K ⟨⟨⟨h1, h2, h3⟩, h7⟩, b1⟩ hK
  obtain rfl := b7.out
  have hk := hK _ _ (zi0 (Below.refl W.heap.size W)) (KeepsWalks.refl W) ⟨⟨⟨h1, h2, h3⟩, h7⟩, b1⟩ rfl
  simp only [zkW, List.setIfInBounds_toArray, List.set_cons_zero, List.set_cons_succ] at hk
  have HKK := hid hk
  simp only [zkW, List.setIfInBounds_toArray, List.set_cons_zero, List.set_cons_succ]
  clear hk hK h1 h2 h3
  gi_wp2
  exact HKK.out
 case body =>
  rintro l pre x a' W hl hrr ⟨⟨⟨h1, h2, h3⟩, h7⟩, b1⟩ rfl b8
  obtain rfl := b7.out
  obtain rfl : pre = [] := by cases pre with | nil => rfl | cons _ _ => simp at b8
  replace h2 : Own W base (some ⟨gA, 0, none⟩) cap m := h2
  simp only [zkW, List.setIfInBounds_toArray, List.set_cons_zero, List.set_cons_succ]
  obtain ⟨x0, x1, x2, fx⟩ := zaa h1
  gi_wp2
  clear x0 x1 x2 fx
  have h30 := h3
  have HSW := hid h7
  clear h3
  gi_loopw [18] (fun t wq => ∃ i : Nat, i ≤ N ∧ t = .int .i64 i ∧ Own wq base (some ⟨gA, 0, none⟩) cap (fAll N v i m) ∧ W.grownBy wq (some gA)) (fun t _ => N - (RowKit.intOf t).toNat)
  case atStart => exact ⟨0, by omega, rfl, h2, World.grownBy.refl _ _⟩
  case round =>
   obtain ⟨i, hi, rfl, a3, hg⟩ := hrel
   have q0 := h1.stay hg (by intro e; injection e with e; have := HG.out; omega)
   obtain ⟨x0, x1, x2, fx⟩ := zaa q0
   by_cases hlt : i < N
   ·have hlti : (i : Int) < 2 * n := by have := HN.out; omega
    gi_wp2
    clear x0 x1 x2 fx q0
    gi_loopw [27] (fun t wq => ∃ k : Nat, k ≤ 2 ∧ t = .int .i64 k ∧ Own wq base (some ⟨gA, 0, none⟩) cap (zdO N v i k (fAll N v i m)) ∧ W.grownBy wq (some gA)) (fun t _ => 2 - (RowKit.intOf t).toNat)
    case atStart => exact ⟨0, by omega, rfl, a3, hg⟩
    case round =>
     clear a3 hg
     obtain ⟨k, hk, rfl, a3, hg⟩ := hrel
     have q0 := h1.stay hg (by intro e; injection e with e; have := HG.out; omega)
     obtain ⟨x0, x1, x2, fx⟩ := zaa q0
     have hk3 : k = 0 ∨ k = 1 ∨ k = 2 := by omega
     rcases hk3 with rfl | rfl | rfl
     ·have a8 : Hid (zdO N v i 1 (fAll N v i m) = zch N i (2 * v) (zdO N v i 0 (fAll N v i m))) := hid rfl
      have b2 := hid (show (zdO N v i 0 (fAll N v i m)).length = m.length by rw [zeT, zcn])
      generalize hcur : zdO N v i 0 (fAll N v i m) = cur at *
      obtain ⟨j, hj⟩ : ∃ j : Nat, j = (2 * v) := ⟨_, rfl⟩
      have b9 : 2 * (v : Int) = (j : Int) := by rw [hj]; simp
      have b0 : j < N := by have := HN.out; have := HV.out; omega
      rw [← hj] at a8
      have HJ := hid hj
      have ix := fun W => zky (.int .i64 (2 * (v : Int))) (.int .i64 (2 * (v : Int) + 1)) W
      rw [b9] at ix
      clear hj hcur
      by_cases hij : i = j
      ·have t1 : ((i : Int) != (j : Int)) = false := by rw [hij]; simp
       have HE : Hid (zch N i j cur = cur) := hid (by unfold zch; rw [if_pos hij])
       clear hij x0 x1 x2 fx q0
       gi_wp2
       go_roundw
       case rel => exact ⟨1, by omega, by go_num, by rw [a8.out, HE.out]; exact a3, hg⟩
       case measure => decide
      ·have t1 : ((i : Int) != (j : Int)) = true := by simp; omega
       have HE : Hid (zch N i j cur = (cur.set (i * N + j) 9223372036854775807).set (j * N + i) 9223372036854775807) := hid (by unfold zch; rw [if_neg hij])
       have b5 := zeW hlt b0
       have b4 := zeW b0 hlt
       rw [← HL.out, ← b2.out] at b5 b4
       obtain ⟨r1, a7⟩ : ∃ r, r = i * N := ⟨_, rfl⟩
       obtain ⟨r2, a6⟩ : ∃ r, r = j * N := ⟨_, rfl⟩
       have hm1 : 2 * n * (i : Int) = (r1 : Int) := by rw [a7, ← HN.out, Int.natCast_mul, Int.mul_comm]
       have hm2 : 2 * n * (j : Int) = (r2 : Int) := by rw [a6, ← HN.out, Int.natCast_mul, Int.mul_comm]
       have hb1 : r1 ≤ 16384 := by rw [a7]; exact Nat.le_trans (Nat.mul_le_mul (Nat.le_of_lt hlt) (Nat.le_refl N)) (Nat.mul_le_mul hn hn)
       have hb2 : r2 ≤ 16384 := by rw [a6]; exact Nat.le_trans (Nat.mul_le_mul (Nat.le_of_lt b0) (Nat.le_refl N)) (Nat.mul_le_mul hn hn)
       have hs1 : (r1 : Int) + (j : Int) = ((i * N + j : Nat) : Int) := by rw [a7]; simp
       have hs2 : (r2 : Int) + (i : Int) = ((j * N + i : Nat) : Int) := by rw [a6]; simp
       clear a7 a6 hij
       generalize i * N + j = a1 at *
       generalize j * N + i = a2 at *
       have hI1 : (a1 : Int) < (m.length : Int) := by have := b2.out; omega
       have hI2 : (a2 : Int) < (m.length : Int) := by have := b2.out; omega
       have HP1 := hid (show (0 : Int) ≤ (a1 : Int) by omega)
       obtain ⟨_, _, eA, _, c1⟩ := a3.rd a1 b5
       injection eA with eA; injection eA with eA1 eA2; subst eA1; subst eA2
       rw [Nat.zero_add] at c1
       have fr1 := a3.frozen a1
       obtain ⟨w5, a5⟩ : ∃ w5, w5 = wr.drew.setCell ⟨gA, a1, none⟩ (.int .i64 9223372036854775807) := ⟨_, rfl⟩
       have a4 : Own w5 base (some ⟨gA, 0, none⟩) cap (cur.set a1 9223372036854775807) := by rw [a5]; exact (a3.below (Below.refl _ _).drew).store a1 _
       have a9 : W.grownBy w5 (some gA) := by rw [a5]; exact (hg.trans (za1 (Below.refl _ _).drew _)).trans (zay _ _ _)
       have q5 := h1.stay a9 (by intro e; injection e with e; have := HG.out; omega)
       have f0 : ∀ X, AnyB (SW wr.drew w5) X → X.cell? ⟨w.heap.size, 0, none⟩ = some (.int .i64 n) := fun X h => by rcases SW.any h with rfl | rfl; exact x0; exact q5.cell 0
       have f2 : ∀ X, AnyB (SW wr.drew w5) X → X.cell? ⟨w.heap.size, 2, none⟩ = some (.slice (some ⟨gA, 0, none⟩) m.length cap) := fun X h => by rcases SW.any h with rfl | rfl; exact x2; exact q5.cell 2
       have b3 := hid a5
       clear a5 x0 x1 x2 fx q0 q5
       gi_wp2
       refine zbO (ro := some l) 20 19 (SW wr.drew w5) (by kernel_rfl) (by kernel_rfl) (by kernel_rfl) (by decide) rfl ?_
       (repeat (first | (refine za0.skip (by rfl) (by rfl) ?_; simp only [Act.put, List.setIfInBounds_toArray, List.set_cons_zero, List.set_cons_succ]) | (refine' za0.take _ (by rfl) (by rfl) (fun W hW R hR => ?_) ?_; rotate_left; (go_simp; (try go_bits); with_reducible exact hR); simp only [Act.put, List.setIfInBounds_toArray, List.set_cons_zero, List.set_cons_succ])))
       refine za0.mark (by rfl) (by rfl) (by rfl) (fun X hX R hR => ?_) ?_
       ·obtain rfl : X = wr.drew := hX
        have c1d : wr.drew.cell? ⟨gA, a1, none⟩ = some (.int .i64 (gI cur (a1 : Int))) := c1
        have fr1d : wr.drew.frozen? ⟨gA, a1, none⟩ = false := fr1
        go_simp
        exact hR _ b3.out.symm
       intro X hX
       obtain rfl : X = w5 := hX
       have hp2' : a2 < (cur.set a1 9223372036854775807).length := by simpa using b4
       obtain ⟨_, _, eA, _, c2⟩ := a4.rd a2 hp2'
       injection eA with eA; injection eA with eA1 eA2; subst eA1; subst eA2
       rw [Nat.zero_add] at c2
       have fr2 := a4.frozen a2
       have c0 := hid (a4.store a2 9223372036854775807)
       have c3 := hid (a9.trans (zay X ⟨gA, a2, none⟩ (.int .i64 9223372036854775807)))
       have HP2 := hid (show (0 : Int) ≤ (a2 : Int) by omega)
       clear f0 f2 c1 fr1 hp2' a4 a9 b3 a3 hg
       gi_wp2
       go_roundw
       case rel => exact ⟨1, by omega, by go_num, by rw [a8.out, HE.out]; exact c0.out, c3.out⟩
       case measure => decide
     ·have a8 : Hid (zdO N v i 2 (fAll N v i m) = zch N i (2 * v + 1) (zdO N v i 1 (fAll N v i m))) := hid rfl
      have b2 := hid (show (zdO N v i 1 (fAll N v i m)).length = m.length by rw [zeT, zcn])
      generalize hcur : zdO N v i 1 (fAll N v i m) = cur at *
      obtain ⟨j, hj⟩ : ∃ j : Nat, j = (2 * v + 1) := ⟨_, rfl⟩
      have b9 : 2 * (v : Int) + 1 = (j : Int) := by rw [hj]; simp
      have b0 : j < N := by have := HN.out; have := HV.out; omega
      rw [← hj] at a8
      have HJ := hid hj
      have ix := fun W => zkR (.int .i64 (2 * (v : Int))) (.int .i64 (2 * (v : Int) + 1)) W
      rw [b9] at ix
      clear hj hcur
      by_cases hij : i = j
      ·have t1 : ((i : Int) != (j : Int)) = false := by rw [hij]; simp
       have HE : Hid (zch N i j cur = cur) := hid (by unfold zch; rw [if_pos hij])
       clear hij x0 x1 x2 fx q0
       gi_wp2
       go_roundw
       case rel => exact ⟨2, by omega, by go_num, by rw [a8.out, HE.out]; exact a3, hg⟩
       case measure => decide
      ·have t1 : ((i : Int) != (j : Int)) = true := by simp; omega
       have HE : Hid (zch N i j cur = (cur.set (i * N + j) 9223372036854775807).set (j * N + i) 9223372036854775807) := hid (by unfold zch; rw [if_neg hij])
       have b5 := zeW hlt b0
       have b4 := zeW b0 hlt
       rw [← HL.out, ← b2.out] at b5 b4
       obtain ⟨r1, a7⟩ : ∃ r, r = i * N := ⟨_, rfl⟩
       obtain ⟨r2, a6⟩ : ∃ r, r = j * N := ⟨_, rfl⟩
       have hm1 : 2 * n * (i : Int) = (r1 : Int) := by rw [a7, ← HN.out, Int.natCast_mul, Int.mul_comm]
       have hm2 : 2 * n * (j : Int) = (r2 : Int) := by rw [a6, ← HN.out, Int.natCast_mul, Int.mul_comm]
       have hb1 : r1 ≤ 16384 := by rw [a7]; exact Nat.le_trans (Nat.mul_le_mul (Nat.le_of_lt hlt) (Nat.le_refl N)) (Nat.mul_le_mul hn hn)
       have hb2 : r2 ≤ 16384 := by rw [a6]; exact Nat.le_trans (Nat.mul_le_mul (Nat.le_of_lt b0) (Nat.le_refl N)) (Nat.mul_le_mul hn hn)
       have hs1 : (r1 : Int) + (j : Int) = ((i * N + j : Nat) : Int) := by rw [a7]; simp
       have hs2 : (r2 : Int) + (i : Int) = ((j * N + i : Nat) : Int) := by rw [a6]; simp
       clear a7 a6 hij
       generalize i * N + j = a1 at *
       generalize j * N + i = a2 at *
       have hI1 : (a1 : Int) < (m.length : Int) := by have := b2.out; omega
       have hI2 : (a2 : Int) < (m.length : Int) := by have := b2.out; omega
       have HP1 := hid (show (0 : Int) ≤ (a1 : Int) by omega)
       obtain ⟨_, _, eA, _, c1⟩ := a3.rd a1 b5
       injection eA with eA; injection eA with eA1 eA2; subst eA1; subst eA2
       rw [Nat.zero_add] at c1
       have fr1 := a3.frozen a1
       obtain ⟨w5, a5⟩ : ∃ w5, w5 = wr.drew.setCell ⟨gA, a1, none⟩ (.int .i64 9223372036854775807) := ⟨_, rfl⟩
       have a4 : Own w5 base (some ⟨gA, 0, none⟩) cap (cur.set a1 9223372036854775807) := by rw [a5]; exact (a3.below (Below.refl _ _).drew).store a1 _
       have a9 : W.grownBy w5 (some gA) := by rw [a5]; exact (hg.trans (za1 (Below.refl _ _).drew _)).trans (zay _ _ _)
       have q5 := h1.stay a9 (by intro e; injection e with e; have := HG.out; omega)
       have f0 : ∀ X, AnyB (SW wr.drew w5) X → X.cell? ⟨w.heap.size, 0, none⟩ = some (.int .i64 n) := fun X h => by rcases SW.any h with rfl | rfl; exact x0; exact q5.cell 0
       have f2 : ∀ X, AnyB (SW wr.drew w5) X → X.cell? ⟨w.heap.size, 2, none⟩ = some (.slice (some ⟨gA, 0, none⟩) m.length cap) := fun X h => by rcases SW.any h with rfl | rfl; exact x2; exact q5.cell 2
       have b3 := hid a5
       clear a5 x0 x1 x2 fx q0 q5
       gi_wp2
       refine zbO (ro := some l) 20 19 (SW wr.drew w5) (by kernel_rfl) (by kernel_rfl) (by kernel_rfl) (by decide) rfl ?_
       (repeat (first | (refine za0.skip (by rfl) (by rfl) ?_; simp only [Act.put, List.setIfInBounds_toArray, List.set_cons_zero, List.set_cons_succ]) | (refine' za0.take _ (by rfl) (by rfl) (fun W hW R hR => ?_) ?_; rotate_left; (go_simp; (try go_bits); with_reducible exact hR); simp only [Act.put, List.setIfInBounds_toArray, List.set_cons_zero, List.set_cons_succ])))
       refine za0.mark (by rfl) (by rfl) (by rfl) (fun X hX R hR => ?_) ?_
       ·obtain rfl : X = wr.drew := hX
        have c1d : wr.drew.cell? ⟨gA, a1, none⟩ = some (.int .i64 (gI cur (a1 : Int))) := c1
        have fr1d : wr.drew.frozen? ⟨gA, a1, none⟩ = false := fr1
        go_simp
        exact hR _ b3.out.symm
       intro X hX
       obtain rfl : X = w5 := hX
       have hp2' : a2 < (cur.set a1 9223372036854775807).length := by simpa using b4
       obtain ⟨_, _, eA, _, c2⟩ := a4.rd a2 hp2'
       injection eA with eA; injection eA with eA1 eA2; subst eA1; subst eA2
       rw [Nat.zero_add] at c2
       have fr2 := a4.frozen a2
       have c0 := hid (a4.store a2 9223372036854775807)
       have c3 := hid (a9.trans (zay X ⟨gA, a2, none⟩ (.int .i64 9223372036854775807)))
       have HP2 := hid (show (0 : Int) ≤ (a2 : Int) by omega)
       clear f0 f2 c1 fr1 hp2' a4 a9 b3 a3 hg
       gi_wp2
       go_roundw
       case rel => exact ⟨2, by omega, by go_num, by rw [a8.out, HE.out]; exact c0.out, c3.out⟩
       case measure => decide
     ·replace a3 : Own wr base (some ⟨gA, 0, none⟩) cap (fAll N v (i + 1) m) := a3
      clear x0 x1 x2 fx q0
      gi_wp2
      go_roundw
      case rel => exact ⟨i + 1, by omega, by go_num, a3, hg⟩
      case measure => simp [RowKit.intOf]; omega
   ·obtain rfl : i = N := by omega
    have hge : ¬ ((i : Int) < 2 * n) := by have := HN.out; omega
    gi_wp2
    clear x0 x1 x2 fx
    have hb9 : Below base W wr := zaW hg (fun k e => by injection e with e; have := HG.out; omega) (Nat.le_trans hbase b1.size)
    refine ⟨KeepsFrom.of_grownBy hg (fun j e => by injection e with e; have := HG.out; omega), KeepsWalks.of_grownBy hg (fun j o e ho => ?_), ⟨⟨q0, ?_, ?_⟩, Nat.le_trans HSW.out hg.size⟩, b1.trans hb9⟩
    ·injection e with e
     subst e
     exact ziw h2 ho
    ·show Own wr base (some ⟨gA, 0, none⟩) cap (forgetM i v m)
     rw [← HFA.out]; exact a3
    ·exact h30.stay hg (by intro e; injection e with e; have := HG.out; omega)
 case done =>
  rintro D xs W hD hxs ⟨⟨⟨h1, h2, h3⟩, h7⟩, b1⟩ hK
  obtain rfl := b7.out
  replace h2 : Own W base (some ⟨gA, 0, none⟩) cap (forgetM N v m) := by rw [if_neg (by omega)] at h2; exact h2
  have hne := zan h2 h3 (by decide)
  obtain ⟨x0, x1, x2, fx⟩ := zaa h1
  have y0 := zaa h3
  dsimp only
  gi_wp2
  clear x0 x1 x2 fx y0
  have hle := Nat.le_trans hbase b1.size
  have o7 := h2.far3 (g := w.heap.size + 1) (v0 := .int .i64 n) (v1 := .bool false) (v2 := .slice (some ⟨gA, 0, none⟩) m.length cap) hne
  have p3 := h3.set3 (v0 := .int .i64 n) (v1 := .bool false) (v2 := .slice (some ⟨gA, 0, none⟩) m.length cap)
  have hb3 := b1.trans (zah (W := W) (g := w.heap.size + 1) (v0 := .int .i64 n) (v1 := .bool false) (v2 := .slice (some ⟨gA, 0, none⟩) m.length cap) (by omega) hle)
  have hK3 := zlU (g := w.heap.size + 1) (v0 := .int .i64 n) (v1 := .bool false) (v2 := .slice (some ⟨gA, 0, none⟩) m.length cap) hK rfl
  clear hK hne
  generalize ((W.setCell ⟨w.heap.size + 1, 0, none⟩ (.int .i64 n)).setCell ⟨w.heap.size + 1, 1, none⟩ (.bool false)).setCell ⟨w.heap.size + 1, 2, none⟩ (.slice (some ⟨gA, 0, none⟩) m.length cap) = W3 at *
  have hKg := grownBy_putObj' W3 D (.deferred none)
  have p4 := zeB p3 hKg (fun r e => by cases e; exact ⟨_, hK3, rfl⟩)
  have o4 := zga o7 hKg (fun r e => by cases e; exact ⟨_, hK3, rfl⟩)
  have hb4 : Below base w _ := hb3.trans (zaW hKg (fun k e => by injection e with e; omega) (Nat.le_trans hbase hb3.size))
  obtain ⟨z0, z1, z2, fz⟩ := zaa p4
  refine ⟨by simp, .inl ⟨_, _, rfl, run_takeDeferred hK3, ?_⟩⟩
  refine ⟨.agg #[n, false, .slice (some ⟨gA, 0, none⟩) m.length cap], by simp [results, Tryz.results227, go_sem, z0, z1, z2], rfl, o4, hb4⟩
 case stop =>
  rintro D c pre W _ _ h _
  exact h.elim
end Go.Proofs.YtnmpgijiimglcaaGreat
