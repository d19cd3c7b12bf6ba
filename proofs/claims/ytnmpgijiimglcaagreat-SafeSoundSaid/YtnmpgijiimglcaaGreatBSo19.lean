import Derived.Test.YtnmpgijiimglcaaGreatBSo18
import Derived.Test.YtnmpgijiimglcaaGreatBSo10
import Derived.RangeFuncFrom
import Derived.WalkMore
import Derived.Test.YtnmpgijiimglcaaGreatBSo11
import Derived.Maps.Own
import Derived.Test.YtnmpgijiimglcaaGreatBSo08
import Derived.Test.YtnmpgijiimglcaaGreatBSo05
import Derived.Test.YtnmpgijiimglcaaGreatBSo02
namespace Go.Proofs.YtnmpgijiimglcaaGreat
section
open Go.RowKit
set_option maxRecDepth 100000
set_option maxHeartbeats 8000000
attribute [local go_sem] Oper.semAt_some
attribute [local go_sem ↓] Go.wp_at_zero Go.wp_at_succ
theorem idx2i_0 (a b : Value) (W : World) : (Instr.index 114 (.agg #[a, b]) (.int .i64 0)).run Tryz.prog W = .ok a W := by
 simp [Instr.index, run_underlying Tryz.underlying114, asIntOf, go_sem]
theorem idx2i_1 (a b : Value) (W : World) : (Instr.index 114 (.agg #[a, b]) (.int .i64 1)).run Tryz.prog W = .ok b W := by
 simp [Instr.index, run_underlying Tryz.underlying114, asIntOf, go_sem]
def SW (w4 w5 : World) : Bool → World → Prop
 | false => fun W => W = w4
 | true => fun W => W = w5
theorem SW.any {w4 w5 W : World} (h : AnyB (SW w4 w5) W) : W = w4 ∨ W = w5 := by
 obtain ⟨b, h⟩ := h
 cases b
 ·exact .inl h
 ·exact .inr h
def InRes (base : Nat) (A : Option Addr) (cap : Nat) (n : Int) (L : Nat) (m' : List Int) (w : World) (e : Ending) (w' : World) : Prop := e = .returned (.agg #[n, false, .slice A L cap]) ∧ Own w' base A cap m' ∧ Below base w w'
theorem oforgets_in {H : Type} (n : Int) (m : List Int) (N : Nat) (hN : (N : Int) = 2 * n) (hn : N ≤ 128) (hc : Cells N m) (v : Nat) (hv : (v : Int) < n) (gA cap base b nn : Nat) (d : DataW H) {R : Value → Option (DataW H × List MemPlace)} (w : World) (own : Own w base (some ⟨gA, 0, none⟩) cap m) (hbase : base ≤ w.heap.size) (hmap : w.ownsMap Tryz.prog 3 R b nn (.map [(.int .i64 (v : Int), d)])) :
  CallsIn (wideAt none) 10 Tryz.prog 227 #[.agg #[n, false, .slice (some ⟨gA, 0, none⟩) m.length cap], .map (some b)] w (InRes base (some ⟨gA, 0, none⟩) cap n m.length (forgetM N v m) w) := by
 obtain ⟨p0, p1, b6, hsz⟩ := new_two w #[n, false, .slice (some ⟨gA, 0, none⟩) m.length cap] #[.int .i64 0, false, .slice none 0 0] 24 24
 have HFA := hid (fAll_forget hc.len (v := v) (by omega))
 have HL := hid hc.len
 have HN := hid hN
 have HV := hid hv
 have hgA : base ≤ gA ∧ gA < w.heap.size := by
  rcases own.form with ⟨h, _⟩ | ⟨g, h, h1, h2⟩
  ·cases h
  ·injection h with h; injection h with h; subst h; exact ⟨h1, h2⟩
 have hn0 : 0 ≤ 2 * n := by omega
 have hn1 : 2 * n ≤ 128 := by omega
 have hn2 : 0 ≤ n := by omega
 have hv2 : (v : Int) ≤ 64 := by omega
 replace own := own.below b6
 replace hmap := (hmap.alloc (Obj.cells #[n, false, .slice (some ⟨gA, 0, none⟩) m.length cap] 24)).alloc (Obj.cells #[.int .i64 0, false, .slice none 0 0] 24)
 clear hN hv hc
 have HG := hid hgA
 have HSZ := hid hsz
 clear hgA hsz
 refine callsIn_of_wp_marks Tryz.func227 rfl trivial ?_ rfl
 simp only [Tryz.ntmps227, List.size_toArray, List.length_cons, List.length_nil, Nat.reduceAdd, Nat.reduceSub, Array.replicate_succ, Array.replicate_zero, List.push_toArray, List.append_toArray, List.nil_append, List.cons_append]
 obtain ⟨x0, x1, x2, fx⟩ := octbox p0
 gi_wp2_with fail
 clear x0 x1 x2 fx
 generalize (w.alloc (Obj.cells #[n, false, .slice (some ⟨gA, 0, none⟩) m.length cap] 24)).alloc (Obj.cells #[.int .i64 0, false, .slice none 0 0] 24) = w0 at *
 refine (callsIn_at (mkeys_ok (some b) w0)).mono ?_
 rintro e1 w1 ⟨rfl, rfl⟩
 gi_wp2
 have nK := new1 w0 (.cells #[.map (some b)] 221)
 have kK := Blk.new w0 221 #[.map (some b)]
 replace own := own.below nK
 replace p0 := p0.later nK
 replace p1 := p1.later nK
 replace b6 := bup b6 nK
 replace hmap := hmap.alloc (.cells #[.map (some b)] 221)
 have hw1 : w.heap.size + 2 < (w0.alloc (.cells #[.map (some b)] 221)).heap.size := by have := HSZ.out; simp; omega
 clear nK
 generalize w0.alloc (.cells #[.map (some b)] 221) = w1 at *
 have hgK := kK.lt
 generalize w0.heap.size = gK at *
 have hbB : Below base w w1 := b6.mono hbase
 refine name_act (fun a0 ha0 => ?_)
 have b7 := hid ha0
 clear ha0
 refine wpIn_rangeFunc_ownH (F := wideAt none) rfl (by omega) (gf := 252) (lb := #[.pointer (some ⟨gK, 0, none⟩)]) (by rw [b7.out]; rfl) trivial (enters_of Tryz.func252 (by kernel_rfl) rfl)
  (keys_one (10 - 1) (by omega) gK b nn (v : Int) d w1 hgK (kK.cell 0) hmap) walksK_t walksK_b (Below.refl _ _) (fun _ => rfl)
  (fun pre W => ((Blk W w.heap.size 24 #[n, false, .slice (some ⟨gA, 0, none⟩) m.length cap] ∧ Own W base (some ⟨gA, 0, none⟩) cap (if pre.length = 0 then m else forgetM N v m) ∧ Blk W (w.heap.size + 1) 24 #[.int .i64 0, false, .slice none 0 0]) ∧ w1.heap.size ≤ W.heap.size) ∧ Below base w W)
  (fun _ _ _ => False)
  (OwnFrom.and (Own.from (fun pre X Y row ⟨⟨h1, h2, h3⟩, h7⟩ hg hr => ⟨⟨blk_kept h1 hg hr, own_kept h2 hg hr, blk_kept h3 hg hr⟩, Nat.le_trans h7 hg.size⟩) _) (ownFrom_below hbase (by omega)))
  (fun _ _ _ _ _ hs _ _ => hs)
  ⟨⟨⟨p0, own, p1⟩, Nat.le_refl _⟩, hbB⟩
  (fun _ a' _ => a' = { tmps := (((#[14] : Array Nat).zip #[Value.int .i64 (v : Int)]).foldl (fun t (p, v) => t.setIfInBounds p v) a0.tmps).setIfInBounds 5 (.int .i64 (v : Int)), defers := [] })
  (fun x a' _ X Y row h hg hr => h)
  ?assign ?body ?done ?stop
 case assign =>
  rintro l pre x W K ⟨⟨⟨h1, h2, h3⟩, h7⟩, b1⟩ hK
  obtain rfl := b7.out
  have hk := hK _ _ (keeps_of (Below.refl W.heap.size W)) (KeepsWalks.refl W) ⟨⟨⟨h1, h2, h3⟩, h7⟩, b1⟩ rfl
  simp only [fold1, List.setIfInBounds_toArray, List.set_cons_zero, List.set_cons_succ] at hk
  have HKK := hid hk
  simp only [fold1, List.setIfInBounds_toArray, List.set_cons_zero, List.set_cons_succ]
  clear hk hK h1 h2 h3
  gi_wp2
  exact HKK.out
 case body =>
  rintro l pre x a' W hl hrr ⟨⟨⟨h1, h2, h3⟩, h7⟩, b1⟩ rfl b9
  obtain rfl := b7.out
  obtain rfl : pre = [] := by cases pre with | nil => rfl | cons _ _ => simp at b9
  replace h2 : Own W base (some ⟨gA, 0, none⟩) cap m := h2
  simp only [fold1, List.setIfInBounds_toArray, List.set_cons_zero, List.set_cons_succ]
  obtain ⟨x0, x1, x2, fx⟩ := octbox h1
  gi_wp2
  clear x0 x1 x2 fx
  have h30 := h3
  have HSW := hid h7
  clear h3
  gi_loopw [18] (fun t wq => ∃ i : Nat, i ≤ N ∧ t = .int .i64 i ∧ Own wq base (some ⟨gA, 0, none⟩) cap (fAll N v i m) ∧ W.grownBy wq (some gA)) (fun t _ => N - (RowKit.intOf t).toNat)
  case atStart => exact ⟨0, by omega, rfl, h2, World.grownBy.refl _ _⟩
  case round =>
   obtain ⟨i, hi, rfl, a3, hg⟩ := hrel
   have q0 := h1.stay hg (by intro e; injection e with e; have := HG.out; omega)
   obtain ⟨x0, x1, x2, fx⟩ := octbox q0
   by_cases hlt : i < N
   ·have hlti : (i : Int) < 2 * n := by have := HN.out; omega
    gi_wp2
    clear x0 x1 x2 fx q0
    gi_loopw [27] (fun t wq => ∃ k : Nat, k ≤ 2 ∧ t = .int .i64 k ∧ Own wq base (some ⟨gA, 0, none⟩) cap (fPart N v i k (fAll N v i m)) ∧ W.grownBy wq (some gA)) (fun t _ => 2 - (RowKit.intOf t).toNat)
    case atStart => exact ⟨0, by omega, rfl, a3, hg⟩
    case round =>
     clear a3 hg
     obtain ⟨k, hk, rfl, a3, hg⟩ := hrel
     have q0 := h1.stay hg (by intro e; injection e with e; have := HG.out; omega)
     obtain ⟨x0, x1, x2, fx⟩ := octbox q0
     have hk3 : k = 0 ∨ k = 1 ∨ k = 2 := by omega
     rcases hk3 with rfl | rfl | rfl
     ·have a8 : Hid (fPart N v i 1 (fAll N v i m) = fStep N i (2 * v) (fPart N v i 0 (fAll N v i m))) := hid rfl
      have a9 := hid (show (fPart N v i 0 (fAll N v i m)).length = m.length by rw [fPart_len, fAll_len])
      generalize hcur : fPart N v i 0 (fAll N v i m) = cur at *
      obtain ⟨j, hj⟩ : ∃ j : Nat, j = (2 * v) := ⟨_, rfl⟩
      have b8 : 2 * (v : Int) = (j : Int) := by rw [hj]; simp
      have b0 : j < N := by have := HN.out; have := HV.out; omega
      rw [← hj] at a8
      have HJ := hid hj
      have ix := fun W => idx2i_0 (.int .i64 (2 * (v : Int))) (.int .i64 (2 * (v : Int) + 1)) W
      rw [b8] at ix
      clear hj hcur
      by_cases hij : i = j
      ·have t1 : ((i : Int) != (j : Int)) = false := by rw [hij]; simp
       have HE : Hid (fStep N i j cur = cur) := hid (by unfold fStep; rw [if_pos hij])
       clear hij x0 x1 x2 fx q0
       gi_wp2
       go_roundw
       case rel => exact ⟨1, by omega, by go_num, by rw [a8.out, HE.out]; exact a3, hg⟩
       case measure => decide
      ·have t1 : ((i : Int) != (j : Int)) = true := by simp; omega
       have HE : Hid (fStep N i j cur = (cur.set (i * N + j) 9223372036854775807).set (j * N + i) 9223372036854775807) := hid (by unfold fStep; rw [if_neg hij])
       have b3 := pos_lt hlt b0
       have b5 := pos_lt b0 hlt
       rw [← HL.out, ← a9.out] at b3 b5
       obtain ⟨r1, a6⟩ : ∃ r, r = i * N := ⟨_, rfl⟩
       obtain ⟨r2, a7⟩ : ∃ r, r = j * N := ⟨_, rfl⟩
       have hm1 : 2 * n * (i : Int) = (r1 : Int) := by rw [a6, ← HN.out, Int.natCast_mul, Int.mul_comm]
       have hm2 : 2 * n * (j : Int) = (r2 : Int) := by rw [a7, ← HN.out, Int.natCast_mul, Int.mul_comm]
       have hb1 : r1 ≤ 16384 := by rw [a6]; exact Nat.le_trans (Nat.mul_le_mul (Nat.le_of_lt hlt) (Nat.le_refl N)) (Nat.mul_le_mul hn hn)
       have hb2 : r2 ≤ 16384 := by rw [a7]; exact Nat.le_trans (Nat.mul_le_mul (Nat.le_of_lt b0) (Nat.le_refl N)) (Nat.mul_le_mul hn hn)
       have hs1 : (r1 : Int) + (j : Int) = ((i * N + j : Nat) : Int) := by rw [a6]; simp
       have hs2 : (r2 : Int) + (i : Int) = ((j * N + i : Nat) : Int) := by rw [a7]; simp
       clear a6 a7 hij
       generalize i * N + j = a1 at *
       generalize j * N + i = a2 at *
       have hI1 : (a1 : Int) < (m.length : Int) := by have := a9.out; omega
       have hI2 : (a2 : Int) < (m.length : Int) := by have := a9.out; omega
       have HP1 := hid (show (0 : Int) ≤ (a1 : Int) by omega)
       obtain ⟨_, _, eA, _, c1⟩ := a3.rd a1 b3
       injection eA with eA; injection eA with eA1 eA2; subst eA1; subst eA2
       rw [Nat.zero_add] at c1
       have fr1 := a3.frozen a1
       obtain ⟨w5, a5⟩ : ∃ w5, w5 = wr.drew.setCell ⟨gA, a1, none⟩ (.int .i64 9223372036854775807) := ⟨_, rfl⟩
       have a4 : Own w5 base (some ⟨gA, 0, none⟩) cap (cur.set a1 9223372036854775807) := by rw [a5]; exact (a3.below (Below.refl _ _).drew).store a1 _
       have b2 : W.grownBy w5 (some gA) := by rw [a5]; exact (hg.trans (grown_of_below (Below.refl _ _).drew _)).trans (grown_setCell _ _ _)
       have q5 := h1.stay b2 (by intro e; injection e with e; have := HG.out; omega)
       have f0 : ∀ X, AnyB (SW wr.drew w5) X → X.cell? ⟨w.heap.size, 0, none⟩ = some (.int .i64 n) := fun X h => by rcases SW.any h with rfl | rfl; exact x0; exact q5.cell 0
       have f2 : ∀ X, AnyB (SW wr.drew w5) X → X.cell? ⟨w.heap.size, 2, none⟩ = some (.slice (some ⟨gA, 0, none⟩) m.length cap) := fun X h => by rcases SW.any h with rfl | rfl; exact x2; exact q5.cell 2
       have b4 := hid a5
       clear a5 x0 x1 x2 fx q0 q5
       gi_wp2
       refine wpIn_region_flowMI (ro := some l) 20 19 (SW wr.drew w5) (by kernel_rfl) (by kernel_rfl) (by kernel_rfl) (by decide) rfl ?_
       (repeat (first | (refine FlowMI.skip (by rfl) (by rfl) ?_; simp only [Act.put, List.setIfInBounds_toArray, List.set_cons_zero, List.set_cons_succ]) | (refine' FlowMI.take _ (by rfl) (by rfl) (fun W hW R hR => ?_) ?_; rotate_left; (go_simp; (try go_bits); with_reducible exact hR); simp only [Act.put, List.setIfInBounds_toArray, List.set_cons_zero, List.set_cons_succ])))
       refine FlowMI.mark (by rfl) (by rfl) (by rfl) (fun X hX R hR => ?_) ?_
       ·obtain rfl : X = wr.drew := hX
        have c1d : wr.drew.cell? ⟨gA, a1, none⟩ = some (.int .i64 (gI cur (a1 : Int))) := c1
        have fr1d : wr.drew.frozen? ⟨gA, a1, none⟩ = false := fr1
        go_simp
        exact hR _ b4.out.symm
       intro X hX
       obtain rfl : X = w5 := hX
       have hp2' : a2 < (cur.set a1 9223372036854775807).length := by simpa using b5
       obtain ⟨_, _, eA, _, c2⟩ := a4.rd a2 hp2'
       injection eA with eA; injection eA with eA1 eA2; subst eA1; subst eA2
       rw [Nat.zero_add] at c2
       have fr2 := a4.frozen a2
       have c0 := hid (a4.store a2 9223372036854775807)
       have c3 := hid (b2.trans (grown_setCell X ⟨gA, a2, none⟩ (.int .i64 9223372036854775807)))
       have HP2 := hid (show (0 : Int) ≤ (a2 : Int) by omega)
       clear f0 f2 c1 fr1 hp2' a4 b2 b4 a3 hg
       gi_wp2
       go_roundw
       case rel => exact ⟨1, by omega, by go_num, by rw [a8.out, HE.out]; exact c0.out, c3.out⟩
       case measure => decide
     ·have a8 : Hid (fPart N v i 2 (fAll N v i m) = fStep N i (2 * v + 1) (fPart N v i 1 (fAll N v i m))) := hid rfl
      have a9 := hid (show (fPart N v i 1 (fAll N v i m)).length = m.length by rw [fPart_len, fAll_len])
      generalize hcur : fPart N v i 1 (fAll N v i m) = cur at *
      obtain ⟨j, hj⟩ : ∃ j : Nat, j = (2 * v + 1) := ⟨_, rfl⟩
      have b8 : 2 * (v : Int) + 1 = (j : Int) := by rw [hj]; simp
      have b0 : j < N := by have := HN.out; have := HV.out; omega
      rw [← hj] at a8
      have HJ := hid hj
      have ix := fun W => idx2i_1 (.int .i64 (2 * (v : Int))) (.int .i64 (2 * (v : Int) + 1)) W
      rw [b8] at ix
      clear hj hcur
      by_cases hij : i = j
      ·have t1 : ((i : Int) != (j : Int)) = false := by rw [hij]; simp
       have HE : Hid (fStep N i j cur = cur) := hid (by unfold fStep; rw [if_pos hij])
       clear hij x0 x1 x2 fx q0
       gi_wp2
       go_roundw
       case rel => exact ⟨2, by omega, by go_num, by rw [a8.out, HE.out]; exact a3, hg⟩
       case measure => decide
      ·have t1 : ((i : Int) != (j : Int)) = true := by simp; omega
       have HE : Hid (fStep N i j cur = (cur.set (i * N + j) 9223372036854775807).set (j * N + i) 9223372036854775807) := hid (by unfold fStep; rw [if_neg hij])
       have b3 := pos_lt hlt b0
       have b5 := pos_lt b0 hlt
       rw [← HL.out, ← a9.out] at b3 b5
       obtain ⟨r1, a6⟩ : ∃ r, r = i * N := ⟨_, rfl⟩
       obtain ⟨r2, a7⟩ : ∃ r, r = j * N := ⟨_, rfl⟩
       have hm1 : 2 * n * (i : Int) = (r1 : Int) := by rw [a6, ← HN.out, Int.natCast_mul, Int.mul_comm]
       have hm2 : 2 * n * (j : Int) = (r2 : Int) := by rw [a7, ← HN.out, Int.natCast_mul, Int.mul_comm]
       have hb1 : r1 ≤ 16384 := by rw [a6]; exact Nat.le_trans (Nat.mul_le_mul (Nat.le_of_lt hlt) (Nat.le_refl N)) (Nat.mul_le_mul hn hn)
       have hb2 : r2 ≤ 16384 := by rw [a7]; exact Nat.le_trans (Nat.mul_le_mul (Nat.le_of_lt b0) (Nat.le_refl N)) (Nat.mul_le_mul hn hn)
       have hs1 : (r1 : Int) + (j : Int) = ((i * N + j : Nat) : Int) := by rw [a6]; simp
       have hs2 : (r2 : Int) + (i : Int) = ((j * N + i : Nat) : Int) := by rw [a7]; simp
       clear a6 a7 hij
       generalize i * N + j = a1 at *
       generalize j * N + i = a2 at *
       have hI1 : (a1 : Int) < (m.length : Int) := by have := a9.out; omega
       have hI2 : (a2 : Int) < (m.length : Int) := by have := a9.out; omega
       have HP1 := hid (show (0 : Int) ≤ (a1 : Int) by omega)
       obtain ⟨_, _, eA, _, c1⟩ := a3.rd a1 b3
       injection eA with eA; injection eA with eA1 eA2; subst eA1; subst eA2
       rw [Nat.zero_add] at c1
       have fr1 := a3.frozen a1
       obtain ⟨w5, a5⟩ : ∃ w5, w5 = wr.drew.setCell ⟨gA, a1, none⟩ (.int .i64 9223372036854775807) := ⟨_, rfl⟩
       have a4 : Own w5 base (some ⟨gA, 0, none⟩) cap (cur.set a1 9223372036854775807) := by rw [a5]; exact (a3.below (Below.refl _ _).drew).store a1 _
       have b2 : W.grownBy w5 (some gA) := by rw [a5]; exact (hg.trans (grown_of_below (Below.refl _ _).drew _)).trans (grown_setCell _ _ _)
       have q5 := h1.stay b2 (by intro e; injection e with e; have := HG.out; omega)
       have f0 : ∀ X, AnyB (SW wr.drew w5) X → X.cell? ⟨w.heap.size, 0, none⟩ = some (.int .i64 n) := fun X h => by rcases SW.any h with rfl | rfl; exact x0; exact q5.cell 0
       have f2 : ∀ X, AnyB (SW wr.drew w5) X → X.cell? ⟨w.heap.size, 2, none⟩ = some (.slice (some ⟨gA, 0, none⟩) m.length cap) := fun X h => by rcases SW.any h with rfl | rfl; exact x2; exact q5.cell 2
       have b4 := hid a5
       clear a5 x0 x1 x2 fx q0 q5
       gi_wp2
       refine wpIn_region_flowMI (ro := some l) 20 19 (SW wr.drew w5) (by kernel_rfl) (by kernel_rfl) (by kernel_rfl) (by decide) rfl ?_
       (repeat (first | (refine FlowMI.skip (by rfl) (by rfl) ?_; simp only [Act.put, List.setIfInBounds_toArray, List.set_cons_zero, List.set_cons_succ]) | (refine' FlowMI.take _ (by rfl) (by rfl) (fun W hW R hR => ?_) ?_; rotate_left; (go_simp; (try go_bits); with_reducible exact hR); simp only [Act.put, List.setIfInBounds_toArray, List.set_cons_zero, List.set_cons_succ])))
       refine FlowMI.mark (by rfl) (by rfl) (by rfl) (fun X hX R hR => ?_) ?_
       ·obtain rfl : X = wr.drew := hX
        have c1d : wr.drew.cell? ⟨gA, a1, none⟩ = some (.int .i64 (gI cur (a1 : Int))) := c1
        have fr1d : wr.drew.frozen? ⟨gA, a1, none⟩ = false := fr1
        go_simp
        exact hR _ b4.out.symm
       intro X hX
       obtain rfl : X = w5 := hX
       have hp2' : a2 < (cur.set a1 9223372036854775807).length := by simpa using b5
       obtain ⟨_, _, eA, _, c2⟩ := a4.rd a2 hp2'
       injection eA with eA; injection eA with eA1 eA2; subst eA1; subst eA2
       rw [Nat.zero_add] at c2
       have fr2 := a4.frozen a2
       have c0 := hid (a4.store a2 9223372036854775807)
       have c3 := hid (b2.trans (grown_setCell X ⟨gA, a2, none⟩ (.int .i64 9223372036854775807)))
       have HP2 := hid (show (0 : Int) ≤ (a2 : Int) by omega)
       clear f0 f2 c1 fr1 hp2' a4 b2 b4 a3 hg
       gi_wp2
       go_roundw
       case rel => exact ⟨2, by omega, by go_num, by rw [a8.out, HE.out]; exact c0.out, c3.out⟩
       case measure => decide
     ·replace a3 : Own wr base (some ⟨gA, 0, none⟩) cap (fAll N v (i + 1) m) := a3
      clear x0 x1 x2 fx q0
      gi_wp2
      go_roundw
      case rel => exact ⟨i + 1, by omega, by go_num, a3, hg⟩
      case measure => simp [RowKit.intOf]; omega
   ·obtain rfl : i = N := by omega
    have hge : ¬ ((i : Int) < 2 * n) := by have := HN.out; omega
    gi_wp2
    clear x0 x1 x2 fx
    have hb9 : Below base W wr := below_grown hg (fun k e => by injection e with e; have := HG.out; omega) (Nat.le_trans hbase b1.size)
    refine ⟨KeepsFrom.of_grownBy hg (fun j e => by injection e with e; have := HG.out; omega), KeepsWalks.of_grownBy hg (fun j o e ho => ?_), ⟨⟨q0, ?_, ?_⟩, Nat.le_trans HSW.out hg.size⟩, b1.trans hb9⟩
    ·injection e with e
     subst e
     exact own_cells h2 ho
    ·show Own wr base (some ⟨gA, 0, none⟩) cap (forgetM i v m)
     rw [← HFA.out]; exact a3
    ·exact h30.stay hg (by intro e; injection e with e; have := HG.out; omega)
 case done =>
  rintro D xs W hD hxs ⟨⟨⟨h1, h2, h3⟩, h7⟩, b1⟩ hK
  obtain rfl := b7.out
  replace h2 : Own W base (some ⟨gA, 0, none⟩) cap (forgetM N v m) := by rw [if_neg (by omega)] at h2; exact h2
  have hne := own_blk' h2 h3 (by decide)
  obtain ⟨x0, x1, x2, fx⟩ := octbox h1
  obtain ⟨y0, y1, y2, fy⟩ := octbox h3
  dsimp only
  gi_wp2
  clear x0 x1 x2 fx y0 y1 y2 fy
  have hle := Nat.le_trans hbase b1.size
  have o7 := h2.far3 (g := w.heap.size + 1) (v0 := .int .i64 n) (v1 := .bool false) (v2 := .slice (some ⟨gA, 0, none⟩) m.length cap) hne
  have p3 := h3.set3 (v0 := .int .i64 n) (v1 := .bool false) (v2 := .slice (some ⟨gA, 0, none⟩) m.length cap)
  have hb3 := b1.trans (below3 (W := W) (g := w.heap.size + 1) (v0 := .int .i64 n) (v1 := .bool false) (v2 := .slice (some ⟨gA, 0, none⟩) m.length cap) (by omega) hle)
  have hK3 := heap3 (g := w.heap.size + 1) (v0 := .int .i64 n) (v1 := .bool false) (v2 := .slice (some ⟨gA, 0, none⟩) m.length cap) hK rfl
  clear hK hne
  generalize ((W.setCell ⟨w.heap.size + 1, 0, none⟩ (.int .i64 n)).setCell ⟨w.heap.size + 1, 1, none⟩ (.bool false)).setCell ⟨w.heap.size + 1, 2, none⟩ (.slice (some ⟨gA, 0, none⟩) m.length cap) = W3 at *
  have hKg := grownBy_putObj' W3 D (.deferred none)
  have p4 := blk_kept p3 hKg (fun r e => by cases e; exact ⟨_, hK3, rfl⟩)
  have o4 := own_kept o7 hKg (fun r e => by cases e; exact ⟨_, hK3, rfl⟩)
  have hb4 : Below base w _ := hb3.trans (below_grown hKg (fun k e => by injection e with e; omega) (Nat.le_trans hbase hb3.size))
  obtain ⟨z0, z1, z2, fz⟩ := octbox p4
  refine ⟨by simp, .inl ⟨_, _, rfl, run_takeDeferred hK3, ?_⟩⟩
  refine ⟨.agg #[n, false, .slice (some ⟨gA, 0, none⟩) m.length cap], by simp [results, Tryz.results227, go_sem, z0, z1, z2], rfl, o4, hb4⟩
 case stop =>
  rintro D c pre W _ _ h _
  exact h.elim
end
section
set_option maxRecDepth 100000
set_option maxHeartbeats 8000000
open Go.RowKit Go.Maps
attribute [local go_sem ↓] Go.wp_at_zero Go.wp_at_succ
theorem wpList_insert_own {H : Type} {P : Program} (w : World) {ops : Array Oper} {rest : List Oper} {o : Oper} {a : Act} {Q : Exit → Act → World → Prop}
  (hg : o.guard = none) (m x v : Operand) (t : TypeId) (hop : o.op = Op.insert t m x v)
  (k e : TypeId) (K : Keyed P k) (ht : P.underlying t = some (.map k e)) (R : Value → Option (DataW H × List MemPlace)) (b n : Nat) (D : DataW H)
  (hm : a.eval m = .map (some b)) (hown : w.ownsMap P k R b n D) (hn : n < maxLen) (key val : Value) (kl : Lit) (hx : a.eval x = key) (hv : a.eval v = val) (hkey : keyOf P k key = some kl)
  (d : DataW H) (ps : List MemPlace) (hval : R val = some (d, ps))
  (hK : ∀ w', w'.ownsMap P k R b (n + 1) (D.put kl d) → w.grownBy w' (some b) → wpList P ops Q rest (a.put o.dst undef) w') :
  wpList P ops Q (o :: rest) a w :=
 wpList_plain hg fun K' hK' => by
  obtain ⟨w', b9, r1, r2⟩ := hown.update K ht hn hkey hval
  unfold Oper.wp
  simp [execOp, hop, hm, hx, hv, b9, Result.andThen]
  exact hK' _ _ (hK w' r1 r2)
theorem oforgets_e (n : Int) (A : Option Addr) (cap b base : Nat) (w : World) (own : Own w base A cap []) (hbase : base ≤ w.heap.size) :
  Calls Tryz.prog 227 #[.agg #[n, true, .slice A 0 cap], .map (some b)] w fun e w' => e = .returned (.agg #[n, true, .slice A 0 cap]) ∧ Own w' base A cap [] ∧ Below base w w' := by
 obtain ⟨p0, a1, b6⟩ := new_one w #[n, true, .slice A 0 cap] 24
 go_enter Tryz.func227, Tryz.ntmps227
 obtain ⟨x0, x1, x2, fx⟩ := octbox p0
 go_wp2
 have hX : ∀ W, Below w.heap.size w W → Own W base A cap [] ∧ Below base w W := fun W hW => ⟨own.below hW, hW.mono hbase⟩
 refine bodyPost_ret (v := .agg #[n, true, .slice A 0 cap]) (by simp [results, Tryz.results227, go_sem]) rfl (And.intro rfl (hX _ ?_))
 repeat (first | exact Below.refl _ _ | refine Below.setCell ?_ (by simp; try omega) _ | refine Below.alloc ?_ (by simp; try omega) _)
def RD : Value → Option (DataW Unit × List MemPlace) := fun _ => some (.map [], [])
theorem oForget_ok (o : O) (ok : check o = 0) (v : Nat) (hv : (v : Int) < o.n) (A : Option Addr) (cap : Nat) (w : World) (hx : Rd w w.heap.size A o.m) (hm : o.m.length ≤ 17592186044416) :
  Calls Tryz.prog 192 #[.agg #[o.n, o.e, .slice A o.m.length cap], (v : Int)] w (OctErr w (forgetO o v) 0) := by
 have a5 : Tryz.prog.underlying 3 = some (.int .i64) := Tryz.underlying3
 obtain ⟨p0, p1, a1, b6⟩ := new_two w #[o.n, o.e, .slice A o.m.length cap] #[.int .i64 0, false, .slice none 0 0] 24 24
 replace hx := hx.up a1
 have HK := hid ok
 have HC := hid (fun W h => check_any o A cap W h (by omega))
 rw [HK.out] at HC
 have HCL := hid (fun W (h : Rd W W.heap.size A o.m) => oclosed_ok o HK.out A cap W h hm)
 have okc : OkO o.n (closeO o) := OkO.close ⟨rfl, ok⟩
 have HF := hid (show forgetO o v = if (closeO o).e then closeO o else ⟨o.n, false, forgetM (2 * o.n).toNat v (closeO o).m⟩ from rfl)
 have t1 : decide ((v : Int) < 0) = false := by rw [decide_eq_false_iff_not]; omega
 have t2 : decide (o.n ≤ (v : Int)) = false := by rw [decide_eq_false_iff_not]; omega
 have hv0 : (v : Int) ≤ 64 := by have := okc.rng; omega
 have HV := hid hv
 generalize forgetO o v = F at *
 generalize closeO o = q at *
 clear ok hv b6
 have hmm := @run_makeMap Tryz.prog
 go_enter Tryz.func192, Tryz.ntmps192
 obtain ⟨x0, x1, x2, fx⟩ := octbox p0
 go_wp2_with fail
 clear x0 x1 x2 fx
 generalize (w.alloc (Obj.cells #[o.n, o.e, .slice A o.m.length cap] 24)).alloc (Obj.cells #[.int .i64 0, false, .slice none 0 0] 24) = w0 at *
 (with_reducible refine (HC.out w0 hx).mono ?_)
 clear HC
 rintro e1 w1 ⟨rfl, a6⟩
 replace p0 := p0.later a6
 replace p1 := p1.later a6
 replace hx := hx.up a6
 replace a1 := bup a1 a6
 clear a6
 obtain ⟨x0, x1, x2, fx⟩ := octbox p0
 go_wp2_with fail
 clear x0 x1 x2 fx
 have hp0 : w.heap.size < w1.heap.size := p0.lt
 have hp1 : w.heap.size + 1 < w1.heap.size := p1.lt
 (with_reducible refine (HCL.out w1 hx).mono ?_)
 clear HCL
 rintro e2 w2 ⟨A2, c2, rfl, a0, a8⟩
 replace p0 := p0.later a8
 replace p1 := p1.later a8
 rcases okc.form with rfl | ⟨N, cm, hN, hn, rfl, hc⟩
 ·unfold emptyO at *
  dsimp only [List.length_nil] at *
  obtain rfl : F = ⟨o.n, true, []⟩ := by rw [HF.out]; rfl
  have a3 := World.ownsMap_made w2 Tryz.prog 3 RD
  have b0 : ∀ g, A2 = some ⟨g, 0, none⟩ → g ≠ w2.heap.size := fun g hg => by
   rcases a0.form with ⟨h, _⟩ | ⟨g', h, _, h'⟩
   ·rw [h] at hg; cases hg
   ·rw [h] at hg; injection hg with hg; injection hg with hg; omega
  replace a0 := a0.below (new1 w2 (.map #[] 0))
  replace p1 := p1.later (new1 w2 (.map #[] 0))
  have b5 := bup a8 (new1 w2 (.map #[] 0))
  have a9 := b5.size
  go_wp2_with (first | (refine wpList_insert_own _ rfl _ _ _ 221 rfl 3 220 (int_keyed a5) Tryz.underlying221 RD w2.heap.size 0 (.map []) rfl a3 (by unfold maxLen; omega) _ _ (.int .i64 (v : Int)) rfl rfl (keyOf_int_mk a5 (WalkArith.wf_i64 (by omega))) (.map []) [] rfl ?_; intro w4 a7 b2))
  have a4 := a0.grown b2 (own_not a0 b0)
  replace p1 := p1.stay b2 (by intro e; injection e with e; have := a8.size; omega)
  have b7 : Below w1.heap.size w1 w4 := b5.trans (below_grown b2 (fun k e => by injection e with e; have := a8.size; omega) a9)
  have b1 := b7.size
  (with_reducible refine (oforgets_e o.n A2 c2 w2.heap.size w1.heap.size w4 a4 b1).mono ?_)
  rintro e5 w5 ⟨rfl, a2, b4⟩
  replace p1 := p1.below b4 hp1
  have b3 := bup a1 (b7.trans b4)
  obtain ⟨y0, y1, y2, fy⟩ := octbox p1
  go_wp2
  have q9 := p1.set3 (v0 := .int .i64 o.n) (v1 := .bool true) (v2 := .slice A2 0 c2)
  have o9 := a2.far3 (g := w.heap.size + 1) (v0 := .int .i64 o.n) (v1 := .bool true) (v2 := .slice A2 0 c2) (own_blk' a2 p1 (by decide))
  obtain ⟨z0, z1, z2, fz⟩ := octbox q9
  refine bodyPost_ret (v := .tuple #[.agg #[o.n, true, .slice A2 0 c2], .int .i64 0]) (by simp [results, Tryz.results192, go_sem, z0, z1, z2]) rfl ?_
  exact ⟨A2, c2, rfl, o9.less a1.size, b3.trans (below3 (by omega) b3.size)⟩
 ·dsimp only at a0 ⊢
  obtain rfl : F = ⟨o.n, false, forgetM N v cm⟩ := by rw [HF.out]; dsimp only; rw [if_neg (by simp), show (2 * o.n).toNat = N by omega]
  have HFL := hid (forgetM_len N v cm)
  have a3 := World.ownsMap_made w2 Tryz.prog 3 RD
  have b0 : ∀ g, A2 = some ⟨g, 0, none⟩ → g ≠ w2.heap.size := fun g hg => by
   rcases a0.form with ⟨h, _⟩ | ⟨g', h, _, h'⟩
   ·rw [h] at hg; cases hg
   ·rw [h] at hg; injection hg with hg; injection hg with hg; omega
  replace a0 := a0.below (new1 w2 (.map #[] 0))
  replace p1 := p1.later (new1 w2 (.map #[] 0))
  have b5 := bup a8 (new1 w2 (.map #[] 0))
  have a9 := b5.size
  go_wp2_with (first | (refine wpList_insert_own _ rfl _ _ _ 221 rfl 3 220 (int_keyed a5) Tryz.underlying221 RD w2.heap.size 0 (.map []) rfl a3 (by unfold maxLen; omega) _ _ (.int .i64 (v : Int)) rfl rfl (keyOf_int_mk a5 (WalkArith.wf_i64 (by omega))) (.map []) [] rfl ?_; intro w4 a7 b2))
  have a4 := a0.grown b2 (own_not a0 b0)
  replace p1 := p1.stay b2 (by intro e; injection e with e; have := a8.size; omega)
  have b7 : Below w1.heap.size w1 w4 := b5.trans (below_grown b2 (fun k e => by injection e with e; have := a8.size; omega) a9)
  have b1 := b7.size
  have b8 := hc.len
  obtain ⟨gA, rfl⟩ : ∃ g, A2 = some ⟨g, 0, none⟩ := by
   rcases a4.form with ⟨_, h, _⟩ | ⟨g, h, _⟩
   ·have : 1 * 1 ≤ N * N := Nat.mul_le_mul (by have := HV.out; omega) (by have := HV.out; omega)
    rw [h] at b8; simp at b8; omega
   ·exact ⟨g, h⟩
  clear b8
  have HX := hid ((callsIn_wide (n := 10)).1 (oforgets_in o.n cm N hN hn hc v HV.out gA c2 w1.heap.size w2.heap.size (0 + 1) (.map []) w4 a4 b1 a7))
  (with_reducible refine HX.out.mono ?_)
  clear HX
  rintro e5 w5 ⟨rfl, a2, b4⟩
  have own5' := a2
  generalize forgetM N v cm = fm at *
  replace p1 := p1.below b4 hp1
  have b3 := bup a1 (b7.trans b4)
  obtain ⟨y0, y1, y2, fy⟩ := octbox p1
  go_wp2
  have q9 := p1.set3 (v0 := .int .i64 o.n) (v1 := .bool false) (v2 := .slice (some ⟨gA, 0, none⟩) cm.length c2)
  have o9 := a2.far3 (g := w.heap.size + 1) (v0 := .int .i64 o.n) (v1 := .bool false) (v2 := .slice (some ⟨gA, 0, none⟩) cm.length c2) (own_blk' a2 p1 (by decide))
  obtain ⟨z0, z1, z2, fz⟩ := octbox q9
  refine bodyPost_ret (v := .tuple #[.agg #[o.n, false, .slice (some ⟨gA, 0, none⟩) cm.length c2], .int .i64 0]) (by simp [results, Tryz.results192, go_sem, z0, z1, z2]) rfl ?_
  exact ⟨(some ⟨gA, 0, none⟩), c2, by dsimp only; rw [HFL.out], o9.less a1.size, b3.trans (below3 (by omega) b3.size)⟩
theorem tforgets_ok (o : O) (ok : check o = 0) (v : Nat) (hv : (v : Int) < o.n) (A : Option Addr) (cap : Nat) (w : World) (hx : Rd w w.heap.size A o.m) (hm : o.m.length ≤ 17592186044416) :
  Calls Tryz.prog 132 #[.agg #[o.n, o.e, .slice A o.m.length cap], (v : Int)] w (OctOwn w (forgetO o v)) := by
 obtain ⟨p0, p1, a1, b6⟩ := new_two w #[o.n, o.e, .slice A o.m.length cap] #[.int .i64 0, false, .slice none 0 0] 24 24
 have hx0 := hx.up a1
 have HC := hid (oForget_ok o ok v hv A cap _ hx0 hm)
 have HSZ := hid b6
 clear b6
 generalize forgetO o v = r at *
 go_enter Tryz.func132, Tryz.ntmps132
 go_wp2_with fail
 generalize (w.alloc (Obj.cells #[o.n, o.e, .slice A o.m.length cap] 24)).alloc (Obj.cells #[.int .i64 0, false, .slice none 0 0] 24) = w0 at *
 (with_reducible refine HC.out.mono ?_)
 clear HC
 rintro e1 w1 ⟨A1, c1, rfl, own, a6⟩
 replace p1 := p1.later a6
 replace a1 := bup a1 a6
 have n3 := new1 w1 (.cells #[r.n, r.e, .slice A1 r.m.length c1] 24)
 replace p1 := p1.later n3
 replace own := own.below n3
 replace a1 := bup a1 n3
 obtain ⟨x0, x1, x2, fx⟩ := octbox p1
 go_wp2
 clear x0 x1 x2 fx
 have q3 := p1.set3 (v0 := .int .i64 r.n) (v1 := .bool r.e) (v2 := .slice A1 r.m.length c1)
 have o3 := own.far3 (g := w.heap.size + 1) (v0 := .int .i64 r.n) (v1 := .bool r.e) (v2 := .slice A1 r.m.length c1) (own_blk' own p1 (by decide))
 obtain ⟨z0, z1, z2, fz⟩ := octbox q3
 refine bodyPost_ret (v := .agg #[r.n, r.e, .slice A1 r.m.length c1]) (by simp [results, Tryz.results132, go_sem, z0, z1, z2]) rfl ⟨A1, c1, rfl, o3.less (show w.heap.size ≤ w0.heap.size by have := HSZ.out; omega), a1.trans (below3 (by omega) a1.size)⟩
end
section
open Go.RowKit
set_option maxRecDepth 100000
set_option maxHeartbeats 8000000
attribute [local go_sem ↓] Go.wp_at_zero Go.wp_at_succ
theorem Rg.val_eq (r : Rg) : r.val = .agg #[r.lo, r.hi, r.hl, r.hh] := rfl
theorem alias_rd {w w' : World} {A A1 : Option Addr} {m m1 : List Int} {c1 : Nat} (h : (A1 = A ∧ m1 = m) ∨ Own w' w.heap.size A1 c1 m1) (hx : Rd w w.heap.size A m) (hb : Below w.heap.size w w') : Rd w' w'.heap.size A1 m1 := by
 rcases h with ⟨rfl, rfl⟩ | h
 ·exact hx.up hb
 ·exact h.rd
theorem tgives_ok (o : O) (ok : check o = 0) (v : Nat) (hv : (v : Int) < o.n) (r : Rg) (hlo : I64 r.lo) (A : Option Addr) (cap : Nat) (w : World) (hx : Rd w w.heap.size A o.m) (hm : o.m.length ≤ 17592186044416) :
  Calls Tryz.prog 75 #[.agg #[o.n, o.e, .slice A o.m.length cap], (v : Int), r.val] w (OctOwn w (giveO o v r)) := by
 have okF : OkO o.n (forgetO o v) := OkO.forget ⟨rfl, ok⟩ v
 have okR : OkO o.n (rangedO (forgetO o v) v r) := okF.ranged hv r
 have hmF := OkO.small okF
 have hmR := OkO.small okR
 have HF := hid (fun W (h : Rd W W.heap.size A o.m) => tforgets_ok o ok v hv A cap W h hm)
 have HG := hid (show giveO o v r = closeO (rangedO (forgetO o v) v r) from rfl)
 generalize giveO o v r = G at *
 have HR := hid (fun A c W h => ranged_ok o.n (forgetO o v) okF v hv r hlo A c W h hmF)
 generalize forgetO o v = F at *
 rw [Rg.val_eq] at HR
 have HCL := hid (fun A c W h => tclosed_ok (rangedO F v r) okR.ok A c W h hmR)
 rw [← HG.out] at HCL
 generalize rangedO F v r = Q at *
 rw [Rg.val_eq]
 clear HG
 obtain ⟨p0, p1, p2, a3, hsz⟩ := new_three w #[o.n, o.e, .slice A o.m.length cap] #[r.lo, r.hi, r.hl, r.hh] #[.int .i64 0, false, .slice none 0 0] 24 49 24
 replace hx := hx.up a3
 have HSZ := hid hsz
 clear hsz
 go_enter Tryz.func75, Tryz.ntmps75
 go_upto_region 1 with fail
 generalize ((w.alloc (Obj.cells #[o.n, o.e, .slice A o.m.length cap] 24)).alloc (Obj.cells #[r.lo, r.hi, r.hl, r.hh] 49)).alloc (Obj.cells #[.int .i64 0, false, .slice none 0 0] 24) = w1 at *
 have f0 := laterE (show w1.cell? ⟨w.heap.size, 0, none⟩ = some (.int .i64 o.n) from p0.cell 0)
 have f1 := laterE (show w1.cell? ⟨w.heap.size, 1, none⟩ = some (.bool o.e) from p0.cell 1)
 have f2 := laterE (show w1.cell? ⟨w.heap.size, 2, none⟩ = some (.slice A o.m.length cap) from p0.cell 2)
 have j0 := laterE (show w1.cell? ⟨w.heap.size + 1, 0, none⟩ = some (.int .i64 r.lo) from p1.cell 0)
 have j1 := laterE (show w1.cell? ⟨w.heap.size + 1, 1, none⟩ = some (.int .i64 r.hi) from p1.cell 1)
 have j2 := laterE (show w1.cell? ⟨w.heap.size + 1, 2, none⟩ = some (.bool r.hl) from p1.cell 2)
 have j3 := laterE (show w1.cell? ⟨w.heap.size + 1, 3, none⟩ = some (.bool r.hh) from p1.cell 3)
 refine wp_region_flowE 5 [Sp.val (.agg #[o.n, o.e, .slice A o.m.length cap]), Sp.val (.int .i64 (v : Int)), Sp.any (IsOct F), Sp.val (.int .i64 (v : Int)), Sp.val (.agg #[r.lo, r.hi, r.hl, r.hh])] (by kernel_rfl) (by kernel_rfl) ?_
 (refine fe_t (fun _ _ => ?_))
 (refine fe_t (fun _ _ => ?_))
 refine FlowE.call 132 #[.agg #[o.n, o.e, .slice A o.m.length cap], (v : Int)] (by rfl) (fun W hW => by go_simp) (fun W hW => (HF.out W (hx.up (Ext.trans (Below.refl _ _).drew hW))).mono fun _ _ ⟨A1, c1, he, ho, hb⟩ => ⟨_, he, hb, A1, c1, rfl, ho⟩) (fun v2 l2 h2 => ?_)
 refine fe_p ?_
 (refine fe_t (fun _ _ => ?_))
 (refine fe_t (fun _ _ => ?_))
 refine FlowE.tail (fun W hW hf hd => ?_)
 replace hW : Below w1.heap.size w1 W := Ext.trans (Below.refl _ _).drew hW
 obtain ⟨A1, c1, rfl, a2, a5, -, -⟩ := fact_oct (show Sp.fact w1.drew (Sp.any (IsOct F)) v2 l2 h2 W from hf 2)
 replace a2 : Own W w.heap.size A1 c1 F.m := a2.less (by have := HSZ.out; have h5 : w1.heap.size ≤ l2 := a5; omega)
 clear hf hd f0 f1 f2 j0 j1 j2 j3 HF a5
 replace p0 := p0.later hW
 replace p1 := p1.later hW
 replace p2 := p2.later hW
 replace hx := hx.up hW
 replace a3 := bup a3 hW
 clear hx
 go_wp2_with fail
 (with_reducible refine (HR.out A1 c1 W a2.rd).mono ?_)
 rintro e_w2 w2 ⟨A2, c2, rfl, al2, a0⟩
 have b0 : Rd w2 w2.heap.size A2 Q.m := alias_rd al2 a2.rd a0
 clear a2 al2
 replace p0 := p0.later a0
 replace p1 := p1.later a0
 replace p2 := p2.later a0
 replace a3 := bup a3 a0
 go_wp2_with fail
 (with_reducible refine (HCL.out A2 c2 w2 b0).mono ?_)
 rintro e_w3 w3 ⟨A3, c3, rfl, a4, a1⟩
 have b1 := a3.size
 replace p0 := p0.later a1
 replace p1 := p1.later a1
 replace p2 := p2.later a1
 replace b0 := b0.up a1
 replace a3 := bup a3 a1
 obtain ⟨a8, a7, a6, a9⟩ := octbox p2
 go_wp2
 clear a8 a7 a6 a9
 have o9 := a4.far3 (g := w.heap.size + 2) (v0 := .int .i64 G.n) (v1 := .bool G.e) (v2 := .slice A3 G.m.length c3) (own_blk' a4 p2 (by decide))
 have hq2 : w.heap.size + 1 + 1 = w.heap.size + 2 := rfl
 have q9 := p2.set3 (v0 := .int .i64 G.n) (v1 := .bool G.e) (v2 := .slice A3 G.m.length c3)
 have hb9 := a3.trans (below3 (W := w3) (g := w.heap.size + 1 + 1) (v0 := .int .i64 G.n) (v1 := .bool G.e) (v2 := .slice A3 G.m.length c3) (by omega) a3.size)
 obtain ⟨z0, z1, z2, fz⟩ := octbox q9
 refine bodyPost_ret (v := .agg #[G.n, G.e, .slice A3 G.m.length c3]) (by simp [results, Tryz.results75, go_sem, z0, z1, z2]) rfl ?_
 exact ⟨_, _, rfl, o9.less b1, hb9⟩
end
section
open Go.RowKit
set_option maxRecDepth 100000
set_option maxHeartbeats 8000000
theorem below4 {W : World} {B g : Nat} {v0 v1 v2 v3 : Value} (hg : B ≤ g) (hB : B ≤ W.heap.size) : Below B W ((((W.setCell ⟨g, 0, none⟩ v0).setCell ⟨g, 1, none⟩ v1).setCell ⟨g, 2, none⟩ v2).setCell ⟨g, 3, none⟩ v3) := by
 have a0 := below1 (W := W) (i := 0) (v := v0) hg hB
 have s0 := Nat.le_trans hB a0.size
 have a1 := below1 (W := W.setCell ⟨g, 0, none⟩ v0) (i := 1) (v := v1) hg s0
 have s1 := Nat.le_trans s0 a1.size
 have a2 := below1 (W := (W.setCell ⟨g, 0, none⟩ v0).setCell ⟨g, 1, none⟩ v1) (i := 2) (v := v2) hg s1
 have s2 := Nat.le_trans s1 a2.size
 exact ((a0.trans a1).trans a2).trans (below1 hg s2)
theorem two_sets {w W : World} {B g8 g9 : Nat} {t8 t9 : TypeId} {a0 a1 a2 a3 b0 b1 b2 b3 : Value} (k8 : Blk W g8 t8 #[a0, a1, a2, a3]) (k9 : Blk W g9 t9 #[b0, b1, b2, b3]) (hne : g8 ≠ g9) (hb : Below B w W) (hB : B ≤ w.heap.size) (h8 : B ≤ g8) (h9 : B ≤ g9) (v0 v1 v2 v3 u0 u1 u2 u3 : Value) :
  Blk ((((((((W.setCell ⟨g8, 0, none⟩ v0).setCell ⟨g8, 1, none⟩ v1).setCell ⟨g8, 2, none⟩ v2).setCell ⟨g8, 3, none⟩ v3).setCell ⟨g9, 0, none⟩ u0).setCell ⟨g9, 1, none⟩ u1).setCell ⟨g9, 2, none⟩ u2).setCell ⟨g9, 3, none⟩ u3) g8 t8 #[v0, v1, v2, v3] ∧
  Blk ((((((((W.setCell ⟨g8, 0, none⟩ v0).setCell ⟨g8, 1, none⟩ v1).setCell ⟨g8, 2, none⟩ v2).setCell ⟨g8, 3, none⟩ v3).setCell ⟨g9, 0, none⟩ u0).setCell ⟨g9, 1, none⟩ u1).setCell ⟨g9, 2, none⟩ u2).setCell ⟨g9, 3, none⟩ u3) g9 t9 #[u0, u1, u2, u3] ∧
  Below B w ((((((((W.setCell ⟨g8, 0, none⟩ v0).setCell ⟨g8, 1, none⟩ v1).setCell ⟨g8, 2, none⟩ v2).setCell ⟨g8, 3, none⟩ v3).setCell ⟨g9, 0, none⟩ u0).setCell ⟨g9, 1, none⟩ u1).setCell ⟨g9, 2, none⟩ u2).setCell ⟨g9, 3, none⟩ u3) ∧
  ∀ q t cs, Blk W q t cs → g8 ≠ q → g9 ≠ q → Blk ((((((((W.setCell ⟨g8, 0, none⟩ v0).setCell ⟨g8, 1, none⟩ v1).setCell ⟨g8, 2, none⟩ v2).setCell ⟨g8, 3, none⟩ v3).setCell ⟨g9, 0, none⟩ u0).setCell ⟨g9, 1, none⟩ u1).setCell ⟨g9, 2, none⟩ u2).setCell ⟨g9, 3, none⟩ u3) q t cs := by
 refine ⟨?_, ?_, ?_, fun q t cs h n8 n9 => ?_⟩
 ·exact ((((((((k8.set_ 0 v0).set_ 1 v1).set_ 2 v2).set_ 3 v3).far (p := ⟨g9, 0, none⟩) (fun e => hne e.symm) u0).far (p := ⟨g9, 1, none⟩) (fun e => hne e.symm) u1).far (p := ⟨g9, 2, none⟩) (fun e => hne e.symm) u2).far (p := ⟨g9, 3, none⟩) (fun e => hne e.symm) u3)
 ·exact ((((((((k9.far (p := ⟨g8, 0, none⟩) hne v0).far (p := ⟨g8, 1, none⟩) hne v1).far (p := ⟨g8, 2, none⟩) hne v2).far (p := ⟨g8, 3, none⟩) hne v3).set_ 0 u0).set_ 1 u1).set_ 2 u2).set_ 3 u3)
 ·have s8 := below4 (W := W) (g := g8) (v0 := v0) (v1 := v1) (v2 := v2) (v3 := v3) h8 (Nat.le_trans hB hb.size)
  exact (hb.trans s8).trans (below4 h9 (Nat.le_trans (Nat.le_trans hB hb.size) s8.size))
 ·exact ((((((((h.far (p := ⟨g8, 0, none⟩) n8 v0).far (p := ⟨g8, 1, none⟩) n8 v1).far (p := ⟨g8, 2, none⟩) n8 v2).far (p := ⟨g8, 3, none⟩) n8 v3).far (p := ⟨g9, 0, none⟩) n9 u0).far (p := ⟨g9, 1, none⟩) n9 u1).far (p := ⟨g9, 2, none⟩) n9 u2).far (p := ⟨g9, 3, none⟩) n9 u3)
end
section
open Go.RowKit
set_option maxRecDepth 100000
set_option maxHeartbeats 8000000
attribute [local go_sem ↓] Go.wp_at_zero Go.wp_at_succ
def loR (r : Rg) : Int := if r.hl then r.lo else -9223372036854775808
def hiR (r : Rg) : Int := if r.hh then r.hi else 9223372036854775807
theorem shas_ok (a b n : Int) (w : World) : Calls Tryz.prog 104 #[.agg #[a, b], n] w fun e w' => e = .returned (.bool (decide (a ≤ n) && decide (n ≤ b))) ∧ Below w.heap.size w w' := by
 obtain ⟨p0, a1, -⟩ := new_one w #[a, b] 135
 obtain ⟨x0, x1, fx⟩ := opbox p0
 cases t1 : decide (a ≤ n)
 ·go_enter Tryz.func104, Tryz.ntmps104
  go_wp2
  go_ret
  exact ⟨rfl, a1⟩
 ·go_enter Tryz.func104, Tryz.ntmps104
  go_wp2
  go_ret
  exact ⟨by simp, a1⟩
theorem sends_ok (r : Rg) (w : World) : Calls Tryz.prog 99 #[r.val] w fun e w' => e = .returned (.agg #[.int .i64 (loR r), .int .i64 (hiR r)]) ∧ Below w.heap.size w w' := by
 obtain ⟨lo, hi, hl, hh⟩ := r
 unfold Rg.val loR hiR
 dsimp only
 obtain ⟨p0, p1, p2, a1, -⟩ := new_three w #[lo, hi, hl, hh] #[.int .i64 0, .int .i64 0] #[.int .i64 (-9223372036854775808), .int .i64 9223372036854775807] 49 135 135
 obtain ⟨x0, x1, x2, x3, fx⟩ := rgbox p0
 cases hl <;> cases hh
 all_goals
  go_enter Tryz.func99, Tryz.ntmps99
  go_wp2
 ·obtain ⟨-, q1, -, a0, -⟩ := new_three w #[lo, hi, false, false] #[.int .i64 (-9223372036854775808), .int .i64 9223372036854775807] #[.int .i64 (-9223372036854775808), .int .i64 9223372036854775807] 49 135 135
  obtain ⟨z0, z1, fz⟩ := opbox q1
  refine bodyPost_ret (v := .agg #[.int .i64 (-9223372036854775808), .int .i64 9223372036854775807]) (by simp [results, Tryz.results99, go_sem, z0, z1]) rfl ⟨by simp, a0⟩
 ·obtain ⟨-, q1, -, a0, -⟩ := new_three w #[lo, hi, false, true] #[.int .i64 (-9223372036854775808), hi] #[.int .i64 (-9223372036854775808), hi] 49 135 135
  obtain ⟨z0, z1, fz⟩ := opbox q1
  refine bodyPost_ret (v := .agg #[.int .i64 (-9223372036854775808), hi]) (by simp [results, Tryz.results99, go_sem, z0, z1]) rfl ⟨by simp, a0⟩
 ·obtain ⟨-, q1, -, a0, -⟩ := new_three w #[lo, hi, true, false] #[lo, .int .i64 9223372036854775807] #[lo, .int .i64 9223372036854775807] 49 135 135
  obtain ⟨z0, z1, fz⟩ := opbox q1
  refine bodyPost_ret (v := .agg #[lo, .int .i64 9223372036854775807]) (by simp [results, Tryz.results99, go_sem, z0, z1]) rfl ⟨by simp, a0⟩
 ·obtain ⟨-, q1, -, a0, -⟩ := new_three w #[lo, hi, true, true] #[lo, hi] #[lo, hi] 49 135 135
  obtain ⟨z0, z1, fz⟩ := opbox q1
  refine bodyPost_ret (v := .agg #[lo, hi]) (by simp [results, Tryz.results99, go_sem, z0, z1]) rfl ⟨by simp, a0⟩
end
section
open Go.RowKit
set_option maxRecDepth 100000
set_option maxHeartbeats 8000000
attribute [local go_sem ↓] Go.wp_at_zero Go.wp_at_succ
theorem ssize_ok (n : Int) (hn : I64 n) (w : World) : Calls Tryz.prog 182 #[n] w fun e w' => e = .returned (.int .u64 (if n < 0 then -n else n)) ∧ w' = w := by
 unfold I64 at hn
 obtain ⟨n0, n1⟩ := hn
 by_cases h : n < 0
 ·rw [if_pos h]
  have t1 : decide (n < 0) = true := by rw [decide_eq_true_eq]; exact h
  have u0 : (n + 18446744073709551616 : Int) % 18446744073709551616 = n + 18446744073709551616 := by omega
  have u1 : n % 18446744073709551616 = n + 18446744073709551616 := by omega
  go_enter Tryz.func182, Tryz.ntmps182
  go_wp2
  have hw : IntKind.u64.wrap (-IntKind.u64.wrap n) = -n := by
   have e1 : IntKind.u64.wrap n = n + 18446744073709551616 := u1
   rw [e1]
   show (-(n + 18446744073709551616)) % 18446744073709551616 = -n
   omega
  rw [hw]
  go_ret
  exact ⟨rfl, rfl⟩
 ·rw [if_neg h]
  have t1 : decide (n < 0) = false := by rw [decide_eq_false_iff_not]; exact h
  have u1 : n % 18446744073709551616 = n := by omega
  go_enter Tryz.func182, Tryz.ntmps182
  go_wp2
  go_ret
  exact ⟨rfl, rfl⟩
end
end Go.Proofs.YtnmpgijiimglcaaGreat
