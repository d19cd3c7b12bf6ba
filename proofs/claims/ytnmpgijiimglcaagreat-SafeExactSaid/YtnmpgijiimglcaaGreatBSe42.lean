import Derived.Test.YtnmpgijiimglcaaGreatBSe24
import Derived.Test.YtnmpgijiimglcaaGreatBSe27
namespace Go.Proofs.YtnmpgijiimglcaaGreat
open Go.RowKit
set_option maxRecDepth 100000
set_option maxHeartbeats 8000000
section
attribute [local go_sem ↓] Go.wp_at_zero Go.wp_at_succ
theorem zf4 (v i : Nat) (g1 : Nat) (w : World) (h1 : Blk w g1 3 #[(v : Int)]) (hi : i ≤ 1000) :
  Calls Tryz.prog 194 #[(i : Int), .pointer (some ⟨g1, 0, none⟩)] w fun e w' => e = .returned (.int .i64 ((otherV v i : Nat) : Int)) ∧ w' = w := by
 have x0 := h1.cell 0
 obtain ⟨q, hq⟩ : ∃ q : Nat, q = i / 2 := ⟨_, rfl⟩
 have e1 : (i : Int).tdiv 2 = (q : Int) := by rw [hq]; exact (Int.tdiv_eq_ediv_of_nonneg (by omega)).trans (by omega)
 have e2 : (i : Int) / 2 = (q : Int) := by rw [hq]; omega
 have hq2 : (q : Int) ≤ 1000 := by omega
 have e5 : ((i / 2 : Nat) : Int) = (q : Int) := by rw [hq]
 have hbx := zbH hi
 have HB : Hid (otherV v i = if q = v then nx i else i) := hid (by unfold otherV; rw [← hq])
 clear hq
 by_cases hd : q = v
 ·subst hd
  have t1 : ((q : Int) == (q : Int)) = true := by simp
  go_enter Tryz.func194, Tryz.ntmps194
  go_wp2
  go_ret
  exact ⟨by rw [HB.out]; simp, rfl⟩
 ·have t1 : ((q : Int) == (v : Int)) = false := by rw [beq_eq_false_iff_ne]; omega
  go_enter Tryz.func194, Tryz.ntmps194
  have HD := hid hd
  clear hd
  go_wp2
  go_ret
  exact ⟨by rw [HB.out, if_neg HD.out]; rfl, rfl⟩
def ze5 (N v : Nat) (m : List Int) (p : Nat) : Int := G N m (otherV v (p / N)) (otherV v (p % N))
theorem zhR (N v : Nat) (m : List Int) : zbI (ze5 N v m) m.length m.length = zc3 N v m := ze7 _ _
theorem zia (n : Int) (m : List Int) (N : Nat) (hN : (N : Int) = 2 * n) (hn : N ≤ 128) (hc : Cells N m) (v : Nat) (A : Option Addr) (cap : Nat) (w : World) (hx : Rd w w.heap.size A m) (hm : m.length ≤ 17592186044416) :
  Calls Tryz.prog 137 #[.agg #[n, false, .slice A m.length cap], (v : Int)] w (zbh w (closeO ⟨n, false, zc3 N v m⟩)) := by
 have okq : OkO n ⟨n, false, zc3 N v m⟩ := OkO.of_cells hN hn (zfx (by omega) hc)
 have HN := hid hN
 have hl := hc.len
 have HL := hid hl
 have hn0 : 0 ≤ 2 * n := by omega
 have hn1 : 2 * n ≤ 128 := by omega
 have hn2 : 0 ≤ n := by omega
 have hmk := zc6 m.length hm
 have HSF := hid (zhR N v m)
 have HOL := hid (fun i (hi : i < N) => zb3 (v := v) (show N % 2 = 0 by omega) hi)
 clear hN hl hc
 obtain ⟨p0, p1, p2, a3, -⟩ := zaj w #[n, false, .slice A m.length cap] #[(v : Int)] #[.int .i64 0, false, .slice none 0 0] 24 3 24
 go_enter Tryz.func137, Tryz.ntmps137
 go_upto_region 2 with fail
 clear a3 p0 p1 p2
 obtain ⟨p0, p1, p2, hb0, a7⟩ := zaj w #[n, false, .slice A m.length cap] #[(v : Int)] #[.int .i64 0, false, .slice none 0 0] 24 3 24
 replace hx := hx.up hb0
 generalize ((w.alloc (Obj.cells #[n, false, .slice A m.length cap] 24)).alloc (Obj.cells #[(v : Int)] 3)).alloc (Obj.cells #[.int .i64 0, false, .slice none 0 0] 24) = w0 at *
 go_cut [6] (fun s12 W => ∃ gO gS : Nat, s12 = .pointer (some ⟨gO, 0, none⟩) ∧ w.heap.size + 3 ≤ gO ∧ gO ≠ gS ∧ Blk W gO 24 #[n, false, .slice (some ⟨gS, 0, none⟩) m.length m.length] ∧ Own W (w.heap.size + 3) (some ⟨gS, 0, none⟩) m.length (List.replicate m.length 0) ∧ Below (w.heap.size + 3) w0 W)
 case first =>
  obtain ⟨x0, x1, x2, fx⟩ := zaa p0
  have hszd : w0.drew.heap.size = w.heap.size + 3 := a7
  go_region_held3 (fun W => W.cell? ⟨w.heap.size, 0, none⟩ = some (.int .i64 n) ∧ W.cell? ⟨w.heap.size, 2, none⟩ = some (.slice A m.length cap)) (go_keep) (fail)
  all_goals (go_wp2_with fail; go_meet)
  ·obtain ⟨q1, q2, q3⟩ := zkc w0 a7 hm #[n, false, .slice (some ⟨w.heap.size + 3, 0, none⟩) m.length m.length] 24
   exact ⟨_, _, rfl, by omega, by omega, q1, q2, q3⟩
  ·obtain ⟨q1, q2, q3⟩ := zkd w0 a7 hm #[n, false, .slice (some ⟨w.heap.size + 3 + 1, 0, none⟩) m.length m.length] 24
   exact ⟨_, _, rfl, by omega, by omega, q1, q2, q3⟩
 case rest =>
  obtain ⟨gO, gS, rfl, hgO, hne, a8, a4, b4⟩ := hcut
  rename_i w1 _
  have p0' := p0.below b4 (by omega)
  obtain ⟨x0, x1, x2, fx⟩ := zaa p0'
  go_wp2
  clear x0 x1 x2 fx p0'
  have b1 := hid a7
  clear a7
  go_loopw [20] (fun t wq => ∃ i : Nat, i ≤ N ∧ t = .int .i64 i ∧ Own wq (w.heap.size + 3) (some ⟨gS, 0, none⟩) m.length (zbI (ze5 N v m) m.length (i * N)) ∧ Blk wq gO 24 #[n, false, .slice (some ⟨gS, 0, none⟩) m.length m.length] ∧ Below (w.heap.size + 3) w0 wq) (fun t _ => N - (RowKit.intOf t).toNat)
  case atStart => exact ⟨0, by omega, rfl, by rw [Nat.zero_mul]; unfold zbI; simpa using a4, a8, b4⟩
  case round =>
   clear a4 a8 b4
   obtain ⟨i, hi, rfl, own, kO, hb⟩ := hrel
   have q0 := p0.below hb (by omega)
   obtain ⟨x0, x1, x2, fx⟩ := zaa q0
   by_cases hlt : i < N
   ·have hlti : (i : Int) < 2 * n := by have := HN.out; omega
    go_wp2
    clear x0 x1 x2 fx q0
    have hsw : w.heap.size + 3 ≤ wr.heap.size := by have := hb.size; have := b1.out; omega
    go_loopw [26] (fun t wq => ∃ j : Nat, j ≤ N ∧ t = .int .i64 j ∧ Own wq (w.heap.size + 3) (some ⟨gS, 0, none⟩) m.length (zbI (ze5 N v m) m.length (i * N + j)) ∧ Blk wq gO 24 #[n, false, .slice (some ⟨gS, 0, none⟩) m.length m.length] ∧ Below (w.heap.size + 3) w0 wq) (fun t _ => N - (RowKit.intOf t).toNat)
    case atStart => exact ⟨0, by omega, rfl, own, kO, hb⟩
    case round =>
     clear own kO hb
     obtain ⟨j, hj, rfl, own, kO, hb⟩ := hrel
     by_cases hlt2 : j < N
     ·have hltj : (j : Int) < 2 * n := by have := HN.out; omega
      have b6 : i * N + j < m.length := by
       rw [HL.out]
       have : (i + 1) * N ≤ N * N := Nat.mul_le_mul_right _ hlt
       rw [Nat.succ_mul] at this; omega
      have b3 := HOL.out i hlt
      have hbl := HOL.out j hlt2
      obtain ⟨a, ha⟩ : ∃ a, a = otherV v i := ⟨_, rfl⟩
      obtain ⟨b, b7⟩ : ∃ b, b = otherV v j := ⟨_, rfl⟩
      have HC1 := hid (fun W h1 => zf4 v i (w.heap.size + 1) W h1 (by omega))
      have HC2 := hid (fun W h1 => zf4 v j (w.heap.size + 1) W h1 (by omega))
      rw [← ha] at b3 HC1
      rw [← b7] at hbl HC2
      have hql : a * N + b < m.length := by
       rw [HL.out]
       have : (a + 1) * N ≤ N * N := Nat.mul_le_mul_right _ b3
       rw [Nat.succ_mul] at this; omega
      have HF : Hid (ze5 N v m (i * N + j) = gI m ((a * N + b : Nat) : Int)) := hid (by unfold ze5; rw [zdE hlt2, zdH hlt2, ← ha, ← b7]; rfl)
      clear ha b7
      obtain ⟨r, b2⟩ : ∃ r, r = i * N := ⟨_, rfl⟩
      have hm1 : 2 * n * (i : Int) = (r : Int) := by rw [b2, ← HN.out, Int.natCast_mul, Int.mul_comm]
      have hr1 : r ≤ 16384 := by rw [b2]; exact Nat.le_trans (Nat.mul_le_mul (Nat.le_of_lt hlt) (Nat.le_refl N)) (Nat.mul_le_mul hn hn)
      have hm2 : (r : Int) + (j : Int) = ((i * N + j : Nat) : Int) := by rw [b2]; simp
      obtain ⟨r2, a0⟩ : ∃ r, r = a * N := ⟨_, rfl⟩
      have hm3 : 2 * n * (a : Int) = (r2 : Int) := by rw [a0, ← HN.out, Int.natCast_mul, Int.mul_comm]
      have hr2 : r2 ≤ 16384 := by rw [a0]; exact Nat.le_trans (Nat.mul_le_mul (Nat.le_of_lt b3) (Nat.le_refl N)) (Nat.mul_le_mul hn hn)
      have hm4 : (r2 : Int) + (b : Int) = ((a * N + b : Nat) : Int) := by rw [a0]; simp
      have hb128 : b ≤ 128 ∧ a ≤ 128 := by omega
      have a9 : i * N + (j + 1) = i * N + j + 1 := rfl
      clear b2 a0
      generalize i * N + j = p at *
      generalize a * N + b = q at *
      have hp' : (p : Int) < (m.length : Int) := by omega
      have hq' : (q : Int) < (m.length : Int) := by omega
      have HQ := hid (show (0 : Int) ≤ (q : Int) by omega)
      obtain ⟨u, hu⟩ : ∃ u, u = gI m (q : Int) := ⟨_, rfl⟩
      have HU := hid hu
      rw [← hu] at HF
      clear hu
      have q0 := p0.below hb (by omega)
      have q1 := p1.below hb (by omega)
      have hx1 := (hx.below (hb.mono (by have := b1.out; omega))).at_ HQ.out hq'
      obtain ⟨bA, oA, hA, hbA, cA⟩ := hx1
      have HA := hid hA
      rw [show ((q : Int)).toNat = q from rfl, ← HU.out] at cA
      subst hA
      clear HA
      have HE : Hid ((zbI (ze5 N v m) m.length p).set p u = zbI (ze5 N v m) m.length (p + 1)) := hid (by rw [← HF.out]; exact zcp _ b6)
      obtain ⟨x0, x1, x2, fx⟩ := zaa q0
      obtain ⟨y0, y1, y2, fy⟩ := zaa kO
      clear x1 fx y0 y1 fy
      go_upto_region 9 with fail
      have f0 := later x0
      have f1 := later x2
      have f2 := later y2
      have f3 := later cA
      clear x0 x2 y2 cA
      refine zad 24 (fun W => Below wr.heap.size wr W) (by kernel_rfl) (by kernel_rfl) (Below.refl _ _).drew ?_
      refine fl_a ?_
      (refine fl_c 194 #[.int .i64 (i : Int), .pointer (some ⟨w.heap.size + 1, 0, none⟩)] (.int .i64 ((a : Nat) : Int)) (fun X hX => (HC1.out _ (q1.later hX)).mono fun e' w' ⟨he, hw⟩ => ⟨he, hw ▸ hX⟩) ?_)
      refine fl_a ?_
      (refine fl_c 194 #[(j : Int), .pointer (some ⟨w.heap.size + 1, 0, none⟩)] (.int .i64 ((b : Nat) : Int)) (fun X hX => (HC2.out _ (q1.later hX)).mono fun e' w' ⟨he, hw⟩ => ⟨he, hw ▸ hX⟩) ?_)
      refine fl_a ?_
      intro w3 a3
      clear f0 f1 f2 f3 q1
      have hb4 := hb.trans (a3.mono (by have := hb.size; have := b1.out; omega))
      replace kO := kO.later a3
      replace own := own.below a3
      have a2 := own.store p u
      rw [HE.out] at a2
      have hfr := own.frozen
      have a6 := ze9 (ze5 N v m) (Nat.le_of_lt b6)
      have hgS : w.heap.size + 3 ≤ gS := by
       rcases own.form with ⟨h, _⟩ | ⟨g, h, h', _⟩
       ·cases h
       ·injection h with h; injection h with h; omega
      obtain ⟨cS, hcS⟩ : ∃ c, w3.cell? ⟨gS, p, none⟩ = some c := by
       obtain ⟨_, _, e1, _, a1⟩ := own.rd p (by rw [a6]; exact b6)
       injection e1 with e1; injection e1 with e1 e2; subst e1; subst e2
       rw [Nat.zero_add] at a1
       exact ⟨_, a1⟩
      have HO7 := hid a2
      clear own a2 a3 hb
      go_wp2
      go_roundw
      case rel => exact ⟨j + 1, by omega, by go_num, by rw [a9]; exact HO7.out, kO.far (p := ⟨gS, p, none⟩) (by simpa using hne.symm) _, hb4.setCell (by simpa using hgS) _⟩
      case measure => simp [RowKit.intOf]; omega
     ·obtain rfl : j = N := by omega
      have hge : ¬ ((j : Int) < 2 * n) := by have := HN.out; omega
      have b5 : i * j + j = (i + 1) * j := by rw [Nat.succ_mul]
      rw [b5] at own
      go_wp2
      go_roundw
      case rel => exact ⟨i + 1, by omega, by go_num, own, kO, hb⟩
      case measure => simp [RowKit.intOf]; omega
   ·obtain rfl : i = N := by omega
    have hge : ¬ ((i : Int) < 2 * n) := by have := HN.out; omega
    rw [← HL.out, HSF.out] at own
    have hlS := zeV i v m
    have q2 := p2.below hb (by omega)
    have hmq : (zc3 i v m).length ≤ 17592186044416 := by rw [hlS]; exact hm
    have HT := hid (fun W h => zaT ⟨n, false, zc3 i v m⟩ okq.ok (some ⟨gS, 0, none⟩) m.length W h hmq)
    dsimp only at HT
    rw [hlS] at HT
    have b0 := hb0.trans (hb.mono (by omega))
    clear x0 x1 x2 fx q0
    obtain ⟨y0, y1, y2, fy⟩ := zaa kO
    go_wp2_with fail
    clear y0 y1 y2 fy
    (with_reducible refine (HT.out wr own.rd).mono ?_)
    clear HT
    rintro e8 w8 ⟨A8, c8, rfl, a5, hb8⟩
    replace q2 := q2.later hb8
    replace b0 := bup b0 hb8
    generalize closeO ⟨n, false, zc3 i v m⟩ = R at *
    have z0 := zaa q2
    go_wp2
    have q9 := q2.set3 (v0 := .int .i64 R.n) (v1 := .bool R.e) (v2 := .slice A8 R.m.length c8)
    have o9 := a5.far3 (g := w.heap.size + 1 + 1) (v0 := .int .i64 R.n) (v1 := .bool R.e) (v2 := .slice A8 R.m.length c8) (zan a5 q2 (by decide))
    obtain ⟨r0, r1, r2, fr⟩ := zaa q9
    refine bodyPost_ret (v := .agg #[R.n, R.e, .slice A8 R.m.length c8]) (by simp [results, Tryz.results137, go_sem, r0, r1, r2]) rfl ?_
    exact ⟨A8, c8, rfl, o9.less (by have := hb.size; have := b1.out; omega), b0.trans (zah (by omega) b0.size)⟩
end
section
attribute [local go_sem ↓] Go.wp_at_zero Go.wp_at_succ
theorem zf0 (f g : Value) (W : World) : (Instr.field 185 (.agg #[f, g]) 1).run Tryz.prog W = .ok g W := by
 simp [Instr.field, run_underlying Tryz.underlying185, go_sem]
 try rfl
theorem zex (lo hi : Int) (hl hh : Bool) (w : World) : Calls Tryz.prog 244 #[.agg #[lo, hi, hl, hh]] w fun e w' => e = .returned (.agg #[lo, hl]) ∧ Below w.heap.size w w' := by
 obtain ⟨p0, p1, a0, a5⟩ := zal w #[lo, hi, hl, hh] #[.int .i64 0, false] 49 185
 have x0 := zag p0
 obtain ⟨y0, y1, fy⟩ := zai p1
 go_enter Tryz.func244, Tryz.ntmps244
 go_wp2
 clear x0 y0 y1 fy p0 p1 a0 a5
 obtain ⟨-, q1, a8, -⟩ := zal w #[lo, hi, hl, hh] #[lo, hl] 49 185
 obtain ⟨z0, z1, fz⟩ := zai q1
 refine bodyPost_ret (v := .agg #[lo, hl]) (by simp [results, Tryz.results244, go_sem]) rfl (And.intro rfl ?_)
 first
 | exact a8
 | (refine Below.trans ?_ (Below.refl _ _); repeat (first | exact Below.refl _ _ | refine Below.setCell ?_ (by simp) _ | refine Below.alloc ?_ (by simp) _))
theorem zez (lo hi : Int) (hl hh : Bool) (w : World) : Calls Tryz.prog 245 #[.agg #[lo, hi, hl, hh]] w fun e w' => e = .returned (.agg #[hi, hh]) ∧ Below w.heap.size w w' := by
 obtain ⟨p0, p1, a0, a5⟩ := zal w #[lo, hi, hl, hh] #[.int .i64 0, false] 49 185
 have x0 := zag p0
 obtain ⟨y0, y1, fy⟩ := zai p1
 go_enter Tryz.func245, Tryz.ntmps245
 go_wp2
 clear x0 y0 y1 fy p0 p1 a0 a5
 obtain ⟨-, q1, a8, -⟩ := zal w #[lo, hi, hl, hh] #[hi, hh] 49 185
 obtain ⟨z0, z1, fz⟩ := zai q1
 refine bodyPost_ret (v := .agg #[hi, hh]) (by simp [results, Tryz.results245, go_sem]) rfl (And.intro rfl ?_)
 first
 | exact a8
 | (refine Below.trans ?_ (Below.refl _ _); repeat (first | exact Below.refl _ _ | refine Below.setCell ?_ (by simp) _ | refine Below.alloc ?_ (by simp) _))
theorem zdw (n : Int) (h : Bool) (w : World) : Calls Tryz.prog 246 #[.agg #[n, h]] w fun e w' => e = .returned (.bool (nearR h n)) ∧ Below w.heap.size w w' := by
 have HE : Hid (nearR h n = (h && (decide (-1073741824 ≤ n) && decide (n ≤ 1073741824)))) := hid (by unfold nearR; rw [Bool.eq_iff_iff]; simp)
 generalize nearR h n = R at *
 obtain ⟨p0, a0, -⟩ := zak w #[n, h] 185
 obtain ⟨x0, x1, fx⟩ := zai p0
 cases h <;> cases t1 : decide (-1073741824 ≤ n) <;> cases t2 : decide (n ≤ 1073741824)
 all_goals
  have hR := HE.out
  rw [t1, t2] at hR
  subst hR
  go_enter Tryz.func246, Tryz.ntmps246
  go_wp2
  go_ret
  exact ⟨rfl, a0⟩
theorem zfV (lo hi : Int) (hl hh : Bool) (w : World) : Calls Tryz.prog 248 #[.agg #[lo, hi, hl, hh]] w fun e w' => e = .returned (.int .i64 (oneOf ⟨lo, hi, hl, hh⟩)) ∧ Below w.heap.size w w' := by
 have HE : Hid (oneOf ⟨lo, hi, hl, hh⟩ = if hl && hh && decide (lo = hi) && decide (0 < lo) then lo else 0) := hid rfl
 generalize oneOf ⟨lo, hi, hl, hh⟩ = R at *
 have HL := hid (fun W => zex lo hi hl hh W)
 have HH := hid (fun W => zez lo hi hl hh W)
 obtain ⟨p1, a0, a5⟩ := zak w #[lo, hi, hl, hh] 49
 clear a5
 go_enter Tryz.func248, Tryz.ntmps248
 go_upto_region 1 with fail
 generalize w.alloc (Obj.cells #[lo, hi, hl, hh] 49) = w1 at *
 have f0 := zab (show w1.cell? ⟨w.heap.size, 0, none⟩ = some (.int .i64 lo) from p1.cell 0)
 have f1 := zab (show w1.cell? ⟨w.heap.size, 1, none⟩ = some (.int .i64 hi) from p1.cell 1)
 have f2 := zab (show w1.cell? ⟨w.heap.size, 2, none⟩ = some (.bool hl) from p1.cell 2)
 have f3 := zab (show w1.cell? ⟨w.heap.size, 3, none⟩ = some (.bool hh) from p1.cell 3)
 cases hl with
 | false =>
  refine zac 7 [Sp.val (.agg #[lo, hi, false, hh]), Sp.val (.agg #[lo, false]), Sp.val (.bool false), Sp.val (.bool false), Sp.val undef, Sp.val undef, Sp.val undef] (by kernel_rfl) (by kernel_rfl) ?_
  (refine fe_t (fun _ _ => ?_))
  refine zaf.callFV (by rfl) (fun W hW hf => ⟨244, #[.agg #[lo, hi, false, hh]], by go_simp, HL.out W⟩) (fun _ _ => ?_)
  refine fe_p ?_
  refine zaf.take (by rfl) (fun W hW R hR => ?_) (fun _ _ => ?_)
  ·go_simp
   rw [zf0]
   (try go_simp)
   exact hR
  refine fe_p ?_
  (refine fe_t (fun _ _ => ?_))
  iterate 3 (refine zaf.skip (by rfl) (fun _ _ => ?_); simp only [Act.put, List.setIfInBounds_toArray, List.set_cons_zero, List.set_cons_succ])
  refine zaf.tail (fun W hW hf hd2 => ?_)
  replace hW : Below w1.heap.size w1 W := Ext.trans (Below.refl _ _).drew hW
  clear hf hd2 f0 f1 f2 f3 HL
  replace p1 := p1.later hW
  replace a0 := bup a0 hW
  clear hW
  have hR : R = 0 := by rw [HE.out]; rfl
  subst hR
  go_wp2
  go_ret
  exact ⟨rfl, a0⟩
 | true =>
  refine zac 7 [Sp.val (.agg #[lo, hi, true, hh]), Sp.val (.agg #[lo, true]), Sp.val (.bool true), Sp.val (.bool true), Sp.val (.agg #[lo, hi, true, hh]), Sp.val (.agg #[lo, true]), Sp.val (.agg #[lo, hi, true, hh])] (by kernel_rfl) (by kernel_rfl) ?_
  (refine fe_t (fun _ _ => ?_))
  refine zaf.callFV (by rfl) (fun W hW hf => ⟨244, #[.agg #[lo, hi, true, hh]], by go_simp, HL.out W⟩) (fun _ _ => ?_)
  refine fe_p ?_
  refine zaf.take (by rfl) (fun W hW R hR => ?_) (fun _ _ => ?_)
  ·go_simp
   rw [zf0]
   (try go_simp)
   exact hR
  refine fe_p ?_
  (refine fe_t (fun _ _ => ?_))
  (refine fe_t (fun _ _ => ?_))
  refine zaf.callFV (by rfl) (fun W hW hf => ⟨244, #[.agg #[lo, hi, true, hh]], by go_simp, HL.out W⟩) (fun _ _ => ?_)
  refine fe_p ?_
  (refine fe_t (fun _ _ => ?_))
  refine zaf.tail (fun W hW hf hd2 => ?_)
  replace hW : Below w1.heap.size w1 W := Ext.trans (Below.refl _ _).drew hW
  clear hf hd2 f0 f1 f2 f3 HL
  replace p1 := p1.later hW
  replace a0 := bup a0 hW
  clear hW
  go_wp2_with fail
  (with_reducible refine (HH.out W).mono ?_)
  rintro e2 w2 ⟨rfl, b1⟩
  replace p1 := p1.later b1
  replace a0 := bup a0 b1
  clear b1 HH
  have x0 := zag p1
  have hR := HE.out
  clear HE
  by_cases e : lo = hi
  ·subst e
   cases hh <;> cases t2 : decide (0 < lo)
   all_goals
    simp [t2] at hR
    subst hR
    go_wp2
    go_ret
    exact ⟨rfl, a0⟩
  ·have t1 : (lo == hi) = false := by rw [beq_eq_false_iff_ne]; exact e
   have hR0 : R = 0 := by rw [hR]; simp [e]
   subst hR0
   clear hR
   cases hh
   all_goals
    go_wp2
    go_ret
    exact ⟨rfl, a0⟩
theorem zkg (n k : Int) (h : Bool) (i1 : I64 n) (i2 : I64 k) (w : World) : Calls Tryz.prog 249 #[.agg #[n, h], k] w fun e w' => e = .returned (.agg #[.int .i64 (divW n k).1, h]) ∧ Below w.heap.size w w' := by
 have HD := hid (fun W => zfT n k W i1 i2)
 generalize divW n k = p at *
 obtain ⟨p, q⟩ := p
 unfold zaE zce at HD
 dsimp only at HD ⊢
 clear i1 i2
 obtain ⟨p0, p1, a0, a5⟩ := zal w #[n, h] #[.int .i64 0, false] 185 185
 obtain ⟨x0, x1, fx⟩ := zai p0
 go_enter Tryz.func249, Tryz.ntmps249
 go_wp2_with fail
 clear x0 x1 fx
 generalize (w.alloc (Obj.cells #[n, h] 185)).alloc (Obj.cells #[.int .i64 0, false] 185) = w1 at *
 (with_reducible refine (HD.out w1).mono ?_)
 rintro e2 w2 ⟨rfl, rfl⟩
 obtain ⟨x0, x1, fx⟩ := zai p0
 obtain ⟨y0, y1, fy⟩ := zai p1
 go_wp2
 clear x0 x1 fx y0 y1 fy
 have q0 := (p1.set_ 0 (.int .i64 p)).set_ 1 (.bool h)
 obtain ⟨z0, z1, fz⟩ := zai (show Blk _ _ _ #[p, h] from q0)
 refine bodyPost_ret (v := .agg #[p, h]) (by simp [results, Tryz.results249, go_sem, z0, z1]) rfl (And.intro rfl ?_)
 refine a0.trans ?_
 have := a0.size
 repeat (first | exact Below.refl _ _ | refine Below.setCell ?_ (by simp; try omega) _)
theorem zet (r : Rg) : oneOf r = 0 ∨ 0 < oneOf r := by
 unfold oneOf
 split
 ·rename_i h; simp at h; exact .inr h.2
 ·exact .inl rfl
theorem zfA {r : Rg} (h : I64 r.lo) : I64 (oneOf r) := by
 unfold oneOf
 split
 ·exact h
 ·unfold I64; omega
theorem zjR (a b : Rg) (ia : I64 a.lo ∧ I64 a.hi) (ib : I64 b.lo) (w : World) : Calls Tryz.prog 233 #[a.val, b.val] w (zam (divR a b).val w) := by
 have hp := zet b
 have ik := zfA ib
 have HE : Hid (divR a b = if oneOf b = 0 then rg0 else ⟨if a.hl then a.lo.tdiv (oneOf b) else 0, if a.hh then a.hi.tdiv (oneOf b) else 0, a.hl, a.hh⟩) := hid rfl
 have H1 := hid (fun W => (show Calls Tryz.prog 248 #[b.val] W (fun e w' => e = .returned (.int .i64 (oneOf b)) ∧ Below W.heap.size W w') from zfV b.lo b.hi b.hl b.hh W))
 generalize divR a b = R at *
 generalize oneOf b = k at *
 obtain ⟨alo, ahi, ahl, ahh⟩ := a
 obtain ⟨lo, hi, hl, hh⟩ := b
 dsimp only at ia ib HE
 have HL := hid (fun W => zex alo ahi ahl ahh W)
 have HH := hid (fun W => zez alo ahi ahl ahh W)
 have HB1 := hid (fun W => zkg alo k ahl ia.1 ik W)
 have HB2 := hid (fun W => zkg ahi k ahh ia.2 ik W)
 have b2 : ∀ n : Int, 0 < k → (divW n k).1 = n.tdiv k := fun n h => by
  unfold divW
  rw [if_pos (by unfold divErr; rw [if_neg (by omega), if_neg (by omega)])]
 have HV := hid (And.intro (b2 alo) (b2 ahi))
 generalize (divW alo k).1 = u at *
 generalize (divW ahi k).1 = v at *
 have HT := hid (fun W => zeq u v ahl ahh W)
 unfold Rg.val at H1 ⊢
 dsimp only at H1 ⊢
 clear ia ib ik b2
 obtain ⟨p2, p3, p4, a0, a5⟩ := zaj w #[alo, ahi, ahl, ahh] #[lo, hi, hl, hh] #[.int .i64 0, .int .i64 0, false, false] 49 49 49
 clear a5
 go_enter Tryz.func233, Tryz.ntmps233
 have b4 := zag p3
 go_wp2_with fail
 clear b4
 generalize ((w.alloc (Obj.cells #[alo, ahi, ahl, ahh] 49)).alloc (Obj.cells #[lo, hi, hl, hh] 49)).alloc (Obj.cells #[.int .i64 0, .int .i64 0, false, false] 49) = w1 at *
 (with_reducible refine (H1.out w1).mono ?_)
 rintro e_w2 w2 ⟨rfl, a1⟩
 replace p2 := p2.later a1
 replace p3 := p3.later a1
 replace p4 := p4.later a1
 replace a0 := bup a0 a1
 clear a1 H1
 by_cases hk0 : k = 0
 ·subst hk0
  have hR : R = rg0 := by rw [HE.out]; rfl
  subst hR
  clear hp
  have y0 := zag p4
  go_wp2
  clear y0
  have q9 := (((p4.set_ 0 (.int .i64 0)).set_ 1 (.int .i64 0)).set_ 2 (.bool false)).set_ 3 (.bool false)
  have a9 := a0.trans (zav (W := w2) (g := w.heap.size + 1 + 1) (v0 := .int .i64 0) (v1 := .int .i64 0) (v2 := .bool false) (v3 := .bool false) (by omega) a0.size)
  obtain ⟨z0, z1, z2, z3, fz⟩ := zag (show Blk _ _ _ #[.int .i64 0, .int .i64 0, false, false] from q9)
  refine bodyPost_ret (v := .agg #[.int .i64 0, .int .i64 0, false, false]) (by simp [results, Tryz.results233, go_sem, z0, z1, z2, z3]) rfl (And.intro ?_ a9)
  rfl
 ·have t1 : (k == 0) = false := by rw [beq_eq_false_iff_ne]; exact hk0
  have hR : R = ⟨endV ahl u, endV ahh v, ahl, ahh⟩ := by
   have h1 := HV.out.1 (by omega)
   have h2 := HV.out.2 (by omega)
   rw [HE.out, if_neg hk0, h1, h2]
   unfold endV
   rfl
  subst hR
  clear hp hk0 HE HV
  go_upto_region 4 with fail
  have f0 := zab (show w2.cell? ⟨w.heap.size, 0, none⟩ = some (.int .i64 alo) from p2.cell 0)
  have f1 := zab (show w2.cell? ⟨w.heap.size, 1, none⟩ = some (.int .i64 ahi) from p2.cell 1)
  have f2 := zab (show w2.cell? ⟨w.heap.size, 2, none⟩ = some (.bool ahl) from p2.cell 2)
  have f3 := zab (show w2.cell? ⟨w.heap.size, 3, none⟩ = some (.bool ahh) from p2.cell 3)
  refine zac 7 [Sp.val (.agg #[alo, ahi, ahl, ahh]), Sp.val (.agg #[alo, ahl]), Sp.val (.func (.func 249) #[.agg #[alo, ahl]] #[]), Sp.val (.agg #[alo, ahi, ahl, ahh]), Sp.val (.agg #[ahi, ahh]), Sp.val (.func (.func 249) #[.agg #[ahi, ahh]] #[]), Sp.val (.func (.func 249) #[.agg #[alo, ahl]] #[])] (by kernel_rfl) (by kernel_rfl) ?_
  (refine fe_t (fun _ _ => ?_))
  refine zaf.callFV (by rfl) (fun W hW hf => ⟨244, #[.agg #[alo, ahi, ahl, ahh]], by go_simp, HL.out W⟩) (fun _ _ => ?_)
  refine fe_p ?_
  (refine fe_t (fun _ _ => ?_))
  (refine fe_t (fun _ _ => ?_))
  refine zaf.callFV (by rfl) (fun W hW hf => ⟨245, #[.agg #[alo, ahi, ahl, ahh]], by go_simp, HH.out W⟩) (fun _ _ => ?_)
  refine fe_p ?_
  (refine fe_t (fun _ _ => ?_))
  (refine fe_t (fun _ _ => ?_))
  refine zaf.tail (fun W hW hf hd2 => ?_)
  replace hW : Below w2.heap.size w2 W := Ext.trans (Below.refl _ _).drew hW
  clear hf hd2 f0 f1 f2 f3 HL HH p2 p3
  replace p4 := p4.later hW
  replace a0 := bup a0 hW
  clear hW
  go_wp2_with fail
  (with_reducible refine (HB1.out W).mono ?_)
  rintro e_w3 w3 ⟨rfl, a3⟩
  replace p4 := p4.later a3
  replace a0 := bup a0 a3
  clear a3 HB1
  go_wp2_with fail
  (with_reducible refine (HB2.out w3).mono ?_)
  rintro e_w4 w4 ⟨rfl, a2⟩
  replace p4 := p4.later a2
  replace a0 := bup a0 a2
  clear a2 HB2
  go_wp2_with fail
  (with_reducible refine (HT.out w4).mono ?_)
  rintro e_w5 w5 ⟨rfl, a4⟩
  replace p4 := p4.later a4
  replace a0 := bup a0 a4
  clear a4 HT
  generalize endV ahl u = u2 at *
  generalize endV ahh v = v2 at *
  have y0 := zag p4
  go_wp2
  clear y0
  have q9 := (((p4.set_ 0 (.int .i64 u2)).set_ 1 (.int .i64 v2)).set_ 2 (.bool ahl)).set_ 3 (.bool ahh)
  have a9 := a0.trans (zav (W := w5) (g := w.heap.size + 1 + 1) (v0 := .int .i64 u2) (v1 := .int .i64 v2) (v2 := .bool ahl) (v3 := .bool ahh) (by omega) a0.size)
  obtain ⟨z0, z1, z2, z3, fz⟩ := zag (show Blk _ _ _ #[u2, v2, ahl, ahh] from q9)
  refine bodyPost_ret (v := .agg #[u2, v2, ahl, ahh]) (by simp [results, Tryz.results233, go_sem, z0, z1, z2, z3]) rfl (And.intro ?_ a9)
  rfl
end
end Go.Proofs.YtnmpgijiimglcaaGreat
