import Derived.Test.YtnmpgijiimglcaaGreatBTt24
import Derived.Test.YtnmpgijiimglcaaGreatBTt26
import Derived.Test.YtnmpgijiimglcaaGreatBTt16
import Derived.Test.YtnmpgijiimglcaaGreatBTt09
import Derived.Shelf.Spec.BitsCarry
import Derived.Lib.EndianBits
namespace Go.Proofs.YtnmpgijiimglcaaGreat
open Go.RowKit
set_option maxRecDepth 100000
set_option maxHeartbeats 8000000
section
attribute [local go_sem ↓] Go.wp_at_zero Go.wp_at_succ
theorem ziq (v i : Nat) (g1 : Nat) (w : World) (h1 : Blk w g1 3 #[(v : Int)]) (hi : i ≤ 1000) :
  Calls Tryz.prog 194 #[(i : Int), .pointer (some ⟨g1, 0, none⟩)] w fun e w' => e = .returned (.int .i64 ((otherV v i : Nat) : Int)) ∧ w' = w := by
 have x0 := h1.cell 0
 obtain ⟨q, hq⟩ : ∃ q : Nat, q = i / 2 := ⟨_, rfl⟩
 have e1 : (i : Int).tdiv 2 = (q : Int) := by rw [hq]; exact (Int.tdiv_eq_ediv_of_nonneg (by omega)).trans (by omega)
 have e2 : (i : Int) / 2 = (q : Int) := by rw [hq]; omega
 have hq2 : (q : Int) ≤ 1000 := by omega
 have e5 : ((i / 2 : Nat) : Int) = (q : Int) := by rw [hq]
 have hbx := zbT hi
 have HB : Hid (otherV v i = if q = v then nx i else i) := hid (by unfold otherV; rw [← hq])
 clear hq
 by_cases hd : q = v
 ·subst hd
  have t1 : ((q : Int) == (q : Int)) = true := by simp
  go_enter Tryz.func194, Tryz.ntmps194
  go_wp2
  go_ret
  exact ⟨by rw [HB.out]; simp, rfl⟩
 ·have t1 : ((q : Int) == (v : Int)) = false := by rw [beq_eq_false_iff_ne]; omega
  go_enter Tryz.func194, Tryz.ntmps194
  have HD := hid hd
  clear hd
  go_wp2
  go_ret
  exact ⟨by rw [HB.out, if_neg HD.out]; rfl, rfl⟩
def zg4 (N v : Nat) (m : List Int) (p : Nat) : Int := G N m (otherV v (p / N)) (otherV v (p % N))
theorem zjr (N v : Nat) (m : List Int) : zbS (zg4 N v m) m.length m.length = zdk N v m := zgW _ _
theorem zla (n : Int) (m : List Int) (N : Nat) (hN : (N : Int) = 2 * n) (hn : N ≤ 128) (hc : Cells N m) (v : Nat) (A : Option Addr) (cap : Nat) (w : World) (hx : Rd w w.heap.size A m) (hm : m.length ≤ 17592186044416) :
  Calls Tryz.prog 137 #[.agg #[n, false, .slice A m.length cap], (v : Int)] w (zaX w (closeO ⟨n, false, zdk N v m⟩)) := by
 have okq : OkO n ⟨n, false, zdk N v m⟩ := OkO.of_cells hN hn (zcr (by omega) hc)
 have HN := hid hN
 have hl := hc.len
 have HL := hid hl
 have hn0 : 0 ≤ 2 * n := by omega
 have hn1 : 2 * n ≤ 128 := by omega
 have hn2 : 0 ≤ n := by omega
 have hmk := zd0 m.length hm
 have HSF := hid (zjr N v m)
 have HOL := hid (fun i (hi : i < N) => zbs (v := v) (show N % 2 = 0 by omega) hi)
 clear hN hl hc
 obtain ⟨p0, p1, p2, a3, -⟩ := zah w #[n, false, .slice A m.length cap] #[(v : Int)] #[.int .i64 0, false, .slice none 0 0] 24 3 24
 go_enter Tryz.func137, Tryz.ntmps137
 go_upto_region 2 with fail
 clear a3 p0 p1 p2
 obtain ⟨p0, p1, p2, hb0, a6⟩ := zah w #[n, false, .slice A m.length cap] #[(v : Int)] #[.int .i64 0, false, .slice none 0 0] 24 3 24
 replace hx := hx.up hb0
 generalize ((w.alloc (Obj.cells #[n, false, .slice A m.length cap] 24)).alloc (Obj.cells #[(v : Int)] 3)).alloc (Obj.cells #[.int .i64 0, false, .slice none 0 0] 24) = w0 at *
 go_cut [6] (fun s12 W => ∃ gO gS : Nat, s12 = .pointer (some ⟨gO, 0, none⟩) ∧ w.heap.size + 3 ≤ gO ∧ gO ≠ gS ∧ Blk W gO 24 #[n, false, .slice (some ⟨gS, 0, none⟩) m.length m.length] ∧ Own W (w.heap.size + 3) (some ⟨gS, 0, none⟩) m.length (List.replicate m.length 0) ∧ Below (w.heap.size + 3) w0 W)
 case first =>
  obtain ⟨x0, x1, x2, fx⟩ := zaa p0
  have hszd : w0.drew.heap.size = w.heap.size + 3 := a6
  go_region_held3 (fun W => W.cell? ⟨w.heap.size, 0, none⟩ = some (.int .i64 n) ∧ W.cell? ⟨w.heap.size, 2, none⟩ = some (.slice A m.length cap)) (go_keep) (fail)
  all_goals (go_wp2_with fail; go_meet)
  ·obtain ⟨q1, q2, q3⟩ := zne w0 a6 hm #[n, false, .slice (some ⟨w.heap.size + 3, 0, none⟩) m.length m.length] 24
   exact ⟨_, _, rfl, by omega, by omega, q1, q2, q3⟩
  ·obtain ⟨q1, q2, q3⟩ := znx w0 a6 hm #[n, false, .slice (some ⟨w.heap.size + 3 + 1, 0, none⟩) m.length m.length] 24
   exact ⟨_, _, rfl, by omega, by omega, q1, q2, q3⟩
 case rest =>
  obtain ⟨gO, gS, rfl, hgO, hne, a7, a5, b5⟩ := hcut
  rename_i w1 _
  have p0' := p0.below b5 (by omega)
  obtain ⟨x0, x1, x2, fx⟩ := zaa p0'
  go_wp2
  clear x0 x1 x2 fx p0'
  have b2 := hid a6
  clear a6
  go_loopw [20] (fun t wq => ∃ i : Nat, i ≤ N ∧ t = .int .i64 i ∧ Own wq (w.heap.size + 3) (some ⟨gS, 0, none⟩) m.length (zbS (zg4 N v m) m.length (i * N)) ∧ Blk wq gO 24 #[n, false, .slice (some ⟨gS, 0, none⟩) m.length m.length] ∧ Below (w.heap.size + 3) w0 wq) (fun t _ => N - (RowKit.intOf t).toNat)
  case atStart => exact ⟨0, by omega, rfl, by rw [Nat.zero_mul]; unfold zbS; simpa using a5, a7, b5⟩
  case round =>
   clear a5 a7 b5
   obtain ⟨i, hi, rfl, own, kO, hb⟩ := hrel
   have q0 := p0.below hb (by omega)
   obtain ⟨x0, x1, x2, fx⟩ := zaa q0
   by_cases hlt : i < N
   ·have hlti : (i : Int) < 2 * n := by have := HN.out; omega
    go_wp2
    clear x0 x1 x2 fx q0
    have hsw : w.heap.size + 3 ≤ wr.heap.size := by have := hb.size; have := b2.out; omega
    go_loopw [26] (fun t wq => ∃ j : Nat, j ≤ N ∧ t = .int .i64 j ∧ Own wq (w.heap.size + 3) (some ⟨gS, 0, none⟩) m.length (zbS (zg4 N v m) m.length (i * N + j)) ∧ Blk wq gO 24 #[n, false, .slice (some ⟨gS, 0, none⟩) m.length m.length] ∧ Below (w.heap.size + 3) w0 wq) (fun t _ => N - (RowKit.intOf t).toNat)
    case atStart => exact ⟨0, by omega, rfl, own, kO, hb⟩
    case round =>
     clear own kO hb
     obtain ⟨j, hj, rfl, own, kO, hb⟩ := hrel
     by_cases hlt2 : j < N
     ·have hltj : (j : Int) < 2 * n := by have := HN.out; omega
      have b7 : i * N + j < m.length := by
       rw [HL.out]
       have : (i + 1) * N ≤ N * N := Nat.mul_le_mul_right _ hlt
       rw [Nat.succ_mul] at this; omega
      have b4 := HOL.out i hlt
      have hbl := HOL.out j hlt2
      obtain ⟨a, ha⟩ : ∃ a, a = otherV v i := ⟨_, rfl⟩
      obtain ⟨b, b6⟩ : ∃ b, b = otherV v j := ⟨_, rfl⟩
      have HC1 := hid (fun W h1 => ziq v i (w.heap.size + 1) W h1 (by omega))
      have HC2 := hid (fun W h1 => ziq v j (w.heap.size + 1) W h1 (by omega))
      rw [← ha] at b4 HC1
      rw [← b6] at hbl HC2
      have hql : a * N + b < m.length := by
       rw [HL.out]
       have : (a + 1) * N ≤ N * N := Nat.mul_le_mul_right _ b4
       rw [Nat.succ_mul] at this; omega
      have HF : Hid (zg4 N v m (i * N + j) = gI m ((a * N + b : Nat) : Int)) := hid (by unfold zg4; rw [zcC hlt2, zc8 hlt2, ← ha, ← b6]; rfl)
      clear ha b6
      obtain ⟨r, b0⟩ : ∃ r, r = i * N := ⟨_, rfl⟩
      have hm1 : 2 * n * (i : Int) = (r : Int) := by rw [b0, ← HN.out, Int.natCast_mul, Int.mul_comm]
      have hr1 : r ≤ 16384 := by rw [b0]; exact Nat.le_trans (Nat.mul_le_mul (Nat.le_of_lt hlt) (Nat.le_refl N)) (Nat.mul_le_mul hn hn)
      have hm2 : (r : Int) + (j : Int) = ((i * N + j : Nat) : Int) := by rw [b0]; simp
      obtain ⟨r2, a0⟩ : ∃ r, r = a * N := ⟨_, rfl⟩
      have hm3 : 2 * n * (a : Int) = (r2 : Int) := by rw [a0, ← HN.out, Int.natCast_mul, Int.mul_comm]
      have hr2 : r2 ≤ 16384 := by rw [a0]; exact Nat.le_trans (Nat.mul_le_mul (Nat.le_of_lt b4) (Nat.le_refl N)) (Nat.mul_le_mul hn hn)
      have hm4 : (r2 : Int) + (b : Int) = ((a * N + b : Nat) : Int) := by rw [a0]; simp
      have hb128 : b ≤ 128 ∧ a ≤ 128 := by omega
      have a8 : i * N + (j + 1) = i * N + j + 1 := rfl
      clear b0 a0
      generalize i * N + j = p at *
      generalize a * N + b = q at *
      have hp' : (p : Int) < (m.length : Int) := by omega
      have hq' : (q : Int) < (m.length : Int) := by omega
      have HQ := hid (show (0 : Int) ≤ (q : Int) by omega)
      obtain ⟨u, hu⟩ : ∃ u, u = gI m (q : Int) := ⟨_, rfl⟩
      have HU := hid hu
      rw [← hu] at HF
      clear hu
      have q0 := p0.below hb (by omega)
      have q1 := p1.below hb (by omega)
      have hx1 := (hx.below (hb.mono (by have := b2.out; omega))).at_ HQ.out hq'
      obtain ⟨bA, oA, hA, hbA, cA⟩ := hx1
      have HA := hid hA
      rw [show ((q : Int)).toNat = q from rfl, ← HU.out] at cA
      subst hA
      clear HA
      have HE : Hid ((zbS (zg4 N v m) m.length p).set p u = zbS (zg4 N v m) m.length (p + 1)) := hid (by rw [← HF.out]; exact zcV _ b7)
      obtain ⟨x0, x1, x2, fx⟩ := zaa q0
      obtain ⟨y0, y1, y2, fy⟩ := zaa kO
      clear x1 fx y0 y1 fy
      go_upto_region 9 with fail
      have f0 := later x0
      have f1 := later x2
      have f2 := later y2
      have f3 := later cA
      clear x0 x2 y2 cA
      refine zab 24 (fun W => Below wr.heap.size wr W) (by kernel_rfl) (by kernel_rfl) (Below.refl _ _).drew ?_
      refine fl_a ?_
      (refine fl_c 194 #[.int .i64 (i : Int), .pointer (some ⟨w.heap.size + 1, 0, none⟩)] (.int .i64 ((a : Nat) : Int)) (fun X hX => (HC1.out _ (q1.later hX)).mono fun e' w' ⟨he, hw⟩ => ⟨he, hw ▸ hX⟩) ?_)
      refine fl_a ?_
      (refine fl_c 194 #[(j : Int), .pointer (some ⟨w.heap.size + 1, 0, none⟩)] (.int .i64 ((b : Nat) : Int)) (fun X hX => (HC2.out _ (q1.later hX)).mono fun e' w' ⟨he, hw⟩ => ⟨he, hw ▸ hX⟩) ?_)
      refine fl_a ?_
      intro w3 a3
      clear f0 f1 f2 f3 q1
      have hb4 := hb.trans (a3.mono (by have := hb.size; have := b2.out; omega))
      replace kO := kO.later a3
      replace own := own.below a3
      have a2 := own.store p u
      rw [HE.out] at a2
      have hfr := own.frozen
      have a4 := zgA (zg4 N v m) (Nat.le_of_lt b7)
      have hgS : w.heap.size + 3 ≤ gS := by
       rcases own.form with ⟨h, _⟩ | ⟨g, h, h', _⟩
       ·cases h
       ·injection h with h; injection h with h; omega
      obtain ⟨cS, hcS⟩ : ∃ c, w3.cell? ⟨gS, p, none⟩ = some c := by
       obtain ⟨_, _, e1, _, a1⟩ := own.rd p (by rw [a4]; exact b7)
       injection e1 with e1; injection e1 with e1 e2; subst e1; subst e2
       rw [Nat.zero_add] at a1
       exact ⟨_, a1⟩
      have HO7 := hid a2
      clear own a2 a3 hb
      go_wp2
      go_roundw
      case rel => exact ⟨j + 1, by omega, by go_num, by rw [a8]; exact HO7.out, kO.far (p := ⟨gS, p, none⟩) (by simpa using hne.symm) _, hb4.setCell (by simpa using hgS) _⟩
      case measure => simp [RowKit.intOf]; omega
     ·obtain rfl : j = N := by omega
      have hge : ¬ ((j : Int) < 2 * n) := by have := HN.out; omega
      have b3 : i * j + j = (i + 1) * j := by rw [Nat.succ_mul]
      rw [b3] at own
      go_wp2
      go_roundw
      case rel => exact ⟨i + 1, by omega, by go_num, own, kO, hb⟩
      case measure => simp [RowKit.intOf]; omega
   ·obtain rfl : i = N := by omega
    have hge : ¬ ((i : Int) < 2 * n) := by have := HN.out; omega
    rw [← HL.out, HSF.out] at own
    have hlS := zgM i v m
    have q2 := p2.below hb (by omega)
    have hmq : (zdk i v m).length ≤ 17592186044416 := by rw [hlS]; exact hm
    have HT := hid (fun W h => zaN ⟨n, false, zdk i v m⟩ okq.ok (some ⟨gS, 0, none⟩) m.length W h hmq)
    dsimp only at HT
    rw [hlS] at HT
    have b1 := hb0.trans (hb.mono (by omega))
    clear x0 x1 x2 fx q0
    obtain ⟨y0, y1, y2, fy⟩ := zaa kO
    go_wp2_with fail
    clear y0 y1 y2 fy
    (with_reducible refine (HT.out wr own.rd).mono ?_)
    clear HT
    rintro e8 w8 ⟨A8, c8, rfl, a9, hb8⟩
    replace q2 := q2.later hb8
    replace b1 := bup b1 hb8
    generalize closeO ⟨n, false, zdk i v m⟩ = R at *
    have z0 := zaa q2
    go_wp2
    have q9 := q2.set3 (v0 := .int .i64 R.n) (v1 := .bool R.e) (v2 := .slice A8 R.m.length c8)
    have o9 := a9.far3 (g := w.heap.size + 1 + 1) (v0 := .int .i64 R.n) (v1 := .bool R.e) (v2 := .slice A8 R.m.length c8) (zak a9 q2 (by decide))
    obtain ⟨r0, r1, r2, fr⟩ := zaa q9
    refine bodyPost_ret (v := .agg #[R.n, R.e, .slice A8 R.m.length c8]) (by simp [results, Tryz.results137, go_sem, r0, r1, r2]) rfl ?_
    exact ⟨A8, c8, rfl, o9.less (by have := hb.size; have := b2.out; omega), b1.trans (zae (by omega) b1.size)⟩
end
section
attribute [local go_sem ↓] Go.wp_at_zero Go.wp_at_succ
theorem zh6 (f g : Value) (W : World) : (Instr.field 185 (.agg #[f, g]) 1).run Tryz.prog W = .ok g W := by
 simp [Instr.field, run_underlying Tryz.underlying185, go_sem]
 try rfl
theorem zf2 (lo hi : Int) (hl hh : Bool) (w : World) : Calls Tryz.prog 244 #[.agg #[lo, hi, hl, hh]] w fun e w' => e = .returned (.agg #[lo, hl]) ∧ Below w.heap.size w w' := by
 obtain ⟨p0, p1, a0, a5⟩ := zao w #[lo, hi, hl, hh] #[.int .i64 0, false] 49 185
 have x0 := zaj p0
 obtain ⟨y0, y1, fy⟩ := zai p1
 go_enter Tryz.func244, Tryz.ntmps244
 go_wp2
 clear x0 y0 y1 fy p0 p1 a0 a5
 obtain ⟨-, q1, a9, -⟩ := zao w #[lo, hi, hl, hh] #[lo, hl] 49 185
 obtain ⟨z0, z1, fz⟩ := zai q1
 refine bodyPost_ret (v := .agg #[lo, hl]) (by simp [results, Tryz.results244, go_sem]) rfl (And.intro rfl ?_)
 first
 | exact a9
 | (refine Below.trans ?_ (Below.refl _ _); repeat (first | exact Below.refl _ _ | refine Below.setCell ?_ (by simp) _ | refine Below.alloc ?_ (by simp) _))
theorem zgd (lo hi : Int) (hl hh : Bool) (w : World) : Calls Tryz.prog 245 #[.agg #[lo, hi, hl, hh]] w fun e w' => e = .returned (.agg #[hi, hh]) ∧ Below w.heap.size w w' := by
 obtain ⟨p0, p1, a0, a5⟩ := zao w #[lo, hi, hl, hh] #[.int .i64 0, false] 49 185
 have x0 := zaj p0
 obtain ⟨y0, y1, fy⟩ := zai p1
 go_enter Tryz.func245, Tryz.ntmps245
 go_wp2
 clear x0 y0 y1 fy p0 p1 a0 a5
 obtain ⟨-, q1, a9, -⟩ := zao w #[lo, hi, hl, hh] #[hi, hh] 49 185
 obtain ⟨z0, z1, fz⟩ := zai q1
 refine bodyPost_ret (v := .agg #[hi, hh]) (by simp [results, Tryz.results245, go_sem]) rfl (And.intro rfl ?_)
 first
 | exact a9
 | (refine Below.trans ?_ (Below.refl _ _); repeat (first | exact Below.refl _ _ | refine Below.setCell ?_ (by simp) _ | refine Below.alloc ?_ (by simp) _))
theorem zem (n : Int) (h : Bool) (w : World) : Calls Tryz.prog 246 #[.agg #[n, h]] w fun e w' => e = .returned (.bool (nearR h n)) ∧ Below w.heap.size w w' := by
 have HE : Hid (nearR h n = (h && (decide (-1073741824 ≤ n) && decide (n ≤ 1073741824)))) := hid (by unfold nearR; rw [Bool.eq_iff_iff]; simp)
 generalize nearR h n = R at *
 obtain ⟨p0, a0, -⟩ := zaw w #[n, h] 185
 obtain ⟨x0, x1, fx⟩ := zai p0
 cases h <;> cases t1 : decide (-1073741824 ≤ n) <;> cases t2 : decide (n ≤ 1073741824)
 all_goals
  have hR := HE.out
  rw [t1, t2] at hR
  subst hR
  go_enter Tryz.func246, Tryz.ntmps246
  go_wp2
  go_ret
  exact ⟨rfl, a0⟩
theorem zim (lo hi : Int) (hl hh : Bool) (w : World) : Calls Tryz.prog 248 #[.agg #[lo, hi, hl, hh]] w fun e w' => e = .returned (.int .i64 (oneOf ⟨lo, hi, hl, hh⟩)) ∧ Below w.heap.size w w' := by
 have HE : Hid (oneOf ⟨lo, hi, hl, hh⟩ = if hl && hh && decide (lo = hi) && decide (0 < lo) then lo else 0) := hid rfl
 generalize oneOf ⟨lo, hi, hl, hh⟩ = R at *
 have HL := hid (fun W => zf2 lo hi hl hh W)
 have HH := hid (fun W => zgd lo hi hl hh W)
 obtain ⟨p1, a0, a5⟩ := zaw w #[lo, hi, hl, hh] 49
 clear a5
 go_enter Tryz.func248, Tryz.ntmps248
 go_upto_region 1 with fail
 generalize w.alloc (Obj.cells #[lo, hi, hl, hh] 49) = w1 at *
 have f0 := zac (show w1.cell? ⟨w.heap.size, 0, none⟩ = some (.int .i64 lo) from p1.cell 0)
 have f1 := zac (show w1.cell? ⟨w.heap.size, 1, none⟩ = some (.int .i64 hi) from p1.cell 1)
 have f2 := zac (show w1.cell? ⟨w.heap.size, 2, none⟩ = some (.bool hl) from p1.cell 2)
 have f3 := zac (show w1.cell? ⟨w.heap.size, 3, none⟩ = some (.bool hh) from p1.cell 3)
 cases hl with
 | false =>
  refine zad 7 [Sp.val (.agg #[lo, hi, false, hh]), Sp.val (.agg #[lo, false]), Sp.val (.bool false), Sp.val (.bool false), Sp.val undef, Sp.val undef, Sp.val undef] (by kernel_rfl) (by kernel_rfl) ?_
  (refine fe_t (fun _ _ => ?_))
  refine zaf.callFV (by rfl) (fun W hW hf => ⟨244, #[.agg #[lo, hi, false, hh]], by go_simp, HL.out W⟩) (fun _ _ => ?_)
  refine fe_p ?_
  refine zaf.take (by rfl) (fun W hW R hR => ?_) (fun _ _ => ?_)
  ·go_simp
   rw [zh6]
   (try go_simp)
   exact hR
  refine fe_p ?_
  (refine fe_t (fun _ _ => ?_))
  iterate 3 (refine zaf.skip (by rfl) (fun _ _ => ?_); simp only [Act.put, List.setIfInBounds_toArray, List.set_cons_zero, List.set_cons_succ])
  refine zaf.tail (fun W hW hf hd2 => ?_)
  replace hW : Below w1.heap.size w1 W := Ext.trans (Below.refl _ _).drew hW
  clear hf hd2 f0 f1 f2 f3 HL
  replace p1 := p1.later hW
  replace a0 := bup a0 hW
  clear hW
  have hR : R = 0 := by rw [HE.out]; rfl
  subst hR
  go_wp2
  go_ret
  exact ⟨rfl, a0⟩
 | true =>
  refine zad 7 [Sp.val (.agg #[lo, hi, true, hh]), Sp.val (.agg #[lo, true]), Sp.val (.bool true), Sp.val (.bool true), Sp.val (.agg #[lo, hi, true, hh]), Sp.val (.agg #[lo, true]), Sp.val (.agg #[lo, hi, true, hh])] (by kernel_rfl) (by kernel_rfl) ?_
  (refine fe_t (fun _ _ => ?_))
  refine zaf.callFV (by rfl) (fun W hW hf => ⟨244, #[.agg #[lo, hi, true, hh]], by go_simp, HL.out W⟩) (fun _ _ => ?_)
  refine fe_p ?_
  refine zaf.take (by rfl) (fun W hW R hR => ?_) (fun _ _ => ?_)
  ·go_simp
   rw [zh6]
   (try go_simp)
   exact hR
  refine fe_p ?_
  (refine fe_t (fun _ _ => ?_))
  (refine fe_t (fun _ _ => ?_))
  refine zaf.callFV (by rfl) (fun W hW hf => ⟨244, #[.agg #[lo, hi, true, hh]], by go_simp, HL.out W⟩) (fun _ _ => ?_)
  refine fe_p ?_
  (refine fe_t (fun _ _ => ?_))
  refine zaf.tail (fun W hW hf hd2 => ?_)
  replace hW : Below w1.heap.size w1 W := Ext.trans (Below.refl _ _).drew hW
  clear hf hd2 f0 f1 f2 f3 HL
  replace p1 := p1.later hW
  replace a0 := bup a0 hW
  clear hW
  go_wp2_with fail
  (with_reducible refine (HH.out W).mono ?_)
  rintro e2 w2 ⟨rfl, a7⟩
  replace p1 := p1.later a7
  replace a0 := bup a0 a7
  clear a7 HH
  have x0 := zaj p1
  have hR := HE.out
  clear HE
  by_cases e : lo = hi
  ·subst e
   cases hh <;> cases t2 : decide (0 < lo)
   all_goals
    simp [t2] at hR
    subst hR
    go_wp2
    go_ret
    exact ⟨rfl, a0⟩
  ·have t1 : (lo == hi) = false := by rw [beq_eq_false_iff_ne]; exact e
   have hR0 : R = 0 := by rw [hR]; simp [e]
   subst hR0
   clear hR
   cases hh
   all_goals
    go_wp2
    go_ret
    exact ⟨rfl, a0⟩
theorem znh (n k : Int) (h : Bool) (i1 : I64 n) (i2 : I64 k) (w : World) : Calls Tryz.prog 249 #[.agg #[n, h], k] w fun e w' => e = .returned (.agg #[.int .i64 (divW n k).1, h]) ∧ Below w.heap.size w w' := by
 have HD := hid (fun W => zh2 n k W i1 i2)
 generalize divW n k = p at *
 obtain ⟨p, q⟩ := p
 unfold zaE zdl at HD
 dsimp only at HD ⊢
 clear i1 i2
 obtain ⟨p0, p1, a0, a5⟩ := zao w #[n, h] #[.int .i64 0, false] 185 185
 obtain ⟨x0, x1, fx⟩ := zai p0
 go_enter Tryz.func249, Tryz.ntmps249
 go_wp2_with fail
 clear x0 x1 fx
 generalize (w.alloc (Obj.cells #[n, h] 185)).alloc (Obj.cells #[.int .i64 0, false] 185) = w1 at *
 (with_reducible refine (HD.out w1).mono ?_)
 rintro e2 w2 ⟨rfl, rfl⟩
 obtain ⟨x0, x1, fx⟩ := zai p0
 obtain ⟨y0, y1, fy⟩ := zai p1
 go_wp2
 clear x0 x1 fx y0 y1 fy
 have q0 := (p1.set_ 0 (.int .i64 p)).set_ 1 (.bool h)
 obtain ⟨z0, z1, fz⟩ := zai (show Blk _ _ _ #[p, h] from q0)
 refine bodyPost_ret (v := .agg #[p, h]) (by simp [results, Tryz.results249, go_sem, z0, z1]) rfl (And.intro rfl ?_)
 refine a0.trans ?_
 have := a0.size
 repeat (first | exact Below.refl _ _ | refine Below.setCell ?_ (by simp; try omega) _)
theorem zgb (r : Rg) : oneOf r = 0 ∨ 0 < oneOf r := by
 unfold oneOf
 split
 ·rename_i h; simp at h; exact .inr h.2
 ·exact .inl rfl
theorem zhS {r : Rg} (h : I64 r.lo) : I64 (oneOf r) := by
 unfold oneOf
 split
 ·exact h
 ·unfold I64; omega
theorem zlR (a b : Rg) (ia : I64 a.lo ∧ I64 a.hi) (ib : I64 b.lo) (w : World) : Calls Tryz.prog 233 #[a.val, b.val] w (zbj (divR a b).val w) := by
 have hp := zgb b
 have ik := zhS ib
 have HE : Hid (divR a b = if oneOf b = 0 then rg0 else ⟨if a.hl then a.lo.tdiv (oneOf b) else 0, if a.hh then a.hi.tdiv (oneOf b) else 0, a.hl, a.hh⟩) := hid rfl
 have H1 := hid (fun W => (show Calls Tryz.prog 248 #[b.val] W (fun e w' => e = .returned (.int .i64 (oneOf b)) ∧ Below W.heap.size W w') from zim b.lo b.hi b.hl b.hh W))
 generalize divR a b = R at *
 generalize oneOf b = k at *
 obtain ⟨alo, ahi, ahl, ahh⟩ := a
 obtain ⟨lo, hi, hl, hh⟩ := b
 dsimp only at ia ib HE
 have HL := hid (fun W => zf2 alo ahi ahl ahh W)
 have HH := hid (fun W => zgd alo ahi ahl ahh W)
 have HB1 := hid (fun W => znh alo k ahl ia.1 ik W)
 have HB2 := hid (fun W => znh ahi k ahh ia.2 ik W)
 have b3 : ∀ n : Int, 0 < k → (divW n k).1 = n.tdiv k := fun n h => by
  unfold divW
  rw [if_pos (by unfold divErr; rw [if_neg (by omega), if_neg (by omega)])]
 have HV := hid (And.intro (b3 alo) (b3 ahi))
 generalize (divW alo k).1 = u at *
 generalize (divW ahi k).1 = v at *
 have HT := hid (fun W => zfL u v ahl ahh W)
 unfold Rg.val at H1 ⊢
 dsimp only at H1 ⊢
 clear ia ib ik b3
 obtain ⟨p2, p3, p4, a0, a5⟩ := zah w #[alo, ahi, ahl, ahh] #[lo, hi, hl, hh] #[.int .i64 0, .int .i64 0, false, false] 49 49 49
 clear a5
 go_enter Tryz.func233, Tryz.ntmps233
 have b0 := zaj p3
 go_wp2_with fail
 clear b0
 generalize ((w.alloc (Obj.cells #[alo, ahi, ahl, ahh] 49)).alloc (Obj.cells #[lo, hi, hl, hh] 49)).alloc (Obj.cells #[.int .i64 0, .int .i64 0, false, false] 49) = w1 at *
 (with_reducible refine (H1.out w1).mono ?_)
 rintro e_w2 w2 ⟨rfl, a1⟩
 replace p2 := p2.later a1
 replace p3 := p3.later a1
 replace p4 := p4.later a1
 replace a0 := bup a0 a1
 clear a1 H1
 by_cases hk0 : k = 0
 ·subst hk0
  have hR : R = rg0 := by rw [HE.out]; rfl
  subst hR
  clear hp
  have y0 := zaj p4
  go_wp2
  clear y0
  have q9 := (((p4.set_ 0 (.int .i64 0)).set_ 1 (.int .i64 0)).set_ 2 (.bool false)).set_ 3 (.bool false)
  have a8 := a0.trans (zax (W := w2) (g := w.heap.size + 1 + 1) (v0 := .int .i64 0) (v1 := .int .i64 0) (v2 := .bool false) (v3 := .bool false) (by omega) a0.size)
  obtain ⟨z0, z1, z2, z3, fz⟩ := zaj (show Blk _ _ _ #[.int .i64 0, .int .i64 0, false, false] from q9)
  refine bodyPost_ret (v := .agg #[.int .i64 0, .int .i64 0, false, false]) (by simp [results, Tryz.results233, go_sem, z0, z1, z2, z3]) rfl (And.intro ?_ a8)
  rfl
 ·have t1 : (k == 0) = false := by rw [beq_eq_false_iff_ne]; exact hk0
  have hR : R = ⟨endV ahl u, endV ahh v, ahl, ahh⟩ := by
   have h1 := HV.out.1 (by omega)
   have h2 := HV.out.2 (by omega)
   rw [HE.out, if_neg hk0, h1, h2]
   unfold endV
   rfl
  subst hR
  clear hp hk0 HE HV
  go_upto_region 4 with fail
  have f0 := zac (show w2.cell? ⟨w.heap.size, 0, none⟩ = some (.int .i64 alo) from p2.cell 0)
  have f1 := zac (show w2.cell? ⟨w.heap.size, 1, none⟩ = some (.int .i64 ahi) from p2.cell 1)
  have f2 := zac (show w2.cell? ⟨w.heap.size, 2, none⟩ = some (.bool ahl) from p2.cell 2)
  have f3 := zac (show w2.cell? ⟨w.heap.size, 3, none⟩ = some (.bool ahh) from p2.cell 3)
  refine zad 7 [Sp.val (.agg #[alo, ahi, ahl, ahh]), Sp.val (.agg #[alo, ahl]), Sp.val (.func (.func 249) #[.agg #[alo, ahl]] #[]), Sp.val (.agg #[alo, ahi, ahl, ahh]), Sp.val (.agg #[ahi, ahh]), Sp.val (.func (.func 249) #[.agg #[ahi, ahh]] #[]), Sp.val (.func (.func 249) #[.agg #[alo, ahl]] #[])] (by kernel_rfl) (by kernel_rfl) ?_
  (refine fe_t (fun _ _ => ?_))
  refine zaf.callFV (by rfl) (fun W hW hf => ⟨244, #[.agg #[alo, ahi, ahl, ahh]], by go_simp, HL.out W⟩) (fun _ _ => ?_)
  refine fe_p ?_
  (refine fe_t (fun _ _ => ?_))
  (refine fe_t (fun _ _ => ?_))
  refine zaf.callFV (by rfl) (fun W hW hf => ⟨245, #[.agg #[alo, ahi, ahl, ahh]], by go_simp, HH.out W⟩) (fun _ _ => ?_)
  refine fe_p ?_
  (refine fe_t (fun _ _ => ?_))
  (refine fe_t (fun _ _ => ?_))
  refine zaf.tail (fun W hW hf hd2 => ?_)
  replace hW : Below w2.heap.size w2 W := Ext.trans (Below.refl _ _).drew hW
  clear hf hd2 f0 f1 f2 f3 HL HH p2 p3
  replace p4 := p4.later hW
  replace a0 := bup a0 hW
  clear hW
  go_wp2_with fail
  (with_reducible refine (HB1.out W).mono ?_)
  rintro e_w3 w3 ⟨rfl, a3⟩
  replace p4 := p4.later a3
  replace a0 := bup a0 a3
  clear a3 HB1
  go_wp2_with fail
  (with_reducible refine (HB2.out w3).mono ?_)
  rintro e_w4 w4 ⟨rfl, a2⟩
  replace p4 := p4.later a2
  replace a0 := bup a0 a2
  clear a2 HB2
  go_wp2_with fail
  (with_reducible refine (HT.out w4).mono ?_)
  rintro e_w5 w5 ⟨rfl, a4⟩
  replace p4 := p4.later a4
  replace a0 := bup a0 a4
  clear a4 HT
  generalize endV ahl u = u2 at *
  generalize endV ahh v = v2 at *
  have y0 := zaj p4
  go_wp2
  clear y0
  have q9 := (((p4.set_ 0 (.int .i64 u2)).set_ 1 (.int .i64 v2)).set_ 2 (.bool ahl)).set_ 3 (.bool ahh)
  have a8 := a0.trans (zax (W := w5) (g := w.heap.size + 1 + 1) (v0 := .int .i64 u2) (v1 := .int .i64 v2) (v2 := .bool ahl) (v3 := .bool ahh) (by omega) a0.size)
  obtain ⟨z0, z1, z2, z3, fz⟩ := zaj (show Blk _ _ _ #[u2, v2, ahl, ahh] from q9)
  refine bodyPost_ret (v := .agg #[u2, v2, ahl, ahh]) (by simp [results, Tryz.results233, go_sem, z0, z1, z2, z3]) rfl (And.intro ?_ a8)
  rfl
end
section
attribute [local go_sem ↓] Go.wp_at_zero Go.wp_at_succ
theorem Blk.set2 {W : World} {g : Nat} {t : TypeId} {a0 a1 v0 v1 : Value} (h : Blk W g t #[a0, a1]) : Blk ((W.setCell ⟨g, 0, none⟩ v0).setCell ⟨g, 1, none⟩ v1) g t #[v0, v1] := by
 have := (h.set_ 0 v0).set_ 1 v1
 simpa using this
theorem zdo {W : World} {B g : Nat} {v0 v1 : Value} (hg : B ≤ g) (_hB : B ≤ W.heap.size) : Below B W ((W.setCell ⟨g, 0, none⟩ v0).setCell ⟨g, 1, none⟩ v1) :=
 ((Below.refl B W).setCell (by simpa using hg) _).setCell (by simpa using hg) _
theorem Blk.far2 {W : World} {g q : Nat} {t : TypeId} {cs : Array Value} {v0 v1 : Value} (h : Blk W q t cs) (hne : g ≠ q) : Blk ((W.setCell ⟨g, 0, none⟩ v0).setCell ⟨g, 1, none⟩ v1) q t cs := (h.far (by simpa using hne) _).far (by simpa using hne) _
end
end Go.Proofs.YtnmpgijiimglcaaGreat
