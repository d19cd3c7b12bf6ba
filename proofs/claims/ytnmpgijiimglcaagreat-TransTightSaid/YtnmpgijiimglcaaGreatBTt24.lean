import Derived.Test.YtnmpgijiimglcaaGreatBTt23
import Derived.Test.YtnmpgijiimglcaaGreatBTt09
import Derived.ChangeKeysEq
import Derived.Deep.DeepCutAuto
import Derived.Test.YtnmpgijiimglcaaGreatBTt17
import Derived.Test.YtnmpgijiimglcaaGreatBTt14
namespace Go.Proofs.YtnmpgijiimglcaaGreat
open Go.RowKit
set_option maxRecDepth 100000
set_option maxHeartbeats 8000000
section
attribute [local go_sem ↓] Go.wp_at_zero Go.wp_at_succ
def zbS (f : Nat → Int) (L t : Nat) : List Int := (List.range t).map f ++ List.replicate (L - t) 0
theorem zgA (f : Nat → Int) {L t : Nat} (h : t ≤ L) : (zbS f L t).length = L := by unfold zbS; simp; omega
theorem zcV (f : Nat → Int) {L t : Nat} (h : t < L) : (zbS f L t).set t (f t) = zbS f L (t + 1) := by
 unfold zbS
 rw [List.set_append_right _ _ (by simp), List.range_succ, List.map_append]
 simp only [List.length_map, List.length_range, Nat.sub_self, List.map_cons, List.map_nil, List.append_assoc, List.singleton_append]
 congr 1
 rw [show L - t = (L - (t + 1)) + 1 by omega, List.replicate_succ, List.set_cons_zero]
theorem zgW (f : Nat → Int) (L : Nat) : zbS f L L = (List.range L).map f := by unfold zbS; simp
def zbX (N dst : Nat) (k : Int) (m : List Int) (p : Nat) : Int := if p / N ≠ p % N ∧ gI m (p : Int) ≠ 9223372036854775807 then plus (gI m (p : Int)) (byK dst k (p / N) - byK dst k (p % N)) else gI m (p : Int)
theorem ziR (N dst : Nat) (k : Int) (m : List Int) : zbS (zbX N dst k m) m.length m.length = zbf N dst k m := zgW _ _
theorem znf {dst i : Nat} {k : Int} (hk : -2305843009213693952 ≤ k ∧ k ≤ 2305843009213693952) : -2305843009213693952 ≤ byK dst k i ∧ byK dst k i ≤ 2305843009213693952 := by
 unfold byK; split
 ·split <;> omega
 ·omega
theorem ze8 (n : Int) (m : List Int) (N : Nat) (hN : (N : Int) = 2 * n) (hn : N ≤ 128) (hc : Cells N m) (dst : Nat) (hd : (dst : Int) < n) (k : Int) (hk : -2305843009213693952 ≤ k ∧ k ≤ 2305843009213693952) (A : Option Addr) (cap : Nat) (w : World) (hx : Rd w w.heap.size A m) (hm : m.length ≤ 17592186044416) :
  Calls Tryz.prog 197 #[.agg #[n, false, .slice A m.length cap], (dst : Int), (dst : Int), k] w (zaX w (closeO ⟨n, false, zbf N dst k m⟩)) := by
 have okq : OkO n ⟨n, false, zbf N dst k m⟩ := OkO.of_cells hN hn (zb3 (by omega) hc)
 have HN := hid hN
 have HD := hid hd
 have hl := hc.len
 have HL := hid hl
 have hn0 : 0 ≤ 2 * n := by omega
 have hn1 : 2 * n ≤ 128 := by omega
 have hn2 : 0 ≤ n := by omega
 have t1 : decide (2305843009213693952 < k) = false := by rw [decide_eq_false_iff_not]; omega
 have t2 : decide (k < -2305843009213693952) = false := by rw [decide_eq_false_iff_not]; omega
 have t3 : ((dst : Int) != (dst : Int)) = false := by simp
 have hw : wrap64 (-k) = -k := IntWalk.wrap64_in _ (by omega)
 have HK := hid hk
 have hmk := zd0 m.length hm
 have HSF := hid (ziR N dst k m)
 have HCC := hid hc
 clear hN hd hk hl hc
 obtain ⟨p0, p1, p2, a6, -⟩ := zah w #[n, false, .slice A m.length cap] #[(dst : Int)] #[.int .i64 0, false, .slice none 0 0] 24 3 24
 have pd := p1.cell 0
 go_enter Tryz.func197, Tryz.ntmps197
 go_upto_region 8 with fail
 clear pd a6 p0 p1 p2 t1 t2 t3 hw
 obtain ⟨p0, p1, p2, p3, hb0, b1⟩ := zav w #[n, false, .slice A m.length cap] #[(dst : Int)] #[.int .i64 0, false, .slice none 0 0] #[k, .int .i64 (-k)] 24 3 24 224
 replace hx := hx.up hb0
 generalize (((w.alloc (Obj.cells #[n, false, .slice A m.length cap] 24)).alloc (Obj.cells #[(dst : Int)] 3)).alloc (Obj.cells #[.int .i64 0, false, .slice none 0 0] 24)).alloc (Obj.cells #[k, .int .i64 (-k)] 224) = w0 at *
 go_cut [12] (fun s12 W => ∃ gO gS : Nat, s12 = .pointer (some ⟨gO, 0, none⟩) ∧ w.heap.size + 4 ≤ gO ∧ gO ≠ gS ∧ Blk W gO 24 #[n, false, .slice (some ⟨gS, 0, none⟩) m.length m.length] ∧ Own W (w.heap.size + 4) (some ⟨gS, 0, none⟩) m.length (List.replicate m.length 0) ∧ Below (w.heap.size + 4) w0 W)
 case first =>
  obtain ⟨x0, x1, x2, fx⟩ := zaa p0
  have hszd : w0.drew.heap.size = w.heap.size + 4 := b1
  go_region_held3 (fun W => W.cell? ⟨w.heap.size, 0, none⟩ = some (.int .i64 n) ∧ W.cell? ⟨w.heap.size, 2, none⟩ = some (.slice A m.length cap)) (go_keep) (fail)
  all_goals (go_wp2_with fail; go_meet)
  ·obtain ⟨q1, q2, q3⟩ := zne w0 b1 hm #[n, false, .slice (some ⟨w.heap.size + 4, 0, none⟩) m.length m.length] 24
   exact ⟨_, _, rfl, by omega, by omega, q1, q2, q3⟩
  ·obtain ⟨q1, q2, q3⟩ := znx w0 b1 hm #[n, false, .slice (some ⟨w.heap.size + 4 + 1, 0, none⟩) m.length m.length] 24
   exact ⟨_, _, rfl, by omega, by omega, q1, q2, q3⟩
 case rest =>
  obtain ⟨gO, gS, rfl, hgO, hne, b3, b0, c1⟩ := hcut
  rename_i w1 _
  have p0' := p0.below c1 (by omega)
  obtain ⟨x0, x1, x2, fx⟩ := zaa p0'
  go_wp2
  clear x0 x1 x2 fx p0'
  have a8 := hid b1
  clear b1
  go_loopw [63] (fun t wq => ∃ i : Nat, i ≤ N ∧ t = .int .i64 i ∧ Own wq (w.heap.size + 4) (some ⟨gS, 0, none⟩) m.length (zbS (zbX N dst k m) m.length (i * N)) ∧ Blk wq gO 24 #[n, false, .slice (some ⟨gS, 0, none⟩) m.length m.length] ∧ Below (w.heap.size + 4) w0 wq) (fun t _ => N - (RowKit.intOf t).toNat)
  case atStart => exact ⟨0, by omega, rfl, by rw [Nat.zero_mul]; unfold zbS; simpa using b0, b3, c1⟩
  case round =>
   clear b0 b3 c1
   obtain ⟨i, hi, rfl, own, kO, hb⟩ := hrel
   have q0 := p0.below hb (by omega)
   obtain ⟨x0, x1, x2, fx⟩ := zaa q0
   by_cases hlt : i < N
   ·have hlti : (i : Int) < 2 * n := by have := HN.out; omega
    go_wp2
    clear x0 x1 x2 fx q0
    have hsw : w.heap.size + 4 ≤ wr.heap.size := by have := hb.size; have := a8.out; omega
    go_loopw [69] (fun t wq => ∃ j : Nat, j ≤ N ∧ t = .int .i64 j ∧ Own wq (w.heap.size + 4) (some ⟨gS, 0, none⟩) m.length (zbS (zbX N dst k m) m.length (i * N + j)) ∧ Blk wq gO 24 #[n, false, .slice (some ⟨gS, 0, none⟩) m.length m.length] ∧ Below (w.heap.size + 4) w0 wq) (fun t _ => N - (RowKit.intOf t).toNat)
    case atStart => exact ⟨0, by omega, rfl, own, kO, hb⟩
    case round =>
     clear own kO hb
     obtain ⟨j, hj, rfl, own, kO, hb⟩ := hrel
     by_cases hlt2 : j < N
     ·have hltj : (j : Int) < 2 * n := by have := HN.out; omega
      have a9 : i * N + j < m.length := by
       rw [HL.out]
       have : (i + 1) * N ≤ N * N := Nat.mul_le_mul_right _ hlt
       rw [Nat.succ_mul] at this; omega
      obtain ⟨r, b6⟩ : ∃ r, r = i * N := ⟨_, rfl⟩
      have hm1 : 2 * n * (i : Int) = (r : Int) := by rw [b6, ← HN.out, Int.natCast_mul, Int.mul_comm]
      have hr1 : r ≤ 16384 := by rw [b6]; exact Nat.le_trans (Nat.mul_le_mul (Nat.le_of_lt hlt) (Nat.le_refl N)) (Nat.mul_le_mul hn hn)
      have hm2 : (r : Int) + (j : Int) = ((i * N + j : Nat) : Int) := by rw [b6]; simp
      have b9 : (i * N + j) / N = i ∧ (i * N + j) % N = j := ⟨zcC hlt2, zc8 hlt2⟩
      have HF : Hid (zbX N dst k m (i * N + j) = if i ≠ j ∧ gI m ((i * N + j : Nat) : Int) ≠ 9223372036854775807 then plus (gI m ((i * N + j : Nat) : Int)) (byK dst k i - byK dst k j) else gI m ((i * N + j : Nat) : Int)) := hid (by unfold zbX; rw [b9.1, b9.2])
      have hbk := HCC.out.bd i j hlt hlt2
      have HBD := hid hbk
      have a1 : i * N + (j + 1) = i * N + j + 1 := rfl
      clear b6 b9 hbk
      generalize i * N + j = p at *
      have hp' : (p : Int) < (m.length : Int) := by omega
      have HP := hid (show (0 : Int) ≤ (p : Int) by omega)
      obtain ⟨u, hu⟩ : ∃ u, u = gI m (p : Int) := ⟨_, rfl⟩
      have HU := hid hu
      rw [← hu] at HF HBD
      clear hu
      have q0 := p0.below hb (by omega)
      have hx1 := (hx.below (hb.mono (by have := a8.out; omega))).at_ HP.out hp'
      obtain ⟨bA, oA, hA, hbA, cA⟩ := hx1
      have HA := hid hA
      rw [show ((p : Int)).toNat = p from rfl, ← HU.out] at cA
      subst hA
      clear HA
      obtain ⟨x0, x1, x2, fx⟩ := zaa q0
      obtain ⟨y0, y1, y2, fy⟩ := zaa kO
      clear x0 x1 fx y0 y1 fy
      have cx := (zaa q0).1
      go_upto_region 16 with fail
      clear cx
      have f1 := later x2
      have f2 := later y2
      have f3 := later cA
      clear x2 y2 cA
      refine zab 8 (fun W => Below wr.heap.size wr W) (by kernel_rfl) (by kernel_rfl) (Below.refl _ _).drew ?_
      refine fl_a ?_
      intro w3 a6
      have cA3 := f3 w3 a6
      clear f1 f2 f3
      have c0 := hb.trans (a6.mono (by have := hb.size; have := a8.out; omega))
      replace kO := kO.later a6
      replace own := own.below a6
      have q0 := p0.below c0 (by omega)
      have b2 := own.store p u
      have hfr := own.frozen
      have a4 := zgA (zbX N dst k m) (Nat.le_of_lt a9)
      have hgS : w.heap.size + 4 ≤ gS := by
       rcases own.form with ⟨h, _⟩ | ⟨g, h, h', _⟩
       ·cases h
       ·injection h with h; injection h with h; omega
      obtain ⟨cS, hcS⟩ : ∃ c, w3.cell? ⟨gS, p, none⟩ = some c := by
       obtain ⟨_, _, e1, _, a0⟩ := own.rd p (by rw [a4]; exact a9)
       injection e1 with e1; injection e1 with e1 e2; subst e1; subst e2
       rw [Nat.zero_add] at a0
       exact ⟨_, a0⟩
      have a7 := hid b2
      clear own b2 a6 hb
      go_upto_region 17 with fail
      have a2 : Below (w.heap.size + 4) w0 (w3.setCell ⟨gS, p, none⟩ (.int .i64 u)) := c0.setCell (by simpa using hgS) _
      replace kO := kO.far (p := ⟨gS, p, none⟩) (by simpa using hne.symm) (.int .i64 u)
      clear c0 q0 cA3 hcS hfr
      generalize w3.setCell ⟨gS, p, none⟩ (.int .i64 u) = w5 at *
      have q0 := p0.below a2 (by omega)
      have q1 := p1.below a2 (by omega)
      have q3 := p3.below a2 (by omega)
      obtain ⟨_, _, eA, _, cA⟩ := (hx.below (a2.mono (by have := a8.out; omega))).at_ HP.out hp'
      injection eA with eA; injection eA with eA1 eA2; subst eA1; subst eA2
      rw [show ((p : Int)).toNat = p from rfl, ← HU.out] at cA
      obtain ⟨x0, x1, x2, fx⟩ := zaa q0
      by_cases hij : i = j
      ·have t1 : ((i : Int) != (j : Int)) = false := by rw [hij]; simp
       have HV : Hid (zbX N dst k m p = u) := hid (by rw [HF.out, if_neg (fun h => h.1 hij)])
       have HE : Hid ((zbS (zbX N dst k m) m.length p).set p u = zbS (zbX N dst k m) m.length (p + 1)) := hid (by rw [← HV.out]; exact zcV _ a9)
       rw [HE.out] at a7
       clear hij
       go_wp2
       go_roundw
       case rel => exact ⟨j + 1, by omega, by go_num, by rw [a1]; exact a7.out, kO, a2⟩
       case measure => simp [RowKit.intOf]; omega
      ·have t1 : ((i : Int) != (j : Int)) = true := by simp; omega
       cases t2 : (u != 9223372036854775807)
       ·have HV : Hid (zbX N dst k m p = u) := hid (by rw [HF.out, if_neg (fun h => by simp at t2; exact h.2 t2)])
        have HE : Hid ((zbS (zbX N dst k m) m.length p).set p u = zbS (zbX N dst k m) m.length (p + 1)) := hid (by rw [← HV.out]; exact zcV _ a9)
        rw [HE.out] at a7
        clear hij
        go_wp2
        go_roundw
        case rel => exact ⟨j + 1, by omega, by go_num, by rw [a1]; exact a7.out, kO, a2⟩
        case measure => simp [RowKit.intOf]; omega
       ·have HV : Hid (zbX N dst k m p = plus u (byK dst k i - byK dst k j)) := hid (by rw [HF.out, if_pos ⟨hij, by simpa using t2⟩])
        have hbi := znf (dst := dst) (i := i) HK.out
        have hbj := znf (dst := dst) (i := j) HK.out
        have hwv : wrap64 (byK dst k i - byK dst k j) = byK dst k i - byK dst k j := IntWalk.wrap64_in _ (by omega)
        have HB1 := hid (fun W h1 h2 => zoA dst i k (w.heap.size + 1) (w.heap.size + 1 + 1 + 1) W h1 h2 (by omega))
        have HB2 := hid (fun W h1 h2 => zoA dst j k (w.heap.size + 1) (w.heap.size + 1 + 1 + 1) W h1 h2 (by omega))
        have HE : Hid (((zbS (zbX N dst k m) m.length p).set p u).set p (plus u (byK dst k i - byK dst k j)) = zbS (zbX N dst k m) m.length (p + 1)) := hid (by rw [List.set_set, ← HV.out]; exact zcV _ a9)
        clear hij HV HF hbi hbj
        generalize byK dst k i = bi at *
        generalize byK dst k j = bj at *
        go_wp2_with fail
        obtain ⟨y0, y1, y2, fy⟩ := zaa kO
        have f2 := later x2
        have f3 := later cA
        have f4 := later y2
        clear x0 x1 x2 fx y0 y1 y2 fy cA
        refine zab 16 (fun X => Below w5.heap.size w5 X) (by kernel_rfl) (by kernel_rfl) (Below.refl _ _).drew ?_
        refine fl_a ?_
        (refine fl_c 238 #[(i : Int), .pointer (some ⟨w.heap.size + 1, 0, none⟩), .pointer (some ⟨w.heap.size + 1 + 1 + 1, 0, none⟩)] (.int .i64 bi) (fun X hX => (HB1.out _ (q1.later hX) (q3.later hX)).mono fun e' w' ⟨he, hw⟩ => ⟨he, hw ▸ hX⟩) ?_)
        refine fl_a ?_
        (refine fl_c 238 #[(j : Int), .pointer (some ⟨w.heap.size + 1, 0, none⟩), .pointer (some ⟨w.heap.size + 1 + 1 + 1, 0, none⟩)] (.int .i64 bj) (fun X hX => (HB2.out _ (q1.later hX) (q3.later hX)).mono fun e' w' ⟨he, hw⟩ => ⟨he, hw ▸ hX⟩) ?_)
        refine fl_a ?_
        (refine fl_c 239 #[.int .i64 u, .int .i64 (bi - bj)] (.int .i64 (plus u (bi - bj))) (fun X hX => (zfJ _ _ _).mono fun e' w' ⟨he, hw⟩ => ⟨he, hw ▸ hX⟩) ?_)
        intro w6 b5
        clear f2 f3 f4
        have a3 := a7.out.below b5
        have hb7 := a2.trans (b5.mono (by have := a2.size; have := a8.out; omega))
        replace kO := kO.later b5
        have hfr := a3.frozen
        obtain ⟨cS, hcS⟩ : ∃ c, w6.cell? ⟨gS, p, none⟩ = some c := by
         obtain ⟨_, _, e1, _, a0⟩ := a3.rd p (by rw [List.length_set, a4]; exact a9)
         injection e1 with e1; injection e1 with e1 e2; subst e1; subst e2
         rw [Nat.zero_add] at a0
         exact ⟨_, a0⟩
        have a5 := a3.store p (plus u (bi - bj))
        rw [HE.out] at a5
        have HO7 := hid a5
        clear a3 a5 a7 a2 b5 q0 q1 q3
        go_wp2
        go_roundw
        case rel => exact ⟨j + 1, by omega, by go_num, by rw [a1]; exact HO7.out, kO.far (p := ⟨gS, p, none⟩) (by simpa using hne.symm) _, hb7.setCell (by simpa using hgS) _⟩
        case measure => simp [RowKit.intOf]; omega
     ·obtain rfl : j = N := by omega
      have hge : ¬ ((j : Int) < 2 * n) := by have := HN.out; omega
      have b8 : i * j + j = (i + 1) * j := by rw [Nat.succ_mul]
      rw [b8] at own
      go_wp2
      go_roundw
      case rel => exact ⟨i + 1, by omega, by go_num, own, kO, hb⟩
      case measure => simp [RowKit.intOf]; omega
   ·obtain rfl : i = N := by omega
    have hge : ¬ ((i : Int) < 2 * n) := by have := HN.out; omega
    rw [← HL.out, HSF.out] at own
    have hlS := zfz i dst k m
    have q2 := p2.below hb (by omega)
    have hmq : (zbf i dst k m).length ≤ 17592186044416 := by rw [hlS]; exact hm
    have HT := hid (fun W h => zaN ⟨n, false, zbf i dst k m⟩ okq.ok (some ⟨gS, 0, none⟩) m.length W h hmq)
    dsimp only at HT
    rw [hlS] at HT
    have b7 := hb0.trans (hb.mono (by omega))
    clear x0 x1 x2 fx q0
    obtain ⟨y0, y1, y2, fy⟩ := zaa kO
    go_wp2_with fail
    clear y0 y1 y2 fy
    (with_reducible refine (HT.out wr own.rd).mono ?_)
    clear HT
    rintro e8 w8 ⟨A8, c8, rfl, b4, hb8⟩
    replace q2 := q2.later hb8
    replace b7 := bup b7 hb8
    generalize closeO ⟨n, false, zbf i dst k m⟩ = R at *
    have z0 := zaa q2
    go_wp2
    have q9 := q2.set3 (v0 := .int .i64 R.n) (v1 := .bool R.e) (v2 := .slice A8 R.m.length c8)
    have o9 := b4.far3 (g := w.heap.size + 1 + 1) (v0 := .int .i64 R.n) (v1 := .bool R.e) (v2 := .slice A8 R.m.length c8) (zak b4 q2 (by decide))
    obtain ⟨r0, r1, r2, fr⟩ := zaa q9
    refine bodyPost_ret (v := .agg #[R.n, R.e, .slice A8 R.m.length c8]) (by simp [results, Tryz.results197, go_sem, r0, r1, r2]) rfl ?_
    exact ⟨A8, c8, rfl, o9.less (by have := hb.size; have := a8.out; omega), b7.trans (zae (by omega) b7.size)⟩
end
section
attribute [local go_sem ↓] Go.wp_at_zero Go.wp_at_succ
def grV (g : Gr) (V D E : Option Addr) (cv cd ce : Nat) : Value := .agg #[.slice V g.nv cv, g.tm, .slice D g.sz.length cd, g.pts, g.ex, .slice E g.es.length ce]
def opV (v n : Int) : Value := .agg #[v, n]
theorem blk6 {w : World} {g : Nat} {t : TypeId} {a b c d e f : Value} (h : Blk w g t #[a, b, c, d, e, f]) :
  w.cell? ⟨g, 0, none⟩ = some a ∧ w.cell? ⟨g, 1, none⟩ = some b ∧ w.cell? ⟨g, 2, none⟩ = some c ∧ w.cell? ⟨g, 3, none⟩ = some d ∧ w.cell? ⟨g, 4, none⟩ = some e ∧ w.cell? ⟨g, 5, none⟩ = some f ∧ ∀ j, w.frozen? ⟨g, j, none⟩ = false :=
 ⟨h.cell 0, h.cell 1, h.cell 2, h.cell 3, h.cell 4, h.cell 5, h.fr⟩
theorem zl2 (op : Int) (w : World) :
  Calls Tryz.prog 208 #[op] w fun e w' => e = .returned (.int .i64 (notOp op)) ∧ w = w' := by
 by_cases h : 1 ≤ op ∧ op ≤ 6
 ·have : op = 1 ∨ op = 2 ∨ op = 3 ∨ op = 4 ∨ op = 5 ∨ op = 6 := by omega
  rcases this with rfl | rfl | rfl | rfl | rfl | rfl <;> (go_enter Tryz.func208, Tryz.ntmps208; go_wp2; go_ret; exact ⟨rfl, rfl⟩)
 ·have h1 : (op == 1) = false := by rw [beq_eq_false_iff_ne]; omega
  have h2 : (op == 2) = false := by rw [beq_eq_false_iff_ne]; omega
  have h3 : (op == 3) = false := by rw [beq_eq_false_iff_ne]; omega
  have h4 : (op == 4) = false := by rw [beq_eq_false_iff_ne]; omega
  have h5 : (op == 5) = false := by rw [beq_eq_false_iff_ne]; omega
  have h6 : (op == 6) = false := by rw [beq_eq_false_iff_ne]; omega
  have HN : Hid (notOp op = 0) := hid (by unfold notOp; simp only [show op ≠ 1 by omega, show op ≠ 2 by omega, show op ≠ 3 by omega, show op ≠ 4 by omega, show op ≠ 5 by omega, show op ≠ 6 by omega, if_false])
  clear h
  go_enter Tryz.func208, Tryz.ntmps208
  go_wp2; go_ret; exact ⟨zas HN.out.symm, rfl⟩
theorem zmw (w : World) :
  Calls Tryz.prog 207 #[] w fun e w' => e = .returned (opV (-1) 0) ∧ Below w.heap.size w w' := by
 unfold opV
 go_enter Tryz.func207, Tryz.ntmps207
 go_wp2
 exact bodyPost_ret (v := .agg #[.int .i64 (-1), .int .i64 0]) (by simp [results, Tryz.results207, go_sem]) rfl ⟨rfl, new1 _ _⟩
theorem zjU (g : Gr) (V D E : Option Addr) (cv cd ce : Nat) (w : World) (h0 : 0 ≤ g.tm) (h1 : g.tm ≤ 64) (hv : g.nv ≤ 17592186044416) :
  Calls Tryz.prog 81 #[grV g V D E cv cd ce] w fun e w' => e = .returned (.int .i64 g.all) ∧ Below w.heap.size w w' := by
 unfold grV Gr.all
 go_enter Tryz.func81, Tryz.ntmps81
 go_wp2; go_ret; exact ⟨rfl, new1 _ _⟩
theorem ziy (w : World) : (isAgg 3).run Tryz.prog w = .ok false w := by kernel_rfl
theorem zjI (w : World) : (isAgg 2).run Tryz.prog w = .ok false w := by kernel_rfl
theorem zn0 (d : Nat) (a c : Int) (w : World) : (Op.equalIn (d + 1) 3 (.int .i64 a) (.int .i64 c)).run Tryz.prog w = .ok (a == c) w := by
 simp [Op.equalIn, run_underlying Tryz.underlying3]
theorem zkP (d : Nat) (a c : Int) (w : World) : (Op.equalIn (d + 1) 2 (.int .i64 a) (.int .i64 c)).run Tryz.prog w = .ok (a == c) w := by
 simp [Op.equalIn, run_underlying Tryz.underlying2]
theorem zox (x y : Value) (w : World) : (Go.part 3 #[x, y] 0).run Tryz.prog w = .ok x w := by simp [Go.part]
theorem zoC (x y : Value) (w : World) : (Go.part 2 #[x, y] 1).run Tryz.prog w = .ok y w := by simp [Go.part]
theorem zpc (_w : World) : Tryz.prog.stoodInHeld 26 = false := by kernel_rfl
theorem zeS (d : Nat) (a b c e : Int) (w : World) : (Op.equalIn (d + 2) 26 (.agg #[a, b]) (.agg #[c, e])).run Tryz.prog w = .ok (a == c && b == e) w := by
 rw [Op.equalIn]
 simp only [Sem.run_bind, run_underlying Tryz.underlying26, Result.andThen_ok]
 simp [zox, zoC, zn0, zkP]
 by_cases h : a = c <;> by_cases h2 : b = e <;> simp [h, h2]
def opEq (a b c e : Int) : Bool := a == c && b == e
theorem zcA (a b c e : Int) (w : World) : (Op.equal 26 (.agg #[a, b]) (.agg #[c, e])).run Tryz.prog w = .ok (opEq a b c e) w := zeS 9998 a b c e w
theorem zcl (a b c e : Int) (w : World) : (Op.equalIn 10000 26 (.agg #[a, b]) (.agg #[c, e])).run Tryz.prog w = .ok (opEq a b c e) w := zcA a b c e w
end
section
theorem zkG (n fr te kd dst arr op av an bv bn : Int) : zbd n ⟨fr, te, kd, dst, arr, op, av, an, bv, bn⟩ = (decide (1 ≤ kd ∧ kd ≤ 14) && ((bif wDst kd then (decide (0 ≤ dst) && decide (dst < n)) else (dst == -1)) && ((bif wArr kd then decide (0 ≤ arr) else (arr == -1)) && ((bif wOp kd then (decide (1 ≤ op) && decide (op ≤ 6)) else (op == 0)) && ((bif wA kd then opdOk n av an else opEq av an (-1) 0) && (bif wB kd then opdOk n bv bn else opEq bv bn (-1) 0)))))) := by
 unfold zbd rightE zaA opEq
 dsimp only
 generalize opdOk n av an = x1
 generalize opdOk n bv bn = x2
 have e1 : ∀ x y : Int, (x == y) = decide (x = y) := fun x y => by rw [Bool.eq_iff_iff]; simp
 simp only [e1, ← Bool.decide_and]
 by_cases h : 0 ≤ arr
 ·rw [if_pos h, if_pos h]
  rw [show decide ((0 : Int) ≤ 0 ∧ (0 : Int) < 1) = true from rfl, show decide ((0 : Int) = -1) = false from rfl, show decide (0 ≤ arr) = true from decide_eq_true h, show decide (arr = -1) = false from decide_eq_false (by omega)]
  simp only [Bool.and_assoc]
 ·rw [if_neg h, if_neg h]
  rw [show decide (0 ≤ arr ∧ arr < 0) = false from decide_eq_false (by omega), show decide (0 ≤ arr) = false from decide_eq_false h]
  simp only [Bool.and_assoc]
end
section
attribute [local go_sem ↓] Go.wp_at_zero Go.wp_at_succ
attribute [local go_sem ↓] zcA zcl
theorem zaq (a b c : Bool) (w : World) :
  Calls Tryz.prog 130 #[a, b, c] w fun e w' => e = .returned (.bool (bif a then b else c)) ∧ w = w' := by
 cases a <;> (go_enter Tryz.func130, Tryz.ntmps130; go_wp2; go_ret; exact ⟨rfl, rfl⟩)
theorem zgX (v m n : Int) (w : World) :
  Calls Tryz.prog 131 #[.agg #[v, m], n] w fun e w' => e = .returned (.bool (opdOk n v m)) ∧ Below w.heap.size w w' := by
 have n0 := new1 w (.cells #[v, m] 26)
 go_enter Tryz.func131, Tryz.ntmps131
 cases t1 : (v == -1)
 ·have h1 := beq_eq_false_iff_ne.1 t1
  cases t2 : decide (0 ≤ v)
  ·have h2 := of_decide_eq_false t2
   have HR := hid (show opdOk n v m = false by unfold opdOk; rw [decide_eq_false_iff_not]; omega)
   clear h1 h2
   go_wp2; go_ret; exact ⟨retb HR.out.symm, n0⟩
  ·have h2 := of_decide_eq_true t2
   cases t3 : decide (v < n)
   ·have h3 := of_decide_eq_false t3
    have HR := hid (show opdOk n v m = false by unfold opdOk; rw [decide_eq_false_iff_not]; omega)
    clear h1 h2 h3
    go_wp2; go_ret; exact ⟨retb HR.out.symm, n0⟩
   ·have h3 := of_decide_eq_true t3
    have HR := hid (show opdOk n v m = (m == 0) by unfold opdOk; rw [Bool.eq_iff_iff]; simp; omega)
    clear h1 h2 h3
    go_wp2; go_ret; exact ⟨retb HR.out.symm, n0⟩
 ·have h1 := beq_iff_eq.1 t1
  have HR := hid (show opdOk n v m = true by unfold opdOk; rw [decide_eq_true_eq]; omega)
  clear h1
  go_wp2; go_ret; exact ⟨retb HR.out.symm, n0⟩
theorem zmg (w : World) : Calls Tryz.prog 129 #[.int .i64 2] w fun e w' => e = .returned (.agg #[true, false, false, true, false]) ∧ Below w.heap.size w w' := by
 go_enter Tryz.func129, Tryz.ntmps129
 go_wp2
 refine bodyPost_ret (v := .agg #[true, false, false, true, false]) (by simp [results, Tryz.results129, go_sem]) rfl (And.intro rfl ?_)
 exact zbF
theorem zmi (w : World) : Calls Tryz.prog 129 #[.int .i64 3] w fun e w' => e = .returned (.agg #[true, false, false, true, false]) ∧ Below w.heap.size w w' := by
 go_enter Tryz.func129, Tryz.ntmps129
 go_wp2
 refine bodyPost_ret (v := .agg #[true, false, false, true, false]) (by simp [results, Tryz.results129, go_sem]) rfl (And.intro rfl ?_)
 exact zbF
theorem zmR (w : World) : Calls Tryz.prog 129 #[.int .i64 4] w fun e w' => e = .returned (.agg #[true, false, false, true, true]) ∧ Below w.heap.size w w' := by
 go_enter Tryz.func129, Tryz.ntmps129
 go_wp2
 refine bodyPost_ret (v := .agg #[true, false, false, true, true]) (by simp [results, Tryz.results129, go_sem]) rfl (And.intro rfl ?_)
 exact zbF
theorem zmX (w : World) : Calls Tryz.prog 129 #[.int .i64 5] w fun e w' => e = .returned (.agg #[true, false, false, true, true]) ∧ Below w.heap.size w w' := by
 go_enter Tryz.func129, Tryz.ntmps129
 go_wp2
 refine bodyPost_ret (v := .agg #[true, false, false, true, true]) (by simp [results, Tryz.results129, go_sem]) rfl (And.intro rfl ?_)
 exact zbF
theorem zl3 (w : World) : Calls Tryz.prog 129 #[.int .i64 6] w fun e w' => e = .returned (.agg #[true, false, false, true, true]) ∧ Below w.heap.size w w' := by
 go_enter Tryz.func129, Tryz.ntmps129
 go_wp2
 refine bodyPost_ret (v := .agg #[true, false, false, true, true]) (by simp [results, Tryz.results129, go_sem]) rfl (And.intro rfl ?_)
 exact zbF
theorem znd (w : World) : Calls Tryz.prog 129 #[.int .i64 7] w fun e w' => e = .returned (.agg #[true, false, false, true, true]) ∧ Below w.heap.size w w' := by
 go_enter Tryz.func129, Tryz.ntmps129
 go_wp2
 refine bodyPost_ret (v := .agg #[true, false, false, true, true]) (by simp [results, Tryz.results129, go_sem]) rfl (And.intro rfl ?_)
 exact zbF
theorem zlF (w : World) : Calls Tryz.prog 129 #[.int .i64 8] w fun e w' => e = .returned (.agg #[true, false, false, true, true]) ∧ Below w.heap.size w w' := by
 go_enter Tryz.func129, Tryz.ntmps129
 go_wp2
 refine bodyPost_ret (v := .agg #[true, false, false, true, true]) (by simp [results, Tryz.results129, go_sem]) rfl (And.intro rfl ?_)
 exact zbF
theorem zmf (w : World) : Calls Tryz.prog 129 #[.int .i64 9] w fun e w' => e = .returned (.agg #[true, false, false, false, false]) ∧ Below w.heap.size w w' := by
 go_enter Tryz.func129, Tryz.ntmps129
 go_wp2
 refine bodyPost_ret (v := .agg #[true, false, false, false, false]) (by simp [results, Tryz.results129, go_sem]) rfl (And.intro rfl ?_)
 exact zbF
theorem zlf (w : World) : Calls Tryz.prog 129 #[.int .i64 10] w fun e w' => e = .returned (.agg #[true, true, false, true, false]) ∧ Below w.heap.size w w' := by
 go_enter Tryz.func129, Tryz.ntmps129
 go_wp2
 refine bodyPost_ret (v := .agg #[true, true, false, true, false]) (by simp [results, Tryz.results129, go_sem]) rfl (And.intro rfl ?_)
 exact zbF
theorem zln (w : World) : Calls Tryz.prog 129 #[.int .i64 11] w fun e w' => e = .returned (.agg #[false, true, false, true, true]) ∧ Below w.heap.size w w' := by
 go_enter Tryz.func129, Tryz.ntmps129
 go_wp2
 refine bodyPost_ret (v := .agg #[false, true, false, true, true]) (by simp [results, Tryz.results129, go_sem]) rfl (And.intro rfl ?_)
 exact zbF
theorem zlr (w : World) : Calls Tryz.prog 129 #[.int .i64 12] w fun e w' => e = .returned (.agg #[false, false, true, true, true]) ∧ Below w.heap.size w w' := by
 go_enter Tryz.func129, Tryz.ntmps129
 go_wp2
 refine bodyPost_ret (v := .agg #[false, false, true, true, true]) (by simp [results, Tryz.results129, go_sem]) rfl (And.intro rfl ?_)
 exact zbF
theorem zkh (k : Int) (h : ¬ (2 ≤ k ∧ k ≤ 12)) (w : World) : Calls Tryz.prog 129 #[k] w fun e w' => e = .returned (.agg #[false, false, false, false, false]) ∧ Below w.heap.size w w' := by
 have h2 : (k == 2) = false := by rw [beq_eq_false_iff_ne]; omega
 have h3 : (k == 3) = false := by rw [beq_eq_false_iff_ne]; omega
 have h4 : (k == 4) = false := by rw [beq_eq_false_iff_ne]; omega
 have h5 : (k == 5) = false := by rw [beq_eq_false_iff_ne]; omega
 have h6 : (k == 6) = false := by rw [beq_eq_false_iff_ne]; omega
 have h7 : (k == 7) = false := by rw [beq_eq_false_iff_ne]; omega
 have h8 : (k == 8) = false := by rw [beq_eq_false_iff_ne]; omega
 have h9 : (k == 9) = false := by rw [beq_eq_false_iff_ne]; omega
 have h10 : (k == 10) = false := by rw [beq_eq_false_iff_ne]; omega
 have h11 : (k == 11) = false := by rw [beq_eq_false_iff_ne]; omega
 have h12 : (k == 12) = false := by rw [beq_eq_false_iff_ne]; omega
 clear h
 go_enter Tryz.func129, Tryz.ntmps129
 go_wp2
 refine bodyPost_ret (v := .agg #[false, false, false, false, false]) (by simp [results, Tryz.results129, go_sem]) rfl (And.intro rfl ?_)
 exact zbF
theorem zi8 (k : Int) (w : World) :
  Calls Tryz.prog 129 #[k] w fun e w' => e = .returned (.agg #[.bool (wDst k), .bool (wArr k), .bool (wOp k), .bool (wA k), .bool (wB k)]) ∧ Below w.heap.size w w' := by
 by_cases h : 2 ≤ k ∧ k ≤ 12
 ·have : k = 2 ∨ k = 3 ∨ k = 4 ∨ k = 5 ∨ k = 6 ∨ k = 7 ∨ k = 8 ∨ k = 9 ∨ k = 10 ∨ k = 11 ∨ k = 12 := by omega
  rcases this with rfl | rfl | rfl | rfl | rfl | rfl | rfl | rfl | rfl | rfl | rfl
  ·exact zmg w
  ·exact zmi w
  ·exact zmR w
  ·exact zmX w
  ·exact zl3 w
  ·exact znd w
  ·exact zlF w
  ·exact zmf w
  ·exact zlf w
  ·exact zln w
  ·exact zlr w
 ·have := zkh k h w
  rw [show wDst k = false from decide_eq_false (by omega), show wArr k = false from decide_eq_false (by omega), show wOp k = false from decide_eq_false (by omega), show wA k = false from decide_eq_false (by omega), show wB k = false from decide_eq_false (by omega)]
  exact this
theorem zjj (n : Int) (e : Edg) (w : World) :
  Calls Tryz.prog 67 #[e.val, n] w fun r w' => r = .returned (.bool (zbd n e)) ∧ Below w.heap.size w w' := by
 obtain ⟨fr, te, kd, dst, arr, op, av, an, bv, bn⟩ := e
 have HA : ∀ W, Calls Tryz.prog 131 #[.agg #[av, an], n] W fun e w' => e = .returned (.bool (opdOk n av an)) ∧ Below W.heap.size W w' := fun W => zgX av an n W
 have HB : ∀ W, Calls Tryz.prog 131 #[.agg #[bv, bn], n] W fun e w' => e = .returned (.bool (opdOk n bv bn)) ∧ Below W.heap.size W w' := fun W => zgX bv bn n W
 have HW : ∀ W, Calls Tryz.prog 129 #[kd] W fun e w' => e = .returned (.agg #[.bool (wDst kd), .bool (wArr kd), .bool (wOp kd), .bool (wA kd), .bool (wB kd)]) ∧ Below W.heap.size W w' := zi8 kd
 have HR := hid (zkG n fr te kd dst arr op av an bv bn)
 unfold Edg.val at *
 dsimp only at *
 obtain ⟨k1, n0, -⟩ := zaw w #[fr, te, kd, dst, arr, op, av, an, bv, bn] 44
 replace HA := hid HA
 replace HB := hid HB
 replace HW := hid HW
 generalize hq3 : opdOk n av an = q3 at HA HR
 generalize hq4 : opdOk n bv bn = q4 at HB HR
 clear hq3 hq4
 go_enter Tryz.func67, Tryz.ntmps67
 have x2 := k1.cell 2
 by_cases l1 : kd < 1
 ·have HX := hid l1
  have t1 : decide (kd < 1) = true := decide_eq_true l1
  clear l1
  go_wp2; go_ret; exact ⟨retb (by rw [HR.out, show decide (1 ≤ kd ∧ kd ≤ 14) = false from decide_eq_false (by have := HX.out; omega)]; simp), n0⟩
 have t1 : decide (kd < 1) = false := decide_eq_false l1
 by_cases l2 : 14 < kd
 ·have HX := hid l2
  have t2 : decide (14 < kd) = true := decide_eq_true l2
  clear l2 l1
  go_wp2; go_ret; exact ⟨retb (by rw [HR.out, show decide (1 ≤ kd ∧ kd ≤ 14) = false from decide_eq_false (by have := HX.out; omega)]; simp), n0⟩
 have t2 : decide (14 < kd) = false := decide_eq_false l2
 have HK : Hid (decide (1 ≤ kd ∧ kd ≤ 14) = true) := hid (decide_eq_true (by omega))
 rw [HK.out] at HR
 clear l1 l2
 go_wp2_with fail
 generalize w.alloc (.cells #[fr, te, kd, dst, arr, op, av, an, bv, bn] 44) = w1 at *
 refine (HW.out _).mono ?_
 clear HW x2 HK t1 t2
 rintro e4 w4 ⟨rfl, a1⟩
 replace n0 := bup n0 a1
 replace k1 := k1.later a1
 clear a1
 obtain ⟨k5, k6, a2, -⟩ := zao w4 #[.bool (wDst kd), .bool (wArr kd), .bool (wOp kd), .bool (wA kd), .bool (wB kd)] #[.int .i64 (-1), .int .i64 0] 156 26
 replace n0 := bup n0 a2
 replace k1 := k1.later a2
 clear a2
 go_upto_region 4 with fail
 generalize ((w4.alloc (.cells #[.bool (wDst kd), .bool (wArr kd), .bool (wOp kd), .bool (wA kd), .bool (wB kd)] 156)).alloc (.cells #[.int .i64 (-1), .int .i64 0] 26)) = w5 at *
 generalize w4.heap.size = g4 at *
 have d3 := later (k1.cell 3)
 have d4 := later (k1.cell 4)
 have d5 := later (k1.cell 5)
 have d6 := later (k1.cell 6)
 have d7 := later (k1.cell 7)
 have d8 := later (k1.cell 8)
 have d9 := later (k1.cell 9)
 have g0 := later (k5.cell 0)
 have g1 := later (k5.cell 1)
 have g2 := later (k5.cell 2)
 have g3 := later (k5.cell 3)
 have g4' := later (k5.cell 4)
 have m0 := later (k6.cell 0)
 have m1 := later (k6.cell 1)
 clear k1 k5 k6
 refine zbu 66 (fun W => Below w5.heap.size w5 W) (by kernel_rfl) (by kernel_rfl) (Below.refl _ _).drew ?_
 cases o0 : decide (0 ≤ dst)
 ·rw [o0, Bool.false_and] at HR
  refine fl_a ?_
  cases c1 : (bif wDst kd then (false) else (dst == -1))
  ·(refine fl_c 130 #[.bool (wDst kd), .bool (false), .bool (dst == -1)] (.bool false) (fun X hX => ((zaq _ _ _ _).mono fun e w' ⟨he, hb⟩ => ⟨he.trans (retb c1), hb ▸ hX⟩)) ?_)
   refine fl_a ?_
   intro w6 a0
   go_wp2
   go_ret
   exact ⟨retb (by rw [HR.out, c1]; rfl), bup n0 a0⟩
  ·(refine fl_c 130 #[.bool (wDst kd), .bool (false), .bool (dst == -1)] (.bool true) (fun X hX => ((zaq _ _ _ _).mono fun e w' ⟨he, hb⟩ => ⟨he.trans (retb c1), hb ▸ hX⟩)) ?_)
   refine fl_a ?_
   cases c2 : (bif wArr kd then decide (0 ≤ arr) else (arr == -1))
   ·(refine fl_c 130 #[.bool (wArr kd), .bool (decide (0 ≤ arr)), .bool (arr == -1)] (.bool false) (fun X hX => ((zaq _ _ _ _).mono fun e w' ⟨he, hb⟩ => ⟨he.trans (retb c2), hb ▸ hX⟩)) ?_)
    refine fl_a ?_
    intro w6 a0
    go_wp2
    go_ret
    exact ⟨retb (by rw [HR.out, c1, c2]; rfl), bup n0 a0⟩
   ·(refine fl_c 130 #[.bool (wArr kd), .bool (decide (0 ≤ arr)), .bool (arr == -1)] (.bool true) (fun X hX => ((zaq _ _ _ _).mono fun e w' ⟨he, hb⟩ => ⟨he.trans (retb c2), hb ▸ hX⟩)) ?_)
    cases o1 : decide (1 ≤ op)
    ·rw [o1, Bool.false_and] at HR
     refine fl_a ?_
     cases c3 : (bif wOp kd then (false) else (op == 0))
     ·(refine fl_c 130 #[.bool (wOp kd), .bool (false), .bool (op == 0)] (.bool false) (fun X hX => ((zaq _ _ _ _).mono fun e w' ⟨he, hb⟩ => ⟨he.trans (retb c3), hb ▸ hX⟩)) ?_)
      refine fl_a ?_
      intro w6 a0
      go_wp2
      go_ret
      exact ⟨retb (by rw [HR.out, c1, c2, c3]; rfl), bup n0 a0⟩
     ·(refine fl_c 130 #[.bool (wOp kd), .bool (false), .bool (op == 0)] (.bool true) (fun X hX => ((zaq _ _ _ _).mono fun e w' ⟨he, hb⟩ => ⟨he.trans (retb c3), hb ▸ hX⟩)) ?_)
      refine fl_a ?_
      (refine fl_c 131 #[.agg #[av, an], n] (.bool q3) (fun X hX => ((HA.out _).mono fun e w' ⟨he, hb⟩ => ⟨he, za0 hX hX.size hb⟩)) ?_)
      refine fl_a ?_
      cases c4 : (bif wA kd then q3 else opEq av an (-1) 0)
      ·(refine fl_c 130 #[.bool (wA kd), q3, .bool (opEq av an (-1) 0)] (.bool false) (fun X hX => ((zaq _ _ _ _).mono fun e w' ⟨he, hb⟩ => ⟨he.trans (retb c4), hb ▸ hX⟩)) ?_)
       refine fl_a ?_
       intro w6 a0
       go_wp2
       go_ret
       exact ⟨retb (by rw [HR.out, c1, c2, c3, c4]; rfl), bup n0 a0⟩
      ·(refine fl_c 130 #[.bool (wA kd), q3, .bool (opEq av an (-1) 0)] (.bool true) (fun X hX => ((zaq _ _ _ _).mono fun e w' ⟨he, hb⟩ => ⟨he.trans (retb c4), hb ▸ hX⟩)) ?_)
       refine fl_a ?_
       (refine fl_c 131 #[.agg #[bv, bn], n] (.bool q4) (fun X hX => ((HB.out _).mono fun e w' ⟨he, hb⟩ => ⟨he, za0 hX hX.size hb⟩)) ?_)
       refine fl_a ?_
       intro w6 a0
       go_wp2_with fail
       refine (zaq _ _ _ _).mono ?_
       rintro e7 w7 ⟨rfl, rfl⟩
       go_wp2; go_ret
       exact ⟨retb (by rw [HR.out, c1, c2, c3, c4]; rfl), bup n0 a0⟩
    ·rw [o1, show (true && decide (op ≤ 6)) = decide (op ≤ 6) from Bool.true_and _] at HR
     refine fl_a ?_
     cases c3 : (bif wOp kd then (decide (op ≤ 6)) else (op == 0))
     ·(refine fl_c 130 #[.bool (wOp kd), .bool (decide (op ≤ 6)), .bool (op == 0)] (.bool false) (fun X hX => ((zaq _ _ _ _).mono fun e w' ⟨he, hb⟩ => ⟨he.trans (retb c3), hb ▸ hX⟩)) ?_)
      refine fl_a ?_
      intro w6 a0
      go_wp2
      go_ret
      exact ⟨retb (by rw [HR.out, c1, c2, c3]; rfl), bup n0 a0⟩
     ·(refine fl_c 130 #[.bool (wOp kd), .bool (decide (op ≤ 6)), .bool (op == 0)] (.bool true) (fun X hX => ((zaq _ _ _ _).mono fun e w' ⟨he, hb⟩ => ⟨he.trans (retb c3), hb ▸ hX⟩)) ?_)
      refine fl_a ?_
      (refine fl_c 131 #[.agg #[av, an], n] (.bool q3) (fun X hX => ((HA.out _).mono fun e w' ⟨he, hb⟩ => ⟨he, za0 hX hX.size hb⟩)) ?_)
      refine fl_a ?_
      cases c4 : (bif wA kd then q3 else opEq av an (-1) 0)
      ·(refine fl_c 130 #[.bool (wA kd), q3, .bool (opEq av an (-1) 0)] (.bool false) (fun X hX => ((zaq _ _ _ _).mono fun e w' ⟨he, hb⟩ => ⟨he.trans (retb c4), hb ▸ hX⟩)) ?_)
       refine fl_a ?_
       intro w6 a0
       go_wp2
       go_ret
       exact ⟨retb (by rw [HR.out, c1, c2, c3, c4]; rfl), bup n0 a0⟩
      ·(refine fl_c 130 #[.bool (wA kd), q3, .bool (opEq av an (-1) 0)] (.bool true) (fun X hX => ((zaq _ _ _ _).mono fun e w' ⟨he, hb⟩ => ⟨he.trans (retb c4), hb ▸ hX⟩)) ?_)
       refine fl_a ?_
       (refine fl_c 131 #[.agg #[bv, bn], n] (.bool q4) (fun X hX => ((HB.out _).mono fun e w' ⟨he, hb⟩ => ⟨he, za0 hX hX.size hb⟩)) ?_)
       refine fl_a ?_
       intro w6 a0
       go_wp2_with fail
       refine (zaq _ _ _ _).mono ?_
       rintro e7 w7 ⟨rfl, rfl⟩
       go_wp2; go_ret
       exact ⟨retb (by rw [HR.out, c1, c2, c3, c4]; rfl), bup n0 a0⟩
 ·rw [o0, show (true && decide (dst < n)) = decide (dst < n) from Bool.true_and _] at HR
  refine fl_a ?_
  cases c1 : (bif wDst kd then (decide (dst < n)) else (dst == -1))
  ·(refine fl_c 130 #[.bool (wDst kd), .bool (decide (dst < n)), .bool (dst == -1)] (.bool false) (fun X hX => ((zaq _ _ _ _).mono fun e w' ⟨he, hb⟩ => ⟨he.trans (retb c1), hb ▸ hX⟩)) ?_)
   refine fl_a ?_
   intro w6 a0
   go_wp2
   go_ret
   exact ⟨retb (by rw [HR.out, c1]; rfl), bup n0 a0⟩
  ·(refine fl_c 130 #[.bool (wDst kd), .bool (decide (dst < n)), .bool (dst == -1)] (.bool true) (fun X hX => ((zaq _ _ _ _).mono fun e w' ⟨he, hb⟩ => ⟨he.trans (retb c1), hb ▸ hX⟩)) ?_)
   refine fl_a ?_
   cases c2 : (bif wArr kd then decide (0 ≤ arr) else (arr == -1))
   ·(refine fl_c 130 #[.bool (wArr kd), .bool (decide (0 ≤ arr)), .bool (arr == -1)] (.bool false) (fun X hX => ((zaq _ _ _ _).mono fun e w' ⟨he, hb⟩ => ⟨he.trans (retb c2), hb ▸ hX⟩)) ?_)
    refine fl_a ?_
    intro w6 a0
    go_wp2
    go_ret
    exact ⟨retb (by rw [HR.out, c1, c2]; rfl), bup n0 a0⟩
   ·(refine fl_c 130 #[.bool (wArr kd), .bool (decide (0 ≤ arr)), .bool (arr == -1)] (.bool true) (fun X hX => ((zaq _ _ _ _).mono fun e w' ⟨he, hb⟩ => ⟨he.trans (retb c2), hb ▸ hX⟩)) ?_)
    cases o1 : decide (1 ≤ op)
    ·rw [o1, Bool.false_and] at HR
     refine fl_a ?_
     cases c3 : (bif wOp kd then (false) else (op == 0))
     ·(refine fl_c 130 #[.bool (wOp kd), .bool (false), .bool (op == 0)] (.bool false) (fun X hX => ((zaq _ _ _ _).mono fun e w' ⟨he, hb⟩ => ⟨he.trans (retb c3), hb ▸ hX⟩)) ?_)
      refine fl_a ?_
      intro w6 a0
      go_wp2
      go_ret
      exact ⟨retb (by rw [HR.out, c1, c2, c3]; rfl), bup n0 a0⟩
     ·(refine fl_c 130 #[.bool (wOp kd), .bool (false), .bool (op == 0)] (.bool true) (fun X hX => ((zaq _ _ _ _).mono fun e w' ⟨he, hb⟩ => ⟨he.trans (retb c3), hb ▸ hX⟩)) ?_)
      refine fl_a ?_
      (refine fl_c 131 #[.agg #[av, an], n] (.bool q3) (fun X hX => ((HA.out _).mono fun e w' ⟨he, hb⟩ => ⟨he, za0 hX hX.size hb⟩)) ?_)
      refine fl_a ?_
      cases c4 : (bif wA kd then q3 else opEq av an (-1) 0)
      ·(refine fl_c 130 #[.bool (wA kd), q3, .bool (opEq av an (-1) 0)] (.bool false) (fun X hX => ((zaq _ _ _ _).mono fun e w' ⟨he, hb⟩ => ⟨he.trans (retb c4), hb ▸ hX⟩)) ?_)
       refine fl_a ?_
       intro w6 a0
       go_wp2
       go_ret
       exact ⟨retb (by rw [HR.out, c1, c2, c3, c4]; rfl), bup n0 a0⟩
      ·(refine fl_c 130 #[.bool (wA kd), q3, .bool (opEq av an (-1) 0)] (.bool true) (fun X hX => ((zaq _ _ _ _).mono fun e w' ⟨he, hb⟩ => ⟨he.trans (retb c4), hb ▸ hX⟩)) ?_)
       refine fl_a ?_
       (refine fl_c 131 #[.agg #[bv, bn], n] (.bool q4) (fun X hX => ((HB.out _).mono fun e w' ⟨he, hb⟩ => ⟨he, za0 hX hX.size hb⟩)) ?_)
       refine fl_a ?_
       intro w6 a0
       go_wp2_with fail
       refine (zaq _ _ _ _).mono ?_
       rintro e7 w7 ⟨rfl, rfl⟩
       go_wp2; go_ret
       exact ⟨retb (by rw [HR.out, c1, c2, c3, c4]; rfl), bup n0 a0⟩
    ·rw [o1, show (true && decide (op ≤ 6)) = decide (op ≤ 6) from Bool.true_and _] at HR
     refine fl_a ?_
     cases c3 : (bif wOp kd then (decide (op ≤ 6)) else (op == 0))
     ·(refine fl_c 130 #[.bool (wOp kd), .bool (decide (op ≤ 6)), .bool (op == 0)] (.bool false) (fun X hX => ((zaq _ _ _ _).mono fun e w' ⟨he, hb⟩ => ⟨he.trans (retb c3), hb ▸ hX⟩)) ?_)
      refine fl_a ?_
      intro w6 a0
      go_wp2
      go_ret
      exact ⟨retb (by rw [HR.out, c1, c2, c3]; rfl), bup n0 a0⟩
     ·(refine fl_c 130 #[.bool (wOp kd), .bool (decide (op ≤ 6)), .bool (op == 0)] (.bool true) (fun X hX => ((zaq _ _ _ _).mono fun e w' ⟨he, hb⟩ => ⟨he.trans (retb c3), hb ▸ hX⟩)) ?_)
      refine fl_a ?_
      (refine fl_c 131 #[.agg #[av, an], n] (.bool q3) (fun X hX => ((HA.out _).mono fun e w' ⟨he, hb⟩ => ⟨he, za0 hX hX.size hb⟩)) ?_)
      refine fl_a ?_
      cases c4 : (bif wA kd then q3 else opEq av an (-1) 0)
      ·(refine fl_c 130 #[.bool (wA kd), q3, .bool (opEq av an (-1) 0)] (.bool false) (fun X hX => ((zaq _ _ _ _).mono fun e w' ⟨he, hb⟩ => ⟨he.trans (retb c4), hb ▸ hX⟩)) ?_)
       refine fl_a ?_
       intro w6 a0
       go_wp2
       go_ret
       exact ⟨retb (by rw [HR.out, c1, c2, c3, c4]; rfl), bup n0 a0⟩
      ·(refine fl_c 130 #[.bool (wA kd), q3, .bool (opEq av an (-1) 0)] (.bool true) (fun X hX => ((zaq _ _ _ _).mono fun e w' ⟨he, hb⟩ => ⟨he.trans (retb c4), hb ▸ hX⟩)) ?_)
       refine fl_a ?_
       (refine fl_c 131 #[.agg #[bv, bn], n] (.bool q4) (fun X hX => ((HB.out _).mono fun e w' ⟨he, hb⟩ => ⟨he, za0 hX hX.size hb⟩)) ?_)
       refine fl_a ?_
       intro w6 a0
       go_wp2_with fail
       refine (zaq _ _ _ _).mono ?_
       rintro e7 w7 ⟨rfl, rfl⟩
       go_wp2; go_ret
       exact ⟨retb (by rw [HR.out, c1, c2, c3, c4]; rfl), bup n0 a0⟩
end
end Go.Proofs.YtnmpgijiimglcaaGreat
