/-
  gnomonref12.Points, of whatever points. (Printed by gen_rpointsa.py.)
-/
import Derived.Test.YtkncebcekhfnfaaGreatBWL23
import Derived.Test.YtkncebcekhfnfaaGreatRDiffA
import Derived.Test.YtkncebcekhfnfaaGreatBWL22
namespace Go.Proofs.YtkncebcekhfnfaaGreat
open Go.RowKit
attribute [local go_sem ↓] Go.wp_at_zero Go.wp_at_succ

/-- The most of the differences of points, as a bound. -/
def maxP (ls : List (List Int)) (i j : Nat) : Int := ls.foldl (fun s x => max s (cellPt (apartX x i j))) (-4611686018427387904)
def maxPO (n : Int) (ls : List (List Int)) : O := if ls = [] then ⟨n, true, []⟩ else ⟨n, false, (List.range ((2 * n).toNat * (2 * n).toNat)).map fun p => if p / (2 * n).toNat = p % (2 * n).toNat then 0 else maxP ls (p / (2 * n).toNat) (p % (2 * n).toNat)⟩
def mpTo (ls : List (List Int)) (i j k : Nat) : Int := maxP (ls.take k) i j
theorem mpTo_succ {ls : List (List Int)} {i j k : Nat} (h : k < ls.length) : mpTo ls i j (k + 1) = max (mpTo ls i j k) (cellPt (apartX ls[k] i j)) := by
  unfold mpTo maxP
  rw [List.take_succ_eq_append_getElem h, List.foldl_append]; rfl
theorem mpTo_end (ls : List (List Int)) (i j : Nat) : mpTo ls i j ls.length = maxP ls i j := by unfold mpTo; rw [List.take_length]
theorem mpTo_zero (ls : List (List Int)) (i j : Nat) : mpTo ls i j 0 = -4611686018427387904 := rfl
theorem cellPt_rng (a : Int) : -4611686018427387904 ≤ cellPt a ∧ cellPt a ≤ 9223372036854775807 := by
  unfold cellPt
  split <;> omega
theorem maxP_rng (i j : Nat) : ∀ (ls : List (List Int)) (s : Int), (-4611686018427387904 ≤ s ∧ s ≤ 9223372036854775807) → -4611686018427387904 ≤ ls.foldl (fun s x => max s (cellPt (apartX x i j))) s ∧ ls.foldl (fun s x => max s (cellPt (apartX x i j))) s ≤ 9223372036854775807
  | [], s, h => h
  | x :: ls, s, h => maxP_rng i j ls _ (by show _ ≤ max s (cellPt (apartX x i j)) ∧ max s (cellPt (apartX x i j)) ≤ _; have := cellPt_rng (apartX x i j); omega)
theorem mpTo_rng (ls : List (List Int)) (i j k : Nat) : -4611686018427387904 ≤ mpTo ls i j k ∧ mpTo ls i j k ≤ 9223372036854775807 := maxP_rng i j _ _ ⟨by omega, by omega⟩
theorem far_cases {M : Int} (hM : -4611686018427387904 ≤ M ∧ M ≤ 9223372036854775807) (R : Int) :
    (farS R = 1 ∧ farD R = 0 ∧ max M (cellPt R) = 9223372036854775807) ∨ (farS R = 0 ∧ max M (cellPt R) = max M (farD R)) ∨ (farS R = -1 ∧ farD R = 0 ∧ max M (cellPt R) = M) := by
  unfold farS farD cellPt
  by_cases h1 : 4611686018427387904 < R
  · left
    rw [if_pos h1, if_neg (by omega), if_pos h1]
    exact ⟨rfl, rfl, by omega⟩
  · by_cases h2 : R < -4611686018427387904
    · right; right
      refine ⟨by rw [if_neg h1, if_pos h2], by rw [if_neg (by omega)], ?_⟩
      rw [if_neg h1]; omega
    · right; left
      refine ⟨by rw [if_neg h1, if_neg h2], ?_⟩
      rw [if_neg h1, if_pos ⟨by omega, by omega⟩]; omega

set_option maxRecDepth 8000 in
set_option maxHeartbeats 4000000 in
theorem rpointsA_ok (d : Nat) (hd : d ≤ 64) (ls : List (List Int)) (hl : ∀ k (h : k < ls.length), ls[k].length = d) (hn : ∀ k (h : k < ls.length), ∀ i : Nat, I64 (gI ls[k] (i : Int))) (hlen : ls.length ≤ 1000000) (P : Option Addr) (pc : Nat) (w : World) (hls : RdR w w.heap.size P ls) :
    Calls Tryz.prog 66 #[.int .i64 (d : Int), .slice P ls.length pc] w (PtRes w (maxPO (d : Int) ls)) := by
  obtain ⟨N, hN⟩ : ∃ N : Nat, (N : Int) = 2 * (d : Int) := ⟨2 * d, by omega⟩
  have hN1 : N ≤ 128 := by omega
  have HTOP := hid (fun W => rtop_any d N W hd hN)
  have HDF := hid (fun k (hk : k < ls.length) i j (hi : i < N) (hj : j < N) X xc W (h : Rd W W.heap.size X ls[k]) => rdiffA_ok ls[k] (hn k hk) i j (by have := hl k hk; omega) (by have := hl k hk; omega) ⟨by omega, by omega⟩ X xc W h)
  have HLN := hid hl
  have HEND : Hid (∀ m, m.length = N * N → (∀ a, a < N → gI m ((a * N + a : Nat) : Int) = 0) → ls ≠ [] → maxPO (d : Int) ls = ⟨(d : Int), false, ptF N (maxP ls) m (N * N)⟩) := hid (fun m h1 h2 h3 => by unfold maxPO; rw [if_neg h3, show (2 * (d : Int)).toNat = N by omega, ptF_all h1 h2])
  have HEMP : Hid (ls = [] → maxPO (d : Int) ls = ⟨(d : Int), true, []⟩) := hid (fun h => by unfold maxPO; rw [if_pos h])
  have HDG : Hid (∀ a, a < N → gI (topM N N) ((a * N + a : Nat) : Int) = 0) := hid (fun a ha => topM_diag ha N)
  have HTL : Hid ((topM N N).length = N * N) := hid (topM_len N N)
  have HNN := hid hN
  generalize topM N N = T at *
  obtain ⟨p0, hb0, hsz⟩ := new_one w #[.int .i64 0, .bool false, .slice none 0 0] 53
  clear hsz
  have hn0 : 0 ≤ 2 * (d : Int) := by omega
  have hn1 : 2 * (d : Int) ≤ 128 := by omega
  have t0 : decide ((d : Int) < 0) = false := by rw [decide_eq_false_iff_not]; omega
  have t1 : decide (64 < (d : Int)) = false := by rw [decide_eq_false_iff_not]; omega
  have HLS := hid (fun W (h : Below w.heap.size w W) => hls.up h)
  replace hls := hls.up hb0
  clear hN hn hl
  go_enter Tryz.func66, Tryz.ntmps66
  go_wp2
  generalize w.alloc (Obj.cells #[.int .i64 0, .bool false, .slice none 0 0] 53) = w1 at *
  go_loopw [6] (fun t wq => wq = w1 ∧ ∃ k : Nat, k ≤ ls.length ∧ t = .int .i64 (k : Int)) (fun t _ => ls.length - (Go.RowKit.intOf t).toNat)
  case atStart => exact ⟨rfl, 0, by omega, rfl⟩
  case round =>
    obtain ⟨rfl, k, hk, rfl⟩ := hrel
    by_cases hkl : k < ls.length
    · have tk : decide ((k : Int) < (ls.length : Int)) = true := decide_eq_true (by omega)
      obtain ⟨bb, off, Ak, ck, rfl, hB, hc, -⟩ := hls k hkl
      have hlk := HLN.out k hkl
      rw [hlk] at hc
      have t2 : ((d : Int) != (d : Int)) = false := by simp
      go_wp2
      go_roundw
      case rel => exact ⟨(by first | rfl | trivial), k + 1, by omega, by go_num⟩
      case measure => simp [Go.RowKit.intOf]; omega
    · have tk : decide ((k : Int) < (ls.length : Int)) = false := decide_eq_false (by omega)
      by_cases hne : ls = []
      · have hM := hid (HEMP.out hne)
        subst hne
        obtain ⟨y0, y1, y2, fy⟩ := octbox p0
        go_wp2_with fail
        (with_reducible refine (rempty_any _ _).mono ?_)
        rintro e2 w2 ⟨rfl, hb2⟩
        clear y0 y1 y2 fy
        replace p0 := p0.later hb2
        replace hb0 := bup hb0 hb2
        obtain ⟨y0, y1, y2, fy⟩ := octbox p0
        go_wp2
        have q9 := p0.set3 (v0 := .int .i64 (d : Int)) (v1 := .bool true) (v2 := .slice none 0 0)
        have hb9 := hb0.trans (below3 (W := w2) (g := w.heap.size) (v0 := .int .i64 (d : Int)) (v1 := .bool true) (v2 := .slice none 0 0) (by omega) hb0.size)
        obtain ⟨z0, z1, z2, fz⟩ := octbox q9
        refine bodyPost_ret (v := .tuple #[.agg #[.int .i64 (d : Int), .bool true, .slice none 0 0], .int .i64 0]) (by simp [results, Tryz.results66, go_sem, z0, z1, z2]) rfl ?_
        exact ⟨none, 0, by rw [hM.out]; rfl, by rw [hM.out]; exact own_nil _ _, hb9⟩
      have hpos : 0 < ls.length := List.length_pos_iff.2 hne
      have tz : ((ls.length : Int) == 0) = false := by rw [beq_eq_false_iff_ne]; omega
      have HNE := hid hne
      clear hne
      go_wp2_with fail
      (with_reducible refine (HTOP.out _).mono ?_)
      rintro e2 w2 ⟨A1, c1, rfl, own, hb2⟩
      dsimp only at own ⊢
      have hw7 : w.heap.size < w2.heap.size := (p0.later hb2).lt
      obtain ⟨p7, hb7, -⟩ := new_one w2 #[.int .i64 (d : Int), .bool false, .slice A1 T.length c1] 53
      replace p0 := (p0.later hb2).later hb7
      replace own := (own.less hb0.size).below hb7
      replace hb0 := bup (bup hb0 hb2) hb7
      clear hb7 hb2 tz tk hls
      go_wp2
      generalize w2.alloc (Obj.cells #[.int .i64 (d : Int), .bool false, .slice A1 T.length c1] 53) = w3 at *
      generalize w2.heap.size = g7 at *
      rw [← ptF_zero N (maxP ls) T] at own
      go_loopw [8] (fun t wq => ∃ i : Nat, i ≤ N ∧ t = .int .i64 i ∧ Own wq w.heap.size A1 c1 (ptF N (maxP ls) T (i * N)) ∧ Blk wq w.heap.size 53 #[.int .i64 0, .bool false, .slice none 0 0] ∧ Blk wq g7 53 #[.int .i64 (d : Int), .bool false, .slice A1 T.length c1] ∧ Below w.heap.size w wq) (fun t _ => N - (Go.RowKit.intOf t).toNat)
      case atStart => exact ⟨0, by omega, rfl, by rw [Nat.zero_mul]; exact own, p0, p7, hb0⟩
      case round =>
        clear own p0 p7 hb0 t0 t1
        obtain ⟨i, hi, rfl, own, p0, p7, hb0⟩ := hrel
        by_cases hlt : i < N
        · have hlti : (i : Int) < 2 * (d : Int) := by have := HNN.out; omega
          go_wp2
          go_loopw [9] (fun t wq => ∃ j : Nat, j ≤ N ∧ t = .int .i64 j ∧ Own wq w.heap.size A1 c1 (ptF N (maxP ls) T (i * N + j)) ∧ Blk wq w.heap.size 53 #[.int .i64 0, .bool false, .slice none 0 0] ∧ Blk wq g7 53 #[.int .i64 (d : Int), .bool false, .slice A1 T.length c1] ∧ Below w.heap.size w wq) (fun t _ => N - (Go.RowKit.intOf t).toNat)
          case atStart => exact ⟨0, by omega, rfl, own, p0, p7, hb0⟩
          case round =>
            clear own p0 p7 hb0
            obtain ⟨j, hj, rfl, own, p0, p7, hb0⟩ := hrel
            by_cases hlt2 : j < N
            · have hltj : (j : Int) < 2 * (d : Int) := by have := HNN.out; omega
              have hnext : i * N + (j + 1) = i * N + j + 1 := rfl
              by_cases hij : i = j
              · have t1 : ((i : Int) == (j : Int)) = true := by rw [hij]; simp
                have HS : Hid (ptF N (maxP ls) T (i * N + j + 1) = ptF N (maxP ls) T (i * N + j)) := hid (ptF_same (by rw [at_div hlt2, at_mod hlt2]; exact hij))
                clear hij
                go_wp2
                go_roundw
                case rel => exact ⟨j + 1, by omega, by go_num, by rw [hnext, HS.out]; exact own, p0, p7, hb0⟩
                case measure => simp [Go.RowKit.intOf]; omega
              · have t1 : ((i : Int) == (j : Int)) = false := by rw [beq_eq_false_iff_ne]; omega
                have HS : Hid (ptF N (maxP ls) T (i * N + j + 1) = (ptF N (maxP ls) T (i * N + j)).set (i * N + j) (maxP ls i j)) := hid (by
                  have h := ptF_set (N := N) (f := maxP ls) (m := T) (k := i * N + j) (by rw [at_div hlt2, at_mod hlt2]; exact hij)
                  rw [at_div hlt2, at_mod hlt2] at h; exact h)
                have HD2 := hid (fun k hk => HDF.out k hk i j hlt hlt2)
                have HMS := hid (fun k hk => mpTo_succ (ls := ls) (i := i) (j := j) (k := k) hk)
                have HME := hid (mpTo_end ls i j)
                clear hij
                go_wp2
                go_loopw [10, 11] (fun r t wq => ∃ k : Nat, k ≤ ls.length ∧ t = .int .i64 (k : Int) ∧ r = .int .i64 (mpTo ls i j k) ∧ Own wq w.heap.size A1 c1 (ptF N (maxP ls) T (i * N + j)) ∧ Blk wq w.heap.size 53 #[.int .i64 0, .bool false, .slice none 0 0] ∧ Blk wq g7 53 #[.int .i64 (d : Int), .bool false, .slice A1 T.length c1] ∧ Below w.heap.size w wq) (fun _ t _ => ls.length - (Go.RowKit.intOf t).toNat)
                case atStart => exact ⟨0, by omega, rfl, by rw [mpTo_zero], own, p0, p7, hb0⟩
                case round =>
                  clear own p0 p7 hb0
                  obtain ⟨k, hk, rfl, rfl, own, p0, p7, hb0⟩ := hrel
                  by_cases hkl : k < ls.length
                  · have tk : decide ((k : Int) < (ls.length : Int)) = true := decide_eq_true (by omega)
                    obtain ⟨bb, off, Ak, ck, rfl, hB, hc, hrk⟩ := (HLS.out wr hb0) k hkl
                    have HDK := hid (HD2.out k hkl Ak ck wr hrk)
                    have HMK := hid (HMS.out k hkl)
                    have hcs := far_cases (mpTo_rng ls i j k) (apartX ls[k] i j)
                    generalize apartX ls[k] i j = R at *
                    generalize mpTo ls i j k = M at *
                    generalize farD R = fd at *
                    generalize farS R = fs at *
                    generalize ls[k].length = lk at *
                    go_wp2_with fail
                    (with_reducible refine HDK.out.mono ?_)
                    rintro e5 w5 ⟨rfl, hb5⟩
                    replace own := own.below hb5
                    replace p0 := p0.later hb5
                    replace p7 := p7.later hb5
                    replace hb0 := bup hb0 hb5
                    clear hb5 hc hrk HDK
                    rcases hcs with ⟨rfl, rfl, q⟩ | ⟨rfl, q⟩ | ⟨rfl, rfl, q⟩
                    all_goals
                      have HQ := hid q
                      clear q
                      go_wp2
                      go_roundw
                      case rel => exact ⟨k + 1, by omega, by go_num, by first | (rw [HMK.out, HQ.out]; done) | (rw [HMK.out, HQ.out]; congr 1; omega), own, p0, p7, hb0⟩
                      case measure => simp [Go.RowKit.intOf]; omega
                  · have tk : decide ((k : Int) < (ls.length : Int)) = false := decide_eq_false (by omega)
                    obtain rfl : k = ls.length := by omega
                    rw [HME.out]
                    generalize maxP ls i j = R at *
                    obtain ⟨a1, a2, a3, a4, a5, a6⟩ := idxr_ok HNN.out hlt hlt2 hN1
                    rw [← Int.mul_assoc] at a1 a2 a3 a5 a6
                    rw [← HTL.out] at a4 a6
                    obtain ⟨gA, rfl, hgA, hgB⟩ : ∃ g, A1 = some ⟨g, 0, none⟩ ∧ w.heap.size ≤ g ∧ g < wr.heap.size := by
                      rcases own.form with ⟨_, h, _⟩ | h
                      · exfalso; have h5 := ptF_len N (maxP ls) T (i * N + j); rw [h] at h5; simp at h5; omega
                      · exact h
                    obtain ⟨_, _, eA, _, cA⟩ := own.rd (i * N + j) (by rw [ptF_len]; exact a4)
                    injection eA with eA; injection eA with eA1 eA2; subst eA1; subst eA2
                    rw [Nat.zero_add] at cA
                    have hfr := own.frozen (i * N + j)
                    have ne0 := own_blk' own p0 (by decide) gA rfl
                    have ne7 := own_blk' own p7 (by decide) gA rfl
                    have HO6 := hid (own.store (i * N + j) R)
                    rw [← HS.out] at HO6
                    have HB6 := hid (hb0.trans (below1 (i := i * N + j) (v := .int .i64 R) hgA hb0.size))
                    have HP6 := hid (p0.far (p := ⟨gA, i * N + j, none⟩) ne0 (.int .i64 R))
                    have HP7 := hid (p7.far (p := ⟨gA, i * N + j, none⟩) ne7 (.int .i64 R))
                    obtain ⟨x0, x1, x2, fx⟩ := octbox p7
                    clear own p0 hb0 HS
                    go_wp2
                    go_roundw
                    case rel => exact ⟨j + 1, by omega, by go_num, by rw [hnext]; exact HO6.out, HP6.out, HP7.out, HB6.out⟩
                    case measure => simp [Go.RowKit.intOf]; omega
            · obtain rfl : j = N := by omega
              have hge : ¬ ((j : Int) < 2 * (d : Int)) := by have := HNN.out; omega
              have hmul : i * j + j = (i + 1) * j := by rw [Nat.succ_mul]
              rw [hmul] at own
              go_wp2
              go_roundw
              case rel => exact ⟨i + 1, by omega, by go_num, own, p0, p7, hb0⟩
              case measure => simp [Go.RowKit.intOf]; omega
        · obtain rfl : i = N := by omega
          have hge : ¬ ((i : Int) < 2 * (d : Int)) := by have := HNN.out; omega
          have HE := hid (HEND.out T HTL.out HDG.out HNE.out)
          have hlen : T.length = (ptF i (maxP ls) T (i * i)).length := by rw [ptF_len]
          rw [hlen] at p7
          clear hlen
          generalize ptF i (maxP ls) T (i * i) = PM at *
          obtain ⟨x0, x1, x2, fx⟩ := octbox p7
          obtain ⟨y0, y1, y2, fy⟩ := octbox p0
          go_wp2
          have q9 := p0.set3 (v0 := .int .i64 (d : Int)) (v1 := .bool false) (v2 := .slice A1 PM.length c1)
          have o9 := own.far3 (g := w.heap.size) (v0 := .int .i64 (d : Int)) (v1 := .bool false) (v2 := .slice A1 PM.length c1) (own_blk' own p0 (by decide))
          have hb9 := hb0.trans (below3 (W := wr) (g := w.heap.size) (v0 := .int .i64 (d : Int)) (v1 := .bool false) (v2 := .slice A1 PM.length c1) (by omega) hb0.size)
          obtain ⟨z0, z1, z2, fz⟩ := octbox q9
          refine bodyPost_ret (v := .tuple #[.agg #[.int .i64 (d : Int), .bool false, .slice A1 PM.length c1], .int .i64 0]) (by simp [results, Tryz.results66, go_sem, z0, z1, z2]) rfl ?_
          exact ⟨A1, c1, by rw [HE.out], by rw [HE.out]; exact o9, hb9⟩
end Go.Proofs.YtkncebcekhfnfaaGreat
