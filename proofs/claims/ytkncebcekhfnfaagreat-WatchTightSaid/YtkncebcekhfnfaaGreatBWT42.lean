/-
  dbm.Points of one point: the octagon of it alone.
  Octagons that are learnt, in memory of one's own: one is made greater in place; one is put into the row.
  gnomonref27.more: one point more.
  Small laws for what is learnt: scripts in memory; errors of scripts; rows of octagons that no run has come to.
-/
import Derived.Test.YtkncebcekhfnfaaGreatBWT41
import Derived.Test.YtkncebcekhfnfaaGreatBWT39
import Derived.Test.YtkncebcekhfnfaaGreatBWT24
namespace Go.Proofs.YtkncebcekhfnfaaGreat
open Go.RowKit
section
attribute [local go_sem ↓] Go.wp_at_zero Go.wp_at_succ

theorem pfn_ok (A : Option Addr) (l c gn : Nat) (w : World) (hk : w.cell? ⟨gn, 0, none⟩ = some (.int .i64 (l : Int))) :
    Calls Tryz.prog 63 #[.slice A l c, .pointer (some ⟨gn, 0, none⟩)] w fun e w' => e = .returned (.bool false) ∧ w' = w := by
  go_enter Tryz.func63, Tryz.ntmps63
  go_wp2
  go_ret
  exact ⟨rfl, rfl⟩
set_option maxHeartbeats 2000000 in
theorem pindex_ok (A : Option Addr) (l c gn b off pc : Nat) (w : World) (hk : w.cell? ⟨gn, 0, none⟩ = some (.int .i64 (l : Int))) (hc : w.cell? ⟨b, off, none⟩ = some (.slice A l c)) :
    Calls Tryz.prog 99 #[.slice (some ⟨b, off, none⟩) 1 pc, .func (.func 63) #[] #[.pointer (some ⟨gn, 0, none⟩)]] w fun e w' => e = .returned (.int .i64 (-1)) ∧ w' = w := by
  have HF := hid (pfn_ok A l c gn w hk)
  have HE : ∀ (args : Array Value) (X : World), (callFunc 63 args).run Tryz.prog X = .ok (.enter 63 args) X := fun args X => by go_simp
  go_enter Tryz.func99, Tryz.ntmps99
  go_wp2
  go_loopw [8] (fun t wr => wr = w ∧ ∃ k : Nat, k ≤ 1 ∧ t = .int .i64 (k : Int)) (fun t _ => 1 - (Go.RowKit.intOf t).toNat)
  case atStart => exact ⟨rfl, 0, by omega, rfl⟩
  case round =>
    obtain ⟨rfl, k, hk1, rfl⟩ := hrel
    have hkk : k = 0 ∨ k = 1 := by omega
    rcases hkk with rfl | rfl
    · go_wp2_with fail
      (with_reducible refine HF.out.mono ?_)
      rintro e2 w2 ⟨rfl, rfl⟩
      go_wp2
      go_roundw
      case rel => exact ⟨(by first | rfl | trivial), 1, by omega, by go_num⟩
      case measure => simp [Go.RowKit.intOf]
    · go_wp2
      go_ret
      exact ⟨rfl, rfl⟩
set_option maxHeartbeats 2000000 in
theorem pcontains_ok (A : Option Addr) (l c gn b off pc : Nat) (w : World) (hk : w.cell? ⟨gn, 0, none⟩ = some (.int .i64 (l : Int))) (hc : w.cell? ⟨b, off, none⟩ = some (.slice A l c)) :
    Calls Tryz.prog 62 #[.slice (some ⟨b, off, none⟩) 1 pc, .func (.func 63) #[] #[.pointer (some ⟨gn, 0, none⟩)]] w fun e w' => e = .returned (.bool false) ∧ w' = w := by
  have HX := hid (pindex_ok A l c gn b off pc w hk hc)
  go_enter Tryz.func62, Tryz.ntmps62
  go_wp2_with fail
  (with_reducible refine HX.out.mono ?_)
  rintro e2 w2 ⟨rfl, rfl⟩
  go_wp2
  go_ret
  exact ⟨rfl, rfl⟩

def ptG (N : Nat) (f : Nat → Nat → Int) (m : List Int) (k : Nat) : List Int := (List.range m.length).map fun p => if p < k then f (p / N) (p % N) else gI m (p : Int)
theorem ptG_len (N : Nat) (f : Nat → Nat → Int) (m : List Int) (k : Nat) : (ptG N f m k).length = m.length := by unfold ptG; simp
theorem ptG_zero (N : Nat) (f : Nat → Nat → Int) (m : List Int) : ptG N f m 0 = m := by
  refine List.ext_getElem (by simp [ptG]) fun p h1 h2 => ?_
  simp [ptG, gI, List.getD_eq_getElem?_getD, h2]
theorem ptG_set (N : Nat) (f : Nat → Nat → Int) (m : List Int) (k : Nat) : ptG N f m (k + 1) = (ptG N f m k).set k (f (k / N) (k % N)) := by
  refine List.ext_getElem (by simp [ptG]) fun p h1 h2 => ?_
  have hp : p < m.length := by simpa [ptG] using h1
  rw [List.getElem_set]
  by_cases hk : k = p
  · subst hk; simp [ptG]
  · rw [if_neg hk]
    simp only [ptG, List.getElem_map, List.getElem_range]
    by_cases q : p < k
    · rw [if_pos (by omega), if_pos q]
    · rw [if_neg (by omega), if_neg q]
theorem ptG_all {N : Nat} {f : Nat → Nat → Int} {m : List Int} (hl : m.length = N * N) : ptG N f m (N * N) = (List.range (N * N)).map fun p => f (p / N) (p % N) := by
  unfold ptG
  rw [hl]
  refine range_ext fun p hp => ?_
  rw [if_pos hp]
set_option maxRecDepth 8000 in
set_option maxHeartbeats 8000000 in
theorem dpoint_ok (d : Nat) (hd : d ≤ 64) (xs : List Int) (hl : xs.length = d) (hI : I64s xs) (X : Option Addr) (xc pc b off : Nat) (w : World) (hx : Rd w w.heap.size X xs) (hb : b < w.heap.size) (hc : w.cell? ⟨b, off, none⟩ = some (.slice X xs.length xc)) :
    Calls Tryz.prog 37 #[.int .i64 (d : Int), .slice (some ⟨b, off, none⟩) 1 pc] w (PtRes w (onePt d xs)) := by
  obtain ⟨N, hN⟩ : ∃ N : Nat, (N : Int) = 2 * (d : Int) := ⟨2 * d, by omega⟩
  have hN1 : N ≤ 128 := by omega
  have HTOP := hid (fun W => dtop_ok d N W hd hN)
  have t0 : decide (0 ≤ (d : Int) ∧ (d : Int) ≤ 64) = true := decide_eq_true (by omega)
  have HR := hid (fun W => dright_any (d : Int) W)
  rw [t0] at HR
  clear t0
  have HAP := hid (fun (i j : Nat) (hi : i < N) (hj : j < N) W (h : Rd W W.heap.size X xs) => wapart_ok xs i j X xc W.heap.size W h (Nat.le_refl _) hI (by omega) (by omega) (by omega) (by omega))
  have HCO := hid (fun (z : Int) W => counts_ok z W)
  have HEND : Hid (∀ m : List Int, m.length = N * N → onePt d xs = ⟨(d : Int), false, ptG N (fun i j => cellPt (apartX xs i j)) m (N * N)⟩) := hid (fun m h1 => by unfold onePt ptC; rw [show 2 * d = N by omega, ptG_all h1])
  have HNN := hid hN
  have HXL := hid hl
  have p0 := Blk.new w 3 #[.int .i64 (d : Int)]
  have n0 := new1 w (.cells #[.int .i64 (d : Int)] 3)
  have p1 := Blk.new (w.alloc (.cells #[.int .i64 (d : Int)] 3)) 53 #[.int .i64 0, .bool false, .slice none 0 0]
  have n1 := new1 (w.alloc (.cells #[.int .i64 (d : Int)] 3)) (.cells #[.int .i64 0, .bool false, .slice none 0 0] 53)
  rw [show (w.alloc (.cells #[.int .i64 (d : Int)] 3)).heap.size = w.heap.size + 1 by simp] at p1
  replace p0 := p0.later n1
  have hb0 := bup n0 n1
  rw [hl] at hc
  have hc0 := hb0.cell (p := ⟨b, off, none⟩) hb
  replace hc0 := hc0.trans hc
  have HX := hid (fun W (h : Below w.heap.size w W) => hx.up h)
  clear hN hl n0 n1 hx
  go_enter Tryz.func37, Tryz.ntmps37
  go_upto_region 1 with fail
  generalize (w.alloc (.cells #[.int .i64 (d : Int)] 3)).alloc (.cells #[.int .i64 0, .bool false, .slice none 0 0] 53) = w1 at *
  have c0 : w1.cell? ⟨w.heap.size, 0, none⟩ = some (.int .i64 (d : Int)) := p0.cell 0
  go_wp2_with fail
  (with_reducible refine (HR.out w1).mono ?_)
  rintro e2 w2 ⟨rfl, rfl⟩
  go_wp2_with fail
  (with_reducible refine (pcontains_ok X d xc w.heap.size b off pc _ c0 hc0).mono ?_)
  rintro e3 w3 ⟨rfl, rfl⟩
  go_wp2_with fail
  (with_reducible refine (HTOP.out _).mono ?_)
  rintro e4 w4 ⟨A1, c1, m0, hml, rfl, own, hb4⟩
  have hw4 := hb4.size
  have HML := hid hml
  clear hml
  have n6 := new1 w4 (.cells #[.int .i64 (d : Int), .bool false, .slice A1 m0.length c1] 53)
  have p6 := Blk.new w4 53 #[.int .i64 (d : Int), .bool false, .slice A1 m0.length c1]
  replace p0 := (p0.later hb4).later n6
  replace p1 := (p1.later hb4).later n6
  replace own := (own.less hb0.size).below n6
  replace hb0 := bup (bup hb0 hb4) n6
  clear hb4 n6 hc0 c0 HR HTOP
  go_upto_region 6 with fail
  generalize w4.alloc (.cells #[.int .i64 (d : Int), .bool false, .slice A1 m0.length c1] 53) = w5 at *
  generalize w4.heap.size = g6 at *
  clear hw4
  obtain ⟨f, hf⟩ : ∃ f : Nat → Nat → Int, f = fun i j => cellPt (apartX xs i j) := ⟨_, rfl⟩
  rw [← hf] at HEND
  have HF : Hid (∀ i j, f i j = cellPt (apartX xs i j)) := hid fun i j => by rw [hf]
  clear hf
  rw [← ptG_zero N f m0] at own
  have hn1 : 2 * (d : Int) ≤ 128 := by have := HNN.out; omega
  have c0 := p0.cell 0
  go_wp2
  clear c0
  go_loopw [36] (fun t wq => ∃ i : Nat, i ≤ N ∧ t = .int .i64 i ∧ Own wq w.heap.size A1 c1 (ptG N f m0 (i * N)) ∧ Blk wq w.heap.size 3 #[.int .i64 (d : Int)] ∧ Blk wq (w.heap.size + 1) 53 #[.int .i64 0, .bool false, .slice none 0 0] ∧ Blk wq g6 53 #[.int .i64 (d : Int), .bool false, .slice A1 m0.length c1] ∧ Below w.heap.size w wq) (fun t _ => N - (Go.RowKit.intOf t).toNat)
  case atStart => exact ⟨0, by omega, rfl, by rw [Nat.zero_mul]; exact own, p0, p1, p6, hb0⟩
  case round =>
    clear own p0 p1 p6 hb0
    obtain ⟨i, hi, rfl, own, p0, p1, p6, hb0⟩ := hrel
    by_cases hlt : i < N
    · have hlti : (i : Int) < 2 * (d : Int) := by have := HNN.out; omega
      have c0 := p0.cell 0
      go_wp2
      clear c0
      go_loopw [41] (fun t wq => ∃ j : Nat, j ≤ N ∧ t = .int .i64 j ∧ Own wq w.heap.size A1 c1 (ptG N f m0 (i * N + j)) ∧ Blk wq w.heap.size 3 #[.int .i64 (d : Int)] ∧ Blk wq (w.heap.size + 1) 53 #[.int .i64 0, .bool false, .slice none 0 0] ∧ Blk wq g6 53 #[.int .i64 (d : Int), .bool false, .slice A1 m0.length c1] ∧ Below w.heap.size w wq) (fun t _ => N - (Go.RowKit.intOf t).toNat)
      case atStart => exact ⟨0, by omega, rfl, own, p0, p1, p6, hb0⟩
      case round =>
        clear own p0 p1 p6 hb0
        obtain ⟨j, hj, rfl, own, p0, p1, p6, hb0⟩ := hrel
        by_cases hlt2 : j < N
        · have hltj : (j : Int) < 2 * (d : Int) := by have := HNN.out; omega
          have hnext : i * N + (j + 1) = i * N + j + 1 := rfl
          have HS : Hid (ptG N f m0 (i * N + j + 1) = (ptG N f m0 (i * N + j)).set (i * N + j) (f i j)) := hid (by
            have h := ptG_set N f m0 (i * N + j)
            rw [at_div hlt2, at_mod hlt2] at h; exact h)
          have HA2 := hid (HAP.out i j hlt hlt2)
          have HR := hid (cellPt_rng (apartX xs i j))
          have HFX := hid (HF.out i j)
          generalize apartX xs i j = R at *
          go_wp2
          go_loopw [10, 46] (fun r t wq => ∃ k : Nat, k ≤ 1 ∧ t = .int .i64 (k : Int) ∧ r = .int .i64 (if k = 0 then -4611686018427387904 else cellPt R) ∧ Own wq w.heap.size A1 c1 (ptG N f m0 (i * N + j)) ∧ Blk wq w.heap.size 3 #[.int .i64 (d : Int)] ∧ Blk wq (w.heap.size + 1) 53 #[.int .i64 0, .bool false, .slice none 0 0] ∧ Blk wq g6 53 #[.int .i64 (d : Int), .bool false, .slice A1 m0.length c1] ∧ Below w.heap.size w wq) (fun _ t _ => 1 - (Go.RowKit.intOf t).toNat)
          case atStart => exact ⟨0, by omega, rfl, rfl, own, p0, p1, p6, hb0⟩
          case round =>
            clear own p0 p1 p6 hb0
            obtain ⟨k, hk, rfl, rfl, own, p0, p1, p6, hb0⟩ := hrel
            have hkk : k = 0 ∨ k = 1 := by omega
            rcases hkk with rfl | rfl
            · have hcw := (hb0.cell (p := ⟨b, off, none⟩) hb).trans hc
              rw [if_pos rfl]
              have HAW := hid (HA2.out wr (HX.out wr hb0))
              have hxl := HXL.out
              rw [hxl] at HAW
              go_wp2_with fail
              (with_reducible refine HAW.out.mono ?_)
              rintro e5 w5 ⟨rfl, hb5⟩
              clear HAW hcw hxl
              replace own := own.below hb5
              replace p0 := p0.later hb5
              replace p1 := p1.later hb5
              replace p6 := p6.later hb5
              replace hb0 := bup hb0 hb5
              clear hb5
              go_wp2_with fail
              (with_reducible refine (HCO.out R w5).mono ?_)
              rintro e7 w7 ⟨rfl, hb7⟩
              replace own := own.below hb7
              replace p0 := p0.later hb7
              replace p1 := p1.later hb7
              replace p6 := p6.later hb7
              replace hb0 := bup hb0 hb7
              clear hb7
              have HRR := HR.out.1
              obtain ⟨cr, hcr⟩ : ∃ cr, cellPt R = cr := ⟨_, rfl⟩
              rw [hcr] at HRR ⊢
              have HM : Hid ((if -4611686018427387904 < cr then cr else -4611686018427387904) = cellPt R) := hid (by rw [hcr]; split <;> omega)
              clear hcr HRR
              go_wp2
              go_roundw
              case rel => exact ⟨1, by omega, by go_num, by rw [HM.out]; rfl, own, p0, p1, p6, hb0⟩
              case measure => simp [Go.RowKit.intOf]
            · rw [if_neg (by decide)]
              generalize cellPt R = cr at *
              have HAT := hid (fun W => at_any (i : Int) (j : Int) (d : Int) W (by omega) (by omega) (by omega) (by omega) (by omega) (by omega))
              obtain ⟨a1, a2, a3, a4, a5, a6⟩ := idx_ok HNN.out hlt hlt2 hN1
              rw [← HML.out] at a4 a6
              have hpl : (ptG N f m0 (i * N + j)).length = m0.length := ptG_len _ _ _ _
              rw [HFX.out] at HS
              obtain ⟨pm, hpm⟩ : ∃ pm, ptG N f m0 (i * N + j) = pm := ⟨_, rfl⟩
              rw [hpm] at own hpl HS
              clear hpm
              obtain ⟨gA, rfl, hgA, hgB⟩ : ∃ g, A1 = some ⟨g, 0, none⟩ ∧ w.heap.size ≤ g ∧ g < wr.heap.size := by
                rcases own.form with ⟨_, h, _⟩ | h
                · exfalso; rw [h] at hpl; simp at hpl; omega
                · exact h
              obtain ⟨x0, x1, x2, fx⟩ := octbox p6
              have c0 := p0.cell 0
              have l0 := later c0
              have l2 := later x2
              have HSV := hid (And.intro own (And.intro p0 (And.intro p1 (And.intro p6 hb0))))
              have HPL := hid hpl
              clear own p0 p1 p6 hb0 x0 x1 x2 fx c0 hpl hk
              go_upto_region 18 with fail
              refine wp_region_flow 8 (fun W => Below wr.heap.size wr W) (by kernel_rfl) (by kernel_rfl) (Below.refl _ _).drew ?_
              (repeat (first | (refine Flow.skip (by rfl) ?_; simp only [Act.put, List.setIfInBounds_toArray, List.set_cons_zero, List.set_cons_succ]) | (refine' Flow.take _ (by rfl) (fun W hW R hR => ?_) ?_; rotate_left; (go_simp; (try go_bits); with_reducible exact hR); simp only [Act.put, List.setIfInBounds_toArray, List.set_cons_zero, List.set_cons_succ])))
              (refine Flow.call 52 #[.agg #[.int .i64 (i : Int), .int .i64 (j : Int)], .int .i64 (d : Int)] (.int .i64 (2 * (d : Int) * (i : Int) + (j : Int))) (by rfl) (fun X hX => by go_simp) (fun X hX => (HAT.out X).mono fun e' w' ⟨he, hb'⟩ => ⟨he, bstep hX hX.size hb'⟩) ?_; simp only [Act.put, List.setIfInBounds_toArray, List.set_cons_zero, List.set_cons_succ])
              (repeat (first | (refine Flow.skip (by rfl) ?_; simp only [Act.put, List.setIfInBounds_toArray, List.set_cons_zero, List.set_cons_succ]) | (refine' Flow.take _ (by rfl) (fun W hW R hR => ?_) ?_; rotate_left; (go_simp; (try go_bits); with_reducible exact hR); simp only [Act.put, List.setIfInBounds_toArray, List.set_cons_zero, List.set_cons_succ])))
              intro w9 hb9
              clear l0 l2 HAT
              obtain ⟨own, p0, p1, p6, hb0⟩ := HSV.out
              replace own := own.below hb9
              replace p0 := p0.later hb9
              replace p1 := p1.later hb9
              replace p6 := p6.later hb9
              replace hb0 := bup hb0 hb9
              have hfr := own.frozen (i * N + j)
              obtain ⟨_, _, eA, _, cA⟩ := own.rd (i * N + j) (by rw [HPL.out]; exact a4)
              injection eA with eA; injection eA with eA1 eA2; subst eA1; subst eA2
              rw [Nat.zero_add] at cA
              have ne0 := own_blk' own p0 (by decide) gA rfl
              have ne1 := own_blk' own p1 (by decide) gA rfl
              have ne6 := own_blk' own p6 (by decide) gA rfl
              have HO6 := hid (own.store (i * N + j) cr)
              rw [← HS.out] at HO6
              have HB6 := hid (hb0.trans (below1 (i := i * N + j) (v := .int .i64 cr) hgA hb0.size))
              have HP0 := hid (p0.far (p := ⟨gA, i * N + j, none⟩) ne0 (.int .i64 cr))
              have HP1 := hid (p1.far (p := ⟨gA, i * N + j, none⟩) ne1 (.int .i64 cr))
              have HP6 := hid (p6.far (p := ⟨gA, i * N + j, none⟩) ne6 (.int .i64 cr))
              clear own p0 p1 p6 hb0 hb9 HSV
              go_wp2
              go_roundw
              case rel => exact ⟨j + 1, by omega, by go_num, by rw [hnext]; exact HO6.out, HP0.out, HP1.out, HP6.out, HB6.out⟩
              case measure => simp [Go.RowKit.intOf]; omega
        · obtain rfl : j = N := by omega
          have hge : ¬ ((j : Int) < 2 * (d : Int)) := by have := HNN.out; omega
          have hmul : i * j + j = (i + 1) * j := by rw [Nat.succ_mul]
          rw [hmul] at own
          go_wp2
          go_roundw
          case rel => exact ⟨i + 1, by omega, by go_num, own, p0, p1, p6, hb0⟩
          case measure => simp [Go.RowKit.intOf]; omega
    · obtain rfl : i = N := by omega
      have hge : ¬ ((i : Int) < 2 * (d : Int)) := by have := HNN.out; omega
      have HE := hid (HEND.out m0 HML.out)
      have hlen : m0.length = (ptG i f m0 (i * i)).length := by rw [ptG_len]
      rw [hlen] at p6
      clear hlen
      generalize ptG i f m0 (i * i) = PM at *
      obtain ⟨x0, x1, x2, fx⟩ := octbox p6
      obtain ⟨y0, y1, y2, fy⟩ := octbox p1
      have q9 := hid (p1.set3 (v0 := .int .i64 (d : Int)) (v1 := .bool false) (v2 := .slice A1 PM.length c1))
      have o9 := hid (own.far3 (g := w.heap.size + 1) (v0 := .int .i64 (d : Int)) (v1 := .bool false) (v2 := .slice A1 PM.length c1) (own_blk' own p1 (by decide)))
      have hb9 := hid (hb0.trans (below3 (W := wr) (g := w.heap.size + 1) (v0 := .int .i64 (d : Int)) (v1 := .bool false) (v2 := .slice A1 PM.length c1) (by omega) hb0.size))
      clear own p0 p1 p6 hb0
      go_wp2
      clear x0 x1 x2 fx y0 y1 y2 fy
      obtain ⟨z0, z1, z2, fz⟩ := octbox q9.out
      refine bodyPost_ret (v := .tuple #[.agg #[.int .i64 (d : Int), .bool false, .slice A1 PM.length c1], .int .i64 0]) (by simp [results, Tryz.results37, go_sem, z0, z1, z2]) rfl ?_
      exact ⟨A1, c1, by rw [HE.out], by rw [HE.out]; exact o9.out, hb9.out⟩
end
section

/-- No two octagons share a block. -/
def ApartZ (zs : List Z) : Prop := ∀ i j (hi : i < zs.length) (hj : j < zs.length), i ≠ j → ∀ g, zs[i].2.1 = some ⟨g, 0, none⟩ → zs[j].2.1 ≠ some ⟨g, 0, none⟩
section
variable {w w' : World} {base cap p : Nat} {A : Option Addr} {zs : List Z} {z : Z}
theorem ApartZ.nil : ApartZ [] := fun i j hi => absurd hi (by simp)
theorem o3_flat_set (_hp : p < zs.length) : (zs.set p z).flatMap o3 = (((zs.flatMap o3).set (p * 3) (.int .i64 z.1.n)).set (p * 3 + 1) (.bool z.1.e)).set (p * 3 + 2) (.slice z.2.1 z.1.m.length z.2.2) := by
  refine List.ext_getElem? fun i => ?_
  have hl : (zs.flatMap o3).length = zs.length * 3 := fmS_len o3 3 (fun _ => rfl) zs
  have hl2 : ((zs.set p z).flatMap o3).length = zs.length * 3 := by rw [fmS_len o3 3 (fun _ => rfl), List.length_set]
  by_cases hi : i < zs.length * 3
  · have h3 : i / 3 < zs.length := by omega
    have hr : i % 3 < 3 := Nat.mod_lt _ (by omega)
    have e : i = i / 3 * 3 + i % 3 := by omega
    have e1 := fmS_get o3 3 (fun _ => rfl) (zs.set p z) (i / 3) (i % 3) (by rw [List.length_set]; exact h3) hr
    have e2 := fmS_get o3 3 (fun _ => rfl) zs (i / 3) (i % 3) h3 hr
    rw [← e] at e1 e2
    rw [e1, List.getElem_set]
    by_cases hq : p = i / 3
    · rw [if_pos hq]
      have hr3 : i % 3 = 0 ∨ i % 3 = 1 ∨ i % 3 = 2 := by omega
      rcases hr3 with h | h | h
      · rw [List.getElem?_set_ne (by omega), List.getElem?_set_ne (by omega), show i = p * 3 by omega, List.getElem?_set_self (by rw [hl]; omega), show p * 3 % 3 = 0 by omega]; rfl
      · rw [List.getElem?_set_ne (by omega), show i = p * 3 + 1 by omega, List.getElem?_set_self (by rw [List.length_set, hl]; omega), show (p * 3 + 1) % 3 = 1 by omega]; rfl
      · rw [show i = p * 3 + 2 by omega, List.getElem?_set_self (by rw [List.length_set, List.length_set, hl]; omega), show (p * 3 + 2) % 3 = 2 by omega]; rfl
    · rw [if_neg hq, List.getElem?_set_ne (by omega), List.getElem?_set_ne (by omega), List.getElem?_set_ne (by omega), e2]
  · rw [List.getElem?_eq_none (by rw [hl2]; omega), List.getElem?_eq_none (by simp only [List.length_set]; rw [hl]; omega)]
theorem o3_flat_same (hp : p < zs.length) (h1 : z.1.n = zs[p].1.n) (h2 : z.1.e = zs[p].1.e) (h3 : z.1.m.length = zs[p].1.m.length) (h4 : z.2 = zs[p].2) : (zs.set p z).flatMap o3 = zs.flatMap o3 := by
  refine List.ext_getElem? fun i => ?_
  have hl2 : ((zs.set p z).flatMap o3).length = zs.length * 3 := by rw [fmS_len o3 3 (fun _ => rfl), List.length_set]
  have hl : (zs.flatMap o3).length = zs.length * 3 := fmS_len o3 3 (fun _ => rfl) zs
  by_cases hi : i < zs.length * 3
  · have h3' : i / 3 < zs.length := by omega
    have hr : i % 3 < 3 := Nat.mod_lt _ (by omega)
    have e : i = i / 3 * 3 + i % 3 := by omega
    have e1 := fmS_get o3 3 (fun _ => rfl) (zs.set p z) (i / 3) (i % 3) (by rw [List.length_set]; exact h3') hr
    have e2 := fmS_get o3 3 (fun _ => rfl) zs (i / 3) (i % 3) h3' hr
    rw [← e] at e1 e2
    rw [e1, e2, List.getElem_set]
    by_cases hq : p = i / 3
    · rw [if_pos hq]
      subst hq
      have : o3 z = o3 zs[i / 3] := by unfold o3; rw [h1, h2, h3, h4]
      rw [this]
    · rw [if_neg hq]
  · rw [List.getElem?_eq_none (by rw [hl2]; omega), List.getElem?_eq_none (by rw [hl]; omega)]
/-- What one octagon's cells are made leaves the others as they are. -/
theorem OwnZ.grow (h : OwnZ w base A cap zs) (ha : ApartZ zs) (hp : p < zs.length) {g : Nat} (hg : zs[p].2.1 = some ⟨g, 0, none⟩) (hgr : w.grownBy w' (some g)) {m : List Int} (hm : m.length = zs[p].1.m.length) (hn : Own w' base zs[p].2.1 zs[p].2.2 m) :
    OwnZ w' base A cap (zs.set p (⟨zs[p].1.n, zs[p].1.e, m⟩, zs[p].2)) := by
  have hok := h.own _ (List.getElem_mem hp)
  rw [hg] at hok
  refine ⟨?_, fun y hy => ?_, fun y hy => ?_⟩
  · rw [o3_flat_same (z := (⟨zs[p].1.n, zs[p].1.e, m⟩, zs[p].2)) hp rfl rfl hm rfl, List.length_set]
    refine World.ownsRow.kept h.row hgr ?_
    rcases h.form with ⟨rfl, e, _⟩ | ⟨gA, cs, rfl, h1, h2, h3⟩
    · subst e; simp at hp
    · refine .inr fun e => ?_
      simp [Value.ownBlock] at e
      subst e
      exact own_blk hok (show Blk w gA 53 cs from h3) (by decide) rfl
  · obtain ⟨j, hj, rfl⟩ := List.getElem_of_mem hy
    have hj' : j < zs.length := by rw [List.length_set] at hj; exact hj
    rw [List.getElem_set]
    by_cases e : p = j
    · subst e
      rw [if_pos rfl]
      exact hn
    · rw [if_neg e]
      refine (h.own _ (List.getElem_mem hj')).grown hgr ?_
      rcases (h.own _ (List.getElem_mem hj')).form with ⟨e1, _⟩ | ⟨g', e1, _⟩
      · rw [e1]; exact .inl rfl
      · refine .inr fun e2 => ?_
        rw [e1] at e2
        simp [Value.ownBlock] at e2
        subst e2
        exact ha p j hp hj' e _ hg e1
  · rcases List.mem_or_eq_of_mem_set hy with q | q
    · exact h.le y q
    · subst q
      show m.length ≤ _
      rw [hm]
      exact h.le _ (List.getElem_mem hp)
theorem ApartZ.grow (h : ApartZ zs) {o : O} (hp : p < zs.length) : ApartZ (zs.set p (o, zs[p].2)) := fun i j hi hj hne g e => by
  have hi' : i < zs.length := by rw [List.length_set] at hi; exact hi
  have hj' : j < zs.length := by rw [List.length_set] at hj; exact hj
  have e1 : (zs.set p (o, zs[p].2))[i].2 = zs[i].2 := by
    rw [List.getElem_set]; split
    · rename_i q; subst q; rfl
    · rfl
  have e2 : (zs.set p (o, zs[p].2))[j].2 = zs[j].2 := by
    rw [List.getElem_set]; split
    · rename_i q; subst q; rfl
    · rfl
  rw [e1] at e
  rw [e2]
  exact h i j hi' hj' hne g e
/-- Another octagon put into the row. -/
theorem OwnZ.put {gR : Nat} (h : OwnZ w base (some ⟨gR, 0, none⟩) cap zs) (hp : p < zs.length) (hz : Own w base z.2.1 z.2.2 z.1.m) (hl : z.1.m.length ≤ 17592186044416) :
    OwnZ (((w.setCell ⟨gR, p * 3, none⟩ (.int .i64 z.1.n)).setCell ⟨gR, p * 3 + 1, none⟩ (.bool z.1.e)).setCell ⟨gR, p * 3 + 2, none⟩ (.slice z.2.1 z.1.m.length z.2.2)) base (some ⟨gR, 0, none⟩) cap (zs.set p z) := by
  have hrow := h.row
  have s0 := World.ownsRow.stored (w := w) (xs := zs.flatMap o3) hrow (p * 3) (.int .i64 z.1.n)
  have s1 := World.ownsRow.stored s0.1 (p * 3 + 1) (.bool z.1.e)
  have s2 := World.ownsRow.stored s1.1 (p * 3 + 2) (.slice z.2.1 z.1.m.length z.2.2)
  have hgr := (s0.2.trans s1.2).trans s2.2
  rcases h.form with ⟨e, _⟩ | ⟨gA, cs, e, h1, h2, h3⟩
  · cases e
  injection e with e; injection e with e; subst e
  have keep : ∀ (X : Option Addr) (c : Nat) (m : List Int), Own w base X c m → Own (((w.setCell ⟨gR, p * 3, none⟩ (.int .i64 z.1.n)).setCell ⟨gR, p * 3 + 1, none⟩ (.bool z.1.e)).setCell ⟨gR, p * 3 + 2, none⟩ (.slice z.2.1 z.1.m.length z.2.2)) base X c m := fun X c m hX => by
    refine hX.grown hgr ?_
    rcases hX.form with ⟨e1, _⟩ | ⟨g', e1, _⟩
    · rw [e1]; exact .inl rfl
    · refine .inr fun e2 => ?_
      rw [e1] at e2 hX
      simp [Value.ownBlock] at e2
      exact own_blk hX (show Blk w gR 53 cs from h3) (by decide) (by simpa using e2)
  refine ⟨?_, fun y hy => ?_, fun y hy => ?_⟩
  · rw [o3_flat_set hp, List.length_set]
    exact s2.1
  · rcases List.mem_or_eq_of_mem_set hy with q | q
    · exact keep _ _ _ (h.own y q)
    · subst q
      exact keep _ _ _ hz
  · rcases List.mem_or_eq_of_mem_set hy with q | q
    · exact h.le y q
    · subst q; exact hl
theorem ApartZ.put (h : ApartZ zs) (_hp : p < zs.length) (hz : ∀ g, z.2.1 = some ⟨g, 0, none⟩ → ∀ j (hj : j < zs.length), j ≠ p → zs[j].2.1 ≠ some ⟨g, 0, none⟩) : ApartZ (zs.set p z) := fun i j hi hj hne g e => by
  have hi' : i < zs.length := by rw [List.length_set] at hi; exact hi
  have hj' : j < zs.length := by rw [List.length_set] at hj; exact hj
  rw [List.getElem_set] at e ⊢
  by_cases q : p = i
  · subst q
    rw [if_pos rfl] at e
    rw [if_neg hne]
    exact hz g e j hj' (Ne.symm hne)
  · rw [if_neg q] at e
    by_cases q2 : p = j
    · subst q2
      rw [if_pos rfl]
      intro e2
      exact hz g e2 i hi' hne e
    · rw [if_neg q2]
      exact h i j hi' hj' hne g e
end
end
section
attribute [local go_sem ↓] Go.wp_at_zero Go.wp_at_succ

def mxF (a b : List Int) (p _q : Nat) : Int := max (gI a (p : Int)) (gI b (p : Int))
theorem ptG_at {N : Nat} {f : Nat → Nat → Int} {m : List Int} {k : Nat} (hk : k < m.length) : gI (ptG N f m k) (k : Int) = gI m (k : Int) := by
  unfold ptG
  unfold gI
  rw [Int.toNat_natCast, List.getD_eq_getElem?_getD, List.getElem?_map, List.getElem?_range hk]
  simp
theorem maxM_ptG {a b : List Int} : maxM a b = ptG 1 (mxF a b) a a.length := by
  unfold maxM ptG
  refine range_ext fun p hp => ?_
  rw [if_pos hp, Nat.div_one]
  rfl
/-- A row's block, if it has one. -/
def blkOf (A : Option Addr) : Option Nat := (Value.slice A 0 0).ownBlock
end
section
attribute [local go_sem ↓] Go.wp_at_zero Go.wp_at_succ

/-- Scripts, with room for each. -/
def RdRC (w : World) (B : Nat) (A : Option Addr) (ls : List (List Int)) : Prop :=
  ∀ k, (h : k < ls.length) → ∃ b off Ak ck, A = some ⟨b, off, none⟩ ∧ b < B ∧ w.cell? ⟨b, off + k, none⟩ = some (.slice Ak ls[k].length ck) ∧ Rd w B Ak ls[k] ∧ ls[k].length ≤ ck
theorem RdRC.below {w w' : World} {B : Nat} {A : Option Addr} {ls : List (List Int)} (h : RdRC w B A ls) (hb : Below B w w') : RdRC w' B A ls := fun k hk => by
  obtain ⟨b, off, Ak, ck, h1, h2, h3, h4, h5⟩ := h k hk
  exact ⟨b, off, Ak, ck, h1, h2, (hb.cell (p := ⟨b, _, none⟩) h2).trans h3, h4.below hb, h5⟩
theorem RdRC.up {w w' : World} {A : Option Addr} {ls : List (List Int)} (h : RdRC w w.heap.size A ls) (hb : Below w.heap.size w w') : RdRC w' w'.heap.size A ls := fun k hk => by
  obtain ⟨b, off, Ak, ck, h1, h2, h3, h4, h5⟩ := h.below hb k hk
  exact ⟨b, off, Ak, ck, h1, Nat.lt_of_lt_of_le h2 hb.size, h3, h4.more hb.size, h5⟩
/-- The error of the first scripts. -/
theorem fuels_take (k : Int) : ∀ (ss : List (List Int)) (i : Nat) (hi : i < ss.length), fuelsE k (ss.take i) = 0 → fuelsE k (ss.take (i + 1)) = fuelE ss[i].length k
  | s :: ss, 0, _, _ => by
    show (if fuelE s.length k ≠ 0 then fuelE s.length k else fuelsE k []) = fuelE s.length k
    by_cases h : fuelE s.length k = 0
    · rw [if_neg (by simp [h]), h]; rfl
    · rw [if_pos h]
  | s :: ss, i + 1, hi, h => by
    have h' : (if fuelE s.length k ≠ 0 then fuelE s.length k else fuelsE k (ss.take i)) = 0 := h
    show (if fuelE s.length k ≠ 0 then fuelE s.length k else fuelsE k (ss.take (i + 1))) = _
    by_cases h1 : fuelE s.length k = 0
    · rw [if_neg (by simp [h1])] at h' ⊢
      exact fuels_take k ss i (by simpa using hi) h'
    · rw [if_pos h1] at h'
      exact absurd h' h1
theorem fuels_stop (k : Int) : ∀ (ss : List (List Int)) (i : Nat), fuelsE k (ss.take i) ≠ 0 → fuelsE k ss = fuelsE k (ss.take i)
  | [], i, h => by rw [List.take_nil]
  | s :: ss, 0, h => absurd rfl h
  | s :: ss, i + 1, h => by
    have h' : (if fuelE s.length k ≠ 0 then fuelE s.length k else fuelsE k (ss.take i)) ≠ 0 := h
    show (if fuelE s.length k ≠ 0 then fuelE s.length k else fuelsE k ss) = (if fuelE s.length k ≠ 0 then fuelE s.length k else fuelsE k (ss.take i))
    by_cases h1 : fuelE s.length k = 0
    · rw [if_neg (by simp [h1])] at h' ⊢
      rw [if_neg (by simp [h1])]
      exact fuels_stop k ss i h'
    · rw [if_pos h1, if_pos h1]
theorem fuels_each (k : Int) : ∀ (ss : List (List Int)), fuelsE k ss = 0 → ∀ s ∈ ss, fuelE s.length k = 0
  | [], _, s, h => absurd h (by simp)
  | a :: ss, h, s, hs => by
    have h' : (if fuelE a.length k ≠ 0 then fuelE a.length k else fuelsE k ss) = 0 := h
    by_cases h1 : fuelE a.length k = 0
    · rw [if_neg (by simp [h1])] at h'
      rcases List.mem_cons.1 hs with rfl | hs
      · exact h1
      · exact fuels_each k ss h' s hs
    · rw [if_pos h1] at h'
      exact absurd h' h1
/-- An octagon that is one of a graph's points', or has none of them yet. -/
def GoodO (d : Nat) (o : O) : Prop := o.n = (d : Int) ∧ (o.e = false → o.m.length = 2 * d * (2 * d)) ∧ o.m.length ≤ 16384
theorem GoodO.more {d : Nat} (hd : d ≤ 64) {o : O} (h : GoodO d o) (x : List Int) : GoodO d (moreO o d x) := by
  obtain ⟨h1, h2, h3⟩ := h
  have hq : 2 * d * (2 * d) ≤ 128 * 128 := Nat.mul_le_mul (by omega) (by omega)
  unfold moreO
  split
  · refine ⟨rfl, fun _ => ?_, ?_⟩
    · unfold onePt ptC; simp
    · unfold onePt ptC; simp; omega
  · refine ⟨h1, fun e => ?_, ?_⟩
    · show (maxM o.m (onePt d x).m).length = _
      unfold maxM; simp; exact h2 e
    · show (maxM o.m (onePt d x).m).length ≤ _
      unfold maxM; simp; exact h3
theorem ApartZ.snocNone {zs : List Z} (h : ApartZ zs) {o : O} {c : Nat} : ApartZ (zs ++ [(o, none, c)]) := fun i j hi hj hne g e => by
  rw [List.length_append, List.length_singleton] at hi hj
  by_cases ci : i < zs.length
  · rw [List.getElem_append_left ci] at e
    by_cases cj : j < zs.length
    · rw [List.getElem_append_left cj]
      exact h i j ci cj hne g e
    · obtain rfl : j = zs.length := by omega
      rw [List.getElem_append_right (Nat.le_refl _)]
      simp
  · obtain rfl : i = zs.length := by omega
    rw [List.getElem_append_right (Nat.le_refl _)] at e
    simp at e
end
end Go.Proofs.YtkncebcekhfnfaaGreat
