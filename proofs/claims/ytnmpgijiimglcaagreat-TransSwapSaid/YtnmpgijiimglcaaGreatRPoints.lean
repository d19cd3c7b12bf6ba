/-
  gnomonref12.Points at one point whose numbers are near: what it answers.
-/
import Derived.Test.YtnmpgijiimglcaaGreatBTS45
import Derived.Test.YtnmpgijiimglcaaGreatBTS46
namespace Go.Proofs.YtnmpgijiimglcaaGreat
open Go.RowKit
attribute [local go_sem ↓] Go.wp_at_zero Go.wp_at_succ

theorem topR_diag {N i a : Nat} (ha : a < N) : ∀ (l : Nat) (m : List Int), l ≤ N → gI (topR N m i l) ((a * N + a : Nat) : Int) = gI m ((a * N + a : Nat) : Int)
  | 0, _, _ => rfl
  | l + 1, m, hl => by
    unfold topR
    split
    · exact topR_diag ha l m (by omega)
    · rename_i hne
      have hp : i * N + l ≠ a * N + a := fun e => by
        obtain ⟨e1, e2⟩ := idx_inj (N := N) (by omega) ha e
        omega
      rw [← topR_diag (N := N) (i := i) ha l m (by omega)]
      generalize a * N + a = q at *
      unfold gI
      simp [List.getD_eq_getElem?_getD, List.getElem?_set_ne hp]
theorem topM_diag {N a : Nat} (ha : a < N) : ∀ k, gI (topM N k) ((a * N + a : Nat) : Int) = 0
  | 0 => by
    unfold topM gI
    have h := pos_lt ha ha
    generalize a * N + a = q at *
    simp [List.getD_eq_getElem?_getD, List.getElem?_replicate, h]
  | k + 1 => by unfold topM; rw [topR_diag ha N _ (Nat.le_refl _)]; exact topM_diag ha k
def ptK (N : Nat) (xs m : List Int) (k : Nat) : List Int := (List.range m.length).map fun p => if p < k ∧ p / N ≠ p % N then apartX xs (p / N) (p % N) else gI m (p : Int)
theorem ptK_len (N : Nat) (xs m : List Int) (k : Nat) : (ptK N xs m k).length = m.length := by unfold ptK; simp
theorem ptK_zero (N : Nat) (xs m : List Int) : ptK N xs m 0 = m := by
  refine List.ext_getElem (by simp [ptK]) fun p h1 h2 => ?_
  simp [ptK, gI, List.getD_eq_getElem?_getD, h2]
theorem ptK_same {N : Nat} {xs m : List Int} {k : Nat} (h : k / N = k % N) : ptK N xs m (k + 1) = ptK N xs m k := by
  unfold ptK
  refine range_ext fun p _ => ?_
  by_cases hk : p = k
  · subst hk; simp [h]
  · by_cases g : p / N = p % N
    · rw [if_neg (fun h => h.2 g), if_neg (fun h => h.2 g)]
    · by_cases q : p < k
      · rw [if_pos ⟨by omega, g⟩, if_pos ⟨q, g⟩]
      · rw [if_neg (fun h => by omega), if_neg (fun h => by omega)]
theorem ptK_set {N : Nat} {xs m : List Int} {k : Nat} (h : k / N ≠ k % N) : ptK N xs m (k + 1) = (ptK N xs m k).set k (apartX xs (k / N) (k % N)) := by
  refine List.ext_getElem (by simp [ptK]) fun p h1 h2 => ?_
  have hp : p < m.length := by simpa [ptK] using h1
  rw [List.getElem_set]
  by_cases hk : k = p
  · subst hk; simp [ptK, h]
  · rw [if_neg hk]
    simp only [ptK, List.getElem_map, List.getElem_range]
    by_cases g : p / N = p % N
    · rw [if_neg (fun h => h.2 g), if_neg (fun h => h.2 g)]
    · by_cases q : p < k
      · rw [if_pos ⟨by omega, g⟩, if_pos ⟨q, g⟩]
      · rw [if_neg (fun h => by omega), if_neg (fun h => by omega)]
theorem ptK_all {N : Nat} {xs m : List Int} (hl : m.length = N * N) (hd : ∀ a, a < N → gI m ((a * N + a : Nat) : Int) = 0) : ptK N xs m (N * N) = ptM N xs := by
  unfold ptK ptM
  rw [hl]
  refine range_ext fun p hp => ?_
  by_cases g : p / N = p % N
  · rw [if_neg (fun h => h.2 g)]
    have hN : 0 < N := by
      rcases Nat.eq_zero_or_pos N with e | e
      · subst e; simp at hp
      · exact e
    have ha : p % N < N := Nat.mod_lt _ hN
    have e : p = p % N * N + p % N := by
      have := Nat.div_add_mod p N
      rw [g, Nat.mul_comm] at this
      omega
    have h0 := hd _ ha
    rw [← e] at h0
    rw [h0, g]; unfold apartX; omega
  · rw [if_pos ⟨hp, g⟩]

/-- An octagon of one's own, and no error. -/
def PtRes (w : World) (o : O) (e : Ending) (w' : World) : Prop := ∃ A1 c1, e = .returned (.tuple #[.agg #[.int .i64 o.n, .bool o.e, .slice A1 o.m.length c1], .int .i64 0]) ∧ Own w' w.heap.size A1 c1 o.m ∧ Below w.heap.size w w'

set_option maxRecDepth 8000 in
set_option maxHeartbeats 4000000 in
theorem rpoints_ok (d : Nat) (hd : d ≤ 64) (xs : List Int) (hl : xs.length = d) (hn : ∀ k : Nat, NearV (gI xs (k : Int))) (gp cp : Nat) (X : Option Addr) (xc : Nat) (w : World) (hP : w.cell? ⟨gp, 0, none⟩ = some (.slice X xs.length xc)) (hgp : gp < w.heap.size) (hx : Rd w w.heap.size X xs) :
    Calls Tryz.prog 27 #[.int .i64 (d : Int), .slice (some ⟨gp, 0, none⟩) 1 cp] w (PtRes w (ptO (d : Int) xs)) := by
  obtain ⟨N, hN⟩ : ∃ N : Nat, (N : Int) = 2 * (d : Int) := ⟨2 * d, by omega⟩
  have hN1 : N ≤ 128 := by omega
  have HTOP := hid (fun W => rtop_any d N W hd hN)
  have HDF := hid (fun i j (hi : i < N) (hj : j < N) W (h : Rd W W.heap.size X xs) => rdiffp_ok xs hn i j (by omega) (by omega) ⟨by omega, by omega⟩ X xc W h)
  have HEND : Hid (∀ m, m.length = N * N → (∀ a, a < N → gI m ((a * N + a : Nat) : Int) = 0) → ptK N xs m (N * N) = (ptO (d : Int) xs).m) := hid (fun m h1 h2 => by unfold ptO; dsimp only; rw [show (2 * (d : Int)).toNat = N by omega]; exact ptK_all h1 h2)
  have HDG : Hid (∀ a, a < N → gI (topM N N) ((a * N + a : Nat) : Int) = 0) := hid (fun a ha => topM_diag ha N)
  have HTL : Hid ((topM N N).length = N * N) := hid (topM_len N N)
  have HAP : Hid (∀ i j, -4398046511104 ≤ apartX xs i j ∧ apartX xs i j ≤ 4398046511104) := hid (fun i j => by
    have hs : ∀ a, -1099511627776 ≤ sideX xs a ∧ sideX xs a ≤ 1099511627776 := fun a => by
      have := hn (a / 2)
      unfold NearV at this
      unfold sideX
      split <;> omega
    have := hs i; have := hs j
    unfold apartX; omega)
  have HNN := hid hN
  have HL := hid hl
  generalize topM N N = T at *
  obtain ⟨p0, hb0, hsz⟩ := new_one w #[.int .i64 0, .bool false, .slice none 0 0] 24
  clear hsz
  have hn0 : 0 ≤ 2 * (d : Int) := by omega
  have hn1 : 2 * (d : Int) ≤ 128 := by omega
  have t0 : decide ((d : Int) < 0) = false := by rw [decide_eq_false_iff_not]; omega
  have t1 : decide (64 < (d : Int)) = false := by rw [decide_eq_false_iff_not]; omega
  have hl1 : (xs.length : Int) = (d : Int) := by omega
  have hP0 := (hb0.cell (p := ⟨gp, 0, none⟩) hgp).trans hP
  have t2 : ((xs.length : Int) != (d : Int)) = false := by rw [hl1]; simp
  clear hN hn hl
  go_enter Tryz.func27, Tryz.ntmps27
  go_wp2
  generalize w.alloc (Obj.cells #[.int .i64 0, .bool false, .slice none 0 0] 24) = w1 at *
  go_loopw [6] (fun t wq => wq = w1 ∧ (t = .int .i64 0 ∨ t = .int .i64 1)) (fun t _ => 2 - (intOf t).toNat)
  case atStart => exact ⟨rfl, .inl rfl⟩
  case round =>
    obtain ⟨rfl, rfl | rfl⟩ := hrel
    · go_wp2
      go_roundw
      case rel => exact ⟨(by first | rfl | trivial), .inr (by go_num)⟩
      case measure => simp [intOf]
    · go_wp2_with fail
      (with_reducible refine (HTOP.out _).mono ?_)
      rintro e2 w2 ⟨A1, c1, rfl, own, hb2⟩
      dsimp only at own ⊢
      have hw7 : w.heap.size < w2.heap.size := (p0.later hb2).lt
      obtain ⟨p7, hb7, -⟩ := new_one w2 #[.int .i64 (d : Int), .bool false, .slice A1 T.length c1] 24
      replace p0 := (p0.later hb2).later hb7
      replace own := (own.less hb0.size).below hb7
      replace hb0 := bup (bup hb0 hb2) hb7
      clear hP0 hb7 hb2
      go_wp2
      generalize w2.alloc (Obj.cells #[.int .i64 (d : Int), .bool false, .slice A1 T.length c1] 24) = w3 at *
      generalize w2.heap.size = g7 at *
      rw [← ptK_zero N xs T] at own
      go_loopw [8] (fun t wq => ∃ i : Nat, i ≤ N ∧ t = .int .i64 i ∧ Own wq w.heap.size A1 c1 (ptK N xs T (i * N)) ∧ Blk wq w.heap.size 24 #[.int .i64 0, .bool false, .slice none 0 0] ∧ Blk wq g7 24 #[.int .i64 (d : Int), .bool false, .slice A1 T.length c1] ∧ Below w.heap.size w wq) (fun t _ => N - (intOf t).toNat)
      case atStart => exact ⟨0, by omega, rfl, by rw [Nat.zero_mul]; exact own, p0, p7, hb0⟩
      case round =>
        clear own p0 p7 hb0 t0 t1 t2
        obtain ⟨i, hi, rfl, own, p0, p7, hb0⟩ := hrel
        by_cases hlt : i < N
        · have hlti : (i : Int) < 2 * (d : Int) := by have := HNN.out; omega
          go_wp2
          go_loopw [9] (fun t wq => ∃ j : Nat, j ≤ N ∧ t = .int .i64 j ∧ Own wq w.heap.size A1 c1 (ptK N xs T (i * N + j)) ∧ Blk wq w.heap.size 24 #[.int .i64 0, .bool false, .slice none 0 0] ∧ Blk wq g7 24 #[.int .i64 (d : Int), .bool false, .slice A1 T.length c1] ∧ Below w.heap.size w wq) (fun t _ => N - (intOf t).toNat)
          case atStart => exact ⟨0, by omega, rfl, own, p0, p7, hb0⟩
          case round =>
            clear own p0 p7 hb0
            obtain ⟨j, hj, rfl, own, p0, p7, hb0⟩ := hrel
            by_cases hlt2 : j < N
            · have hltj : (j : Int) < 2 * (d : Int) := by have := HNN.out; omega
              have hnext : i * N + (j + 1) = i * N + j + 1 := rfl
              by_cases hij : i = j
              · have t1 : ((i : Int) == (j : Int)) = true := by rw [hij]; simp
                have HS : Hid (ptK N xs T (i * N + j + 1) = ptK N xs T (i * N + j)) := hid (ptK_same (by rw [at_div hlt2, at_mod hlt2]; exact hij))
                clear hij
                go_wp2
                go_roundw
                case rel => exact ⟨j + 1, by omega, by go_num, by rw [hnext, HS.out]; exact own, p0, p7, hb0⟩
                case measure => simp [intOf]; omega
              · have t1 : ((i : Int) == (j : Int)) = false := by rw [beq_eq_false_iff_ne]; omega
                have HS : Hid (ptK N xs T (i * N + j + 1) = (ptK N xs T (i * N + j)).set (i * N + j) (apartX xs i j)) := hid (by
                  have h := ptK_set (N := N) (xs := xs) (m := T) (k := i * N + j) (by rw [at_div hlt2, at_mod hlt2]; exact hij)
                  rw [at_div hlt2, at_mod hlt2] at h; exact h)
                have HD2 := hid (HDF.out i j hlt hlt2)
                obtain ⟨r0, r1⟩ := HAP.out i j
                clear hij
                generalize apartX xs i j = R at *
                have hmx : max (-4611686018427387904) R = R := by omega
                go_wp2
                go_loopw [10, 11] (fun r t wq => ((t = .int .i64 0 ∧ r = .int .i64 (-4611686018427387904)) ∨ (t = .int .i64 1 ∧ r = .int .i64 R)) ∧ Own wq w.heap.size A1 c1 (ptK N xs T (i * N + j)) ∧ Blk wq w.heap.size 24 #[.int .i64 0, .bool false, .slice none 0 0] ∧ Blk wq g7 24 #[.int .i64 (d : Int), .bool false, .slice A1 T.length c1] ∧ Below w.heap.size w wq) (fun _ t _ => 2 - (intOf t).toNat)
                case atStart => exact ⟨.inl ⟨rfl, rfl⟩, own, p0, p7, hb0⟩
                case round =>
                  clear own p0 p7 hb0
                  obtain ⟨⟨rfl, rfl⟩ | ⟨rfl, rfl⟩, own, p0, p7, hb0⟩ := hrel
                  · have hP1 := (hb0.cell (p := ⟨gp, 0, none⟩) hgp).trans hP
                    have hx1 := hx.up hb0
                    go_wp2_with fail
                    (with_reducible refine (HD2.out _ hx1).mono ?_)
                    rintro e5 w5 ⟨rfl, hb5⟩
                    replace own := own.below hb5
                    replace p0 := p0.later hb5
                    replace p7 := p7.later hb5
                    replace hb0 := bup hb0 hb5
                    clear hP1 hx1 hb5
                    go_wp2
                    go_roundw
                    case rel => exact ⟨.inr ⟨by go_num, by first | rfl | (rw [hmx]) | (congr 1; omega)⟩, own, p0, p7, hb0⟩
                    case measure => simp [intOf]
                  · obtain ⟨a1, a2, a3, a4, a5, a6⟩ := idxr_ok HNN.out hlt hlt2 hN1
                    rw [← Int.mul_assoc] at a1 a2 a3 a5 a6
                    rw [← HTL.out] at a4 a6
                    obtain ⟨gA, rfl, hgA, hgB⟩ : ∃ g, A1 = some ⟨g, 0, none⟩ ∧ w.heap.size ≤ g ∧ g < wr.heap.size := by
                      rcases own.form with ⟨_, h, _⟩ | h
                      · exfalso; have h5 := ptK_len N xs T (i * N + j); rw [h] at h5; simp at h5; omega
                      · exact h
                    obtain ⟨_, _, eA, _, cA⟩ := own.rd (i * N + j) (by rw [ptK_len]; exact a4)
                    injection eA with eA; injection eA with eA1 eA2; subst eA1; subst eA2
                    rw [Nat.zero_add] at cA
                    have hfr := own.frozen (i * N + j)
                    have ne0 := own_blk' own p0 (by decide) gA rfl
                    have ne7 := own_blk' own p7 (by decide) gA rfl
                    have HO6 := hid (own.store (i * N + j) R)
                    rw [← HS.out] at HO6
                    have HB6 := hid (hb0.trans (below1 (i := i * N + j) (v := .int .i64 R) hgA hb0.size))
                    have HP6 := hid (p0.far (p := ⟨gA, i * N + j, none⟩) ne0 (.int .i64 R))
                    have HP7 := hid (p7.far (p := ⟨gA, i * N + j, none⟩) ne7 (.int .i64 R))
                    obtain ⟨x0, x1, x2, fx⟩ := octbox p7
                    clear own p0 hb0 HS
                    go_wp2
                    go_roundw
                    case rel => exact ⟨j + 1, by omega, by go_num, by rw [hnext]; exact HO6.out, HP6.out, HP7.out, HB6.out⟩
                    case measure => simp [intOf]; omega
            · obtain rfl : j = N := by omega
              have hge : ¬ ((j : Int) < 2 * (d : Int)) := by have := HNN.out; omega
              have hmul : i * j + j = (i + 1) * j := by rw [Nat.succ_mul]
              rw [hmul] at own
              go_wp2
              go_roundw
              case rel => exact ⟨i + 1, by omega, by go_num, own, p0, p7, hb0⟩
              case measure => simp [intOf]; omega
        · obtain rfl : i = N := by omega
          have hge : ¬ ((i : Int) < 2 * (d : Int)) := by have := HNN.out; omega
          have HE := hid (HEND.out T HTL.out HDG.out)
          have hlen : T.length = (ptO (d : Int) xs).m.length := by rw [← HE.out, ptK_len]
          rw [HE.out] at own
          rw [hlen] at p7
          have HE0 : Hid ((ptO (d : Int) xs).n = (d : Int) ∧ (ptO (d : Int) xs).e = false) := hid ⟨rfl, rfl⟩
          clear hlen
          generalize ptO (d : Int) xs = P at *
          obtain ⟨x0, x1, x2, fx⟩ := octbox p7
          obtain ⟨y0, y1, y2, fy⟩ := octbox p0
          go_wp2
          have q9 := p0.set3 (v0 := .int .i64 (d : Int)) (v1 := .bool false) (v2 := .slice A1 P.m.length c1)
          have o9 := own.far3 (g := w.heap.size) (v0 := .int .i64 (d : Int)) (v1 := .bool false) (v2 := .slice A1 P.m.length c1) (own_blk' own p0 (by decide))
          have hb9 := hb0.trans (below3 (W := wr) (g := w.heap.size) (v0 := .int .i64 (d : Int)) (v1 := .bool false) (v2 := .slice A1 P.m.length c1) (by omega) hb0.size)
          obtain ⟨z0, z1, z2, fz⟩ := octbox q9
          refine bodyPost_ret (v := .tuple #[.agg #[.int .i64 (d : Int), .bool false, .slice A1 P.m.length c1], .int .i64 0]) (by simp [results, Tryz.results27, go_sem, z0, z1, z2]) rfl ?_
          exact ⟨A1, c1, by rw [HE0.out.1, HE0.out.2], o9, hb9⟩
end Go.Proofs.YtnmpgijiimglcaaGreat
