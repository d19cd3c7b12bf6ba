/-
  gnomonref12.Points at one point whose numbers are near: what it answers.
  gnomonlaw16.TransSwap.
-/
import Derived.Test.YtnmpgijiimglcaaGreatBUA41
import Derived.Test.YtnmpgijiimglcaaGreatBUA40
import Derived.Test.YtnmpgijiimglcaaGreatBUA24
namespace Go.Proofs.YtnmpgijiimglcaaGreat
section
open Go.RowKit
attribute [local go_sem ↓] Go.wp_at_zero Go.wp_at_succ

theorem topR_diag {N i a : Nat} (ha : a < N) : ∀ (l : Nat) (m : List Int), l ≤ N → gI (topR N m i l) ((a * N + a : Nat) : Int) = gI m ((a * N + a : Nat) : Int)
  | 0, _, _ => rfl
  | l + 1, m, hl => by
    unfold topR
    split
    · exact topR_diag ha l m (by omega)
    · rename_i hne
      have hp : i * N + l ≠ a * N + a := fun e => by
        obtain ⟨e1, e2⟩ := idx_inj (N := N) (by omega) ha e
        omega
      rw [← topR_diag (N := N) (i := i) ha l m (by omega)]
      generalize a * N + a = q at *
      unfold gI
      simp [List.getD_eq_getElem?_getD, List.getElem?_set_ne hp]
theorem topM_diag {N a : Nat} (ha : a < N) : ∀ k, gI (topM N k) ((a * N + a : Nat) : Int) = 0
  | 0 => by
    unfold topM gI
    have h := pos_lt ha ha
    generalize a * N + a = q at *
    simp [List.getD_eq_getElem?_getD, h]
  | k + 1 => by unfold topM; rw [topR_diag ha N _ (Nat.le_refl _)]; exact topM_diag ha k
def ptK (N : Nat) (xs m : List Int) (k : Nat) : List Int := (List.range m.length).map fun p => if p < k ∧ p / N ≠ p % N then apartX xs (p / N) (p % N) else gI m (p : Int)
theorem ptK_len (N : Nat) (xs m : List Int) (k : Nat) : (ptK N xs m k).length = m.length := by unfold ptK; simp
theorem ptK_zero (N : Nat) (xs m : List Int) : ptK N xs m 0 = m := by
  refine List.ext_getElem (by simp [ptK]) fun p h1 h2 => ?_
  simp [ptK, gI, List.getD_eq_getElem?_getD, h2]
theorem ptK_same {N : Nat} {xs m : List Int} {k : Nat} (h : k / N = k % N) : ptK N xs m (k + 1) = ptK N xs m k := by
  unfold ptK
  refine range_ext fun p _ => ?_
  by_cases hk : p = k
  · subst hk; simp [h]
  · by_cases g : p / N = p % N
    · rw [if_neg (fun h => h.2 g), if_neg (fun h => h.2 g)]
    · by_cases q : p < k
      · rw [if_pos ⟨by omega, g⟩, if_pos ⟨q, g⟩]
      · rw [if_neg (fun h => by omega), if_neg (fun h => by omega)]
theorem ptK_set {N : Nat} {xs m : List Int} {k : Nat} (h : k / N ≠ k % N) : ptK N xs m (k + 1) = (ptK N xs m k).set k (apartX xs (k / N) (k % N)) := by
  refine List.ext_getElem (by simp [ptK]) fun p h1 h2 => ?_
  have hp : p < m.length := by simpa [ptK] using h1
  rw [List.getElem_set]
  by_cases hk : k = p
  · subst hk; simp [ptK, h]
  · rw [if_neg hk]
    simp only [ptK, List.getElem_map, List.getElem_range]
    by_cases g : p / N = p % N
    · rw [if_neg (fun h => h.2 g), if_neg (fun h => h.2 g)]
    · by_cases q : p < k
      · rw [if_pos ⟨by omega, g⟩, if_pos ⟨q, g⟩]
      · rw [if_neg (fun h => by omega), if_neg (fun h => by omega)]
theorem ptK_all {N : Nat} {xs m : List Int} (hl : m.length = N * N) (hd : ∀ a, a < N → gI m ((a * N + a : Nat) : Int) = 0) : ptK N xs m (N * N) = ptM N xs := by
  unfold ptK ptM
  rw [hl]
  refine range_ext fun p hp => ?_
  by_cases g : p / N = p % N
  · rw [if_neg (fun h => h.2 g)]
    have hN : 0 < N := by
      rcases Nat.eq_zero_or_pos N with e | e
      · subst e; simp at hp
      · exact e
    have ha : p % N < N := Nat.mod_lt _ hN
    have e : p = p % N * N + p % N := by
      have := Nat.div_add_mod p N
      rw [g, Nat.mul_comm] at this
      omega
    have h0 := hd _ ha
    rw [← e] at h0
    rw [h0, g]; unfold apartX; omega
  · rw [if_pos ⟨hp, g⟩]

/-- An octagon of one's own, and no error. -/
def PtRes (w : World) (o : O) (e : Ending) (w' : World) : Prop := ∃ A1 c1, e = .returned (.tuple #[.agg #[.int .i64 o.n, .bool o.e, .slice A1 o.m.length c1], .int .i64 0]) ∧ Own w' w.heap.size A1 c1 o.m ∧ Below w.heap.size w w'

set_option maxRecDepth 8000 in
set_option maxHeartbeats 4000000 in
theorem rpoints_ok (d : Nat) (hd : d ≤ 64) (xs : List Int) (hl : xs.length = d) (hn : ∀ k : Nat, NearV (gI xs (k : Int))) (gp cp : Nat) (X : Option Addr) (xc : Nat) (w : World) (hP : w.cell? ⟨gp, 0, none⟩ = some (.slice X xs.length xc)) (hgp : gp < w.heap.size) (hx : Rd w w.heap.size X xs) :
    Calls Tryz.prog 27 #[.int .i64 (d : Int), .slice (some ⟨gp, 0, none⟩) 1 cp] w (PtRes w (ptO (d : Int) xs)) := by
  obtain ⟨N, hN⟩ : ∃ N : Nat, (N : Int) = 2 * (d : Int) := ⟨2 * d, by omega⟩
  have hN1 : N ≤ 128 := by omega
  have HTOP := hid (fun W => rtop_any d N W hd hN)
  have HDF := hid (fun i j (hi : i < N) (hj : j < N) W (h : Rd W W.heap.size X xs) => rdiffp_ok xs hn i j (by omega) (by omega) ⟨by omega, by omega⟩ X xc W h)
  have HEND : Hid (∀ m, m.length = N * N → (∀ a, a < N → gI m ((a * N + a : Nat) : Int) = 0) → ptK N xs m (N * N) = (ptO (d : Int) xs).m) := hid (fun m h1 h2 => by unfold ptO; dsimp only; rw [show (2 * (d : Int)).toNat = N by omega]; exact ptK_all h1 h2)
  have HDG : Hid (∀ a, a < N → gI (topM N N) ((a * N + a : Nat) : Int) = 0) := hid (fun a ha => topM_diag ha N)
  have HTL : Hid ((topM N N).length = N * N) := hid (topM_len N N)
  have HAP : Hid (∀ i j, -4398046511104 ≤ apartX xs i j ∧ apartX xs i j ≤ 4398046511104) := hid (fun i j => by
    have hs : ∀ a, -1099511627776 ≤ sideX xs a ∧ sideX xs a ≤ 1099511627776 := fun a => by
      have := hn (a / 2)
      unfold NearV at this
      unfold sideX
      split <;> omega
    have := hs i; have := hs j
    unfold apartX; omega)
  have HNN := hid hN
  have HL := hid hl
  generalize topM N N = T at *
  obtain ⟨p0, hb0, hsz⟩ := new_one w #[.int .i64 0, .bool false, .slice none 0 0] 24
  clear hsz
  have hn0 : 0 ≤ 2 * (d : Int) := by omega
  have hn1 : 2 * (d : Int) ≤ 128 := by omega
  have t0 : decide ((d : Int) < 0) = false := by rw [decide_eq_false_iff_not]; omega
  have t1 : decide (64 < (d : Int)) = false := by rw [decide_eq_false_iff_not]; omega
  have hl1 : (xs.length : Int) = (d : Int) := by omega
  have hP0 := (hb0.cell (p := ⟨gp, 0, none⟩) hgp).trans hP
  have t2 : ((xs.length : Int) != (d : Int)) = false := by rw [hl1]; simp
  clear hN hn hl
  go_enter Tryz.func27, Tryz.ntmps27
  go_wp2
  generalize w.alloc (Obj.cells #[.int .i64 0, .bool false, .slice none 0 0] 24) = w1 at *
  go_loopw [6] (fun t wq => wq = w1 ∧ (t = .int .i64 0 ∨ t = .int .i64 1)) (fun t _ => 2 - (Go.RowKit.intOf t).toNat)
  case atStart => exact ⟨rfl, .inl rfl⟩
  case round =>
    obtain ⟨rfl, rfl | rfl⟩ := hrel
    · go_wp2
      go_roundw
      case rel => exact ⟨(by first | rfl | trivial), .inr (by go_num)⟩
      case measure => simp [Go.RowKit.intOf]
    · go_wp2_with fail
      (with_reducible refine (HTOP.out _).mono ?_)
      rintro e2 w2 ⟨A1, c1, rfl, own, hb2⟩
      dsimp only at own ⊢
      have hw7 : w.heap.size < w2.heap.size := (p0.later hb2).lt
      obtain ⟨p7, hb7, -⟩ := new_one w2 #[.int .i64 (d : Int), .bool false, .slice A1 T.length c1] 24
      replace p0 := (p0.later hb2).later hb7
      replace own := (own.less hb0.size).below hb7
      replace hb0 := bup (bup hb0 hb2) hb7
      clear hP0 hb7 hb2
      go_wp2
      generalize w2.alloc (Obj.cells #[.int .i64 (d : Int), .bool false, .slice A1 T.length c1] 24) = w3 at *
      generalize w2.heap.size = g7 at *
      rw [← ptK_zero N xs T] at own
      go_loopw [8] (fun t wq => ∃ i : Nat, i ≤ N ∧ t = .int .i64 i ∧ Own wq w.heap.size A1 c1 (ptK N xs T (i * N)) ∧ Blk wq w.heap.size 24 #[.int .i64 0, .bool false, .slice none 0 0] ∧ Blk wq g7 24 #[.int .i64 (d : Int), .bool false, .slice A1 T.length c1] ∧ Below w.heap.size w wq) (fun t _ => N - (Go.RowKit.intOf t).toNat)
      case atStart => exact ⟨0, by omega, rfl, by rw [Nat.zero_mul]; exact own, p0, p7, hb0⟩
      case round =>
        clear own p0 p7 hb0 t0 t1 t2
        obtain ⟨i, hi, rfl, own, p0, p7, hb0⟩ := hrel
        by_cases hlt : i < N
        · have hlti : (i : Int) < 2 * (d : Int) := by have := HNN.out; omega
          go_wp2
          go_loopw [9] (fun t wq => ∃ j : Nat, j ≤ N ∧ t = .int .i64 j ∧ Own wq w.heap.size A1 c1 (ptK N xs T (i * N + j)) ∧ Blk wq w.heap.size 24 #[.int .i64 0, .bool false, .slice none 0 0] ∧ Blk wq g7 24 #[.int .i64 (d : Int), .bool false, .slice A1 T.length c1] ∧ Below w.heap.size w wq) (fun t _ => N - (Go.RowKit.intOf t).toNat)
          case atStart => exact ⟨0, by omega, rfl, own, p0, p7, hb0⟩
          case round =>
            clear own p0 p7 hb0
            obtain ⟨j, hj, rfl, own, p0, p7, hb0⟩ := hrel
            by_cases hlt2 : j < N
            · have hltj : (j : Int) < 2 * (d : Int) := by have := HNN.out; omega
              have hnext : i * N + (j + 1) = i * N + j + 1 := rfl
              by_cases hij : i = j
              · have t1 : ((i : Int) == (j : Int)) = true := by rw [hij]; simp
                have HS : Hid (ptK N xs T (i * N + j + 1) = ptK N xs T (i * N + j)) := hid (ptK_same (by rw [at_div hlt2, at_mod hlt2]; exact hij))
                clear hij
                go_wp2
                go_roundw
                case rel => exact ⟨j + 1, by omega, by go_num, by rw [hnext, HS.out]; exact own, p0, p7, hb0⟩
                case measure => simp [Go.RowKit.intOf]; omega
              · have t1 : ((i : Int) == (j : Int)) = false := by rw [beq_eq_false_iff_ne]; omega
                have HS : Hid (ptK N xs T (i * N + j + 1) = (ptK N xs T (i * N + j)).set (i * N + j) (apartX xs i j)) := hid (by
                  have h := ptK_set (N := N) (xs := xs) (m := T) (k := i * N + j) (by rw [at_div hlt2, at_mod hlt2]; exact hij)
                  rw [at_div hlt2, at_mod hlt2] at h; exact h)
                have HD2 := hid (HDF.out i j hlt hlt2)
                obtain ⟨r0, r1⟩ := HAP.out i j
                clear hij
                generalize apartX xs i j = R at *
                have hmx : max (-4611686018427387904) R = R := by omega
                go_wp2
                go_loopw [10, 11] (fun r t wq => ((t = .int .i64 0 ∧ r = .int .i64 (-4611686018427387904)) ∨ (t = .int .i64 1 ∧ r = .int .i64 R)) ∧ Own wq w.heap.size A1 c1 (ptK N xs T (i * N + j)) ∧ Blk wq w.heap.size 24 #[.int .i64 0, .bool false, .slice none 0 0] ∧ Blk wq g7 24 #[.int .i64 (d : Int), .bool false, .slice A1 T.length c1] ∧ Below w.heap.size w wq) (fun _ t _ => 2 - (Go.RowKit.intOf t).toNat)
                case atStart => exact ⟨.inl ⟨rfl, rfl⟩, own, p0, p7, hb0⟩
                case round =>
                  clear own p0 p7 hb0
                  obtain ⟨⟨rfl, rfl⟩ | ⟨rfl, rfl⟩, own, p0, p7, hb0⟩ := hrel
                  · have hP1 := (hb0.cell (p := ⟨gp, 0, none⟩) hgp).trans hP
                    have hx1 := hx.up hb0
                    go_wp2_with fail
                    (with_reducible refine (HD2.out _ hx1).mono ?_)
                    rintro e5 w5 ⟨rfl, hb5⟩
                    replace own := own.below hb5
                    replace p0 := p0.later hb5
                    replace p7 := p7.later hb5
                    replace hb0 := bup hb0 hb5
                    clear hP1 hx1 hb5
                    go_wp2
                    go_roundw
                    case rel => exact ⟨.inr ⟨by go_num, by first | rfl | (rw [hmx]) | (congr 1; omega)⟩, own, p0, p7, hb0⟩
                    case measure => simp [Go.RowKit.intOf]
                  · obtain ⟨a1, a2, a3, a4, a5, a6⟩ := idxr_ok HNN.out hlt hlt2 hN1
                    rw [← Int.mul_assoc] at a1 a2 a3 a5 a6
                    rw [← HTL.out] at a4 a6
                    obtain ⟨gA, rfl, hgA, hgB⟩ : ∃ g, A1 = some ⟨g, 0, none⟩ ∧ w.heap.size ≤ g ∧ g < wr.heap.size := by
                      rcases own.form with ⟨_, h, _⟩ | h
                      · exfalso; have h5 := ptK_len N xs T (i * N + j); rw [h] at h5; simp at h5; omega
                      · exact h
                    obtain ⟨_, _, eA, _, cA⟩ := own.rd (i * N + j) (by rw [ptK_len]; exact a4)
                    injection eA with eA; injection eA with eA1 eA2; subst eA1; subst eA2
                    rw [Nat.zero_add] at cA
                    have hfr := own.frozen (i * N + j)
                    have ne0 := own_blk' own p0 (by decide) gA rfl
                    have ne7 := own_blk' own p7 (by decide) gA rfl
                    have HO6 := hid (own.store (i * N + j) R)
                    rw [← HS.out] at HO6
                    have HB6 := hid (hb0.trans (below1 (i := i * N + j) (v := .int .i64 R) hgA hb0.size))
                    have HP6 := hid (p0.far (p := ⟨gA, i * N + j, none⟩) ne0 (.int .i64 R))
                    have HP7 := hid (p7.far (p := ⟨gA, i * N + j, none⟩) ne7 (.int .i64 R))
                    obtain ⟨x0, x1, x2, fx⟩ := octbox p7
                    clear own p0 hb0 HS
                    go_wp2
                    go_roundw
                    case rel => exact ⟨j + 1, by omega, by go_num, by rw [hnext]; exact HO6.out, HP6.out, HP7.out, HB6.out⟩
                    case measure => simp [Go.RowKit.intOf]; omega
            · obtain rfl : j = N := by omega
              have hge : ¬ ((j : Int) < 2 * (d : Int)) := by have := HNN.out; omega
              have hmul : i * j + j = (i + 1) * j := by rw [Nat.succ_mul]
              rw [hmul] at own
              go_wp2
              go_roundw
              case rel => exact ⟨i + 1, by omega, by go_num, own, p0, p7, hb0⟩
              case measure => simp [Go.RowKit.intOf]; omega
        · obtain rfl : i = N := by omega
          have hge : ¬ ((i : Int) < 2 * (d : Int)) := by have := HNN.out; omega
          have HE := hid (HEND.out T HTL.out HDG.out)
          have hlen : T.length = (ptO (d : Int) xs).m.length := by rw [← HE.out, ptK_len]
          rw [HE.out] at own
          rw [hlen] at p7
          have HE0 : Hid ((ptO (d : Int) xs).n = (d : Int) ∧ (ptO (d : Int) xs).e = false) := hid ⟨rfl, rfl⟩
          clear hlen
          generalize ptO (d : Int) xs = P at *
          obtain ⟨x0, x1, x2, fx⟩ := octbox p7
          obtain ⟨y0, y1, y2, fy⟩ := octbox p0
          go_wp2
          have q9 := p0.set3 (v0 := .int .i64 (d : Int)) (v1 := .bool false) (v2 := .slice A1 P.m.length c1)
          have o9 := own.far3 (g := w.heap.size) (v0 := .int .i64 (d : Int)) (v1 := .bool false) (v2 := .slice A1 P.m.length c1) (own_blk' own p0 (by decide))
          have hb9 := hb0.trans (below3 (W := wr) (g := w.heap.size) (v0 := .int .i64 (d : Int)) (v1 := .bool false) (v2 := .slice A1 P.m.length c1) (by omega) hb0.size)
          obtain ⟨z0, z1, z2, fz⟩ := octbox q9
          refine bodyPost_ret (v := .tuple #[.agg #[.int .i64 (d : Int), .bool false, .slice A1 P.m.length c1], .int .i64 0]) (by simp [results, Tryz.results27, go_sem, z0, z1, z2]) rfl ?_
          exact ⟨A1, c1, by rw [HE0.out.1, HE0.out.2], o9, hb9⟩
end
section
open Go.RowKit
attribute [local go_sem ↓] Go.wp_at_zero Go.wp_at_succ

def rowS (x y z : Int) : Nat → List Int
  | 0 => [x, y, z]
  | 1 => [x, y, x]
  | 2 => [y, y, x]
  | _ => [y, x, x]
theorem rowS_len (x y z : Int) (k : Nat) : (rowS x y z k).length = 3 := by unfold rowS; split <;> rfl
theorem swap_step (x y z : Int) {k : Nat} (hk : k < 3) : ∃ d s : Nat, d < 3 ∧ s < 3 ∧ s ≠ d ∧ (#[.int .i64 2, .int .i64 0, .int .i64 1] : Array Value)[k]? = some (.int .i64 (d : Int)) ∧ (#[.int .i64 0, .int .i64 1, .int .i64 2] : Array Value)[k]? = some (.int .i64 (s : Int)) ∧ rowS x y z (k + 1) = (rowS x y z k).set d (gI (rowS x y z k) (s : Int)) := by
  have : k = 0 ∨ k = 1 ∨ k = 2 := by omega
  rcases this with rfl | rfl | rfl
  · exact ⟨2, 0, by omega, by omega, by omega, rfl, rfl, rfl⟩
  · exact ⟨0, 1, by omega, by omega, by omega, rfl, rfl, rfl⟩
  · exact ⟨1, 2, by omega, by omega, by omega, rfl, rfl, rfl⟩
theorem near_three {x y z : Int} : (∀ k : Nat, NearV (gI [x, y, z] (k : Int))) ↔ NearV x ∧ NearV y ∧ NearV z := by
  constructor
  · intro h; exact ⟨h 0, h 1, h 2⟩
  · rintro ⟨h0, h1, h2⟩ k
    match k with
    | 0 => exact h0
    | 1 => exact h1
    | 2 => exact h2
    | k + 3 => exact near_out _ _ (by simp)
theorem near_row {x y z : Int} (h : NearV x ∧ NearV y ∧ NearV z) (k : Nat) : ∀ j : Nat, NearV (gI (rowS x y z k) (j : Int)) := by
  obtain ⟨h0, h1, h2⟩ := h
  unfold rowS
  split <;> exact near_three.2 ⟨by assumption, by assumption, by assumption⟩
theorem rd_three {W : World} {g : Nat} {x y z : Int} (h : Blk W g 2 #[.int .i64 x, .int .i64 y, .int .i64 z]) : Rd W W.heap.size (some ⟨g, 0, none⟩) [x, y, z] := fun k hk => by
  refine ⟨g, 0, rfl, h.lt, ?_⟩
  have : k = 0 ∨ k = 1 ∨ k = 2 := by simp at hk; omega
  rcases this with rfl | rfl | rfl
  · exact h.cell 0
  · exact h.cell 1
  · exact h.cell 2

theorem rpoints3 (xs : List Int) (hl : xs.length = 3) (hn : ∀ k : Nat, NearV (gI xs (k : Int))) (gp cp : Nat) (X : Option Addr) (xc : Nat) (w : World) (hP : w.cell? ⟨gp, 0, none⟩ = some (.slice X 3 xc)) (hgp : gp < w.heap.size) (hx : Rd w w.heap.size X xs) :
    Calls Tryz.prog 27 #[.int .i64 3, .slice (some ⟨gp, 0, none⟩) 1 cp] w fun e w' => ∃ A1 c1, e = .returned (.tuple #[.agg #[.int .i64 3, .bool false, .slice A1 (ptO 3 xs).m.length c1], .int .i64 0]) ∧ Own w' w.heap.size A1 c1 (ptO 3 xs).m ∧ Below w.heap.size w w' :=
  rpoints_ok 3 (by omega) xs hl hn gp cp X xc w (by rw [hl]; exact hP) hgp hx
theorem tcopy3 (xs : List Int) (hl : xs.length = 3) (hn : ∀ k : Nat, NearV (gI xs (k : Int))) (d s : Nat) (hd : d < 3) (hs : s < 3) (hne : s ≠ d) (A : Option Addr) (cap : Nat) (w : World) (hx : Rd w w.heap.size A (ptO 3 xs).m) (B : Nat) (hB : B ≤ w.heap.size) :
    Calls Tryz.prog 28 #[.agg #[.int .i64 3, .bool false, .slice A (ptO 3 xs).m.length cap], .agg #[.int .i64 0, .int .i64 0, .int .i64 2, .int .i64 (d : Int), .int .i64 (-1), .int .i64 0, .int .i64 (s : Int), .int .i64 0, .int .i64 (-1), .int .i64 0]] w fun e w' => ∃ A1 c1, e = .returned (.tuple #[.agg #[.int .i64 3, .bool false, .slice A1 (ptO 3 (xs.set d (gI xs (s : Int)))).m.length c1], .int .i64 0]) ∧ Sx w' B A1 (ptO 3 (xs.set d (gI xs (s : Int)))).m ∧ Below w.heap.size w w' :=
  tcopy_pt xs hl hn d s hd hs hne A cap w hx B hB
theorem swap_cells {u : World} {b o : Nat} {x : Value} {c d : Obj} (h : (u.alloc c).cell? ⟨b, o, none⟩ = some x) (hb : b < u.heap.size) : (u.alloc d).cell? ⟨b, o, none⟩ = some x := by
  have e : ∀ c : Obj, (u.alloc c).cell? ⟨b, o, none⟩ = u.cell? ⟨b, o, none⟩ := fun c => (new1 u c).cell (p := ⟨b, o, none⟩) hb
  exact (e d).trans ((e c).symm.trans h)
theorem far_cell3s {W : World} {g b o : Nat} {v0 v1 v2 c : Value} (h : W.cell? ⟨b, o, none⟩ = some c) (hne : g ≠ b) : (((W.setCell ⟨g, 0, none⟩ v0).setCell ⟨g, 1, none⟩ v1).setCell ⟨g, 2, none⟩ v2).cell? ⟨b, o, none⟩ = some c := by
  have e : ∀ (X : World) (k : Nat) (u : Value), (X.setCell ⟨g, k, none⟩ u).cell? ⟨b, o, none⟩ = X.cell? ⟨b, o, none⟩ := fun X k u => World.cell?_setCell_other X _ _ _ (by intro e; injection e with e; exact hne e)
  rw [e, e, e]; exact h

set_option maxRecDepth 8000 in
set_option maxHeartbeats 8000000 in
theorem transSwap_walk (x y z : Int) (_ : I64 x) (_ : I64 y) (_ : I64 z) (w : World) :
    Calls Tryz.prog 4 #[.int .i64 x, .int .i64 y, .int .i64 z] w fun e w' => e = .returned (.bool true) ∧ Below w.heap.size w w' := by
  go_enter Tryz.func4, Tryz.ntmps4
  go_wp2_with fail
  (with_reducible refine (known16_any w).mono ?_)
  rintro e1 w1 ⟨rfl, hb0⟩
  go_wp2_with fail
  have HN := hid (show Calls Tryz.prog 26 #[.slice (some ⟨w1.heap.size, 0, none⟩) 3 3] (w1.alloc (Obj.cells #[.int .i64 x, .int .i64 y, .int .i64 z] 2)) (NearRes [x, y, z] (w1.alloc (Obj.cells #[.int .i64 x, .int .i64 y, .int .i64 z] 2))) from near_ok [x, y, z] (some ⟨w1.heap.size, 0, none⟩) 3 _ (rd_three (Blk.new _ _ _)) (by simp))
  replace hb0 := bup hb0 (new1 w1 (Obj.cells #[.int .i64 x, .int .i64 y, .int .i64 z] 2))
  generalize w1.alloc (Obj.cells #[.int .i64 x, .int .i64 y, .int .i64 z] 2) = w2 at *
  generalize w1.heap.size = g1 at *
  (with_reducible refine HN.out.mono ?_)
  rintro e3 w3 ⟨b, rfl, hb, hb3⟩
  replace hb0 := bup hb0 hb3
  clear hb3 HN
  cases b with
  | false => go_wp2; go_ret; exact ⟨rfl, hb0⟩
  | true =>
    have HNR := hid (near_three.1 (hb.1 rfl))
    clear hb
    go_wp2_with fail
    obtain ⟨b1, b2, hbn, -⟩ := new_two w3 #[.int .i64 x, .int .i64 y, .int .i64 z] #[.slice (some ⟨w3.heap.size, 0, none⟩) 3 3] 2 22
    have HPT := hid (rpoints3 [x, y, z] rfl (near_three.2 HNR.out) (w3.heap.size + 1) 1 (some ⟨w3.heap.size, 0, none⟩) 3 _ (b2.cell 0) b2.lt (rd_three b1))
    replace hb0 := bup hb0 hbn
    clear b1 b2 hbn
    generalize (w3.alloc (Obj.cells #[.int .i64 x, .int .i64 y, .int .i64 z] 2)).alloc (Obj.cells #[.slice (some ⟨w3.heap.size, 0, none⟩) 3 3] 22) = w4 at *
    generalize w3.heap.size = g3 at *
    (with_reducible refine HPT.out.mono ?_)
    rintro e5 w5 ⟨A1, c1, rfl, own, hb5⟩
    replace hb0 := bup hb0 hb5
    clear HPT hb5
    have sx : Sx w5 w5.heap.size A1 (ptO 3 [x, y, z]).m := .inl own.rd
    obtain ⟨p7, p9, p10, hbn, -⟩ := new_three w5 #[.int .i64 3, .bool false, .slice A1 (ptO 3 [x, y, z]).m.length c1] #[.int .i64 2, .int .i64 0, .int .i64 1] #[.int .i64 0, .int .i64 1, .int .i64 2] 24 41 41
    replace sx := sx.later hbn (Nat.le_refl _)
    have hw7 := hb0.size
    replace hb0 := bup hb0 hbn
    clear hbn own
    have HROW0 : Hid ([x, y, z] = rowS x y z 0) := hid rfl
    go_wp2
    generalize ((w5.alloc (Obj.cells #[.int .i64 3, .bool false, .slice A1 (ptO 3 [x, y, z]).m.length c1] 24)).alloc (Obj.cells #[.int .i64 2, .int .i64 0, .int .i64 1] 41)).alloc (Obj.cells #[.int .i64 0, .int .i64 1, .int .i64 2] 41) = w6 at *
    generalize w5.heap.size = g7 at *
    rw [HROW0.out] at sx p7
    go_loopw [11] (fun t wr => ∃ (k : Nat) (A : Option Addr) (c : Nat), k ≤ 3 ∧ t = .int .i64 k ∧ Blk wr g7 24 #[.int .i64 3, .bool false, .slice A (ptO 3 (rowS x y z k)).m.length c] ∧ Sx wr g7 A (ptO 3 (rowS x y z k)).m ∧ Blk wr (g7 + 1) 41 #[.int .i64 2, .int .i64 0, .int .i64 1] ∧ Blk wr (g7 + 1 + 1) 41 #[.int .i64 0, .int .i64 1, .int .i64 2] ∧ Below w.heap.size w wr) (fun t _ => 3 - (Go.RowKit.intOf t).toNat)
    case atStart => exact ⟨0, A1, c1, by omega, rfl, p7, sx, p9, p10, hb0⟩
    case round =>
      clear sx p7 p9 p10 hb0 HROW0
      obtain ⟨k, A, c, hk, rfl, p7, sx, p9, p10, hb0⟩ := hrel
      by_cases hlt : k < 3
      · have hlti : (k : Int) < 3 := by omega
        obtain ⟨d, s, hd, hs, hne, c9, c10, hrow⟩ := swap_step x y z hlt
        have HT := hid (fun W (hB : g7 ≤ W.heap.size) (h : Rd W W.heap.size A (ptO 3 (rowS x y z k)).m) => tcopy3 (rowS x y z k) (rowS_len x y z k) (near_row HNR.out k) d s hd hs hne A c W h g7 hB)
        rw [← hrow] at HT
        clear hrow hd hs hne
        obtain ⟨M', hM'⟩ : ∃ M', M' = (ptO 3 (rowS x y z (k + 1))).m := ⟨_, rfl⟩
        have HM' := hid hM'
        rw [← hM'] at HT
        clear hM'
        generalize (ptO 3 (rowS x y z k)).m = M at *
        have q9 := (p9.cell k).trans c9
        have q10 := (p10.cell k).trans c10
        go_wp2_with fail
        go_cut [12, 13] (fun s12 s13 W => ∃ (g : Nat) (A2 : Option Addr) (c2 : Nat), s12 = .pointer (some ⟨g, 0, none⟩) ∧ s13 = .int .i64 0 ∧ Blk W g 24 #[.int .i64 3, .bool false, .slice A2 M'.length c2] ∧ Sx W g7 A2 M' ∧ Below wr.heap.size wr W)
        case first =>
          have hxd : Rd wr.drew wr.drew.heap.size A M := sx.rd (Nat.le_of_lt p7.lt)
          have hg7 : g7 ≤ wr.heap.size := Nat.le_of_lt p7.lt
          have hle1 : g7 ≤ wr.drew.heap.size := hg7
          have hle2 : ∀ o, g7 ≤ (wr.alloc o).drew.heap.size := fun o => Nat.le_trans hg7 (new1 wr o).size
          have HLT := hid (show g7 + 1 + 1 < wr.heap.size ∧ wr.drew.heap.size = wr.heap.size from ⟨p10.lt, rfl⟩)
          obtain ⟨p7_0, p7_1, p7_2, p7_f⟩ := octbox p7
          go_region_held3 (fun W => W.cell? ⟨g7, 0, none⟩ = some (.int .i64 3) ∧ W.cell? ⟨g7, 1, none⟩ = some (.bool false) ∧ W.cell? ⟨g7, 2, none⟩ = some (.slice A M.length c) ∧ W.cell? ⟨g7 + 1, k, none⟩ = some (.int .i64 (d : Int)) ∧ W.cell? ⟨g7 + 1 + 1, k, none⟩ = some (.int .i64 (s : Int))) (first | go_keep | (refine ⟨?_, ?_, ?_, ?_, ?_⟩ <;> (refine cell_later ‹Below _ _ _› ?_; first | assumption | go_keep)) | (have hlt := HLT.out; go_split_ands; refine ⟨?_, ?_, ?_, ?_, ?_⟩ <;> (refine far_cell3s (by assumption) ?_; first | omega | (simp only [World.size_alloc] at *; omega))) | (have hlt := HLT.out; go_split_ands; refine ⟨?_, ?_, ?_, ?_, ?_⟩ <;> (refine swap_cells (by assumption) ?_; omega)))
            (first | (go_at_call 28; (with_reducible refine (HT.out _ (by first | exact hle1 | exact hle2 _) (by first | exact hxd | exact hxd.up (new1 _ _))).mono ?_); rintro e9 u1 ⟨A2, c2, rfl, sx2, hu1⟩; have hu1s := hu1.size; (try simp only [World.size_alloc] at hu1s); try (have HZ := hid ((show Blk (wr.alloc (Obj.cells #[.int .i64 0, .bool false, .slice none 0 0] 24)).drew wr.heap.size 24 #[.int .i64 0, .bool false, .slice none 0 0] from Blk.new wr 24 #[.int .i64 0, .bool false, .slice none 0 0]).later hu1))) | (obtain ⟨zz0, zz1, zz2, fz⟩ := octbox HZ.out; clear HZ; go_simp))
          all_goals (go_wp2_with fail; go_meet)
          · exact ⟨_, _, _, rfl, rfl, Blk.new _ _ _, sx2.later (new1 _ _) (Nat.le_trans hg7 hu1s), bup (Ext.trans (Below.refl _ _).drew hu1) (new1 _ _)⟩
          · have bz := (show Blk (wr.alloc (Obj.cells #[.int .i64 0, .bool false, .slice none 0 0] 24)).drew wr.heap.size 24 #[.int .i64 0, .bool false, .slice none 0 0] from Blk.new wr 24 #[.int .i64 0, .bool false, .slice none 0 0]).later hu1
            have hA : Below wr.heap.size wr u1 := bup (new1 wr _).drew hu1
            have hB9 := below3 (W := u1) (g := wr.heap.size) (v0 := .int .i64 3) (v1 := .bool false) (v2 := .slice A2 M'.length c2) (Nat.le_refl _) hA.size
            have s9 := sx2.far3 (g := wr.heap.size) (v0 := .int .i64 3) (v1 := .bool false) (v2 := .slice A2 M'.length c2) hg7 bz (by decide)
            exact ⟨_, _, _, rfl, rfl, bz.set3, s9, hA.trans hB9⟩
        case rest =>
          obtain ⟨g, A2, c2, rfl, rfl, b12, sx2, hbc⟩ := hcut
          replace p7 := p7.later hbc
          replace p9 := p9.later hbc
          replace p10 := p10.later hbc
          replace hb0 := bup hb0 hbc
          clear hbc sx HT q9 q10 c9 c10
          have r7 := p7.set3 (v0 := .int .i64 3) (v1 := .bool false) (v2 := .slice A2 M'.length c2)
          have r9 := p9.far3 (g := g7) (v0 := .int .i64 3) (v1 := .bool false) (v2 := .slice A2 M'.length c2) (by omega)
          have r10 := p10.far3 (g := g7) (v0 := .int .i64 3) (v1 := .bool false) (v2 := .slice A2 M'.length c2) (by omega)
          have rs := sx2.far3 (g := g7) (v0 := .int .i64 3) (v1 := .bool false) (v2 := .slice A2 M'.length c2) (Nat.le_refl _) p7 (by decide)
          have rb := hb0.trans (below3 (W := wc) (g := g7) (v0 := .int .i64 3) (v1 := .bool false) (v2 := .slice A2 M'.length c2) hw7 hb0.size)
          obtain ⟨x0, x1, x2, fx⟩ := octbox p7
          obtain ⟨y0, y1, y2, fy⟩ := octbox b12
          have HR := hid (And.intro r7 (And.intro r9 (And.intro r10 (And.intro rs rb))))
          clear r7 r9 r10 rs rb
          go_wp2
          go_roundw
          case rel =>
            obtain ⟨r7, r9, r10, rs, rb⟩ := HR.out
            exact ⟨k + 1, A2, c2, by omega, by go_num, by rw [← HM'.out]; exact r7, by rw [← HM'.out]; exact rs, r9, r10, rb⟩
          case measure => simp [Go.RowKit.intOf]; omega
      · obtain rfl : k = 3 := by omega
        rw [show rowS x y z 3 = [y, x, x] from rfl] at p7 sx
        have HNY : Hid (∀ k : Nat, NearV (gI [y, x, x] (k : Int))) := hid (near_three.2 ⟨HNR.out.2.1, HNR.out.1, HNR.out.1⟩)
        have hr7 := sx.rd (Nat.le_of_lt p7.lt)
        clear sx p9 p10
        go_wp2_with fail
        obtain ⟨b1, b2, hbn, -⟩ := new_two wr #[.int .i64 y, .int .i64 x, .int .i64 x] #[.slice (some ⟨wr.heap.size, 0, none⟩) 3 3] 2 22
        have HPT := hid (rpoints3 [y, x, x] rfl HNY.out (wr.heap.size + 1) 1 (some ⟨wr.heap.size, 0, none⟩) 3 _ (b2.cell 0) b2.lt (rd_three b1))
        replace hb0 := bup hb0 hbn
        replace p7 := p7.later hbn
        replace hr7 := hr7.up hbn
        clear b1 b2 hbn
        generalize (wr.alloc (Obj.cells #[.int .i64 y, .int .i64 x, .int .i64 x] 2)).alloc (Obj.cells #[.slice (some ⟨wr.heap.size, 0, none⟩) 3 3] 22) = w8 at *
        generalize wr.heap.size = g8 at *
        (with_reducible refine HPT.out.mono ?_)
        rintro e9 w9 ⟨A9, c9, rfl, own9, hb9⟩
        replace hb0 := bup hb0 hb9
        replace p7 := p7.later hb9
        replace hr7 := hr7.up hb9
        clear HPT hb9
        have hr9 := own9.rd
        obtain ⟨p14, hbn, -⟩ := new_one w9 #[.int .i64 3, .bool false, .slice A9 (ptO 3 [y, x, x]).m.length c9] 24
        replace hb0 := bup hb0 hbn
        replace p7 := p7.later hbn
        replace hr7 := hr7.up hbn
        replace hr9 := hr9.up hbn
        clear hbn own9
        obtain ⟨x0, x1, x2, fx⟩ := octbox p7
        go_wp2_with fail
        clear x0 x1 x2 fx
        have hsm : (ptO 3 [y, x, x]).m.length ≤ 17592186044416 := OkO.small (pt_ok (N := 6) (n := 3) (by omega) (by omega) (near_side HNY.out))
        have HO := hid (oct_any (ptO 3 [y, x, x]) (ptO 3 [y, x, x]) A A9 c c9 _ hr7 hr9 hsm)
        rw [eqO_same] at HO
        have HO2 := hid (show Calls Tryz.prog 23 #[.agg #[.int .i64 3, .bool false, .slice A (ptO 3 [y, x, x]).m.length c], .agg #[.int .i64 3, .bool false, .slice A9 (ptO 3 [y, x, x]).m.length c9]] (w9.alloc (Obj.cells #[.int .i64 3, .bool false, .slice A9 (ptO 3 [y, x, x]).m.length c9] 24)) (fun e w' => e = .returned (.bool true) ∧ Below (w9.alloc (Obj.cells #[.int .i64 3, .bool false, .slice A9 (ptO 3 [y, x, x]).m.length c9] 24)).heap.size (w9.alloc (Obj.cells #[.int .i64 3, .bool false, .slice A9 (ptO 3 [y, x, x]).m.length c9] 24)) w') from HO.out)
        (with_reducible refine HO2.out.mono ?_)
        rintro e10 w10 ⟨rfl, hb10⟩
        go_wp2
        go_ret
        exact ⟨rfl, bup hb0 hb10⟩
end
end Go.Proofs.YtnmpgijiimglcaaGreat
