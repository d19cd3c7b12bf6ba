/-
  gnomonref14.Drop at one variable, gnomonref14.Forget.
-/
import Derived.Test.YtnmpgijiimglcaaGreatRRanged
import Derived.Test.YtnmpgijiimglcaaGreatBTG40
import Derived.Test.YtnmpgijiimglcaaGreatBTG14
namespace Go.Proofs.YtnmpgijiimglcaaGreat
open Go.RowKit
attribute [local go_sem ↓] Go.wp_at_zero Go.wp_at_succ

/-- The first k cells are done. -/
def forgetK (N v : Nat) (m : List Int) (k : Nat) : List Int := (List.range m.length).map fun p => if p < k ∧ goneB N v p = true then 9223372036854775807 else gI m (p : Int)
theorem forgetK_len (N v : Nat) (m : List Int) (k : Nat) : (forgetK N v m k).length = m.length := by unfold forgetK; simp
theorem range_ext {L : Nat} {f g : Nat → Int} (h : ∀ p, p < L → f p = g p) : (List.range L).map f = (List.range L).map g := List.map_congr_left fun p hp => h p (List.mem_range.1 hp)
theorem forgetK_zero (N v : Nat) (m : List Int) : forgetK N v m 0 = m := by
  refine List.ext_getElem (by simp [forgetK]) fun p h1 h2 => ?_
  simp [forgetK, gI, List.getD_eq_getElem?_getD, h2]
theorem forgetK_all (N v : Nat) (m : List Int) : forgetK N v m m.length = forgetM N v m := by
  unfold forgetK forgetM
  refine range_ext fun p hp => ?_
  by_cases h : goneB N v p = true
  · rw [if_pos ⟨hp, h⟩, if_pos h]
  · rw [if_neg (fun k => h k.2), if_neg h]
theorem forgetK_same {N v : Nat} {m : List Int} {k : Nat} (h : goneB N v k = false) : forgetK N v m (k + 1) = forgetK N v m k := by
  unfold forgetK
  refine range_ext fun p _ => ?_
  by_cases hk : p = k
  · subst hk; rw [h]; simp
  · by_cases g : goneB N v p = true
    · by_cases q : p < k
      · rw [if_pos ⟨by omega, g⟩, if_pos ⟨q, g⟩]
      · rw [if_neg (fun h => by omega), if_neg (fun h => by omega)]
    · rw [if_neg (fun h => g h.2), if_neg (fun h => g h.2)]
theorem forgetK_set {N v : Nat} {m : List Int} {k : Nat} (h : goneB N v k = true) : forgetK N v m (k + 1) = (forgetK N v m k).set k 9223372036854775807 := by
  refine List.ext_getElem (by simp [forgetK]) fun p h1 h2 => ?_
  have hp : p < m.length := by simpa [forgetK] using h1
  rw [List.getElem_set]
  by_cases hk : k = p
  · subst hk; simp [forgetK, h]
  · rw [if_neg hk]
    simp only [forgetK, List.getElem_map, List.getElem_range]
    by_cases g : goneB N v p = true
    · by_cases q : p < k
      · rw [if_pos ⟨by omega, g⟩, if_pos ⟨q, g⟩]
      · rw [if_neg (fun h => by omega), if_neg (fun h => by omega)]
    · rw [if_neg (fun h => g h.2), if_neg (fun h => g h.2)]
theorem gone_at {N v i j : Nat} (hj : j < N) : goneB N v (i * N + j) = (decide (i ≠ j) && (decide (i / 2 = v) || decide (j / 2 = v))) := by
  unfold goneB; rw [at_div hj, at_mod hj]
theorem cell_stay {w w' : World} {row : Option Nat} {b o : Nat} {c : Value} (h : w.cell? ⟨b, o, none⟩ = some c) (hg : w.grownBy w' row) (hne : row ≠ some b) : w'.cell? ⟨b, o, none⟩ = some c := by
  have hb : b < w.heap.size := by
    have := h
    unfold World.cell? at this
    split at this
    · rename_i hb; exact (Array.getElem?_eq_some_iff.1 hb).1
    · cases this
  have e := hg.block b hb (fun e => hne e.symm)
  unfold World.cell? at h ⊢
  rw [show w'.heap[(⟨b, o, none⟩ : Addr).block]? = w.heap[(⟨b, o, none⟩ : Addr).block]? from e]
  exact h
/-- The octagon that came in, its row changed in place; nothing else has changed. -/
def RIn (w : World) (base : Nat) (A : Option Addr) (cap : Nat) (n : Int) (L : Nat) (m' : List Int) (e : Ending) (w' : World) : Prop := e = .returned (.agg #[.int .i64 n, .bool false, .slice A L cap]) ∧ Own w' base A cap m' ∧ w.grownBy w' (rowB A)

set_option maxRecDepth 8000 in
set_option maxHeartbeats 4000000 in
theorem rdrop_ok (n : Int) (m : List Int) (N : Nat) (hN : (N : Int) = 2 * n) (hn : N ≤ 128) (hc : Cells N m) (v : Nat) (hv : (v : Int) < n) (gA cap base gD L cD : Nat) (hL : (L : Int) = n) (w : World) (own : Own w base (some ⟨gA, 0, none⟩) cap m) (hbase : base ≤ w.heap.size) (hD : ∀ u, u < L → w.cell? ⟨gD, u, none⟩ = some (.bool (decide (u = v)))) (hne : gA ≠ gD) :
    Calls Tryz.prog 141 #[.agg #[.int .i64 n, .bool false, .slice (some ⟨gA, 0, none⟩) m.length cap], .slice (some ⟨gD, 0, none⟩) L cD] w (RIn w base (some ⟨gA, 0, none⟩) cap n m.length (forgetM N v m)) := by
  obtain ⟨p0, p1, hb0, hsz⟩ := new_two w #[.int .i64 n, .bool false, .slice (some ⟨gA, 0, none⟩) m.length cap] #[.int .i64 0, .bool false, .slice none 0 0] 24 24
  have HML := hid hc.len
  have HN := hid hN
  have HV := hid hv
  have HLL := hid hL
  have hgA : base ≤ gA ∧ gA < w.heap.size := by
    rcases own.form with ⟨h, _⟩ | ⟨g, h, h1, h2⟩
    · cases h
    · injection h with h; injection h with h; subst h; exact ⟨h1, h2⟩
  have hn0 : 0 ≤ 2 * n := by omega
  have hn1 : 2 * n ≤ 128 := by omega
  have hL1 : L ≤ 64 := by omega
  have HDD := hid hD
  have HG := hid hgA
  have HSZ := hid hsz
  have HNE := hid hne
  clear hN hv hc hL hgA hsz hD hne
  have own0 := own
  replace own := own.below hb0
  go_enter Tryz.func141, Tryz.ntmps141
  obtain ⟨x0, x1, x2, fx⟩ := octbox p0
  go_wp2
  clear x0 x1 x2 fx
  generalize (w.alloc (Obj.cells #[.int .i64 n, .bool false, .slice (some ⟨gA, 0, none⟩) m.length cap] 24)).alloc (Obj.cells #[.int .i64 0, .bool false, .slice none 0 0] 24) = w0 at *
  have hgr0 : w.grownBy w0 (some gA) := grown_of_below hb0 _
  go_loopw [6] (fun t wq => ∃ i : Nat, i ≤ N ∧ t = .int .i64 i ∧ Own wq base (some ⟨gA, 0, none⟩) cap (forgetK N v m (i * N)) ∧ w0.grownBy wq (some gA)) (fun t _ => N - (intOf t).toNat)
  case atStart => exact ⟨0, by omega, rfl, by rw [Nat.zero_mul, forgetK_zero]; exact own, World.grownBy.refl _ _⟩
  case round =>
    clear own
    obtain ⟨i, hi, rfl, own, hg⟩ := hrel
    by_cases hlt : i < N
    · have hlti : (i : Int) < 2 * n := by have := HN.out; omega
      go_wp2
      go_loopw [7] (fun t wq => ∃ j : Nat, j ≤ N ∧ t = .int .i64 j ∧ Own wq base (some ⟨gA, 0, none⟩) cap (forgetK N v m (i * N + j)) ∧ w0.grownBy wq (some gA)) (fun t _ => N - (intOf t).toNat)
      case atStart => exact ⟨0, by omega, rfl, own, hg⟩
      case round =>
        clear own hg
        obtain ⟨j, hj, rfl, own, hg⟩ := hrel
        by_cases hlt2 : j < N
        · have hltj : (j : Int) < 2 * n := by have := HN.out; omega
          have HGO : Hid (goneB N v (i * N + j) = (decide (i ≠ j) && (decide (i / 2 = v) || decide (j / 2 = v)))) := hid (gone_at hlt2)
          have hgw := hgr0.trans hg
          obtain ⟨i2, hie⟩ : ∃ i2, i2 = i / 2 := ⟨_, rfl⟩
          obtain ⟨j2, hje⟩ : ∃ j2, j2 = j / 2 := ⟨_, rfl⟩
          rw [← hie, ← hje] at HGO
          have hi2 : i2 < L := by have := HLL.out; have := HN.out; omega
          have hj2 : j2 < L := by have := HLL.out; have := HN.out; omega
          have hi3 : (i2 : Int) < (L : Int) := by omega
          have hj3 : (j2 : Int) < (L : Int) := by omega
          have ci := cell_stay (HDD.out i2 hi2) hgw (by intro e; injection e with e; exact HNE.out e)
          have cj := cell_stay (HDD.out j2 hj2) hgw (by intro e; injection e with e; exact HNE.out e)
          have di1 : Int.tdiv (i : Int) 2 = (i2 : Int) := by rw [Int.tdiv_eq_ediv_of_nonneg (by omega)]; omega
          have di2 : (i : Int) / 2 = (i2 : Int) := by omega
          have dj1 : Int.tdiv (j : Int) 2 = (j2 : Int) := by rw [Int.tdiv_eq_ediv_of_nonneg (by omega)]; omega
          have dj2 : (j : Int) / 2 = (j2 : Int) := by omega
          have hpl : i * N + j < m.length := by rw [HML.out]; exact pos_lt hlt hlt2
          have hnext : i * N + (j + 1) = i * N + j + 1 := rfl
          have q0 := p0.kept hg (by intro e; injection e with e; have := HG.out; omega)
          obtain ⟨r, hre⟩ : ∃ r, r = i * N := ⟨_, rfl⟩
          have hm1 : (i : Int) * (2 * n) = (r : Int) := by rw [hre, ← HN.out, Int.natCast_mul]
          have hr1 : r ≤ 16384 := by rw [hre]; exact Nat.le_trans (Nat.mul_le_mul (Nat.le_of_lt hlt) (Nat.le_refl N)) (Nat.mul_le_mul hn hn)
          have hm2 : (r : Int) + (j : Int) = ((i * N + j : Nat) : Int) := by rw [hre]; simp
          clear hre hie hje hgw
          generalize i * N + j = p at *
          have hp' : (p : Int) < (m.length : Int) := by omega
          have HP := hid (show (0 : Int) ≤ (p : Int) by omega)
          obtain ⟨b1, hb1⟩ : ∃ b, b = decide (i2 = v) := ⟨_, rfl⟩
          obtain ⟨b2, hb2⟩ : ∃ b, b = decide (j2 = v) := ⟨_, rfl⟩
          rw [← hb1] at HGO ci
          rw [← hb2] at HGO cj
          clear hb1 hb2
          have HQ0 := hid q0
          clear q0
          by_cases hij : i = j
          · have t1 : ((i : Int) != (j : Int)) = false := by rw [hij]; simp
            have HS : Hid (forgetK N v m (p + 1) = forgetK N v m p) := hid (forgetK_same (by rw [HGO.out]; simp [hij]))
            clear hij
            go_wp2
            go_roundw
            case rel => exact ⟨j + 1, by omega, by go_num, by rw [hnext, HS.out]; exact own, hg⟩
            case measure => simp [intOf]; omega
          · have t1 : ((i : Int) != (j : Int)) = true := by simp; omega
            have t2 : decide (i ≠ j) = true := by simpa using hij
            rw [t2] at HGO
            clear hij t2
            have setcase : goneB N v p = true → Hid (forgetK N v m (p + 1) = (forgetK N v m p).set p 9223372036854775807) := fun h => hid (forgetK_set h)
            have samecase : goneB N v p = false → Hid (forgetK N v m (p + 1) = forgetK N v m p) := fun h => hid (forgetK_same h)
            have hfr := own.frozen p
            obtain ⟨_, _, eA, _, cA⟩ := own.rd p (by rw [forgetK_len]; exact hpl)
            injection eA with eA; injection eA with eA1 eA2; subst eA1; subst eA2
            rw [Nat.zero_add] at cA
            cases b1
            · cases b2
              · have HS := samecase (by rw [HGO.out]; rfl)
                clear setcase samecase cA hfr
                go_wp2
                go_roundw
                case rel => exact ⟨j + 1, by omega, by go_num, by rw [hnext, HS.out]; exact own, hg⟩
                case measure => simp [intOf]; omega
              · have HS := setcase (by rw [HGO.out]; rfl)
                obtain ⟨x0, x1, x2, fx⟩ := octbox HQ0.out
                have HO6 := hid (own.store p 9223372036854775807)
                have HG6 := hid (hg.trans (grown_setCell wr ⟨gA, p, none⟩ (.int .i64 9223372036854775807)))
                clear setcase samecase own hg
                go_wp2
                go_roundw
                case rel => exact ⟨j + 1, by omega, by go_num, by rw [hnext, HS.out]; exact HO6.out, HG6.out⟩
                case measure => simp [intOf]; omega
            · have HS := setcase (by rw [HGO.out]; rfl)
              obtain ⟨x0, x1, x2, fx⟩ := octbox HQ0.out
              have HO6 := hid (own.store p 9223372036854775807)
              have HG6 := hid (hg.trans (grown_setCell wr ⟨gA, p, none⟩ (.int .i64 9223372036854775807)))
              clear setcase samecase own hg
              go_wp2
              go_roundw
              case rel => exact ⟨j + 1, by omega, by go_num, by rw [hnext, HS.out]; exact HO6.out, HG6.out⟩
              case measure => simp [intOf]; omega
        · obtain rfl : j = N := by omega
          have hge : ¬ ((j : Int) < 2 * n) := by have := HN.out; omega
          have hmul : i * j + j = (i + 1) * j := by rw [Nat.succ_mul]
          rw [hmul] at own
          go_wp2
          go_roundw
          case rel => exact ⟨i + 1, by omega, by go_num, own, hg⟩
          case measure => simp [intOf]; omega
    · obtain rfl : i = N := by omega
      have hge : ¬ ((i : Int) < 2 * n) := by have := HN.out; omega
      rw [← HML.out, forgetK_all] at own
      have q0 := p0.kept hg (by intro e; injection e with e; have := HG.out; omega)
      have q1 := p1.kept hg (by intro e; injection e with e; have := HG.out; omega)
      obtain ⟨x0, x1, x2, fx⟩ := octbox q0
      obtain ⟨y0, y1, y2, fy⟩ := octbox q1
      go_wp2
      have q9 := q1.set3 (v0 := .int .i64 n) (v1 := .bool false) (v2 := .slice (some ⟨gA, 0, none⟩) m.length cap)
      have o9 := own.far3 (g := w.heap.size + 1) (v0 := .int .i64 n) (v1 := .bool false) (v2 := .slice (some ⟨gA, 0, none⟩) m.length cap) (own_blk' own q1 (by decide))
      obtain ⟨z0, z1, z2, fz⟩ := octbox q9
      refine bodyPost_ret (v := .agg #[.int .i64 n, .bool false, .slice (some ⟨gA, 0, none⟩) m.length cap]) (by simp [results, Tryz.results141, go_sem, z0, z1, z2]) rfl ?_
      exact ⟨rfl, o9, (hgr0.trans hg).andThen grown3 (fun k e => .inl (by injection e with e; omega))⟩
end Go.Proofs.YtnmpgijiimglcaaGreat
