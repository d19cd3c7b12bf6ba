/-
  gnomonref12.Top, gnomonref12.Bound: what they answer.
-/
import Derived.Test.YtnmpgijiimglcaaGreatRef13
import Derived.Test.YtnmpgijiimglcaaGreatBUA08
namespace Go.Proofs.YtnmpgijiimglcaaGreat
open Go.RowKit
attribute [local go_sem ↓] Go.wp_at_zero Go.wp_at_succ

def topR (N : Nat) (m : List Int) (i : Nat) : Nat → List Int
  | 0 => m
  | l + 1 => if i = l then topR N m i l else (topR N m i l).set (i * N + l) 9223372036854775807
def topM (N : Nat) : Nat → List Int
  | 0 => List.replicate (N * N) 0
  | k + 1 => topR N (topM N k) k N
theorem topR_len (N : Nat) (m : List Int) (i : Nat) : ∀ l, (topR N m i l).length = m.length
  | 0 => rfl
  | l + 1 => by unfold topR; split <;> simp [topR_len N m i l]
theorem topM_len (N : Nat) : ∀ k, (topM N k).length = N * N
  | 0 => by simp [topM]
  | k + 1 => by unfold topM; rw [topR_len, topM_len N k]

set_option maxRecDepth 8000 in
set_option maxHeartbeats 2000000 in
theorem rtop_any (d N : Nat) (w : World) (hd : d ≤ 64) (hNN : (N : Int) = 2 * (d : Int)) :
    Calls Tryz.prog 53 #[.int .i64 (d : Int)] w (OctOwn w ⟨(d : Int), false, topM N N⟩) := by
  have hM0 : 4 * (d : Int) * (d : Int) = ((N * N : Nat) : Int) := by rw [Int.natCast_mul, hNN, Int.mul_assoc, Int.mul_assoc, Int.mul_left_comm (d : Int) 2 (d : Int), ← Int.mul_assoc 2 2]; rfl
  have hN1 : N ≤ 128 := by omega
  have hqb : N * N ≤ 128 * 128 := Nat.mul_le_mul hN1 hN1
  have hmk := run_make64 (N * N) (by omega)
  have hd4 : 0 ≤ 4 * (d : Int) * (d : Int) := by rw [hM0]; omega
  have hd5 : 4 * (d : Int) * (d : Int) ≤ 16384 := by rw [hM0]; omega
  rw [← hM0] at hmk
  have HN := hid hNN
  have hn0 : 0 ≤ 2 * (d : Int) := by omega
  have hn1 : 2 * (d : Int) ≤ 128 := by omega
  have HM0 := hid hM0
  have hb0 := new1 w (Obj.cells #[.int .i64 0, .bool false, .slice none 0 0] 24)
  have p0 := Blk.new w 24 #[.int .i64 0, .bool false, .slice none 0 0]
  have hom := own_made (w.alloc (Obj.cells #[.int .i64 0, .bool false, .slice none 0 0] 24)) (n := N * N) (Nat.le_refl _) (by omega)
  clear hM0 hNN
  go_enter Tryz.func53, Tryz.ntmps53
  go_wp2
  have hsz1 : (w.alloc (Obj.cells #[.int .i64 0, .bool false, .slice none 0 0] 24)).heap.size = w.heap.size + 1 := by simp
  rw [hsz1] at hom
  have n2 := new1 (w.alloc (Obj.cells #[.int .i64 0, .bool false, .slice none 0 0] 24)) (Obj.cells (zcells (N * N)) 2)
  have hsz2 : ((w.alloc (Obj.cells #[.int .i64 0, .bool false, .slice none 0 0] 24)).alloc (Obj.cells (zcells (N * N)) 2)).heap.size = w.heap.size + 2 := by simp
  replace p0 := p0.later n2
  replace hb0 := bup hb0 n2
  have n3 := new1 ((w.alloc (Obj.cells #[.int .i64 0, .bool false, .slice none 0 0] 24)).alloc (Obj.cells (zcells (N * N)) 2)) (Obj.cells #[.int .i64 (d : Int), .bool false, .slice (some ⟨w.heap.size + 1, 0, none⟩) (N * N) (N * N)] 24)
  have k3 := Blk.new ((w.alloc (Obj.cells #[.int .i64 0, .bool false, .slice none 0 0] 24)).alloc (Obj.cells (zcells (N * N)) 2)) 24 #[.int .i64 (d : Int), .bool false, .slice (some ⟨w.heap.size + 1, 0, none⟩) (N * N) (N * N)]
  replace hom := hom.below n3
  replace p0 := p0.later n3
  replace hb0 := bup hb0 n3
  rw [hsz2] at k3
  clear n2 n3 hsz1 hsz2
  generalize ((w.alloc (Obj.cells #[.int .i64 0, .bool false, .slice none 0 0] 24)).alloc (Obj.cells (zcells (N * N)) 2)).alloc (Obj.cells #[.int .i64 (d : Int), .bool false, .slice (some ⟨w.heap.size + 1, 0, none⟩) (N * N) (N * N)] 24) = w3 at *
  have HLM : Hid (∀ k, (topM N k).length = N * N) := hid (topM_len N)
  have HLR : Hid (∀ m i l, (topR N m i l).length = m.length) := hid (topR_len N)
  go_loopw [4] (fun i wr => ∃ k : Nat, k ≤ N ∧ i = .int .i64 k ∧ Blk wr (w.heap.size + 2) 24 #[.int .i64 (d : Int), .bool false, .slice (some ⟨w.heap.size + 1, 0, none⟩) (N * N) (N * N)] ∧ Own wr (w.heap.size + 1) (some ⟨w.heap.size + 1, 0, none⟩) (N * N) (topM N k) ∧ Blk wr w.heap.size 24 #[.int .i64 0, .bool false, .slice none 0 0] ∧ Below w.heap.size w wr) (fun i _ => N - (intOf i).toNat)
  case atStart => exact ⟨0, by omega, rfl, k3, hom, p0, hb0⟩
  case round =>
    obtain ⟨k, hkN, rfl, kr, ownr, pr, hbr⟩ := hrel
    by_cases hlt : k < N
    · have hltn : (k : Int) < 2 * (d : Int) := by have := HN.out; omega
      have HMS : Hid (topM N (k + 1) = topR N (topM N k) k N) := hid rfl
      have hml := HLM.out k
      have HML := hid hml
      clear hml
      generalize topM N k = m at *
      go_wp2
      go_loopw [5] (fun j wr => ∃ l : Nat, l ≤ N ∧ j = .int .i64 l ∧ Blk wr (w.heap.size + 2) 24 #[.int .i64 (d : Int), .bool false, .slice (some ⟨w.heap.size + 1, 0, none⟩) (N * N) (N * N)] ∧ Own wr (w.heap.size + 1) (some ⟨w.heap.size + 1, 0, none⟩) (N * N) (topR N m k l) ∧ Blk wr w.heap.size 24 #[.int .i64 0, .bool false, .slice none 0 0] ∧ Below w.heap.size w wr) (fun j _ => N - (intOf j).toNat)
      case atStart => exact ⟨0, by omega, rfl, kr, ownr, pr, hbr⟩
      case round =>
        clear kr ownr pr hbr
        obtain ⟨l, hlN, rfl, kr, ownr, pr, hbr⟩ := hrel
        by_cases hlt2 : l < N
        · have hltn2 : (l : Int) < 2 * (d : Int) := by have := HN.out; omega
          obtain ⟨a1, a2, a3, a4, a5, a6⟩ := idxr_ok HN.out hlt hlt2 hN1
          rw [← Int.mul_assoc] at a1 a2 a3 a5 a6
          have HRL := hid ((HLR.out m k l).trans HML.out)
          cases t1 : ((k : Int) != (l : Int))
          · have hkl : k = l := by have : (k : Int) = (l : Int) := by simpa using t1
                                   omega
            have HRS : Hid (topR N m k (l + 1) = topR N m k l) := hid (by rw [topR, if_pos hkl])
            clear hkl
            go_wp2
            go_roundw
            case rel => exact ⟨l + 1, by omega, by go_num, kr, by rw [HRS.out]; exact ownr, pr, hbr⟩
            case measure => simp [intOf]; omega
          · have hkl : k ≠ l := by have := bne_iff_ne.1 t1; omega
            have HRS : Hid (topR N m k (l + 1) = (topR N m k l).set (k * N + l) 9223372036854775807) := hid (by rw [topR, if_neg hkl])
            generalize topR N m k l = r at *
            obtain ⟨g1, o1, e1, _, c4⟩ := ownr.rd (k * N + l) (by rw [HRL.out]; exact a4)
            obtain ⟨rfl, rfl⟩ : w.heap.size + 1 = g1 ∧ 0 = o1 := by simpa using e1
            clear e1
            have f4 := ownr.frozen (k * N + l)
            rw [Nat.zero_add] at c4
            obtain ⟨x0, x1, x2, fx⟩ := octbox kr
            go_wp2
            clear x0 x1 x2 fx c4 f4
            go_roundw
            case rel => exact ⟨l + 1, by omega, by go_num, kr.far (p := ⟨w.heap.size + 1, k * N + l, none⟩) (by simp) _, by rw [HRS.out]; exact ownr.store (k * N + l) 9223372036854775807, pr.far (p := ⟨w.heap.size + 1, k * N + l, none⟩) (by simp) _, hbr.trans (below1 (by omega) hbr.size)⟩
            case measure => simp [intOf]; omega
        · obtain rfl : l = N := by omega
          have hge : ¬ ((l : Int) < 2 * (d : Int)) := by have := HN.out; omega
          rw [← HMS.out] at ownr
          go_wp2
          go_roundw
          case rel => exact ⟨k + 1, by omega, by go_num, kr, ownr, pr, hbr⟩
          case measure => simp [intOf]; omega
    · obtain rfl : k = N := by omega
      have hge : ¬ ((k : Int) < 2 * (d : Int)) := by have := HN.out; omega
      have HML := hid (HLM.out k)
      generalize topM k k = m at *
      obtain ⟨x0, x1, x2, fx⟩ := octbox kr
      obtain ⟨y0, y1, y2, fy⟩ := octbox pr
      go_wp2
      clear x0 x1 x2 fx y0 y1 y2 fy
      have q3 := pr.set3 (v0 := .int .i64 (d : Int)) (v1 := .bool false) (v2 := .slice (some ⟨w.heap.size + 1, 0, none⟩) (k * k) (k * k))
      have o3 := ownr.far3 (g := w.heap.size) (v0 := .int .i64 (d : Int)) (v1 := .bool false) (v2 := .slice (some ⟨w.heap.size + 1, 0, none⟩) (k * k) (k * k)) (own_blk' ownr pr (by decide))
      obtain ⟨z0, z1, z2, fz⟩ := octbox q3
      refine bodyPost_ret (v := .agg #[.int .i64 (d : Int), .bool false, .slice (some ⟨w.heap.size + 1, 0, none⟩) (k * k) (k * k)]) (by simp [results, Tryz.results53, go_sem, z0, z1, z2]) rfl ⟨_, _, by rw [HML.out], o3.less (by omega), hbr.trans (below3 (by omega) hbr.size)⟩

/-- At most v at cell (i, j), and at the one across. -/
def boundV (N i j : Nat) (v : Int) (m : List Int) : Int := if near v < gI m ((i * N + j : Nat) : Int) then near v else gI m ((i * N + j : Nat) : Int)
def boundM (N i j : Nat) (v : Int) (m : List Int) : List Int := (m.set (i * N + j) (boundV N i j v m)).set (nx j * N + nx i) (boundV N i j v m)
theorem boundM_len (N i j : Nat) (v : Int) (m : List Int) : (boundM N i j v m).length = m.length := by simp [boundM]

set_option maxRecDepth 8000 in
set_option maxHeartbeats 4000000 in
theorem rbound_ok (n : Int) (m : List Int) (N i j base : Nat) (v : Int) (A : Option Addr) (c : Nat) (w : World) (own : Own w base A c m) (hbase : base ≤ w.heap.size) (hN : (N : Int) = 2 * n) (hn : N ≤ 128) (hl : m.length = N * N) (hi : i < N) (hj : j < N) (hij : i ≠ j) :
    Calls Tryz.prog 52 #[.agg #[.int .i64 n, .bool false, .slice A m.length c], .int .i64 (i : Int), .int .i64 (j : Int), .int .i64 v] w fun e w' => e = .returned (.agg #[.int .i64 n, .bool false, .slice A m.length c]) ∧ Own w' base A c (boundM N i j v m) ∧ Below base w w' := by
  have hb0 : Below w.heap.size w ((w.alloc (Obj.cells #[.int .i64 n, .bool false, .slice A m.length c] 24)).alloc (Obj.cells #[.int .i64 0, .bool false, .slice none 0 0] 24)) := ((Below.refl _ _).alloc (Nat.le_refl _) _).alloc (by simp) _
  obtain ⟨p0, p1⟩ := blk_two (w := w) (Below.refl _ ((w.alloc (Obj.cells #[.int .i64 n, .bool false, .slice A m.length c] 24)).alloc (Obj.cells #[.int .i64 0, .bool false, .slice none 0 0] 24)))
  have hni := nx_lt hN hi
  have hnj := nx_lt hN hj
  have HIA := hid (idxr_ok hN hi hj hn)
  have HID := hid (idxr_ok hN hnj hni hn)
  have hp1 : w.heap.size + 1 < ((w.alloc (Obj.cells #[.int .i64 n, .bool false, .slice A m.length c] 24)).alloc (Obj.cells #[.int .i64 0, .bool false, .slice none 0 0] 24)).heap.size := p1.lt
  have ho : ∀ g, A = some ⟨g, 0, none⟩ → g < w.heap.size := by
    rcases own.form with ⟨rfl, _⟩ | ⟨g', rfl, _, h'⟩
    · intro g hg; cases hg
    · intro g hg; injection hg with hg; injection hg with hg; omega
  replace own := own.below hb0
  have hn0 : 0 ≤ 2 * n := by omega
  have hn1 : 2 * n ≤ 128 := by omega
  have HL := hid hl
  rw [← hl] at HIA HID
  have HV : Hid (boundV N i j v m = if near v < gI m ((i * N + j : Nat) : Int) then near v else gI m ((i * N + j : Nat) : Int)) := hid rfl
  have HM : Hid (boundM N i j v m = (m.set (i * N + j) (boundV N i j v m)).set (nx j * N + nx i) (boundV N i j v m)) := hid rfl
  generalize boundM N i j v m = bm at *
  have tij : ((i : Int) == (j : Int)) = false := by rw [beq_eq_false_iff_ne]; omega
  clear hN hl
  go_enter Tryz.func52, Tryz.ntmps52
  go_wp2_with fail
  refine (rnear_any _ _).mono ?_
  rintro e1 w1 ⟨rfl, rfl⟩
  generalize (w.alloc (Obj.cells #[.int .i64 n, .bool false, .slice A m.length c] 24)).alloc (Obj.cells #[.int .i64 0, .bool false, .slice none 0 0] 24) = w0 at *
  generalize near v = vn at *
  obtain ⟨x0, x1, x2, fx⟩ := octbox p0
  obtain ⟨a1, a2, a3, a4, a5, a6⟩ := HIA.out
  obtain ⟨d1, d2, d3, d4, d5, d6⟩ := HID.out
  go_upto_region 9 with fail
  have f2 := later x2
  clear x0 x1 x2 fx
  obtain ⟨g1, o1, rfl, _, c4⟩ := own.rd (i * N + j) a4
  have hg0 : o1 = 0 := by
    rcases own.form with ⟨h, _⟩ | ⟨g, h, _⟩
    · cases h
    · injection h with h; injection h
  subst hg0
  have hg1 : base ≤ g1 := by
    rcases own.form with ⟨h, _⟩ | ⟨g, h, h', _⟩
    · cases h
    · injection h with h; injection h with h; omega
  have hg1w : g1 < w.heap.size := ho g1 rfl
  generalize hx : gI m ((i * N + j : Nat) : Int) = x at *
  have f4 := later c4
  rw [Nat.zero_add] at f4
  have fz := own.frozen (i * N + j)
  refine wp_region_flow 18 (fun X => Below w0.heap.size w0 X) (by kernel_rfl) (by kernel_rfl) (Below.refl _ _).drew ?_
  (repeat (first | (refine Flow.skip (by rfl) ?_; simp only [Act.put, List.setIfInBounds_toArray, List.set_cons_zero, List.set_cons_succ]) | (refine' Flow.take _ (by rfl) (fun W hW R hR => ?_) ?_; rotate_left; (go_simp; (try go_bits); with_reducible exact hR); simp only [Act.put, List.setIfInBounds_toArray, List.set_cons_zero, List.set_cons_succ])))
  intro W2 hW2
  clear f4 f2 c4
  replace own := own.below hW2
  replace p0 := p0.later hW2
  replace p1 := p1.later hW2
  have hbw := bup hb0 hW2
  have fz := own.frozen (i * N + j)
  have c4 : W2.cell? ⟨g1, i * N + j, none⟩ = some (.int .i64 x) := by
    obtain ⟨g2, o2, e2, _, c4⟩ := own.rd (i * N + j) a4
    obtain ⟨rfl, rfl⟩ : g1 = g2 ∧ 0 = o2 := by simpa using e2
    rw [Nat.zero_add, hx] at c4
    exact c4
  have hV := HV.out
  generalize (if vn < x then vn else x) = y at *
  rw [hV] at HM
  go_upto_region 10 with fail
  clear c4 fz
  have hp0 := p0.lt
  have own1 := own.store (i * N + j) y
  replace p0 := p0.far (p := ⟨g1, i * N + j, none⟩) (by simp; omega) (.int .i64 y)
  replace p1 := p1.far (p := ⟨g1, i * N + j, none⟩) (by simp; omega) (.int .i64 y)
  have hbs : Below base w (W2.setCell ⟨g1, i * N + j, none⟩ (.int .i64 y)) := (hbw.mono hbase).trans (below1 hg1 (Nat.le_trans hbase hbw.size))
  have hgy : gI (m.set (i * N + j) y) ((i * N + j : Nat) : Int) = y := by
    have := gI_put m (i * N + j) y (i * N + j) a4
    rw [if_pos rfl] at this; exact this
  have HGY := hid hgy
  clear hgy own hbw hW2
  generalize W2.setCell ⟨g1, i * N + j, none⟩ (.int .i64 y) = W3 at *
  obtain ⟨x0, x1, x2, fx⟩ := octbox p0
  have f2 := later x2
  clear x0 x1 x2 fx
  have f4 : ∀ X, Below W3.heap.size W3 X → X.cell? ⟨g1, i * N + j, none⟩ = some (.int .i64 y) := by
    obtain ⟨g2, o2, e2, _, c4⟩ := own1.rd (i * N + j) (by rw [List.length_set]; exact a4)
    obtain ⟨rfl, rfl⟩ : g1 = g2 ∧ 0 = o2 := by simpa using e2
    rw [Nat.zero_add, HGY.out] at c4
    exact later c4
  refine wp_region_flow 18 (fun X => Below W3.heap.size W3 X) (by kernel_rfl) (by kernel_rfl) (Below.refl _ _).drew ?_
  (repeat (first | (refine Flow.skip (by rfl) ?_; simp only [Act.put, List.setIfInBounds_toArray, List.set_cons_zero, List.set_cons_succ]) | (refine' Flow.take _ (by rfl) (fun W hW R hR => ?_) ?_; rotate_left; (go_simp; (try go_bits); with_reducible exact hR); simp only [Act.put, List.setIfInBounds_toArray, List.set_cons_zero, List.set_cons_succ])))
  (refine Flow.call 61 #[.int .i64 (j : Int)] (.int .i64 ((nx j : Nat) : Int)) (by rfl) (fun X hX => by go_simp) (fun X hX => (across_nx j _ (by omega)).mono fun e' w' ⟨he, hw⟩ => ⟨he, hw ▸ hX⟩) ?_; simp only [Act.put, List.setIfInBounds_toArray, List.set_cons_zero, List.set_cons_succ])
  (repeat (first | (refine Flow.skip (by rfl) ?_; simp only [Act.put, List.setIfInBounds_toArray, List.set_cons_zero, List.set_cons_succ]) | (refine' Flow.take _ (by rfl) (fun W hW R hR => ?_) ?_; rotate_left; (go_simp; (try go_bits); with_reducible exact hR); simp only [Act.put, List.setIfInBounds_toArray, List.set_cons_zero, List.set_cons_succ])))
  (refine Flow.call 61 #[.int .i64 (i : Int)] (.int .i64 ((nx i : Nat) : Int)) (by rfl) (fun X hX => by go_simp) (fun X hX => (across_nx i _ (by omega)).mono fun e' w' ⟨he, hw⟩ => ⟨he, hw ▸ hX⟩) ?_; simp only [Act.put, List.setIfInBounds_toArray, List.set_cons_zero, List.set_cons_succ])
  (repeat (first | (refine Flow.skip (by rfl) ?_; simp only [Act.put, List.setIfInBounds_toArray, List.set_cons_zero, List.set_cons_succ]) | (refine' Flow.take _ (by rfl) (fun W hW R hR => ?_) ?_; rotate_left; (go_simp; (try go_bits); with_reducible exact hR); simp only [Act.put, List.setIfInBounds_toArray, List.set_cons_zero, List.set_cons_succ])))
  intro W4 hW4
  clear f4 f2
  replace own1 := own1.below hW4
  replace p0 := p0.later hW4
  replace p1 := p1.later hW4
  replace hbs := hbs.trans (hW4.mono (Nat.le_trans hbase hbs.size))
  obtain ⟨g2, o2, e2, _, c4⟩ := own1.rd (nx j * N + nx i) (by rw [List.length_set]; exact d4)
  obtain ⟨rfl, rfl⟩ : g1 = g2 ∧ 0 = o2 := by simpa using e2
  clear e2
  have fz := own1.frozen (nx j * N + nx i)
  rw [Nat.zero_add] at c4
  go_upto_region 11 with fail
  clear c4 fz
  have hp0' := p0.lt
  replace own1 := own1.store (nx j * N + nx i) y
  replace p0 := p0.far (p := ⟨g1, nx j * N + nx i, none⟩) (by simp; omega) (.int .i64 y)
  replace p1 := p1.far (p := ⟨g1, nx j * N + nx i, none⟩) (by simp; omega) (.int .i64 y)
  replace hbs := hbs.trans (below1 (W := W4) (g := g1) (i := nx j * N + nx i) (v := .int .i64 y) hg1 (Nat.le_trans hbase hbs.size))
  rw [← HM.out] at own1
  generalize W4.setCell ⟨g1, nx j * N + nx i, none⟩ (.int .i64 y) = W5 at *
  obtain ⟨x0, x1, x2, fx⟩ := octbox p0
  obtain ⟨y0, y1, y2, fy⟩ := octbox p1
  go_wp2
  clear x0 x1 x2 fx y0 y1 y2 fy
  have q3 := p1.set3 (v0 := .int .i64 n) (v1 := .bool false) (v2 := .slice (some ⟨g1, 0, none⟩) m.length c)
  have o3 := own1.far3 (g := w.heap.size + 1) (v0 := .int .i64 n) (v1 := .bool false) (v2 := .slice (some ⟨g1, 0, none⟩) m.length c) (own_blk' own1 p1 (by decide))
  obtain ⟨z0, z1, z2, fz⟩ := octbox q3
  exact bodyPost_ret (v := .agg #[.int .i64 n, .bool false, .slice (some ⟨g1, 0, none⟩) m.length c]) (by simp [results, Tryz.results52, go_sem, z0, z1, z2]) rfl ⟨rfl, o3, hbs.trans (below3 (by omega) (Nat.le_trans hbase hbs.size))⟩
end Go.Proofs.YtnmpgijiimglcaaGreat
