/-
  widen.cells: the cells of two octagons put together by a function that only reckons.
-/
import Derived.Test.YtanbplidigokgaaCopy
import Derived.Deep.DeepCutAuto
namespace Go.Proofs.Ytanbplidigokgaa
open Go.RowKit
attribute [local go_sem ↓] Go.wp_at_zero Go.wp_at_succ

def single (n k : Int) : Bool := (k / (2 * n)) == xor1 (k % (2 * n))
def cellsF (F : Int → Int → Bool → Int) (n : Int) (xs ys : List Int) : List Int := (List.range xs.length).map fun (k : Nat) => F (gI xs k) (gI ys k) (single n k)
def cellsUpTo (F : Int → Int → Bool → Int) (n : Int) (xs ys : List Int) (k : Nat) : List Int := ((List.range k).map fun (k : Nat) => F (gI xs k) (gI ys k) (single n k)) ++ List.replicate (xs.length - k) 0
theorem cellsUpTo_len (F : Int → Int → Bool → Int) (n : Int) (xs ys : List Int) {k : Nat} (h : k ≤ xs.length) : (cellsUpTo F n xs ys k).length = xs.length := by unfold cellsUpTo; simp; omega
theorem cellsUpTo_succ (F : Int → Int → Bool → Int) (n : Int) (xs ys : List Int) {k : Nat} (h : k < xs.length) : (cellsUpTo F n xs ys k).set k (F (gI xs k) (gI ys k) (single n k)) = cellsUpTo F n xs ys (k + 1) := by
  unfold cellsUpTo
  rw [List.set_append_right _ _ (by simp), List.range_succ, List.map_append]
  simp only [List.length_map, List.length_range, Nat.sub_self, List.map_cons, List.map_nil, List.append_assoc, List.singleton_append]
  congr 1
  rw [show xs.length - k = (xs.length - (k + 1)) + 1 by omega, List.replicate_succ, List.set_cons_zero]
theorem cellsUpTo_all (F : Int → Int → Bool → Int) (n : Int) (xs ys : List Int) : cellsUpTo F n xs ys xs.length = cellsF F n xs ys := by unfold cellsUpTo cellsF; simp

set_option maxHeartbeats 1000000 in
theorem cellsN_any (F : Int → Int → Bool → Int) (n : Int) (xs ys : List Int) (e e2 : Bool) (n2 : Int) (A A' : Option Addr) (c c' : Nat) (w : World) (hx : Rd w w.heap.size A xs) (hy : Rd w w.heap.size A' ys) (hm : xs.length ≤ 17592186044416) (hl : ys.length = xs.length) (hn0 : 0 ≤ n) (hn' : n ≤ 64) (hlen : (xs.length : Int) = 4 * n * n)
    (hF : ∀ x y s W, Below w.heap.size w W → Calls Try.prog 42 #[.int .i64 x, .int .i64 y, .bool s] W fun e w' => e = .returned (.int .i64 (F x y s)) ∧ Below W.heap.size W w') :
    Calls Try.prog 37 #[.agg #[.int .i64 n, .bool e, .slice A xs.length c], .agg #[.int .i64 n2, .bool e2, .slice A' ys.length c'], .func (.func 42) #[] #[]] w fun e w' => ∃ A1 c1, e = .returned (.agg #[.int .i64 n, .bool false, .slice A1 xs.length c1]) ∧ Own w' w.heap.size A1 c1 (cellsF F n xs ys) ∧ Below w.heap.size w w' := by
  have HF := hid hF; clear hF
  have HL := hid hlen; clear hlen
  have HLL := hid hl; clear hl
  have hmk := run_make64 xs.length hm
  have hb3 : Below w.heap.size w (((w.alloc (Obj.cells #[.int .i64 n, .bool e, .slice A xs.length c] 24)).alloc (Obj.cells #[.int .i64 n2, .bool e2, .slice A' ys.length c'] 24)).alloc (Obj.cells #[.int .i64 0, .bool false, .slice none 0 0] 24)) := (((Below.refl _ _).alloc (Nat.le_refl _) _).alloc (by simp) _).alloc (by simp; omega) _
  go_enter Try.func37, Try.ntmps37
  go_upto_region 1 with fail
  go_cut [7] (fun s7 W => ∃ gO gS : Nat, s7 = .pointer (some ⟨gO, 0, none⟩) ∧ w.heap.size + 3 ≤ gO ∧ gO ≠ gS ∧ Blk W gO 24 #[.int .i64 n, .bool false, .slice (some ⟨gS, 0, none⟩) xs.length xs.length] ∧ Own W (w.heap.size + 3) (some ⟨gS, 0, none⟩) xs.length (List.replicate xs.length 0) ∧ Below (w.heap.size + 3) (((w.alloc (Obj.cells #[.int .i64 n, .bool e, .slice A xs.length c] 24)).alloc (Obj.cells #[.int .i64 n2, .bool e2, .slice A' ys.length c'] 24)).alloc (Obj.cells #[.int .i64 0, .bool false, .slice none 0 0] 24)) W)
  case first =>
    obtain ⟨b0, b1⟩ := blk_two (w := w) ((Below.refl (w.heap.size + 2) ((w.alloc (Obj.cells #[.int .i64 n, .bool e, .slice A xs.length c] 24)).alloc (Obj.cells #[.int .i64 n2, .bool e2, .slice A' ys.length c'] 24))).alloc (by simp) (Obj.cells #[.int .i64 0, .bool false, .slice none 0 0] 24))
    have hsz : (((w.alloc (Obj.cells #[.int .i64 n, .bool e, .slice A xs.length c] 24)).alloc (Obj.cells #[.int .i64 n2, .bool e2, .slice A' ys.length c'] 24)).alloc (Obj.cells #[.int .i64 0, .bool false, .slice none 0 0] 24)).heap.size = w.heap.size + 3 := by simp
    generalize ((w.alloc (Obj.cells #[.int .i64 n, .bool e, .slice A xs.length c] 24)).alloc (Obj.cells #[.int .i64 n2, .bool e2, .slice A' ys.length c'] 24)).alloc (Obj.cells #[.int .i64 0, .bool false, .slice none 0 0] 24) = w0 at *
    obtain ⟨x0, x1, x2, fx⟩ := octbox b0
    have hszd : w0.drew.heap.size = w.heap.size + 3 := hsz
    go_region_held3 (fun W => W.cell? ⟨w.heap.size, 0, none⟩ = some (.int .i64 n) ∧ W.cell? ⟨w.heap.size, 2, none⟩ = some (.slice A xs.length c)) (go_keep) (fail)
    all_goals (go_wp2_with fail; go_meet)
    · obtain ⟨q1, q2, q3⟩ := two_sl w0 hsz hm #[.int .i64 n, .bool false, .slice (some ⟨w.heap.size + 3, 0, none⟩) xs.length xs.length] 24
      exact ⟨_, _, rfl, by omega, by omega, q1, q2, q3⟩
    · obtain ⟨q1, q2, q3⟩ := two_ls w0 hsz hm #[.int .i64 n, .bool false, .slice (some ⟨w.heap.size + 3 + 1, 0, none⟩) xs.length xs.length] 24
      exact ⟨_, _, rfl, by omega, by omega, q1, q2, q3⟩
  case rest =>
    obtain ⟨gO, gS, rfl, hgO, hne, hblk, hown, hbc⟩ := hcut
    obtain ⟨b0, b1⟩ := blk_two (w := w) (Below.alloc (Below.refl (w.heap.size + 2) ((w.alloc (Obj.cells #[.int .i64 n, .bool e, .slice A xs.length c] 24)).alloc (Obj.cells #[.int .i64 n2, .bool e2, .slice A' ys.length c'] 24))) (by simp) (Obj.cells #[.int .i64 0, .bool false, .slice none 0 0] 24))
    have b2 : Blk (((w.alloc (Obj.cells #[.int .i64 n, .bool e, .slice A xs.length c] 24)).alloc (Obj.cells #[.int .i64 n2, .bool e2, .slice A' ys.length c'] 24)).alloc (Obj.cells #[.int .i64 0, .bool false, .slice none 0 0] 24)) (w.heap.size + 2) 24 #[.int .i64 0, .bool false, .slice none 0 0] := by
      have := Blk.new ((w.alloc (Obj.cells #[.int .i64 n, .bool e, .slice A xs.length c] 24)).alloc (Obj.cells #[.int .i64 n2, .bool e2, .slice A' ys.length c'] 24)) 24 #[.int .i64 0, .bool false, .slice none 0 0]
      simpa using this
    have hsz : (((w.alloc (Obj.cells #[.int .i64 n, .bool e, .slice A xs.length c] 24)).alloc (Obj.cells #[.int .i64 n2, .bool e2, .slice A' ys.length c'] 24)).alloc (Obj.cells #[.int .i64 0, .bool false, .slice none 0 0] 24)).heap.size = w.heap.size + 3 := by simp
    have hx3 := (hx.below hb3).more (B' := w.heap.size + 3) (by omega)
    have hy3 := (hy.below hb3).more (B' := w.heap.size + 3) (by omega)
    generalize ((w.alloc (Obj.cells #[.int .i64 n, .bool e, .slice A xs.length c] 24)).alloc (Obj.cells #[.int .i64 n2, .bool e2, .slice A' ys.length c'] 24)).alloc (Obj.cells #[.int .i64 0, .bool false, .slice none 0 0] 24) = w3 at *
    obtain ⟨x0, x1, x2, fx⟩ := octbox (b0.below hbc (by omega))
    have hlx : (0 : Int) ≤ (xs.length : Int) := by omega
    go_wp2
    go_loopw [21] (fun i wr => ∃ k : Nat, k ≤ xs.length ∧ i = .int .i64 k ∧ Blk wr gO 24 #[.int .i64 n, .bool false, .slice (some ⟨gS, 0, none⟩) xs.length xs.length] ∧ Own wr (w.heap.size + 3) (some ⟨gS, 0, none⟩) xs.length (cellsUpTo F n xs ys k) ∧ Below (w.heap.size + 3) w3 wr) (fun i _ => xs.length - (intOf i).toNat)
    case atStart => exact ⟨0, by omega, rfl, hblk, by rw [show cellsUpTo F n xs ys 0 = List.replicate xs.length 0 by simp [cellsUpTo]]; exact hown, hbc⟩
    case round =>
      clear x0 x1 x2 fx
      obtain ⟨k, hk, rfl, hblk, hown, hbr⟩ := hrel
      by_cases hlt : k < xs.length
      · have hsr : w.heap.size + 3 ≤ wr.heap.size := by have := hbr.size; omega
        obtain ⟨x0, x1, x2, fx⟩ := octbox (b0.below hbr (by omega))
        obtain ⟨y0, y1, y2, fy⟩ := octbox (b1.below hbr (by omega))
        obtain ⟨z0, z1, z2, fz⟩ := octbox hblk
        obtain ⟨ba, oa, rfl, hBa, hca⟩ := (hx3.below hbr) k hlt
        obtain ⟨bb, ob, rfl, hBb, hcb⟩ := (hy3.below hbr) k (by have := HLL.out; omega)
        have f0 := later x0
        have f2 := later x2
        have g2 := later y2
        have h2 := later z2
        have fa := later hca
        have fb := later hcb
        have hi0 : (0 : Int) ≤ (k : Int) := by omega
        have hi1 : (k : Int) < (xs.length : Int) := by omega
        have hi2 : (k : Int) < (ys.length : Int) := by have := HLL.out; omega
        have hn : 0 < n := by
          have q := HL.out
          by_cases h0 : n = 0
          · subst h0; simp at q; rw [q] at hlt; simp at hlt
          · omega
        have n2 : ¬ (2 * n = 0) := by omega
        have m0 : 0 ≤ (k : Int) % (2 * n) := Int.emod_nonneg _ n2
        have m1 : (k : Int) % (2 * n) ≤ 1000 := by have := Int.emod_lt_of_pos (k : Int) (show 0 < 2 * n by omega); omega
        have hxor := bits_xor1 m0 m1
        have d0 : 0 ≤ (k : Int) / (2 * n) := Int.ediv_nonneg hi0 (by omega)
        have d1 : (k : Int) / (2 * n) ≤ (k : Int) := Int.ediv_le_self _ hi0
        clear hca hcb x0 x1 x2 fx y0 y1 y2 fy z0 z1 z2 fz
        go_wp2
        refine wp_region_flow 12 (fun W => Below wr.heap.size wr W) (by kernel_rfl) (by kernel_rfl) (Below.refl _ _).drew ?_
        (repeat (first | (refine Flow.skip (by rfl) ?_; simp only [Act.put, List.setIfInBounds_toArray, List.set_cons_zero, List.set_cons_succ]) | (refine' Flow.take _ (by rfl) (fun W hW R hR => ?_) ?_; rotate_left; (go_simp; (try go_bits); with_reducible exact hR); simp only [Act.put, List.setIfInBounds_toArray, List.set_cons_zero, List.set_cons_succ])))
        intro w4 hb4
        go_wp2
        refine wp_region_flow 20 (fun W => Below wr.heap.size wr W) (by kernel_rfl) (by kernel_rfl) hb4.drew ?_
        (repeat (first | (refine Flow.skip (by rfl) ?_; simp only [Act.put, List.setIfInBounds_toArray, List.set_cons_zero, List.set_cons_succ]) | (refine' Flow.take _ (by rfl) (fun W hW R hR => ?_) ?_; rotate_left; (go_simp; (try go_bits); with_reducible exact hR); simp only [Act.put, List.setIfInBounds_toArray, List.set_cons_zero, List.set_cons_succ])))
        refine Flow.call 42 #[.int .i64 (gI xs k), .int .i64 (gI ys k), .bool (((k : Int) / (2 * n)) == xor1 ((k : Int) % (2 * n)))] (.int .i64 (F (gI xs k) (gI ys k) (single n k))) (by rfl) (fun W hW => by go_simp) (fun W hW => (HF.out _ _ _ _ (hb3.trans ((bstep hbr hsr hW).mono (by omega)))).mono fun e w' ⟨he, hb⟩ => ⟨he, bstep hW hW.size hb⟩) ?_
        simp only [Act.put, List.setIfInBounds_toArray, List.set_cons_zero, List.set_cons_succ]
        (repeat (first | (refine Flow.skip (by rfl) ?_; simp only [Act.put, List.setIfInBounds_toArray, List.set_cons_zero, List.set_cons_succ]) | (refine' Flow.take _ (by rfl) (fun W hW R hR => ?_) ?_; rotate_left; (go_simp; (try go_bits); with_reducible exact hR); simp only [Act.put, List.setIfInBounds_toArray, List.set_cons_zero, List.set_cons_succ])))
        intro w5 hb5
        have o5 := hown.below hb5
        have fz := o5.frozen k
        obtain ⟨g9, o9, hA9, _, hc9⟩ := o5.rd k (by rw [cellsUpTo_len F n xs ys (by omega)]; omega)
        obtain ⟨rfl, rfl⟩ : gS = g9 ∧ 0 = o9 := by simpa using hA9
        clear hA9
        simp only [Nat.zero_add] at hc9
        have st := o5.store k (F (gI xs k) (gI ys k) (single n k))
        rw [cellsUpTo_succ F n xs ys hlt] at st
        have hfar := (hblk.later hb5).far (p := ⟨gS, k, none⟩) (Ne.symm hne) (.int .i64 (F (gI xs k) (gI ys k) (single n k)))
        have hgS : w.heap.size + 3 ≤ gS := by rcases hown.form with ⟨h, _⟩ | ⟨g, h, h', _⟩ <;> simp at h; omega
        have hbn : Below (w.heap.size + 3) w3 (w5.setCell ⟨gS, k, none⟩ (.int .i64 (F (gI xs k) (gI ys k) (single n k)))) := (bstep hbr hsr hb5).setCell (by simpa using hgS) _
        clear o5 f0 f2 g2 h2 fa fb hb4
        go_wp2
        go_roundw
        case rel => exact ⟨k + 1, by omega, by go_num, hfar, st, hbn⟩
        case measure => simp [intOf]; omega
      · have hkk : k = xs.length := by omega
        have hown' : Own wr (w.heap.size + 3) (some ⟨gS, 0, none⟩) xs.length (cellsF F n xs ys) := by
          have q : cellsUpTo F n xs ys k = cellsF F n xs ys := by rw [hkk]; exact cellsUpTo_all F n xs ys
          rw [← q]; exact hown
        have hki : ¬ (k : Int) < (xs.length : Int) := by omega
        clear hkk
        obtain ⟨z0, z1, z2, fz⟩ := octbox hblk
        obtain ⟨r0, r1, r2, fr⟩ := octbox (b2.below hbr (by omega))
        go_wp2
        refine bodyPost_ret (v := .agg #[.int .i64 n, .bool false, .slice (some ⟨gS, 0, none⟩) xs.length xs.length]) (by simp [results, Try.results37, go_sem, r0, r1, r2]) rfl ⟨_, _, rfl, ?_, ?_⟩
        · exact (((hown'.setFar (by simp) _).setFar (by simp) _).setFar (by simp) _).less (by omega)
        · exact ((((hb3.trans (hbr.mono (by omega))).setCell (by simp; omega) _).setCell (by simp; omega) _).setCell (by simp; omega) _)

set_option maxHeartbeats 1000000 in
theorem cellsW_any (F : Int → Int → Bool → Int) (n : Int) (xs ys : List Int) (e e2 : Bool) (n2 : Int) (A A' : Option Addr) (c c' : Nat) (gB : Nat) (w : World) (hx : Rd w w.heap.size A xs) (hy : Rd w w.heap.size A' ys) (hm : xs.length ≤ 17592186044416) (hl : ys.length = xs.length) (hn0 : 0 ≤ n) (hn' : n ≤ 64) (hlen : (xs.length : Int) = 4 * n * n)
    (hF : ∀ x y s W, Below w.heap.size w W → Calls Try.prog 38 #[.int .i64 x, .int .i64 y, .bool s, .pointer (some ⟨gB, 0, none⟩)] W fun e w' => e = .returned (.int .i64 (F x y s)) ∧ Below W.heap.size W w') :
    Calls Try.prog 37 #[.agg #[.int .i64 n, .bool e, .slice A xs.length c], .agg #[.int .i64 n2, .bool e2, .slice A' ys.length c'], .func (.func 38) #[] #[.pointer (some ⟨gB, 0, none⟩)]] w fun e w' => ∃ A1 c1, e = .returned (.agg #[.int .i64 n, .bool false, .slice A1 xs.length c1]) ∧ Own w' w.heap.size A1 c1 (cellsF F n xs ys) ∧ Below w.heap.size w w' := by
  have HF := hid hF; clear hF
  have HL := hid hlen; clear hlen
  have HLL := hid hl; clear hl
  have hmk := run_make64 xs.length hm
  have hb3 : Below w.heap.size w (((w.alloc (Obj.cells #[.int .i64 n, .bool e, .slice A xs.length c] 24)).alloc (Obj.cells #[.int .i64 n2, .bool e2, .slice A' ys.length c'] 24)).alloc (Obj.cells #[.int .i64 0, .bool false, .slice none 0 0] 24)) := (((Below.refl _ _).alloc (Nat.le_refl _) _).alloc (by simp) _).alloc (by simp; omega) _
  go_enter Try.func37, Try.ntmps37
  go_upto_region 1 with fail
  go_cut [7] (fun s7 W => ∃ gO gS : Nat, s7 = .pointer (some ⟨gO, 0, none⟩) ∧ w.heap.size + 3 ≤ gO ∧ gO ≠ gS ∧ Blk W gO 24 #[.int .i64 n, .bool false, .slice (some ⟨gS, 0, none⟩) xs.length xs.length] ∧ Own W (w.heap.size + 3) (some ⟨gS, 0, none⟩) xs.length (List.replicate xs.length 0) ∧ Below (w.heap.size + 3) (((w.alloc (Obj.cells #[.int .i64 n, .bool e, .slice A xs.length c] 24)).alloc (Obj.cells #[.int .i64 n2, .bool e2, .slice A' ys.length c'] 24)).alloc (Obj.cells #[.int .i64 0, .bool false, .slice none 0 0] 24)) W)
  case first =>
    obtain ⟨b0, b1⟩ := blk_two (w := w) ((Below.refl (w.heap.size + 2) ((w.alloc (Obj.cells #[.int .i64 n, .bool e, .slice A xs.length c] 24)).alloc (Obj.cells #[.int .i64 n2, .bool e2, .slice A' ys.length c'] 24))).alloc (by simp) (Obj.cells #[.int .i64 0, .bool false, .slice none 0 0] 24))
    have hsz : (((w.alloc (Obj.cells #[.int .i64 n, .bool e, .slice A xs.length c] 24)).alloc (Obj.cells #[.int .i64 n2, .bool e2, .slice A' ys.length c'] 24)).alloc (Obj.cells #[.int .i64 0, .bool false, .slice none 0 0] 24)).heap.size = w.heap.size + 3 := by simp
    generalize ((w.alloc (Obj.cells #[.int .i64 n, .bool e, .slice A xs.length c] 24)).alloc (Obj.cells #[.int .i64 n2, .bool e2, .slice A' ys.length c'] 24)).alloc (Obj.cells #[.int .i64 0, .bool false, .slice none 0 0] 24) = w0 at *
    obtain ⟨x0, x1, x2, fx⟩ := octbox b0
    have hszd : w0.drew.heap.size = w.heap.size + 3 := hsz
    go_region_held3 (fun W => W.cell? ⟨w.heap.size, 0, none⟩ = some (.int .i64 n) ∧ W.cell? ⟨w.heap.size, 2, none⟩ = some (.slice A xs.length c)) (go_keep) (fail)
    all_goals (go_wp2_with fail; go_meet)
    · obtain ⟨q1, q2, q3⟩ := two_sl w0 hsz hm #[.int .i64 n, .bool false, .slice (some ⟨w.heap.size + 3, 0, none⟩) xs.length xs.length] 24
      exact ⟨_, _, rfl, by omega, by omega, q1, q2, q3⟩
    · obtain ⟨q1, q2, q3⟩ := two_ls w0 hsz hm #[.int .i64 n, .bool false, .slice (some ⟨w.heap.size + 3 + 1, 0, none⟩) xs.length xs.length] 24
      exact ⟨_, _, rfl, by omega, by omega, q1, q2, q3⟩
  case rest =>
    obtain ⟨gO, gS, rfl, hgO, hne, hblk, hown, hbc⟩ := hcut
    obtain ⟨b0, b1⟩ := blk_two (w := w) (Below.alloc (Below.refl (w.heap.size + 2) ((w.alloc (Obj.cells #[.int .i64 n, .bool e, .slice A xs.length c] 24)).alloc (Obj.cells #[.int .i64 n2, .bool e2, .slice A' ys.length c'] 24))) (by simp) (Obj.cells #[.int .i64 0, .bool false, .slice none 0 0] 24))
    have b2 : Blk (((w.alloc (Obj.cells #[.int .i64 n, .bool e, .slice A xs.length c] 24)).alloc (Obj.cells #[.int .i64 n2, .bool e2, .slice A' ys.length c'] 24)).alloc (Obj.cells #[.int .i64 0, .bool false, .slice none 0 0] 24)) (w.heap.size + 2) 24 #[.int .i64 0, .bool false, .slice none 0 0] := by
      have := Blk.new ((w.alloc (Obj.cells #[.int .i64 n, .bool e, .slice A xs.length c] 24)).alloc (Obj.cells #[.int .i64 n2, .bool e2, .slice A' ys.length c'] 24)) 24 #[.int .i64 0, .bool false, .slice none 0 0]
      simpa using this
    have hsz : (((w.alloc (Obj.cells #[.int .i64 n, .bool e, .slice A xs.length c] 24)).alloc (Obj.cells #[.int .i64 n2, .bool e2, .slice A' ys.length c'] 24)).alloc (Obj.cells #[.int .i64 0, .bool false, .slice none 0 0] 24)).heap.size = w.heap.size + 3 := by simp
    have hx3 := (hx.below hb3).more (B' := w.heap.size + 3) (by omega)
    have hy3 := (hy.below hb3).more (B' := w.heap.size + 3) (by omega)
    generalize ((w.alloc (Obj.cells #[.int .i64 n, .bool e, .slice A xs.length c] 24)).alloc (Obj.cells #[.int .i64 n2, .bool e2, .slice A' ys.length c'] 24)).alloc (Obj.cells #[.int .i64 0, .bool false, .slice none 0 0] 24) = w3 at *
    obtain ⟨x0, x1, x2, fx⟩ := octbox (b0.below hbc (by omega))
    have hlx : (0 : Int) ≤ (xs.length : Int) := by omega
    go_wp2
    go_loopw [21] (fun i wr => ∃ k : Nat, k ≤ xs.length ∧ i = .int .i64 k ∧ Blk wr gO 24 #[.int .i64 n, .bool false, .slice (some ⟨gS, 0, none⟩) xs.length xs.length] ∧ Own wr (w.heap.size + 3) (some ⟨gS, 0, none⟩) xs.length (cellsUpTo F n xs ys k) ∧ Below (w.heap.size + 3) w3 wr) (fun i _ => xs.length - (intOf i).toNat)
    case atStart => exact ⟨0, by omega, rfl, hblk, by rw [show cellsUpTo F n xs ys 0 = List.replicate xs.length 0 by simp [cellsUpTo]]; exact hown, hbc⟩
    case round =>
      clear x0 x1 x2 fx
      obtain ⟨k, hk, rfl, hblk, hown, hbr⟩ := hrel
      by_cases hlt : k < xs.length
      · have hsr : w.heap.size + 3 ≤ wr.heap.size := by have := hbr.size; omega
        obtain ⟨x0, x1, x2, fx⟩ := octbox (b0.below hbr (by omega))
        obtain ⟨y0, y1, y2, fy⟩ := octbox (b1.below hbr (by omega))
        obtain ⟨z0, z1, z2, fz⟩ := octbox hblk
        obtain ⟨ba, oa, rfl, hBa, hca⟩ := (hx3.below hbr) k hlt
        obtain ⟨bb, ob, rfl, hBb, hcb⟩ := (hy3.below hbr) k (by have := HLL.out; omega)
        have f0 := later x0
        have f2 := later x2
        have g2 := later y2
        have h2 := later z2
        have fa := later hca
        have fb := later hcb
        have hi0 : (0 : Int) ≤ (k : Int) := by omega
        have hi1 : (k : Int) < (xs.length : Int) := by omega
        have hi2 : (k : Int) < (ys.length : Int) := by have := HLL.out; omega
        have hn : 0 < n := by
          have q := HL.out
          by_cases h0 : n = 0
          · subst h0; simp at q; rw [q] at hlt; simp at hlt
          · omega
        have n2 : ¬ (2 * n = 0) := by omega
        have m0 : 0 ≤ (k : Int) % (2 * n) := Int.emod_nonneg _ n2
        have m1 : (k : Int) % (2 * n) ≤ 1000 := by have := Int.emod_lt_of_pos (k : Int) (show 0 < 2 * n by omega); omega
        have hxor := bits_xor1 m0 m1
        have d0 : 0 ≤ (k : Int) / (2 * n) := Int.ediv_nonneg hi0 (by omega)
        have d1 : (k : Int) / (2 * n) ≤ (k : Int) := Int.ediv_le_self _ hi0
        clear hca hcb x0 x1 x2 fx y0 y1 y2 fy z0 z1 z2 fz
        go_wp2
        refine wp_region_flow 12 (fun W => Below wr.heap.size wr W) (by kernel_rfl) (by kernel_rfl) (Below.refl _ _).drew ?_
        (repeat (first | (refine Flow.skip (by rfl) ?_; simp only [Act.put, List.setIfInBounds_toArray, List.set_cons_zero, List.set_cons_succ]) | (refine' Flow.take _ (by rfl) (fun W hW R hR => ?_) ?_; rotate_left; (go_simp; (try go_bits); with_reducible exact hR); simp only [Act.put, List.setIfInBounds_toArray, List.set_cons_zero, List.set_cons_succ])))
        intro w4 hb4
        go_wp2
        refine wp_region_flow 20 (fun W => Below wr.heap.size wr W) (by kernel_rfl) (by kernel_rfl) hb4.drew ?_
        (repeat (first | (refine Flow.skip (by rfl) ?_; simp only [Act.put, List.setIfInBounds_toArray, List.set_cons_zero, List.set_cons_succ]) | (refine' Flow.take _ (by rfl) (fun W hW R hR => ?_) ?_; rotate_left; (go_simp; (try go_bits); with_reducible exact hR); simp only [Act.put, List.setIfInBounds_toArray, List.set_cons_zero, List.set_cons_succ])))
        refine Flow.call 38 #[.int .i64 (gI xs k), .int .i64 (gI ys k), .bool (((k : Int) / (2 * n)) == xor1 ((k : Int) % (2 * n))), .pointer (some ⟨gB, 0, none⟩)] (.int .i64 (F (gI xs k) (gI ys k) (single n k))) (by rfl) (fun W hW => by go_simp) (fun W hW => (HF.out _ _ _ _ (hb3.trans ((bstep hbr hsr hW).mono (by omega)))).mono fun e w' ⟨he, hb⟩ => ⟨he, bstep hW hW.size hb⟩) ?_
        simp only [Act.put, List.setIfInBounds_toArray, List.set_cons_zero, List.set_cons_succ]
        (repeat (first | (refine Flow.skip (by rfl) ?_; simp only [Act.put, List.setIfInBounds_toArray, List.set_cons_zero, List.set_cons_succ]) | (refine' Flow.take _ (by rfl) (fun W hW R hR => ?_) ?_; rotate_left; (go_simp; (try go_bits); with_reducible exact hR); simp only [Act.put, List.setIfInBounds_toArray, List.set_cons_zero, List.set_cons_succ])))
        intro w5 hb5
        have o5 := hown.below hb5
        have fz := o5.frozen k
        obtain ⟨g9, o9, hA9, _, hc9⟩ := o5.rd k (by rw [cellsUpTo_len F n xs ys (by omega)]; omega)
        obtain ⟨rfl, rfl⟩ : gS = g9 ∧ 0 = o9 := by simpa using hA9
        clear hA9
        simp only [Nat.zero_add] at hc9
        have st := o5.store k (F (gI xs k) (gI ys k) (single n k))
        rw [cellsUpTo_succ F n xs ys hlt] at st
        have hfar := (hblk.later hb5).far (p := ⟨gS, k, none⟩) (Ne.symm hne) (.int .i64 (F (gI xs k) (gI ys k) (single n k)))
        have hgS : w.heap.size + 3 ≤ gS := by rcases hown.form with ⟨h, _⟩ | ⟨g, h, h', _⟩ <;> simp at h; omega
        have hbn : Below (w.heap.size + 3) w3 (w5.setCell ⟨gS, k, none⟩ (.int .i64 (F (gI xs k) (gI ys k) (single n k)))) := (bstep hbr hsr hb5).setCell (by simpa using hgS) _
        clear o5 f0 f2 g2 h2 fa fb hb4
        go_wp2
        go_roundw
        case rel => exact ⟨k + 1, by omega, by go_num, hfar, st, hbn⟩
        case measure => simp [intOf]; omega
      · have hkk : k = xs.length := by omega
        have hown' : Own wr (w.heap.size + 3) (some ⟨gS, 0, none⟩) xs.length (cellsF F n xs ys) := by
          have q : cellsUpTo F n xs ys k = cellsF F n xs ys := by rw [hkk]; exact cellsUpTo_all F n xs ys
          rw [← q]; exact hown
        have hki : ¬ (k : Int) < (xs.length : Int) := by omega
        clear hkk
        obtain ⟨z0, z1, z2, fz⟩ := octbox hblk
        obtain ⟨r0, r1, r2, fr⟩ := octbox (b2.below hbr (by omega))
        go_wp2
        refine bodyPost_ret (v := .agg #[.int .i64 n, .bool false, .slice (some ⟨gS, 0, none⟩) xs.length xs.length]) (by simp [results, Try.results37, go_sem, r0, r1, r2]) rfl ⟨_, _, rfl, ?_, ?_⟩
        · exact (((hown'.setFar (by simp) _).setFar (by simp) _).setFar (by simp) _).less (by omega)
        · exact ((((hb3.trans (hbr.mono (by omega))).setCell (by simp; omega) _).setCell (by simp; omega) _).setCell (by simp; omega) _)
end Go.Proofs.Ytanbplidigokgaa
