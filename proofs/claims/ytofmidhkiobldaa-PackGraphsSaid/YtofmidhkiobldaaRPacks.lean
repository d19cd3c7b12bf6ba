/-
  gnomonref23.Check: what it answers: packErr.
-/
import Derived.Test.YtofmidhkiobldaaPacks
namespace Go.Proofs.Ytofmidhkiobldaa
open Go.RowKit
attribute [local go_sem ↓] Go.wp_at_zero Go.wp_at_succ

theorem bool_info : (Try.prog.info? 4).map (fun i => (i.zero, i.size, i.bytes)) = some (some (.bool false), 1, 1) := by kernel_rfl
theorem flatten_len : ∀ (ps : List (List Int)), (∀ l ∈ ps, 0 < l.length) → ps.length ≤ ps.flatten.length
  | [], _ => by simp
  | l :: ps, h => by
    have h1 := h l (by simp)
    have h2 := flatten_len ps (fun x hx => h x (by simp [hx]))
    simp only [List.flatten_cons, List.length_append, List.length_cons]; omega
theorem flatten_row : ∀ (ps : List (List Int)) (l : List Int), l ∈ ps → l.length ≤ ps.flatten.length
  | [], l, h => absurd h (by simp)
  | x :: ps, l, h => by
    simp only [List.flatten_cons, List.length_append]
    rcases List.mem_cons.1 h with rfl | h
    · omega
    · have := flatten_row ps l h; omega
theorem packErr_many {n : Int} {ps : List (List Int)} (h : n < ps.length) : packErr n ps = 230 := by
  by_cases h1 : 0 ≤ n ∧ n ≤ 64
  · cases h2 : (List.range ps.length).all (rowP n ps)
    · unfold packErr; rw [h2]; simp
    · rw [packErr_ok h1 h2, if_neg]
      have := flatten_len ps (fun l hl => by
        obtain ⟨i, hi, rfl⟩ := List.getElem_of_mem hl
        have h3 := List.all_eq_true.1 h2 i (List.mem_range.2 hi)
        unfold rowP headP rowL at h3
        simp only [Bool.and_eq_true, decide_eq_true_eq] at h3
        have := h3.1.1
        simpa [hi] using this)
      omega
  · exact packErr_n h1
theorem packErr_long {n : Int} {ps : List (List Int)} {k : Nat} (hk : k < ps.length) (h : n < (rowL ps k).length) : packErr n ps = 230 := by
  by_cases h1 : 0 ≤ n ∧ n ≤ 64
  · cases h2 : (List.range ps.length).all (rowP n ps)
    · unfold packErr; rw [h2]; simp
    · rw [packErr_ok h1 h2, if_neg]
      have := flatten_row ps (rowL ps k) (by unfold rowL; simp [hk])
      omega
  · exact packErr_n h1

set_option maxRecDepth 8000 in
set_option maxHeartbeats 8000000 in
theorem rpcheck_any (n : Int) (ps : List (List Int)) (A : Option Addr) (c : Nat) (w : World) (hr : RdL w w.heap.size A ps) (hl : ps.length ≤ 1000) :
    Calls Try.prog 13 #[.int .i64 n, .slice A ps.length c] w fun e w' => e = .returned (.int .i64 (packErr n ps)) ∧ Below w.heap.size w w' := by
  go_enter Try.func13, Try.ntmps13
  by_cases a1 : n < 0
  · have HC : Hid (packErr n ps = 230) := hid (packErr_n (by omega))
    go_wp2; go_ret; exact ⟨ret64 HC.out.symm, Below.refl _ _⟩
  by_cases a2 : 64 < n
  · have HC : Hid (packErr n ps = 230) := hid (packErr_n (by omega))
    go_wp2; go_ret; exact ⟨ret64 HC.out.symm, Below.refl _ _⟩
  by_cases a3 : n < (ps.length : Int)
  · have HC : Hid (packErr n ps = 230) := hid (packErr_many a3)
    go_wp2; go_ret; exact ⟨ret64 HC.out.symm, Below.refl _ _⟩
  obtain ⟨N, rfl⟩ : ∃ N : Nat, n = (N : Int) := ⟨n.toNat, by omega⟩
  have hmk := run_make_row' (P := Try.prog) 77 4 (.bool false) 1 Try.underlying77 bool_info rfl .i64 .i64 N (by omega) (by omega)
  have K0 : (w.alloc (.cells (madeCells #[.bool false] N) 4)).rowIs w.heap.size 4 N (fun v => .bool (decide ((v : Int) ∈ accL ps 0 0))) := World.rowIs.congr (World.rowIs_made w (.bool false) N 4) (fun i _ => by simp [accL])
  have n0 := new1 w (.cells (madeCells #[.bool false] N) 4)
  go_wp2
  clear hmk
  replace hr := hr.below n0
  generalize w.alloc (.cells (madeCells #[.bool false] N) 4) = w1 at *
  have hsz := n0.size
  go_loopw [6, 7] (fun a i wr => ∃ k : Nat, k ≤ ps.length ∧ i = .int .i64 k ∧ a = .int .i64 ((accL ps k 0).length : Nat) ∧ (accL ps k 0).length ≤ 17592186044416 * k ∧ (List.range k).all (rowP (N : Int) ps) = true ∧ wr.rowIs w.heap.size 4 N (fun v => .bool (decide ((v : Int) ∈ accL ps k 0))) ∧ Below w.heap.size w1 wr) (fun _ i _ => ps.length - (intOf i).toNat)
  case atStart => exact ⟨0, by omega, rfl, by simp [accL], by simp [accL], rfl, K0, Below.refl _ _⟩
  case round =>
    obtain ⟨k, hk, rfl, rfl, hle, hok, hrow, hb⟩ := hrel
    have HOK := hid hok
    clear hok K0
    by_cases hlt : k < ps.length
    · have hlt' : (k : Int) < (ps.length : Int) := by omega
      obtain ⟨b, off, A1, c1, rfl, hB, d0, r1, l1⟩ := hr k hlt
      have R1 := hid r1
      replace d0 := (hb.cell (p := ⟨b, off + k, none⟩) hB).trans d0
      replace r1 := r1.below hb
      have HR := hid (hr.below hb)
      by_cases hL : (rowL ps k).length = 0
      · have HC : Hid (packErr (N : Int) ps = 230) := hid (packErr_row hlt (rowP_head (by unfold headP; rw [show decide (0 < (rowL ps k).length) = false from decide_eq_false (by omega)]; rfl)))
        have t0 : (((rowL ps k).length : Int) == 0) = true := by rw [beq_iff_eq]; omega
        generalize (rowL ps k).length = L at *
        clear hL
        go_upto_region 9 with fail
        refine wp_region_flowX 23 (fun W => Below wr.heap.size wr W) (by kernel_rfl) (by kernel_rfl) (Below.refl _ _).drew ?_
        (repeat (first | (refine Flow.skip (by rfl) ?_; simp only [Act.put, List.setIfInBounds_toArray, List.set_cons_zero, List.set_cons_succ]) | (refine' Flow.take _ (by rfl) (fun W hW R hR => ?_) ?_; rotate_left; (go_simp; (try go_bits); with_reducible exact hR); simp only [Act.put, List.setIfInBounds_toArray, List.set_cons_zero, List.set_cons_succ])))
        intro w4 hb4
        go_wp2; go_ret
        exact ⟨ret64 HC.out.symm, (n0.trans hb).trans (hb4.mono (by have := hb.size; omega))⟩
      · have t0 : (((rowL ps k).length : Int) == 0) = false := by rw [beq_eq_false_iff_ne]; omega
        have hL0 : (0 : Int) < ((rowL ps k).length : Int) := by omega
        obtain ⟨b1, o1, rfl, hB1, e0⟩ := r1 0 (by omega)
        have HLE := hid hle
        have HD : Hid (decide (0 < (rowL ps k).length) = true) := hid (decide_eq_true (by omega))
        generalize hLL : (rowL ps k).length = L at *
        have HLL := hid hLL
        have hL1 : 0 < L := by omega
        clear hLL hL
        by_cases hLn : (N : Int) < (L : Int)
        · have HC : Hid (packErr (N : Int) ps = 230) := hid (packErr_long hlt (by rw [HLL.out]; exact hLn))
          have hLn' : N < L := by omega
          go_upto_region 9 with fail
          refine wp_region_flowX 23 (fun W => Below wr.heap.size wr W) (by kernel_rfl) (by kernel_rfl) (Below.refl _ _).drew ?_
          (repeat (first | (refine Flow.skip (by rfl) ?_; simp only [Act.put, List.setIfInBounds_toArray, List.set_cons_zero, List.set_cons_succ]) | (refine' Flow.take _ (by rfl) (fun W hW R hR => ?_) ?_; rotate_left; (go_simp; (try go_bits); with_reducible exact hR); simp only [Act.put, List.setIfInBounds_toArray, List.set_cons_zero, List.set_cons_succ])))
          intro w4 hb4
          go_wp2; go_ret
          exact ⟨ret64 HC.out.symm, (n0.trans hb).trans (hb4.mono (by have := hb.size; omega))⟩
        have hLn' : ¬ N < L := by omega
        by_cases hk0 : k = 0
        · have t1 : decide (0 < (k : Int)) = false := decide_eq_false (by omega)
          have t2 : decide (0 < k) = false := decide_eq_false (by omega)
          have HHD : Hid (headP ps k = true) := hid (by unfold headP; rw [HLL.out, HD.out, show decide (k = 0) = true from decide_eq_true hk0]; rfl)
          clear hk0
          go_upto_region 9 with fail
          refine wp_region_flowX 23 (fun W => Below wr.heap.size wr W) (by kernel_rfl) (by kernel_rfl) (Below.refl _ _).drew ?_
          (repeat (first | (refine Flow.skip (by rfl) ?_; simp only [Act.put, List.setIfInBounds_toArray, List.set_cons_zero, List.set_cons_succ]) | (refine' Flow.take _ (by rfl) (fun W hW R hR => ?_) ?_; rotate_left; (go_simp; (try go_bits); with_reducible exact hR); simp only [Act.put, List.setIfInBounds_toArray, List.set_cons_zero, List.set_cons_succ])))
          intro w4 hb4
          have hrow4 := World.rowIs.of_block hrow (hb4.block _ hrow.lt)
          have hb5 := hb.trans (hb4.mono (by have := hb.size; omega))
          clear hrow hb4
          clear d0 r1 e0 hb t0 hle
          go_wp2
          skip
          go_loopw [6, 9] (fun a j wq => ∃ l : Nat, l ≤ L ∧ j = .int .i64 l ∧ a = .int .i64 ((accL ps k l).length : Nat) ∧ (List.range l).all (cellP (N : Int) ps k) = true ∧ wq.rowIs w.heap.size 4 N (fun v => .bool (decide ((v : Int) ∈ accL ps k l))) ∧ Below w.heap.size w1 wq) (fun _ j _ => L - (intOf j).toNat)
          case atStart => exact ⟨0, by omega, rfl, rfl, rfl, hrow4, hb5⟩
          case round =>
            clear hrow4 hb5
            obtain ⟨l, hl, rfl, rfl, hok2, hrow, hb⟩ := hrel
            have HOK2 := hid hok2
            clear hok2
            by_cases hlt2 : l < L
            · have hlt3 : (l : Int) < (L : Int) := by omega
              have HB2 : Hid (Below w.heap.size w wr) := hid (n0.trans hb)
              have hsw : w.heap.size ≤ wr.heap.size := by have := hb.size; omega
              have HBB := hid hb
              obtain ⟨_, _, e1, -, q0⟩ := (R1.out.below hb) l (by rw [HLL.out]; exact hlt2)
              injection e1 with e1; injection e1 with e1 e2; subst e1; subst e2
              replace hB1 : b1 < wr.heap.size := by have := hb.size; omega
              generalize hv : gI (rowL ps k) l = v at *
              have HV := hid hv
              have HROW := hid hrow
              have hbad : Hid (cellP (N : Int) ps k l = false → packErr (N : Int) ps = 230) := hid fun h => packErr_row hlt (rowP_cell (j := l) (by rw [HLL.out]; exact hlt2) h)
              have Q0 := hid q0
              have f0 := later q0
              clear hv hrow q0
              go_upto_region 14 with fail
              refine wp_region_flowX 35 (fun W => Below wr.heap.size wr W) (by kernel_rfl) (by kernel_rfl) (Below.refl _ _).drew ?_
              by_cases v1 : v < 0
              · have HC : Hid (packErr (N : Int) ps = 230) := hid (hbad.out (by unfold cellP; rw [HV.out, show decide (0 ≤ v ∧ v < (N : Int)) = false from decide_eq_false (by omega)]; rfl))
                (repeat (first | (refine Flow.skip (by rfl) ?_; simp only [Act.put, List.setIfInBounds_toArray, List.set_cons_zero, List.set_cons_succ]) | (refine' Flow.take _ (by rfl) (fun W hW R hR => ?_) ?_; rotate_left; (go_simp; (try go_bits); with_reducible exact hR); simp only [Act.put, List.setIfInBounds_toArray, List.set_cons_zero, List.set_cons_succ])))
                intro w6 hb6
                go_wp2; go_ret; exact ⟨ret64 HC.out.symm, HB2.out.trans (hb6.mono hsw)⟩
              by_cases v2 : (N : Int) ≤ v
              · have HC : Hid (packErr (N : Int) ps = 230) := hid (hbad.out (by unfold cellP; rw [HV.out, show decide (0 ≤ v ∧ v < (N : Int)) = false from decide_eq_false (by omega)]; rfl))
                (repeat (first | (refine Flow.skip (by rfl) ?_; simp only [Act.put, List.setIfInBounds_toArray, List.set_cons_zero, List.set_cons_succ]) | (refine' Flow.take _ (by rfl) (fun W hW R hR => ?_) ?_; rotate_left; (go_simp; (try go_bits); with_reducible exact hR); simp only [Act.put, List.setIfInBounds_toArray, List.set_cons_zero, List.set_cons_succ])))
                intro w6 hb6
                go_wp2; go_ret; exact ⟨ret64 HC.out.symm, HB2.out.trans (hb6.mono hsw)⟩
              have HIN : Hid (decide (0 ≤ v ∧ v < (N : Int)) = true) := hid (decide_eq_true (by omega))
              obtain ⟨q, rfl⟩ : ∃ q : Nat, v = (q : Int) := ⟨v.toNat, by omega⟩
              have hq : q < N := by omega
              have hq' : (q : Int) < (N : Int) := by omega
              have hq2 : decide (N ≤ q) = false := decide_eq_false (by omega)
              have hq3 : decide ((N : Int) ≤ (q : Int)) = false := decide_eq_false (by omega)
              clear v1 v2
              have HLEN : Hid ((accL ps k (l + 1)).length = (accL ps k l).length + 1) := hid (by rw [accL_succ (by rw [HLL.out]; exact hlt2)]; simp)
              have hacc : (accL ps k l).length ≤ 17592186044416 * k + L := by rw [accL_len ps k l (by rw [HLL.out]; exact hl)]; have := HLE.out; omega
              have HGOOD : Hid (cellP (N : Int) ps k l = true → ∀ w6, Below wr.heap.size wr w6 → ∀ W, (w6.setCell ⟨w.heap.size, q, none⟩ (.bool true)) = W → (List.range (l + 1)).all (cellP (N : Int) ps k) = true ∧ W.rowIs w.heap.size 4 N (fun v => .bool (decide ((v : Int) ∈ accL ps k (l + 1)))) ∧ Below w.heap.size w1 W) := hid (by
                  rintro h w6 hb6 W rfl
                  refine ⟨all_range_succ HOK2.out h, World.rowIs.congr ((World.rowIs.of_block HROW.out (hb6.block _ HROW.out.lt)).set q (.bool true)) ?_, (HBB.out.trans (hb6.mono hsw)).setCell (by simp) _⟩
                  intro i hi
                  rw [accL_succ (by rw [HLL.out]; exact hlt2), HV.out]
                  by_cases e : i = q
                  · subst e; simp
                  · simp only [if_neg e]
                    have : ¬ ((i : Int) = (q : Int)) := by omega
                    simp [this])
              generalize hal : (accL ps k l).length = al at *
              by_cases hl0 : l = 0
              · have t1 : decide (0 < (l : Int)) = false := decide_eq_false (by omega)
                have t2 : decide (0 < l) = false := decide_eq_false (by omega)
                have HG3 : Hid (decide (l = 0) = true) := hid (decide_eq_true hl0)
                have HTL : Hid ((decide (l = 0) || decide (gI (rowL ps k) (l - 1 : Nat) < (q : Int))) = true) := hid (by rw [HG3.out]; rfl)
                clear hl0 HG3
                (repeat (first | (refine Flow.skip (by rfl) ?_; simp only [Act.put, List.setIfInBounds_toArray, List.set_cons_zero, List.set_cons_succ]) | (refine' Flow.take _ (by rfl) (fun W hW R hR => ?_) ?_; rotate_left; (go_simp; (try go_bits); with_reducible exact hR); simp only [Act.put, List.setIfInBounds_toArray, List.set_cons_zero, List.set_cons_succ])))
                intro w6 hb6
                have hrow6 := World.rowIs.of_block HROW.out (hb6.block _ HROW.out.lt)
                have hcell := hrow6.cell hq
                have hfr := hrow6.frozen
                clear hrow6
                have q6 := (hb6.cell (p := ⟨b1, o1 + l, none⟩) hB1).trans Q0.out
                cases ts : decide ((q : Int) ∈ accL ps k l)
                rotate_left
                · have HC : Hid (packErr (N : Int) ps = 230) := hid (hbad.out (by unfold cellP; rw [HV.out, ts]; simp))
                  rw [ts] at hcell
                  clear hfr
                  go_wp2; go_ret; exact ⟨ret64 HC.out.symm, HB2.out.trans (hb6.mono hsw)⟩
                · rw [ts] at hcell
                  have HG : Hid (cellP (N : Int) ps k l = true) := hid (by unfold cellP; rw [HV.out, HIN.out, ts, HTL.out]; rfl)
                  clear ts
                  go_wp2
                  go_roundw
                  case rel =>
                    obtain ⟨g1, g2, g3⟩ := HGOOD.out HG.out w6 hb6 _ rfl
                    exact ⟨l + 1, by omega, by go_num, by rw [HLEN.out]; go_num, g1, g2, g3⟩
                  case measure => simp [intOf]; omega
              · obtain ⟨l', hl'⟩ : ∃ l', l = l' + 1 := ⟨l - 1, by omega⟩
                have t1 : decide (0 < (l : Int)) = true := decide_eq_true (by omega)
                have t2 : decide (0 < l) = true := decide_eq_true (by omega)
                have hk1 : (l : Int) - 1 = (l' : Int) := by omega
                have hk4 : (l' : Int) < (L : Int) := by omega
                have hk5 : (0 : Int) ≤ (l' : Int) := by omega
                obtain ⟨_, _, e1, -, q1⟩ := (R1.out.below HBB.out) l' (by rw [HLL.out]; omega)
                injection e1 with e1; injection e1 with e1 e2; subst e1; subst e2
                have HPV : Hid (gI (rowL ps k) (l - 1 : Nat) = gI (rowL ps k) l') := hid (by rw [show l - 1 = l' by omega])
                have HL0 : Hid (decide (l = 0) = false) := hid (decide_eq_false hl0)
                generalize gI (rowL ps k) (l' : Int) = pv at *
                have hl8 := hid hl'
                have f1 := later q1
                clear hl' hl0 q1
                by_cases v3 : (q : Int) ≤ pv
                · have HC : Hid (packErr (N : Int) ps = 230) := hid (hbad.out (by unfold cellP; rw [HV.out, HPV.out, HL0.out, show decide (pv < (q : Int)) = false from decide_eq_false (by omega)]; simp))
                  (repeat (first | (refine Flow.skip (by rfl) ?_; simp only [Act.put, List.setIfInBounds_toArray, List.set_cons_zero, List.set_cons_succ]) | (refine' Flow.take _ (by rfl) (fun W hW R hR => ?_) ?_; rotate_left; (go_simp; (try go_bits); with_reducible exact hR); simp only [Act.put, List.setIfInBounds_toArray, List.set_cons_zero, List.set_cons_succ])))
                  intro w6 hb6
                  go_wp2; go_ret; exact ⟨ret64 HC.out.symm, HB2.out.trans (hb6.mono hsw)⟩
                · have HTL : Hid ((decide (l = 0) || decide (gI (rowL ps k) (l - 1 : Nat) < (q : Int))) = true) := hid (by rw [HPV.out, HL0.out, show decide (pv < (q : Int)) = true from decide_eq_true (by omega)]; rfl)
                  (repeat (first | (refine Flow.skip (by rfl) ?_; simp only [Act.put, List.setIfInBounds_toArray, List.set_cons_zero, List.set_cons_succ]) | (refine' Flow.take _ (by rfl) (fun W hW R hR => ?_) ?_; rotate_left; (go_simp; (try go_bits); with_reducible exact hR); simp only [Act.put, List.setIfInBounds_toArray, List.set_cons_zero, List.set_cons_succ])))
                  intro w6 hb6
                  have hrow6 := World.rowIs.of_block HROW.out (hb6.block _ HROW.out.lt)
                  have hcell := hrow6.cell hq
                  have hfr := hrow6.frozen
                  clear hrow6
                  have q6 := (hb6.cell (p := ⟨b1, o1 + l, none⟩) hB1).trans Q0.out
                  cases ts : decide ((q : Int) ∈ accL ps k l)
                  rotate_left
                  · have HC : Hid (packErr (N : Int) ps = 230) := hid (hbad.out (by unfold cellP; rw [HV.out, ts]; simp))
                    rw [ts] at hcell
                    clear hfr
                    go_wp2; go_ret; exact ⟨ret64 HC.out.symm, HB2.out.trans (hb6.mono hsw)⟩
                  · rw [ts] at hcell
                    have HG : Hid (cellP (N : Int) ps k l = true) := hid (by unfold cellP; rw [HV.out, HIN.out, ts, HTL.out]; rfl)
                    clear ts
                    go_wp2
                    go_roundw
                    case rel =>
                      obtain ⟨g1, g2, g3⟩ := HGOOD.out HG.out w6 hb6 _ rfl
                      exact ⟨l + 1, by omega, by go_num, by rw [HLEN.out]; go_num, g1, g2, g3⟩
                    case measure => simp [intOf]; omega
            · obtain rfl : l = L := by omega
              have HALL : Hid (rowP (N : Int) ps k = true) := hid (by unfold rowP; rw [HHD.out, HLL.out, HOK2.out]; rfl)
              have HAR := hid (accL_row hlt)
              rw [HLL.out] at HAR
              rw [HAR.out] at hrow
              rw [HAR.out]
              have hlen5 : (accL ps (k + 1) 0).length = (accL ps k 0).length + l := by rw [← HAR.out, accL_len ps k l (by rw [HLL.out]; exact Nat.le_refl _)]
              have HLEN5 := hid hlen5
              clear hlen5
              have HALL2 : Hid ((List.range (k + 1)).all (rowP (N : Int) ps) = true) := hid (all_range_succ HOK.out HALL.out)
              generalize hal : (accL ps (k + 1) 0).length = al at *
              go_wp2
              go_roundw
              case rel => exact ⟨k + 1, by omega, by go_num, by rw [hal], by have h1 := HLEN5.out; have h2 := HLE.out; omega, HALL2.out, hrow, hb⟩
              case measure => simp [intOf]; omega
        · obtain ⟨k', rfl⟩ : ∃ k', k = k' + 1 := ⟨k - 1, by omega⟩
          have t1 : decide (0 < ((k' + 1 : Nat) : Int)) = true := decide_eq_true (by omega)
          have t2 : decide (0 < k' + 1) = true := decide_eq_true (by omega)
          have hk1 : ((k' + 1 : Nat) : Int) - 1 = (k' : Int) := by omega
          have hk2 : (k' : Int) < (ps.length : Int) := by omega
          have hk3 : (0 : Int) ≤ (k' : Int) := by omega
          obtain ⟨b', off', A2, c2, e', -, d0', r2, -⟩ := HR.out k' (by omega)
          injection e' with e'; injection e' with e1 e2; subst e1; subst e2
          have hp := List.all_eq_true.1 HOK.out k' (List.mem_range.2 (by omega))
          have hp0 : 0 < (rowL ps k').length := by
            unfold rowP headP at hp; simp only [Bool.and_eq_true, decide_eq_true_eq] at hp; exact hp.1.1
          have hp1 : (0 : Int) < ((rowL ps k').length : Int) := by omega
          clear hp
          obtain ⟨b2, o2, rfl, hB2, e2⟩ := r2 0 hp0
          rw [Nat.add_zero] at e0 e2
          have f0 := later d0
          have f1 := later d0'
          have f2 := later e0
          have f3 := later e2
          generalize hx1 : gI (rowL ps k') (0 : Nat) = x1 at *
          generalize hx2 : gI (rowL ps (k' + 1)) (0 : Nat) = x2 at *
          have HX1 := hid hx1
          have HX2 := hid hx2
          have HK0 : Hid (decide (k' + 1 = 0) = false) := hid (decide_eq_false (by omega))
          clear hx1 hx2 hk0 d0' r2 e2
          generalize hkk : k' + 1 = k at *
          go_upto_region 9 with fail
          refine wp_region_flowX 23 (fun W => Below wr.heap.size wr W) (by kernel_rfl) (by kernel_rfl) (Below.refl _ _).drew ?_
          (repeat (first | (refine Flow.skip (by rfl) ?_; simp only [Act.put, List.setIfInBounds_toArray, List.set_cons_zero, List.set_cons_succ]) | (refine' Flow.take _ (by rfl) (fun W hW R hR => ?_) ?_; rotate_left; (go_simp; (try go_bits); with_reducible exact hR); simp only [Act.put, List.setIfInBounds_toArray, List.set_cons_zero, List.set_cons_succ])))
          intro w4 hb4
          clear f0 f1 f2 f3
          by_cases hx : x2 ≤ x1
          · have HC : Hid (packErr (N : Int) ps = 230) := hid (packErr_row hlt (rowP_head (by
              unfold headP; rw [HLL.out, HD.out, HK0.out]
              have h1 := HX1.out
              have h2 := HX2.out
              rw [show k - 1 = k' by omega]
              rw [show (((0 : Nat) : Int)) = 0 from rfl] at h1 h2
              rw [h1, h2, show decide (x1 < x2) = false from decide_eq_false (by omega)]; rfl)))
            go_wp2; go_ret
            exact ⟨ret64 HC.out.symm, (n0.trans hb).trans (hb4.mono (by have := hb.size; omega))⟩
          · have HHD : Hid (headP ps k = true) := hid (by
              unfold headP; rw [HLL.out, HD.out, HK0.out]
              have h1 := HX1.out
              have h2 := HX2.out
              rw [show k - 1 = k' by omega]
              rw [show (((0 : Nat) : Int)) = 0 from rfl] at h1 h2
              rw [h1, h2, show decide (x1 < x2) = true from decide_eq_true (by omega)]; rfl)
            have hrow4 := World.rowIs.of_block hrow (hb4.block _ hrow.lt)
            have hb5 := hb.trans (hb4.mono (by have := hb.size; omega))
            clear hrow hb4
            clear d0 r1 e0 hb t0 hle
            go_wp2
            clear hx
            go_loopw [6, 9] (fun a j wq => ∃ l : Nat, l ≤ L ∧ j = .int .i64 l ∧ a = .int .i64 ((accL ps k l).length : Nat) ∧ (List.range l).all (cellP (N : Int) ps k) = true ∧ wq.rowIs w.heap.size 4 N (fun v => .bool (decide ((v : Int) ∈ accL ps k l))) ∧ Below w.heap.size w1 wq) (fun _ j _ => L - (intOf j).toNat)
            case atStart => exact ⟨0, by omega, rfl, rfl, rfl, hrow4, hb5⟩
            case round =>
              clear hrow4 hb5
              obtain ⟨l, hl, rfl, rfl, hok2, hrow, hb⟩ := hrel
              have HOK2 := hid hok2
              clear hok2
              by_cases hlt2 : l < L
              · have hlt3 : (l : Int) < (L : Int) := by omega
                have HB2 : Hid (Below w.heap.size w wr) := hid (n0.trans hb)
                have hsw : w.heap.size ≤ wr.heap.size := by have := hb.size; omega
                have HBB := hid hb
                obtain ⟨_, _, e1, -, q0⟩ := (R1.out.below hb) l (by rw [HLL.out]; exact hlt2)
                injection e1 with e1; injection e1 with e1 e2; subst e1; subst e2
                replace hB1 : b1 < wr.heap.size := by have := hb.size; omega
                generalize hv : gI (rowL ps k) l = v at *
                have HV := hid hv
                have HROW := hid hrow
                have hbad : Hid (cellP (N : Int) ps k l = false → packErr (N : Int) ps = 230) := hid fun h => packErr_row hlt (rowP_cell (j := l) (by rw [HLL.out]; exact hlt2) h)
                have Q0 := hid q0
                have f0 := later q0
                clear hv hrow q0
                go_upto_region 14 with fail
                refine wp_region_flowX 35 (fun W => Below wr.heap.size wr W) (by kernel_rfl) (by kernel_rfl) (Below.refl _ _).drew ?_
                by_cases v1 : v < 0
                · have HC : Hid (packErr (N : Int) ps = 230) := hid (hbad.out (by unfold cellP; rw [HV.out, show decide (0 ≤ v ∧ v < (N : Int)) = false from decide_eq_false (by omega)]; rfl))
                  (repeat (first | (refine Flow.skip (by rfl) ?_; simp only [Act.put, List.setIfInBounds_toArray, List.set_cons_zero, List.set_cons_succ]) | (refine' Flow.take _ (by rfl) (fun W hW R hR => ?_) ?_; rotate_left; (go_simp; (try go_bits); with_reducible exact hR); simp only [Act.put, List.setIfInBounds_toArray, List.set_cons_zero, List.set_cons_succ])))
                  intro w6 hb6
                  go_wp2; go_ret; exact ⟨ret64 HC.out.symm, HB2.out.trans (hb6.mono hsw)⟩
                by_cases v2 : (N : Int) ≤ v
                · have HC : Hid (packErr (N : Int) ps = 230) := hid (hbad.out (by unfold cellP; rw [HV.out, show decide (0 ≤ v ∧ v < (N : Int)) = false from decide_eq_false (by omega)]; rfl))
                  (repeat (first | (refine Flow.skip (by rfl) ?_; simp only [Act.put, List.setIfInBounds_toArray, List.set_cons_zero, List.set_cons_succ]) | (refine' Flow.take _ (by rfl) (fun W hW R hR => ?_) ?_; rotate_left; (go_simp; (try go_bits); with_reducible exact hR); simp only [Act.put, List.setIfInBounds_toArray, List.set_cons_zero, List.set_cons_succ])))
                  intro w6 hb6
                  go_wp2; go_ret; exact ⟨ret64 HC.out.symm, HB2.out.trans (hb6.mono hsw)⟩
                have HIN : Hid (decide (0 ≤ v ∧ v < (N : Int)) = true) := hid (decide_eq_true (by omega))
                obtain ⟨q, rfl⟩ : ∃ q : Nat, v = (q : Int) := ⟨v.toNat, by omega⟩
                have hq : q < N := by omega
                have hq' : (q : Int) < (N : Int) := by omega
                have hq2 : decide (N ≤ q) = false := decide_eq_false (by omega)
                have hq3 : decide ((N : Int) ≤ (q : Int)) = false := decide_eq_false (by omega)
                clear v1 v2
                have HLEN : Hid ((accL ps k (l + 1)).length = (accL ps k l).length + 1) := hid (by rw [accL_succ (by rw [HLL.out]; exact hlt2)]; simp)
                have hacc : (accL ps k l).length ≤ 17592186044416 * k + L := by rw [accL_len ps k l (by rw [HLL.out]; exact hl)]; have := HLE.out; omega
                have HGOOD : Hid (cellP (N : Int) ps k l = true → ∀ w6, Below wr.heap.size wr w6 → ∀ W, (w6.setCell ⟨w.heap.size, q, none⟩ (.bool true)) = W → (List.range (l + 1)).all (cellP (N : Int) ps k) = true ∧ W.rowIs w.heap.size 4 N (fun v => .bool (decide ((v : Int) ∈ accL ps k (l + 1)))) ∧ Below w.heap.size w1 W) := hid (by
                    rintro h w6 hb6 W rfl
                    refine ⟨all_range_succ HOK2.out h, World.rowIs.congr ((World.rowIs.of_block HROW.out (hb6.block _ HROW.out.lt)).set q (.bool true)) ?_, (HBB.out.trans (hb6.mono hsw)).setCell (by simp) _⟩
                    intro i hi
                    rw [accL_succ (by rw [HLL.out]; exact hlt2), HV.out]
                    by_cases e : i = q
                    · subst e; simp
                    · simp only [if_neg e]
                      have : ¬ ((i : Int) = (q : Int)) := by omega
                      simp [this])
                generalize hal : (accL ps k l).length = al at *
                by_cases hl0 : l = 0
                · have t1 : decide (0 < (l : Int)) = false := decide_eq_false (by omega)
                  have t2 : decide (0 < l) = false := decide_eq_false (by omega)
                  have HG3 : Hid (decide (l = 0) = true) := hid (decide_eq_true hl0)
                  have HTL : Hid ((decide (l = 0) || decide (gI (rowL ps k) (l - 1 : Nat) < (q : Int))) = true) := hid (by rw [HG3.out]; rfl)
                  clear hl0 HG3
                  (repeat (first | (refine Flow.skip (by rfl) ?_; simp only [Act.put, List.setIfInBounds_toArray, List.set_cons_zero, List.set_cons_succ]) | (refine' Flow.take _ (by rfl) (fun W hW R hR => ?_) ?_; rotate_left; (go_simp; (try go_bits); with_reducible exact hR); simp only [Act.put, List.setIfInBounds_toArray, List.set_cons_zero, List.set_cons_succ])))
                  intro w6 hb6
                  have hrow6 := World.rowIs.of_block HROW.out (hb6.block _ HROW.out.lt)
                  have hcell := hrow6.cell hq
                  have hfr := hrow6.frozen
                  clear hrow6
                  have q6 := (hb6.cell (p := ⟨b1, o1 + l, none⟩) hB1).trans Q0.out
                  cases ts : decide ((q : Int) ∈ accL ps k l)
                  rotate_left
                  · have HC : Hid (packErr (N : Int) ps = 230) := hid (hbad.out (by unfold cellP; rw [HV.out, ts]; simp))
                    rw [ts] at hcell
                    clear hfr
                    go_wp2; go_ret; exact ⟨ret64 HC.out.symm, HB2.out.trans (hb6.mono hsw)⟩
                  · rw [ts] at hcell
                    have HG : Hid (cellP (N : Int) ps k l = true) := hid (by unfold cellP; rw [HV.out, HIN.out, ts, HTL.out]; rfl)
                    clear ts
                    go_wp2
                    go_roundw
                    case rel =>
                      obtain ⟨g1, g2, g3⟩ := HGOOD.out HG.out w6 hb6 _ rfl
                      exact ⟨l + 1, by omega, by go_num, by rw [HLEN.out]; go_num, g1, g2, g3⟩
                    case measure => simp [intOf]; omega
                · obtain ⟨l', hl'⟩ : ∃ l', l = l' + 1 := ⟨l - 1, by omega⟩
                  have t1 : decide (0 < (l : Int)) = true := decide_eq_true (by omega)
                  have t2 : decide (0 < l) = true := decide_eq_true (by omega)
                  have hk1 : (l : Int) - 1 = (l' : Int) := by omega
                  have hk4 : (l' : Int) < (L : Int) := by omega
                  have hk5 : (0 : Int) ≤ (l' : Int) := by omega
                  obtain ⟨_, _, e1, -, q1⟩ := (R1.out.below HBB.out) l' (by rw [HLL.out]; omega)
                  injection e1 with e1; injection e1 with e1 e2; subst e1; subst e2
                  have HPV : Hid (gI (rowL ps k) (l - 1 : Nat) = gI (rowL ps k) l') := hid (by rw [show l - 1 = l' by omega])
                  have HL0 : Hid (decide (l = 0) = false) := hid (decide_eq_false hl0)
                  generalize gI (rowL ps k) (l' : Int) = pv at *
                  have hl8 := hid hl'
                  have f1 := later q1
                  clear hl' hl0 q1
                  by_cases v3 : (q : Int) ≤ pv
                  · have HC : Hid (packErr (N : Int) ps = 230) := hid (hbad.out (by unfold cellP; rw [HV.out, HPV.out, HL0.out, show decide (pv < (q : Int)) = false from decide_eq_false (by omega)]; simp))
                    (repeat (first | (refine Flow.skip (by rfl) ?_; simp only [Act.put, List.setIfInBounds_toArray, List.set_cons_zero, List.set_cons_succ]) | (refine' Flow.take _ (by rfl) (fun W hW R hR => ?_) ?_; rotate_left; (go_simp; (try go_bits); with_reducible exact hR); simp only [Act.put, List.setIfInBounds_toArray, List.set_cons_zero, List.set_cons_succ])))
                    intro w6 hb6
                    go_wp2; go_ret; exact ⟨ret64 HC.out.symm, HB2.out.trans (hb6.mono hsw)⟩
                  · have HTL : Hid ((decide (l = 0) || decide (gI (rowL ps k) (l - 1 : Nat) < (q : Int))) = true) := hid (by rw [HPV.out, HL0.out, show decide (pv < (q : Int)) = true from decide_eq_true (by omega)]; rfl)
                    (repeat (first | (refine Flow.skip (by rfl) ?_; simp only [Act.put, List.setIfInBounds_toArray, List.set_cons_zero, List.set_cons_succ]) | (refine' Flow.take _ (by rfl) (fun W hW R hR => ?_) ?_; rotate_left; (go_simp; (try go_bits); with_reducible exact hR); simp only [Act.put, List.setIfInBounds_toArray, List.set_cons_zero, List.set_cons_succ])))
                    intro w6 hb6
                    have hrow6 := World.rowIs.of_block HROW.out (hb6.block _ HROW.out.lt)
                    have hcell := hrow6.cell hq
                    have hfr := hrow6.frozen
                    clear hrow6
                    have q6 := (hb6.cell (p := ⟨b1, o1 + l, none⟩) hB1).trans Q0.out
                    cases ts : decide ((q : Int) ∈ accL ps k l)
                    rotate_left
                    · have HC : Hid (packErr (N : Int) ps = 230) := hid (hbad.out (by unfold cellP; rw [HV.out, ts]; simp))
                      rw [ts] at hcell
                      clear hfr
                      go_wp2; go_ret; exact ⟨ret64 HC.out.symm, HB2.out.trans (hb6.mono hsw)⟩
                    · rw [ts] at hcell
                      have HG : Hid (cellP (N : Int) ps k l = true) := hid (by unfold cellP; rw [HV.out, HIN.out, ts, HTL.out]; rfl)
                      clear ts
                      go_wp2
                      go_roundw
                      case rel =>
                        obtain ⟨g1, g2, g3⟩ := HGOOD.out HG.out w6 hb6 _ rfl
                        exact ⟨l + 1, by omega, by go_num, by rw [HLEN.out]; go_num, g1, g2, g3⟩
                      case measure => simp [intOf]; omega
              · obtain rfl : l = L := by omega
                have HALL : Hid (rowP (N : Int) ps k = true) := hid (by unfold rowP; rw [HHD.out, HLL.out, HOK2.out]; rfl)
                have HAR := hid (accL_row hlt)
                rw [HLL.out] at HAR
                rw [HAR.out] at hrow
                rw [HAR.out]
                have hlen5 : (accL ps (k + 1) 0).length = (accL ps k 0).length + l := by rw [← HAR.out, accL_len ps k l (by rw [HLL.out]; exact Nat.le_refl _)]
                have HLEN5 := hid hlen5
                clear hlen5
                have HALL2 : Hid ((List.range (k + 1)).all (rowP (N : Int) ps) = true) := hid (all_range_succ HOK.out HALL.out)
                generalize hal : (accL ps (k + 1) 0).length = al at *
                go_wp2
                go_roundw
                case rel => exact ⟨k + 1, by omega, by go_num, by rw [hal], by have h1 := HLEN5.out; have h2 := HLE.out; omega, HALL2.out, hrow, hb⟩
                case measure => simp [intOf]; omega
    · obtain rfl : k = ps.length := by omega
      have HE := hid (packErr_ok (ps := ps) ⟨a1, a2⟩ HOK.out)
      rw [← accL_end (ps := ps)] at HE
      generalize (accL ps ps.length 0).length = L at *
      cases e1 : ((L : Int) != (N : Int))
      · have HC : Hid (packErr (N : Int) ps = 0) := hid (by rw [HE.out, if_pos (by simpa using e1)])
        go_wp2; go_ret; exact ⟨ret64 HC.out.symm, n0.trans hb⟩
      · have HC : Hid (packErr (N : Int) ps = 230) := hid (by rw [HE.out, if_neg (by simpa using e1)])
        go_wp2; go_ret; exact ⟨ret64 HC.out.symm, n0.trans hb⟩
end Go.Proofs.Ytofmidhkiobldaa
