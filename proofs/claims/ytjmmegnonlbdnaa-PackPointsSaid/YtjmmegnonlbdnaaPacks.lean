/-
  Packs as data; when they are packs of n variables; pack.Check: what it answers.
-/
import Derived.Test.YtjmmegnonlbdnaaLists
import Derived.Test.YtjmmegnonlbdnaaFlowN
import Derived.Deep.DeepCutAuto
namespace Go.Proofs.Ytjmmegnonlbdnaa
open Go.RowKit
attribute [local go_sem ↓] Go.wp_at_zero Go.wp_at_succ

def rowL (ps : List (List Int)) (i : Nat) : List Int := ps.getD i []
/-- What stands ahead of place j of row i. -/
def accL (ps : List (List Int)) (i j : Nat) : List Int := (ps.take i).flatten ++ (rowL ps i).take j
def cellP (n : Int) (ps : List (List Int)) (i j : Nat) : Bool :=
  decide (0 ≤ gI (rowL ps i) j ∧ gI (rowL ps i) j < n) && !(decide (gI (rowL ps i) j ∈ accL ps i j)) && (decide (j = 0) || decide (gI (rowL ps i) (j - 1 : Nat) < gI (rowL ps i) j))
def headP (ps : List (List Int)) (i : Nat) : Bool := decide (0 < (rowL ps i).length) && (decide (i = 0) || decide (gI (rowL ps (i - 1)) 0 < gI (rowL ps i) 0))
def rowP (n : Int) (ps : List (List Int)) (i : Nat) : Bool := headP ps i && (List.range (rowL ps i).length).all (cellP n ps i)
def packErr (n : Int) (ps : List (List Int)) : Int :=
  if (decide (0 ≤ n ∧ n ≤ 64) && (List.range ps.length).all (rowP n ps) && decide ((ps.flatten.length : Int) = n)) = true then 0 else 230

/-- The slice of slices of numbers at A reads as ps. -/
def RdL (w : World) (B : Nat) (A : Option Addr) (ps : List (List Int)) : Prop :=
  ∀ i, i < ps.length → ∃ b off A' c', A = some ⟨b, off, none⟩ ∧ b < B ∧ w.cell? ⟨b, off + i, none⟩ = some (.slice A' (rowL ps i).length c') ∧ Rd w B A' (rowL ps i) ∧ (rowL ps i).length ≤ 17592186044416
section
variable {w w' : World} {B B' : Nat} {A : Option Addr} {ps : List (List Int)}
theorem RdL.below (h : RdL w B A ps) (hb : Below B w w') : RdL w' B A ps := fun i hi => by
  obtain ⟨b, off, A', c', h1, h2, h3, h4, h5⟩ := h i hi
  exact ⟨b, off, A', c', h1, h2, (hb.cell (p := ⟨b, _, none⟩) h2).trans h3, h4.below hb, h5⟩
theorem RdL.more (h : RdL w B A ps) (hB : B ≤ B') : RdL w B' A ps := fun i hi => by
  obtain ⟨b, off, A', c', h1, h2, h3, h4, h5⟩ := h i hi
  exact ⟨b, off, A', c', h1, by omega, h3, h4.more hB, h5⟩
theorem RdL.up (h : RdL w w.heap.size A ps) (hb : Below w.heap.size w w') : RdL w' w'.heap.size A ps := (h.below hb).more hb.size
end
theorem packErr_n {n : Int} {ps : List (List Int)} (h : ¬ (0 ≤ n ∧ n ≤ 64)) : packErr n ps = 230 := by
  unfold packErr; rw [show decide (0 ≤ n ∧ n ≤ 64) = false from decide_eq_false h]; rfl
theorem packErr_row {n : Int} {ps : List (List Int)} {i : Nat} (hi : i < ps.length) (h : rowP n ps i = false) : packErr n ps = 230 := by
  have : (List.range ps.length).all (rowP n ps) = false := by
    rw [List.all_eq_false]; exact ⟨i, List.mem_range.2 hi, by simp [h]⟩
  unfold packErr; rw [this]; simp
theorem rowP_head {n : Int} {ps : List (List Int)} {i : Nat} (h : headP ps i = false) : rowP n ps i = false := by unfold rowP; rw [h]; rfl
theorem rowP_cell {n : Int} {ps : List (List Int)} {i j : Nat} (hj : j < (rowL ps i).length) (h : cellP n ps i j = false) : rowP n ps i = false := by
  have : (List.range (rowL ps i).length).all (cellP n ps i) = false := by
    rw [List.all_eq_false]; exact ⟨j, List.mem_range.2 hj, by simp [h]⟩
  unfold rowP; rw [this]; simp
theorem packErr_ok {n : Int} {ps : List (List Int)} (h : 0 ≤ n ∧ n ≤ 64) (h2 : (List.range ps.length).all (rowP n ps) = true) : packErr n ps = if (ps.flatten.length : Int) = n then 0 else 230 := by
  unfold packErr; rw [show decide (0 ≤ n ∧ n ≤ 64) = true from decide_eq_true h, h2]
  by_cases e : (ps.flatten.length : Int) = n <;> simp
theorem all_range_succ {p : Nat → Bool} {k : Nat} (h : (List.range k).all p = true) (h2 : p k = true) : (List.range (k + 1)).all p = true := by
  rw [List.range_succ, List.all_append, h]; simp [h2]
theorem accL_succ {ps : List (List Int)} {i j : Nat} (hj : j < (rowL ps i).length) : accL ps i (j + 1) = accL ps i j ++ [gI (rowL ps i) j] := by
  unfold accL gI
  rw [List.take_succ_eq_append_getElem hj, List.append_assoc]; simp [hj]
theorem accL_row {ps : List (List Int)} {i : Nat} (hi : i < ps.length) : accL ps i (rowL ps i).length = accL ps (i + 1) 0 := by
  unfold accL rowL
  rw [List.take_length, List.take_succ_eq_append_getElem hi, List.flatten_append]; simp [hi]
theorem seen_start (w : World) (ps : List (List Int)) : (w.alloc (.cells #[.bool false, .bool false, .bool false, .bool false, .bool false, .bool false, .bool false, .bool false, .bool false, .bool false, .bool false, .bool false, .bool false, .bool false, .bool false, .bool false, .bool false, .bool false, .bool false, .bool false, .bool false, .bool false, .bool false, .bool false, .bool false, .bool false, .bool false, .bool false, .bool false, .bool false, .bool false, .bool false, .bool false, .bool false, .bool false, .bool false, .bool false, .bool false, .bool false, .bool false, .bool false, .bool false, .bool false, .bool false, .bool false, .bool false, .bool false, .bool false, .bool false, .bool false, .bool false, .bool false, .bool false, .bool false, .bool false, .bool false, .bool false, .bool false, .bool false, .bool false, .bool false, .bool false, .bool false, .bool false] 76)).rowIs w.heap.size 76 64 (fun v => .bool (decide ((v : Int) ∈ accL ps 0 0))) := by
  have := World.rowIs_alloc w (Array.replicate 64 (Value.bool false)) 76 (fun _ => .bool false) (fun i hi => by simp at hi; simp [hi])
  refine World.rowIs.congr this (fun i _ => ?_)
  simp [accL]
theorem accL_end {ps : List (List Int)} : accL ps ps.length 0 = ps.flatten := by unfold accL; simp
theorem accL_len (ps : List (List Int)) (i j : Nat) (h : j ≤ (rowL ps i).length) : (accL ps i j).length = (accL ps i 0).length + j := by
  unfold accL; simp; omega

set_option maxRecDepth 8000 in
set_option maxHeartbeats 8000000 in
theorem pcheck_any (n : Int) (ps : List (List Int)) (A : Option Addr) (c : Nat) (w : World) (hr : RdL w w.heap.size A ps) (hl : ps.length ≤ 1000) :
    Calls Try.prog 11 #[.int .i64 n, .slice A ps.length c] w fun e w' => e = .returned (.int .i64 (packErr n ps)) ∧ Below w.heap.size w w' := by
  go_enter Try.func11, Try.ntmps11
  by_cases a1 : n < 0
  · have HC : Hid (packErr n ps = 230) := hid (packErr_n (by omega))
    go_wp2; go_ret; exact ⟨ret64 HC.out.symm, Below.refl _ _⟩
  by_cases a2 : 64 < n
  · have HC : Hid (packErr n ps = 230) := hid (packErr_n (by omega))
    go_wp2; go_ret; exact ⟨ret64 HC.out.symm, Below.refl _ _⟩
  have K0 := seen_start w ps
  have n0 := new1 w (.cells #[.bool false, .bool false, .bool false, .bool false, .bool false, .bool false, .bool false, .bool false, .bool false, .bool false, .bool false, .bool false, .bool false, .bool false, .bool false, .bool false, .bool false, .bool false, .bool false, .bool false, .bool false, .bool false, .bool false, .bool false, .bool false, .bool false, .bool false, .bool false, .bool false, .bool false, .bool false, .bool false, .bool false, .bool false, .bool false, .bool false, .bool false, .bool false, .bool false, .bool false, .bool false, .bool false, .bool false, .bool false, .bool false, .bool false, .bool false, .bool false, .bool false, .bool false, .bool false, .bool false, .bool false, .bool false, .bool false, .bool false, .bool false, .bool false, .bool false, .bool false, .bool false, .bool false, .bool false, .bool false] 76)
  go_wp2
  replace hr := hr.below n0
  generalize w.alloc (.cells #[.bool false, .bool false, .bool false, .bool false, .bool false, .bool false, .bool false, .bool false, .bool false, .bool false, .bool false, .bool false, .bool false, .bool false, .bool false, .bool false, .bool false, .bool false, .bool false, .bool false, .bool false, .bool false, .bool false, .bool false, .bool false, .bool false, .bool false, .bool false, .bool false, .bool false, .bool false, .bool false, .bool false, .bool false, .bool false, .bool false, .bool false, .bool false, .bool false, .bool false, .bool false, .bool false, .bool false, .bool false, .bool false, .bool false, .bool false, .bool false, .bool false, .bool false, .bool false, .bool false, .bool false, .bool false, .bool false, .bool false, .bool false, .bool false, .bool false, .bool false, .bool false, .bool false, .bool false, .bool false] 76) = w1 at *
  have hsz := n0.size
  go_loopw [6, 19] (fun a i wr => ∃ k : Nat, k ≤ ps.length ∧ i = .int .i64 k ∧ a = .int .i64 ((accL ps k 0).length : Nat) ∧ (accL ps k 0).length ≤ 17592186044416 * k ∧ (List.range k).all (rowP n ps) = true ∧ wr.rowIs w.heap.size 76 64 (fun v => .bool (decide ((v : Int) ∈ accL ps k 0))) ∧ Below w.heap.size w1 wr) (fun _ i _ => ps.length - (intOf i).toNat)
  case atStart => exact ⟨0, by omega, rfl, by simp [accL], by simp [accL], rfl, K0, Below.refl _ _⟩
  case round =>
    obtain ⟨k, hk, rfl, rfl, hle, hok, hrow, hb⟩ := hrel
    have HOK := hid hok
    clear hok K0
    by_cases hlt : k < ps.length
    · have hlt' : (k : Int) < (ps.length : Int) := by omega
      obtain ⟨b, off, A1, c1, rfl, hB, d0, r1, l1⟩ := hr k hlt
      have R1 := hid r1
      replace d0 := (hb.cell (p := ⟨b, off + k, none⟩) hB).trans d0
      replace r1 := r1.below hb
      have HR := hid (hr.below hb)
      by_cases hL : (rowL ps k).length = 0
      · have HC : Hid (packErr n ps = 230) := hid (packErr_row hlt (rowP_head (by unfold headP; rw [show decide (0 < (rowL ps k).length) = false from decide_eq_false (by omega)]; rfl)))
        have t0 : (((rowL ps k).length : Int) == 0) = true := by rw [beq_iff_eq]; omega
        generalize (rowL ps k).length = L at *
        clear hL
        go_upto_region 8 with fail
        refine wp_region_flow 17 (fun W => Below wr.heap.size wr W) (by kernel_rfl) (by kernel_rfl) (Below.refl _ _).drew ?_
        (repeat (first | (refine Flow.skip (by rfl) ?_; simp only [Act.put, List.setIfInBounds_toArray, List.set_cons_zero, List.set_cons_succ]) | (refine' Flow.take _ (by rfl) (fun W hW R hR => ?_) ?_; rotate_left; (go_simp; (try go_bits); with_reducible exact hR); simp only [Act.put, List.setIfInBounds_toArray, List.set_cons_zero, List.set_cons_succ])))
        intro w4 hb4
        go_wp2; go_ret
        exact ⟨ret64 HC.out.symm, (n0.trans hb).trans (hb4.mono (by have := hb.size; omega))⟩
      · have t0 : (((rowL ps k).length : Int) == 0) = false := by rw [beq_eq_false_iff_ne]; omega
        have hL0 : (0 : Int) < ((rowL ps k).length : Int) := by omega
        obtain ⟨b1, o1, rfl, hB1, e0⟩ := r1 0 (by omega)
        have HLE := hid hle
        have HD : Hid (decide (0 < (rowL ps k).length) = true) := hid (decide_eq_true (by omega))
        generalize hLL : (rowL ps k).length = L at *
        have HLL := hid hLL
        have hL1 : 0 < L := by omega
        clear hLL hL
        by_cases hk0 : k = 0
        · have t1 : decide (0 < (k : Int)) = false := decide_eq_false (by omega)
          have t2 : decide (0 < k) = false := decide_eq_false (by omega)
          have HHD : Hid (headP ps k = true) := hid (by unfold headP; rw [HLL.out, HD.out, show decide (k = 0) = true from decide_eq_true hk0]; rfl)
          clear hk0
          go_upto_region 8 with fail
          refine wp_region_flow 17 (fun W => Below wr.heap.size wr W) (by kernel_rfl) (by kernel_rfl) (Below.refl _ _).drew ?_
          (repeat (first | (refine Flow.skip (by rfl) ?_; simp only [Act.put, List.setIfInBounds_toArray, List.set_cons_zero, List.set_cons_succ]) | (refine' Flow.take _ (by rfl) (fun W hW R hR => ?_) ?_; rotate_left; (go_simp; (try go_bits); with_reducible exact hR); simp only [Act.put, List.setIfInBounds_toArray, List.set_cons_zero, List.set_cons_succ])))
          intro w4 hb4
          have hrow4 := World.rowIs.of_block hrow (hb4.block _ hrow.lt)
          have hb5 := hb.trans (hb4.mono (by have := hb.size; omega))
          clear hrow hb4
          clear d0 r1 e0 hb t0 hle
          go_wp2
          skip
          go_loopw [6, 46] (fun a j wq => ∃ l : Nat, l ≤ L ∧ j = .int .i64 l ∧ a = .int .i64 ((accL ps k l).length : Nat) ∧ (List.range l).all (cellP n ps k) = true ∧ wq.rowIs w.heap.size 76 64 (fun v => .bool (decide ((v : Int) ∈ accL ps k l))) ∧ Below w.heap.size w1 wq) (fun _ j _ => L - (intOf j).toNat)
          case atStart => exact ⟨0, by omega, rfl, rfl, rfl, hrow4, hb5⟩
          case round =>
            clear hrow4 hb5
            obtain ⟨l, hl, rfl, rfl, hok2, hrow, hb⟩ := hrel
            have HOK2 := hid hok2
            clear hok2
            by_cases hlt2 : l < L
            · have hlt3 : (l : Int) < (L : Int) := by omega
              have HB2 : Hid (Below w.heap.size w wr) := hid (n0.trans hb)
              have HBB := hid hb
              obtain ⟨_, _, e1, -, q0⟩ := (R1.out.below hb) l (by rw [HLL.out]; exact hlt2)
              injection e1 with e1; injection e1 with e1 e2; subst e1; subst e2
              replace hB1 : b1 < wr.heap.size := by have := hb.size; omega
              generalize hv : gI (rowL ps k) l = v at *
              have HV := hid hv
              have hfr := hrow.frozen
              have HROW := hid hrow
              have hbad : Hid (cellP n ps k l = false → packErr n ps = 230) := hid fun h => packErr_row hlt (rowP_cell (j := l) (by rw [HLL.out]; exact hlt2) h)
              clear hv
              by_cases v1 : v < 0
              · have HC : Hid (packErr n ps = 230) := hid (hbad.out (by unfold cellP; rw [HV.out, show decide (0 ≤ v ∧ v < n) = false from decide_eq_false (by omega)]; rfl))
                clear hfr hrow
                go_wp2; go_ret; exact ⟨ret64 HC.out.symm, HB2.out⟩
              by_cases v2 : n ≤ v
              · have HC : Hid (packErr n ps = 230) := hid (hbad.out (by unfold cellP; rw [HV.out, show decide (0 ≤ v ∧ v < n) = false from decide_eq_false (by omega)]; rfl))
                clear hfr hrow
                go_wp2; go_ret; exact ⟨ret64 HC.out.symm, HB2.out⟩
              have HIN : Hid (decide (0 ≤ v ∧ v < n) = true) := hid (decide_eq_true (by omega))
              obtain ⟨q, rfl⟩ : ∃ q : Nat, v = (q : Int) := ⟨v.toNat, by omega⟩
              have hq : q < 64 := by omega
              have hq' : (q : Int) < 64 := by omega
              have hcell := hrow.cell hq
              clear hrow
              cases ts : decide ((q : Int) ∈ accL ps k l)
              rotate_left
              · have HC : Hid (packErr n ps = 230) := hid (hbad.out (by unfold cellP; rw [HV.out, ts]; simp))
                rw [ts] at hcell
                clear hfr
                go_wp2; go_ret; exact ⟨ret64 HC.out.symm, HB2.out⟩
              · rw [ts] at hcell
                have HT := hid ts
                clear ts
                have hgood : Hid (cellP n ps k l = true → ∀ W, (wr.setCell ⟨w.heap.size, q, none⟩ (.bool true)) = W → (List.range (l + 1)).all (cellP n ps k) = true ∧ W.rowIs w.heap.size 76 64 (fun v => .bool (decide ((v : Int) ∈ accL ps k (l + 1)))) ∧ Below w.heap.size w1 W) := hid (by
                  rintro h W rfl
                  refine ⟨all_range_succ HOK2.out h, World.rowIs.congr (HROW.out.set q (.bool true)) ?_, HBB.out.setCell (by simp) _⟩
                  intro i hi
                  rw [accL_succ (by rw [HLL.out]; exact hlt2), HV.out]
                  by_cases e : i = q
                  · subst e; simp
                  · simp only [if_neg e]
                    have : ¬ ((i : Int) = (q : Int)) := by omega
                    simp [this])
                have HLEN : Hid ((accL ps k (l + 1)).length = (accL ps k l).length + 1) := hid (by rw [accL_succ (by rw [HLL.out]; exact hlt2)]; simp)
                have hacc : (accL ps k l).length ≤ 17592186044416 * k + L := by rw [accL_len ps k l (by rw [HLL.out]; exact hl)]; have := HLE.out; omega
                generalize (accL ps k l).length = al at *
                by_cases hl0 : l = 0
                · have t1 : decide (0 < (l : Int)) = false := decide_eq_false (by omega)
                  have t2 : decide (0 < l) = false := decide_eq_false (by omega)
                  have HG : Hid (cellP n ps k l = true) := hid (by unfold cellP; rw [HV.out, HIN.out, HT.out, show decide (l = 0) = true from decide_eq_true hl0]; rfl)
                  clear hl0
                  go_wp2
                  go_roundw
                  case rel =>
                    obtain ⟨g1, g2, g3⟩ := hgood.out HG.out _ rfl
                    exact ⟨l + 1, by omega, by go_num, by rw [HLEN.out]; go_num, g1, g2, g3⟩
                  case measure => simp [intOf]; omega
                · obtain ⟨l', hl'⟩ : ∃ l', l = l' + 1 := ⟨l - 1, by omega⟩
                  have t1 : decide (0 < (l : Int)) = true := decide_eq_true (by omega)
                  have t2 : decide (0 < l) = true := decide_eq_true (by omega)
                  have hk1 : (l : Int) - 1 = (l' : Int) := by omega
                  have hk4 : (l' : Int) < (L : Int) := by omega
                  have hk5 : (0 : Int) ≤ (l' : Int) := by omega
                  obtain ⟨_, _, e1, -, q1⟩ := (R1.out.below HBB.out) l' (by rw [HLL.out]; omega)
                  injection e1 with e1; injection e1 with e1 e2; subst e1; subst e2
                  have HPV : Hid (gI (rowL ps k) (l - 1 : Nat) = gI (rowL ps k) l') := hid (by rw [show l - 1 = l' by omega])
                  have HL0 : Hid (decide (l = 0) = false) := hid (decide_eq_false hl0)
                  generalize gI (rowL ps k) (l' : Int) = pv at *
                  have hl8 := hid hl'
                  clear hl' hl0
                  by_cases v3 : (q : Int) ≤ pv
                  · have HC : Hid (packErr n ps = 230) := hid (hbad.out (by unfold cellP; rw [HV.out, HPV.out, HIN.out, HT.out, HL0.out, show decide (pv < (q : Int)) = false from decide_eq_false (by omega)]; rfl))
                    clear hfr
                    go_wp2; go_ret; exact ⟨ret64 HC.out.symm, HB2.out⟩
                  · have HG : Hid (cellP n ps k l = true) := hid (by unfold cellP; rw [HV.out, HPV.out, HIN.out, HT.out, HL0.out, show decide (pv < (q : Int)) = true from decide_eq_true (by omega)]; rfl)
                    go_wp2
                    go_roundw
                    case rel =>
                      obtain ⟨g1, g2, g3⟩ := hgood.out HG.out _ rfl
                      exact ⟨l + 1, by omega, by go_num, by rw [HLEN.out]; go_num, g1, g2, g3⟩
                    case measure => simp [intOf]; omega
            · obtain rfl : l = L := by omega
              have HALL : Hid (rowP n ps k = true) := hid (by unfold rowP; rw [HHD.out, HLL.out, HOK2.out]; rfl)
              have HAR := hid (accL_row hlt)
              rw [HLL.out] at HAR
              rw [HAR.out] at hrow
              rw [HAR.out]
              have hlen5 : (accL ps (k + 1) 0).length = (accL ps k 0).length + l := by rw [← HAR.out, accL_len ps k l (by rw [HLL.out]; exact Nat.le_refl _)]
              have HLEN5 := hid hlen5
              clear hlen5
              have HALL2 : Hid ((List.range (k + 1)).all (rowP n ps) = true) := hid (all_range_succ HOK.out HALL.out)
              generalize hal : (accL ps (k + 1) 0).length = al at *
              go_wp2
              go_roundw
              case rel => exact ⟨k + 1, by omega, by go_num, by rw [hal], by have h1 := HLEN5.out; have h2 := HLE.out; omega, HALL2.out, hrow, hb⟩
              case measure => simp [intOf]; omega
        · obtain ⟨k', rfl⟩ : ∃ k', k = k' + 1 := ⟨k - 1, by omega⟩
          have t1 : decide (0 < ((k' + 1 : Nat) : Int)) = true := decide_eq_true (by omega)
          have t2 : decide (0 < k' + 1) = true := decide_eq_true (by omega)
          have hk1 : ((k' + 1 : Nat) : Int) - 1 = (k' : Int) := by omega
          have hk2 : (k' : Int) < (ps.length : Int) := by omega
          have hk3 : (0 : Int) ≤ (k' : Int) := by omega
          obtain ⟨b', off', A2, c2, e', -, d0', r2, -⟩ := HR.out k' (by omega)
          injection e' with e'; injection e' with e1 e2; subst e1; subst e2
          have hp := List.all_eq_true.1 HOK.out k' (List.mem_range.2 (by omega))
          have hp0 : 0 < (rowL ps k').length := by
            unfold rowP headP at hp; simp only [Bool.and_eq_true, decide_eq_true_eq] at hp; exact hp.1.1
          have hp1 : (0 : Int) < ((rowL ps k').length : Int) := by omega
          clear hp
          obtain ⟨b2, o2, rfl, hB2, e2⟩ := r2 0 hp0
          rw [Nat.add_zero] at e0 e2
          have f0 := later d0
          have f1 := later d0'
          have f2 := later e0
          have f3 := later e2
          generalize hx1 : gI (rowL ps k') (0 : Nat) = x1 at *
          generalize hx2 : gI (rowL ps (k' + 1)) (0 : Nat) = x2 at *
          have HX1 := hid hx1
          have HX2 := hid hx2
          have HK0 : Hid (decide (k' + 1 = 0) = false) := hid (decide_eq_false (by omega))
          clear hx1 hx2 hk0 d0' r2 e2
          generalize hkk : k' + 1 = k at *
          go_upto_region 8 with fail
          refine wp_region_flow 17 (fun W => Below wr.heap.size wr W) (by kernel_rfl) (by kernel_rfl) (Below.refl _ _).drew ?_
          (repeat (first | (refine Flow.skip (by rfl) ?_; simp only [Act.put, List.setIfInBounds_toArray, List.set_cons_zero, List.set_cons_succ]) | (refine' Flow.take _ (by rfl) (fun W hW R hR => ?_) ?_; rotate_left; (go_simp; (try go_bits); with_reducible exact hR); simp only [Act.put, List.setIfInBounds_toArray, List.set_cons_zero, List.set_cons_succ])))
          intro w4 hb4
          clear f0 f1 f2 f3
          by_cases hx : x2 ≤ x1
          · have HC : Hid (packErr n ps = 230) := hid (packErr_row hlt (rowP_head (by
              unfold headP; rw [HLL.out, HD.out, HK0.out]
              have h1 := HX1.out
              have h2 := HX2.out
              rw [show k - 1 = k' by omega]
              rw [show (((0 : Nat) : Int)) = 0 from rfl] at h1 h2
              rw [h1, h2, show decide (x1 < x2) = false from decide_eq_false (by omega)]; rfl)))
            go_wp2; go_ret
            exact ⟨ret64 HC.out.symm, (n0.trans hb).trans (hb4.mono (by have := hb.size; omega))⟩
          · have HHD : Hid (headP ps k = true) := hid (by
              unfold headP; rw [HLL.out, HD.out, HK0.out]
              have h1 := HX1.out
              have h2 := HX2.out
              rw [show k - 1 = k' by omega]
              rw [show (((0 : Nat) : Int)) = 0 from rfl] at h1 h2
              rw [h1, h2, show decide (x1 < x2) = true from decide_eq_true (by omega)]; rfl)
            have hrow4 := World.rowIs.of_block hrow (hb4.block _ hrow.lt)
            have hb5 := hb.trans (hb4.mono (by have := hb.size; omega))
            clear hrow hb4
            clear d0 r1 e0 hb t0 hle
            go_wp2
            clear hx
            go_loopw [6, 46] (fun a j wq => ∃ l : Nat, l ≤ L ∧ j = .int .i64 l ∧ a = .int .i64 ((accL ps k l).length : Nat) ∧ (List.range l).all (cellP n ps k) = true ∧ wq.rowIs w.heap.size 76 64 (fun v => .bool (decide ((v : Int) ∈ accL ps k l))) ∧ Below w.heap.size w1 wq) (fun _ j _ => L - (intOf j).toNat)
            case atStart => exact ⟨0, by omega, rfl, rfl, rfl, hrow4, hb5⟩
            case round =>
              clear hrow4 hb5
              obtain ⟨l, hl, rfl, rfl, hok2, hrow, hb⟩ := hrel
              have HOK2 := hid hok2
              clear hok2
              by_cases hlt2 : l < L
              · have hlt3 : (l : Int) < (L : Int) := by omega
                have HB2 : Hid (Below w.heap.size w wr) := hid (n0.trans hb)
                have HBB := hid hb
                obtain ⟨_, _, e1, -, q0⟩ := (R1.out.below hb) l (by rw [HLL.out]; exact hlt2)
                injection e1 with e1; injection e1 with e1 e2; subst e1; subst e2
                replace hB1 : b1 < wr.heap.size := by have := hb.size; omega
                generalize hv : gI (rowL ps k) l = v at *
                have HV := hid hv
                have hfr := hrow.frozen
                have HROW := hid hrow
                have hbad : Hid (cellP n ps k l = false → packErr n ps = 230) := hid fun h => packErr_row hlt (rowP_cell (j := l) (by rw [HLL.out]; exact hlt2) h)
                clear hv
                by_cases v1 : v < 0
                · have HC : Hid (packErr n ps = 230) := hid (hbad.out (by unfold cellP; rw [HV.out, show decide (0 ≤ v ∧ v < n) = false from decide_eq_false (by omega)]; rfl))
                  clear hfr hrow
                  go_wp2; go_ret; exact ⟨ret64 HC.out.symm, HB2.out⟩
                by_cases v2 : n ≤ v
                · have HC : Hid (packErr n ps = 230) := hid (hbad.out (by unfold cellP; rw [HV.out, show decide (0 ≤ v ∧ v < n) = false from decide_eq_false (by omega)]; rfl))
                  clear hfr hrow
                  go_wp2; go_ret; exact ⟨ret64 HC.out.symm, HB2.out⟩
                have HIN : Hid (decide (0 ≤ v ∧ v < n) = true) := hid (decide_eq_true (by omega))
                obtain ⟨q, rfl⟩ : ∃ q : Nat, v = (q : Int) := ⟨v.toNat, by omega⟩
                have hq : q < 64 := by omega
                have hq' : (q : Int) < 64 := by omega
                have hcell := hrow.cell hq
                clear hrow
                cases ts : decide ((q : Int) ∈ accL ps k l)
                rotate_left
                · have HC : Hid (packErr n ps = 230) := hid (hbad.out (by unfold cellP; rw [HV.out, ts]; simp))
                  rw [ts] at hcell
                  clear hfr
                  go_wp2; go_ret; exact ⟨ret64 HC.out.symm, HB2.out⟩
                · rw [ts] at hcell
                  have HT := hid ts
                  clear ts
                  have hgood : Hid (cellP n ps k l = true → ∀ W, (wr.setCell ⟨w.heap.size, q, none⟩ (.bool true)) = W → (List.range (l + 1)).all (cellP n ps k) = true ∧ W.rowIs w.heap.size 76 64 (fun v => .bool (decide ((v : Int) ∈ accL ps k (l + 1)))) ∧ Below w.heap.size w1 W) := hid (by
                    rintro h W rfl
                    refine ⟨all_range_succ HOK2.out h, World.rowIs.congr (HROW.out.set q (.bool true)) ?_, HBB.out.setCell (by simp) _⟩
                    intro i hi
                    rw [accL_succ (by rw [HLL.out]; exact hlt2), HV.out]
                    by_cases e : i = q
                    · subst e; simp
                    · simp only [if_neg e]
                      have : ¬ ((i : Int) = (q : Int)) := by omega
                      simp [this])
                  have HLEN : Hid ((accL ps k (l + 1)).length = (accL ps k l).length + 1) := hid (by rw [accL_succ (by rw [HLL.out]; exact hlt2)]; simp)
                  have hacc : (accL ps k l).length ≤ 17592186044416 * k + L := by rw [accL_len ps k l (by rw [HLL.out]; exact hl)]; have := HLE.out; omega
                  generalize (accL ps k l).length = al at *
                  by_cases hl0 : l = 0
                  · have t1 : decide (0 < (l : Int)) = false := decide_eq_false (by omega)
                    have t2 : decide (0 < l) = false := decide_eq_false (by omega)
                    have HG : Hid (cellP n ps k l = true) := hid (by unfold cellP; rw [HV.out, HIN.out, HT.out, show decide (l = 0) = true from decide_eq_true hl0]; rfl)
                    clear hl0
                    go_wp2
                    go_roundw
                    case rel =>
                      obtain ⟨g1, g2, g3⟩ := hgood.out HG.out _ rfl
                      exact ⟨l + 1, by omega, by go_num, by rw [HLEN.out]; go_num, g1, g2, g3⟩
                    case measure => simp [intOf]; omega
                  · obtain ⟨l', hl'⟩ : ∃ l', l = l' + 1 := ⟨l - 1, by omega⟩
                    have t1 : decide (0 < (l : Int)) = true := decide_eq_true (by omega)
                    have t2 : decide (0 < l) = true := decide_eq_true (by omega)
                    have hk1 : (l : Int) - 1 = (l' : Int) := by omega
                    have hk4 : (l' : Int) < (L : Int) := by omega
                    have hk5 : (0 : Int) ≤ (l' : Int) := by omega
                    obtain ⟨_, _, e1, -, q1⟩ := (R1.out.below HBB.out) l' (by rw [HLL.out]; omega)
                    injection e1 with e1; injection e1 with e1 e2; subst e1; subst e2
                    have HPV : Hid (gI (rowL ps k) (l - 1 : Nat) = gI (rowL ps k) l') := hid (by rw [show l - 1 = l' by omega])
                    have HL0 : Hid (decide (l = 0) = false) := hid (decide_eq_false hl0)
                    generalize gI (rowL ps k) (l' : Int) = pv at *
                    have hl8 := hid hl'
                    clear hl' hl0
                    by_cases v3 : (q : Int) ≤ pv
                    · have HC : Hid (packErr n ps = 230) := hid (hbad.out (by unfold cellP; rw [HV.out, HPV.out, HIN.out, HT.out, HL0.out, show decide (pv < (q : Int)) = false from decide_eq_false (by omega)]; rfl))
                      clear hfr
                      go_wp2; go_ret; exact ⟨ret64 HC.out.symm, HB2.out⟩
                    · have HG : Hid (cellP n ps k l = true) := hid (by unfold cellP; rw [HV.out, HPV.out, HIN.out, HT.out, HL0.out, show decide (pv < (q : Int)) = true from decide_eq_true (by omega)]; rfl)
                      go_wp2
                      go_roundw
                      case rel =>
                        obtain ⟨g1, g2, g3⟩ := hgood.out HG.out _ rfl
                        exact ⟨l + 1, by omega, by go_num, by rw [HLEN.out]; go_num, g1, g2, g3⟩
                      case measure => simp [intOf]; omega
              · obtain rfl : l = L := by omega
                have HALL : Hid (rowP n ps k = true) := hid (by unfold rowP; rw [HHD.out, HLL.out, HOK2.out]; rfl)
                have HAR := hid (accL_row hlt)
                rw [HLL.out] at HAR
                rw [HAR.out] at hrow
                rw [HAR.out]
                have hlen5 : (accL ps (k + 1) 0).length = (accL ps k 0).length + l := by rw [← HAR.out, accL_len ps k l (by rw [HLL.out]; exact Nat.le_refl _)]
                have HLEN5 := hid hlen5
                clear hlen5
                have HALL2 : Hid ((List.range (k + 1)).all (rowP n ps) = true) := hid (all_range_succ HOK.out HALL.out)
                generalize hal : (accL ps (k + 1) 0).length = al at *
                go_wp2
                go_roundw
                case rel => exact ⟨k + 1, by omega, by go_num, by rw [hal], by have h1 := HLEN5.out; have h2 := HLE.out; omega, HALL2.out, hrow, hb⟩
                case measure => simp [intOf]; omega
    · obtain rfl : k = ps.length := by omega
      have HE := hid (packErr_ok (ps := ps) ⟨a1, a2⟩ HOK.out)
      rw [← accL_end (ps := ps)] at HE
      generalize (accL ps ps.length 0).length = L at *
      cases e1 : ((L : Int) != n)
      · have HC : Hid (packErr n ps = 0) := hid (by rw [HE.out, if_pos (by simpa using e1)])
        go_wp2; go_ret; exact ⟨ret64 HC.out.symm, n0.trans hb⟩
      · have HC : Hid (packErr n ps = 230) := hid (by rw [HE.out, if_neg (by simpa using e1)])
        go_wp2; go_ret; exact ⟨ret64 HC.out.symm, n0.trans hb⟩
end Go.Proofs.Ytjmmegnonlbdnaa
