/-
  gnomonref23.Of: of a graph that is one: what it answers: the packs of the labels.
-/
import Derived.Test.YtofmidhkiobldaaPG45
import Derived.Test.YtofmidhkiobldaaRVars
import Derived.Test.YtofmidhkiobldaaRPacks
import Derived.Test.YtofmidhkiobldaaPackOk
namespace Go.Proofs.Ytofmidhkiobldaa
open Go.RowKit
attribute [local go_sem ↓] Go.wp_at_zero Go.wp_at_succ

theorem int_infoO : (Try.prog.info? 3).map (fun i => (i.zero, i.size, i.bytes)) = some (some (.int .i64 0), 1, 8) := by kernel_rfl
/-- The links of an edge, so many of them. -/
def stepJ (L : Nat → Nat) (l : List Int) (m : Nat) : Nat → Nat := ((l.drop 1).take m).foldl (fun L v => joinM L (gI l 0).toNat v.toNat) L
theorem stepJ_zero (L : Nat → Nat) (l : List Int) : stepJ L l 0 = L := by simp [stepJ]
theorem stepJ_succ (L : Nat → Nat) (l : List Int) (m : Nat) (h : m + 1 < l.length) : stepJ L l (m + 1) = joinM (stepJ L l m) (gI l 0).toNat (gI l (m + 1)).toNat := by
  unfold stepJ
  have h' : m < (l.drop 1).length := by simp; omega
  rw [List.take_succ_eq_append_getElem h', List.foldl_append]
  have e : (l.drop 1)[m] = gI l (m + 1) := by
    rw [List.getElem_drop]
    have := gI_get (l := l) (j := m + 1) h
    rw [Int.natCast_add] at this
    simp only [Nat.add_comm 1 m]
    exact this.symm
  rw [e]; rfl
theorem stepJ_full (L : Nat → Nat) (e : Edg) : stepJ L (varsE e) ((varsE e).length - 1) = refE L e := by
  unfold refE stepJ
  change _ = match varsE e with | [] => L | a :: t => List.foldl (fun L (v : Int) => joinM L a.toNat v.toNat) L t
  generalize varsE e = l
  cases l with
  | nil => simp
  | cons a t => simp [gI]
theorem varsE_mem {e : Edg} {N : Nat} (h : VarsIn N e) {x : Int} (hx : x ∈ varsE e) : 0 ≤ x ∧ x < N := by
  unfold varsE trio at hx
  obtain ⟨h1, h2⟩ := List.mem_filter.1 hx
  have h2 := of_decide_eq_true h2
  obtain ⟨a, b, c⟩ := h
  simp only [List.mem_cons, List.not_mem_nil, or_false] at h1
  rcases h1 with rfl | rfl | rfl <;> exact ⟨h2, by assumption⟩
/-- The labels' row, part of it. -/
def rowTo (L : Nat → Nat) (v m : Nat) : List Int := ((List.range m).filter (fun w => decide (v ≤ w ∧ L w = v))).map Int.ofNat
theorem rowTo_start (L : Nat → Nat) (v : Nat) : rowTo L v v = [] := by
  unfold rowTo
  rw [List.map_eq_nil_iff, List.filter_eq_nil_iff]
  intro w hw
  have := List.mem_range.1 hw
  simp; omega
theorem rowTo_succ (L : Nat → Nat) (v m : Nat) (h : v ≤ m) : rowTo L v (m + 1) = rowTo L v m ++ (if L m = v then [(m : Int)] else []) := by
  unfold rowTo
  rw [List.range_succ, List.filter_append, List.map_append]
  congr 1
  by_cases e : L m = v
  · simp [e, h]
  · simp [e]
theorem rowTo_len (L : Nat → Nat) (v m : Nat) : (rowTo L v m).length ≤ m := by
  unfold rowTo
  rw [List.length_map]
  exact Nat.le_trans (List.length_filter_le _ _) (by simp)
def labTo (L : Nat → Nat) (N m : Nat) : List (List Int) := ((List.range m).filter (fun v => decide (L v = v))).map (refRow L N)
theorem labTo_succ (L : Nat → Nat) (N m : Nat) : labTo L N (m + 1) = labTo L N m ++ (if L m = m then [refRow L N m] else []) := by
  unfold labTo
  rw [List.range_succ, List.filter_append, List.map_append]
  congr 1
  by_cases e : L m = m
  · simp [e]
  · simp [e]
theorem labTo_len (L : Nat → Nat) (N m : Nat) : (labTo L N m).length ≤ m := by
  unfold labTo
  rw [List.length_map]
  exact Nat.le_trans (List.length_filter_le _ _) (by simp)
theorem AtInt.OwnR.rdl {w : World} {base cap : Nat} {A : Option Addr} {zs : List AtInt.R1} (h : AtInt.OwnR w base A cap zs) (hle : ∀ z ∈ zs, z.1.length ≤ 64) : RdL w w.heap.size A (zs.map (·.1)) := by
  intro i hi
  have hi' : i < zs.length := by simpa using hi
  obtain ⟨g, rfl, _, hg, hc⟩ := h.cell hi'
  have e : rowL (zs.map (·.1)) i = zs[i].1 := by unfold rowL; simp [hi']
  rw [e]
  have ho := h.own _ (List.getElem_mem hi')
  exact ⟨g, 0, _, _, rfl, hg, by rw [Nat.zero_add]; exact hc, ho.rd, Nat.le_trans (hle _ (List.getElem_mem hi')) (by omega)⟩
/-- A slice of packs. -/
def RowsRes (w : World) (ps : List (List Int)) (e : Ending) (w' : World) : Prop :=
  ∃ A cap, e = .returned (.slice A ps.length cap) ∧ RdL w' w'.heap.size A ps ∧ Below w.heap.size w w'

set_option maxRecDepth 8000 in
set_option maxHeartbeats 8000000 in
theorem rof_any (g : Gr) (V D E : Option Addr) (cv cd ce : Nat) (w : World) (hE : RdE w w.heap.size E g.es) (lv : g.nv ≤ 17592186044416) (t0 : 0 ≤ g.tm) (t1 : g.tm ≤ 64) (le : g.es.length ≤ 8192) (N : Nat) (hN : g.all = (N : Int)) (hN64 : N ≤ 64) (hv : ∀ e ∈ g.es, VarsIn N e) :
    Calls Try.prog 10 #[grV g V D E cv cd ce] w (RowsRes w (refPacks (g.es.foldl refE (fun x => x)) N)) := by
  have n0 := new1 w (.cells #[.slice V g.nv cv, .int .i64 g.tm, .slice D g.sz.length cd, .int .i64 g.pts, .int .i64 g.ex, .slice E g.es.length ce] 26)
  have k0 := Blk.new w 26 #[.slice V g.nv cv, .int .i64 g.tm, .slice D g.sz.length cd, .int .i64 g.pts, .int .i64 g.ex, .slice E g.es.length ce]
  replace hE := hE.up n0
  have HC := hid (all_any g V D E cv cd ce (w.alloc (.cells #[.slice V g.nv cv, .int .i64 g.tm, .slice D g.sz.length cd, .int .i64 g.pts, .int .i64 g.ex, .slice E g.es.length ce] 26)) t0 t1 lv)
  unfold grV at *
  obtain ⟨x0, x1, x2, x3, x4, x5, fx⟩ := blk6 k0
  go_enter Try.func10, Try.ntmps10
  go_wp2_with fail
  refine HC.out.mono ?_
  clear HC x0 x1 x2 x3 x4 x5 fx
  generalize w.alloc (.cells #[.slice V g.nv cv, .int .i64 g.tm, .slice D g.sz.length cd, .int .i64 g.pts, .int .i64 g.ex, .slice E g.es.length ce] 26) = w0 at *
  rintro e1 w1 ⟨rfl, hb1⟩
  replace k0 := k0.later hb1
  replace hE := hE.up hb1
  replace n0 := bup n0 hb1
  clear hb1
  have hmk := run_make_row' (P := Try.prog) 48 3 (.int .i64 0) 8 Try.underlying48 int_infoO rfl .i64 .i64 N (by omega) (by omega)
  rw [hN]
  have n9 := new1 w1 (.cells (madeCells #[.int .i64 0] N) 3)
  have r9 := World.rowIs_made w1 (.int .i64 0) N 3
  go_wp2
  clear hmk
  have hs9 : Hid ((w1.alloc (.cells (madeCells #[.int .i64 0] N) 3)).heap.size = w1.heap.size + 1) := hid (by simp)
  generalize w1.alloc (.cells (madeCells #[.int .i64 0] N) 3) = w9 at *
  go_loopw [5] (fun i wr => ∃ k : Nat, k ≤ N ∧ i = .int .i64 k ∧ wr.rowIs w1.heap.size 3 N (fun v => .int .i64 ((if v < k then v else 0 : Nat) : Int)) ∧ Below w1.heap.size w9 wr) (fun i _ => N - (intOf i).toNat)
  case atStart => exact ⟨0, by omega, rfl, r9.congr (fun _ _ => by simp), Below.refl _ _⟩
  case round =>
    clear r9
    obtain ⟨k, hk, rfl, hrow, hb⟩ := hrel
    by_cases hlt : k < N
    · have hlt' : (k : Int) < (N : Int) := by omega
      have hcell := hrow.cell hlt
      have hfr := hrow.frozen
      have HROW := hid hrow
      clear hrow
      simp only [Nat.lt_irrefl, if_false] at hcell
      go_wp2
      go_roundw
      case rel =>
        refine ⟨k + 1, by omega, by go_num, World.rowIs.congr (HROW.out.set k (.int .i64 (k : Nat))) ?_, hb.setCell (by simp) _⟩
        intro i hi
        by_cases e : i = k
        · subst e; simp
        · rw [if_neg e]
          by_cases e2 : i < k
          · rw [if_pos e2, if_pos (by omega)]
          · rw [if_neg e2, if_neg (by omega)]
      case measure => simp [intOf]; omega
    · obtain rfl : k = N := by omega
      have hw19 : Below w1.heap.size w1 wr := n9.trans hb
      have HLT := hid (show ∀ L : Nat → Nat, True from fun _ => trivial)
      have hrow0 : wr.rowIs w1.heap.size 3 k (fun v => .int .i64 (((g.es.take 0).foldl refE (fun x => x)) v : Nat)) := hrow.congr (fun v hv => by simp [hv])
      clear hrow hb n9
      have K0 := hid k0
      have HE := hid hE
      have HV := hid hv
      have hk0 := k0.lt
      clear k0 hE hv
      go_wp2
      generalize wr = w2 at *
      go_loopw [6] (fun i wr => ∃ j : Nat, j ≤ g.es.length ∧ i = .int .i64 j ∧ wr.rowIs w1.heap.size 3 k (fun v => .int .i64 (((g.es.take j).foldl refE (fun x => x)) v : Nat)) ∧ Below w1.heap.size w1 wr) (fun i _ => g.es.length - (intOf i).toNat)
      case atStart => exact ⟨0, by omega, rfl, hrow0, hw19⟩
      case round =>
        clear hrow0 hw19
        obtain ⟨j, hj, rfl, hrow, hb⟩ := hrel
        have k0 := K0.out.later hb
        have x5 := k0.cell 5
        by_cases hlt : j < g.es.length
        · have hlt' : (j : Int) < (g.es.length : Int) := by omega
          obtain ⟨x, hx⟩ : ∃ x, g.es[j] = x := ⟨_, rfl⟩
          have HVX := hid (hx ▸ HV.out _ (List.getElem_mem hlt))
          have HL2 : Hid ((g.es.take (j + 1)).foldl refE (fun x => x) = refE ((g.es.take j).foldl refE (fun x => x)) x) := hid (by rw [List.take_succ_eq_append_getElem hlt, List.foldl_append, hx]; rfl)
          obtain ⟨b, off, rfl, hB, p0, p1, p2, p3, p4, p5, p6, p7, p8, p9⟩ := (HE.out.up hb).get hlt hx
          clear hx
          generalize (g.es.take j).foldl refE (fun x => x) = L at *
          have HB := hid hb
          have HROW := hid hrow
          have hgin := hrow.lt
          clear hb hrow k0
          go_wp2_with (go_at_call 33; refine (rvars_any x wr).mono ?_; rintro e5 w5 ⟨A5, c5, rfl, own5, hb5⟩)
          have HM : Hid (∀ m : Nat, m < (varsE x).length → 0 ≤ gI (varsE x) m ∧ gI (varsE x) m < k) := hid fun m hm => by
            rw [gI_get hm]; exact varsE_mem HVX.out (List.getElem_mem hm)
          have HF := hid (stepJ_full L x)
          have hl3 : (varsE x).length ≤ 3 := List.length_filter_le _ _
          generalize varsE x = l at *
          have hb59 : Below w1.heap.size w1 w5 := HB.out.trans (hb5.mono HB.out.size)
          have hrow5 := HROW.out.of_block (hb5.block _ hgin)
          clear hb5 p0 p1 p2 p3 p4 p5 p6 p7 p8 p9 x5
          have hgin5 : w1.heap.size < wr.heap.size := hgin
          generalize wr.heap.size = base at *
          go_wp2
          go_loopw [8] (fun i wr => ∃ m M : Nat, M = m + 1 ∧ (M ≤ l.length ∨ m = 0) ∧ i = .int .i64 (M : Int) ∧ wr.rowIs w1.heap.size 3 k (fun v => .int .i64 (stepJ L l m v : Nat)) ∧ AtInt.Own wr base A5 c5 l ∧ Below w1.heap.size w1 wr) (fun i _ => 3 - (intOf i).toNat)
          case atStart => exact ⟨0, 1, rfl, .inr rfl, rfl, by rw [stepJ_zero]; exact hrow5, own5, hb59⟩
          case round =>
            clear hrow5 own5 hb59 HB HROW
            obtain ⟨m, M, hM, hm, rfl, hrow, own, hb⟩ := hrel
            by_cases hlt2 : M < l.length
            · have hlt3 : (M : Int) < (l.length : Int) := by omega
              obtain ⟨c0a, c0b⟩ := HM.out 0 (by omega)
              obtain ⟨c1a, c1b⟩ := HM.out M hlt2
              have HS := hid (stepJ_succ L l m (by omega))
              obtain ⟨b2, o2, rfl, hB2, q0⟩ := own.rd 0 (by omega)
              obtain ⟨b3, o3, e3, _, q1⟩ := own.rd M hlt2
              injection e3 with e3; injection e3 with e1 e2; subst e1; subst e2
              rw [Nat.add_zero] at q0
              have hM1 : Hid (gI l ((m : Int) + 1) = gI l (M : Int)) := hid (by rw [hM]; rfl)
              generalize hy0 : gI l ((0 : Nat) : Int) = y0 at *
              generalize hy1 : gI l (M : Int) = y1 at *
              obtain ⟨u0, rfl⟩ : ∃ u : Nat, y0 = (u : Int) := ⟨y0.toNat, by omega⟩
              obtain ⟨u1, rfl⟩ : ∃ u : Nat, y1 = (u : Int) := ⟨y1.toNat, by omega⟩
              have hu0 : u0 < k := by omega
              have hu1 : u1 < k := by omega
              have hu0' : (u0 : Int) < (k : Int) := by omega
              have hu1' : (u1 : Int) < (k : Int) := by omega
              have hl0' : (0 : Int) < (l.length : Int) := by omega
              have hl0 : 0 < l.length := by omega
              have HS2 : Hid (stepJ L l (m + 1) = joinM (stepJ L l m) u0 u1) := hid (by
                have := HS.out
                rw [hM1.out] at this
                exact this)
              have HMM := hid hM
              clear hM1 hM hm c0a c0b c1a c1b
              clear hy0 hy1 HS
              have q0 := later q0
              have q1 := later q1
              have r0 := later (hrow.cell hu0)
              have r1 := later (hrow.cell hu1)
              have HROW := hid hrow
              have HOWN := hid own
              have HB := hid hb
              clear hrow own hb
              generalize stepJ L l m = S at *
              go_upto_region 14 with fail
              refine wp_region_flowX 29 (fun W => Below wr.heap.size wr W) (by kernel_rfl) (by kernel_rfl) (Below.refl _ _).drew ?_
              (repeat (first | (refine Flow.skip (by rfl) ?_; simp only [Act.put, List.setIfInBounds_toArray, List.set_cons_zero, List.set_cons_succ]) | (refine' Flow.take _ (by rfl) (fun W hW R hR => ?_) ?_; rotate_left; (go_simp; (try go_bits); with_reducible exact hR); simp only [Act.put, List.setIfInBounds_toArray, List.set_cons_zero, List.set_cons_succ])))
              intro w6 hb6
              obtain ⟨a, ha⟩ : ∃ a : Nat, a = min (S u0) (S u1) := ⟨_, rfl⟩
              obtain ⟨d, hd⟩ : ∃ d : Nat, d = max (S u0) (S u1) := ⟨_, rfl⟩
              have HJ : Hid (joinM S u0 u1 = fun v => if S v = d then a else S v) := hid (by rw [ha, hd]; rfl)
              rw [show min ((S u0 : Nat) : Int) ((S u1 : Nat) : Int) = (a : Int) by omega, show max ((S u0 : Nat) : Int) ((S u1 : Nat) : Int) = (d : Int) by omega]
              clear ha hd q0 q1 r0 r1
              have hrow6 := HROW.out.of_block (hb6.block _ HROW.out.lt)
              have own6 := HOWN.out.below hb6
              have hb16 : Below w1.heap.size w1 w6 := HB.out.trans (hb6.mono HB.out.size)
              clear HROW HOWN HB hb6
              go_wp2
              go_loopw [11] (fun i wr => ∃ t : Nat, t ≤ k ∧ i = .int .i64 (t : Int) ∧ wr.rowIs w1.heap.size 3 k (fun v => .int .i64 ((if v < t ∧ S v = d then a else S v : Nat) : Int)) ∧ AtInt.Own wr base (some ⟨b2, o2, none⟩) c5 l ∧ Below w1.heap.size w1 wr) (fun i _ => k - (intOf i).toNat)
              case atStart => exact ⟨0, by omega, rfl, hrow6.congr (fun v hv => by simp), own6, hb16⟩
              case round =>
                clear hrow6 own6 hb16
                obtain ⟨t, ht, rfl, hrow, own, hb⟩ := hrel
                by_cases hlt5 : t < k
                · have hlt6 : (t : Int) < (k : Int) := by omega
                  have hcell := hrow.cell hlt5
                  have hfr := hrow.frozen
                  have HROW := hid hrow
                  simp only [Nat.lt_irrefl, false_and, if_false] at hcell
                  have hgl := hrow.lt
                  clear hrow
                  by_cases hsd : S t = d
                  · have hsd' : ((S t : Nat) : Int) = (d : Int) := by omega
                    have hsq : (((S t : Nat) : Int) == (d : Int)) = true := by rw [beq_iff_eq]; exact hsd'
                    rw [hsd'] at hcell
                    have HSD := hid hsd
                    clear hsd hsd' hsq
                    go_wp2
                    go_roundw
                    case rel =>
                      refine ⟨t + 1, by omega, by go_num, World.rowIs.congr (HROW.out.set t (.int .i64 (a : Nat))) ?_, own.setFar (by simp; omega) _, hb.setCell (by simp) _⟩
                      intro i hi
                      by_cases e : i = t
                      · subst e; simp [HSD.out]
                      · rw [if_neg e]
                        by_cases e2 : i < t
                        · simp [e2, show i < t + 1 by omega]
                        · simp [e2, show ¬ i < t + 1 by omega]
                    case measure => simp [intOf]; omega
                  · have hsq : (((S t : Nat) : Int) == (d : Int)) = false := by rw [beq_eq_false_iff_ne]; omega
                    have HSD := hid hsd
                    clear hsd
                    go_wp2
                    go_roundw
                    case rel =>
                      refine ⟨t + 1, by omega, by go_num, HROW.out.congr ?_, own, hb⟩
                      intro i hi
                      by_cases e : i = t
                      · subst e; simp [HSD.out]
                      · by_cases e2 : i < t
                        · simp [e2, show i < t + 1 by omega]
                        · simp [e2, show ¬ i < t + 1 by omega]
                    case measure => simp [intOf]; omega
                · obtain rfl : t = k := by omega
                  have hrow2 : wr.rowIs w1.heap.size 3 t (fun v => .int .i64 (stepJ L l (m + 1) v : Nat)) := hrow.congr (fun v hv => by rw [HS2.out, HJ.out]; simp [hv])
                  clear hrow
                  have HMM2 := HMM
                  go_wp2
                  go_roundw
                  case rel => exact ⟨m + 1, M + 1, by have := HMM.out; omega, .inl (by omega), by go_num, hrow2, own, hb⟩
                  case measure => simp [intOf]; omega
            · have hfin : stepJ L l m = refE L x := by
                rw [← HF.out]
                congr 1
                rcases hm with h | h <;> omega
              rw [hfin] at hrow
              clear hfin
              go_wp2
              go_roundw
              case rel => exact ⟨j + 1, by omega, by go_num, by rw [HL2.out]; exact hrow, hb⟩
              case measure => simp [intOf]; omega
        · obtain rfl : j = g.es.length := by omega
          have HG : Hid (g.es.foldl refE (fun x => x) = (g.es.take g.es.length).foldl refE (fun x => x)) := hid (by rw [List.take_length])
          generalize (g.es.take g.es.length).foldl refE (fun x => x) = L at *
          have hn0 : Below w.heap.size w wr := bup n0 hb
          have hrow3 := hrow
          have hg3 := hrow.lt
          clear hrow hb k0
          go_wp2
          clear x5
          generalize wr = w3 at *
          go_loopw [12, 13] (fun out i wr => ∃ (v : Nat) (A : Option Addr) (c : Nat) (zs : List AtInt.R1), v ≤ k ∧ i = .int .i64 (v : Int) ∧ out = .slice A zs.length c ∧ Hid (zs.map (·.1) = labTo L k v) ∧ AtInt.OwnR wr w3.heap.size A c zs ∧ Below w3.heap.size w3 wr) (fun _ i _ => k - (intOf i).toNat)
          case atStart => exact ⟨0, none, 0, [], by omega, rfl, rfl, hid (by simp [labTo]), AtInt.OwnR.nil _ _, Below.refl _ _⟩
          case round =>
            obtain ⟨v, A, c, zs, hv, rfl, rfl, hzs, own, hb⟩ := hrel
            have hrow := hrow3.of_block (hb.block _ hg3)
            by_cases hlt : v < k
            · have hlt2 : (v : Int) < (k : Int) := by omega
              have hcell := hrow.cell hlt
              have HS := hid (labTo_succ L k v)
              by_cases hlv : L v = v
              · have hsq : (((L v : Nat) : Int) != (v : Int)) = false := by simp [hlv]
                rw [hlv] at hcell hsq
                have HS2 : Hid (labTo L k (v + 1) = labTo L k v ++ [refRow L k v]) := hid (by rw [HS.out, if_pos hlv])
                have HZL : Hid (zs.length ≤ v) := hid (by
                  have := congrArg List.length hzs.out
                  rw [List.length_map] at this
                  rw [this]; exact labTo_len L k v)
                have HROW := hid hrow
                have HOWN := hid own
                have HB := hid hb
                have hgw := hrow.lt
                clear hlv hrow HS hb own
                go_wp2
                generalize wr = w4 at *
                go_loopw [14, 15] (fun l i wr => ∃ (m : Nat) (A1 : Option Addr) (c1 : Nat), v ≤ m ∧ m ≤ k ∧ i = .int .i64 (m : Int) ∧ l = .slice A1 (rowTo L v m).length c1 ∧ AtInt.Own wr w4.heap.size A1 c1 (rowTo L v m) ∧ Below w4.heap.size w4 wr) (fun _ i _ => k - (intOf i).toNat)
                case atStart => exact ⟨v, none, 0, by omega, by omega, rfl, by rw [rowTo_start]; rfl, by rw [rowTo_start]; exact World.ownsRow_nil _ _ _ _, Below.refl _ _⟩
                case round =>
                  clear hcell
                  obtain ⟨m, A1, c1, hvm, hmk, rfl, rfl, ownl, hb⟩ := hrel
                  have hrow := HROW.out.of_block (hb.block _ hgw)
                  have hle := rowTo_len L v m
                  by_cases hlt3 : m < k
                  · have hlt4 : (m : Int) < (k : Int) := by omega
                    have hcell := hrow.cell hlt3
                    have HR := hid (rowTo_succ L v m hvm)
                    clear hrow
                    by_cases hlm : L m = v
                    · have HR2 : Hid (rowTo L v (m + 1) = rowTo L v m ++ [(m : Int)]) := hid (by rw [HR.out, if_pos hlm])
                      rw [hlm] at hcell
                      clear hlm HR
                      generalize rowTo L v m = r at *
                      have k1 := Blk.new wr 3 #[.int .i64 (m : Int)]
                      have n1 := new1 wr (.cells #[.int .i64 (m : Int)] 3)
                      have oo := hid (ownl.below n1)
                      have rr := hid (hb.trans (n1.mono hb.size))
                      clear ownl hb
                      go_wp2_with (at_builtin; go_loud (refine AtInt.wpList_append_one _ _ _ rfl rfl Try.underlying48 w4.heap.size A1 c1 r rfl oo.out wr.heap.size (m : Int) (r ++ [(m : Int)]) rfl k1 rfl (by simp; omega) rr.out.size ?_); intro A2 c2 w7 own7 hb7)
                      go_roundw
                      case rel => exact ⟨m + 1, A2, c2, by omega, by omega, by go_num, by rw [HR2.out]; simp, by rw [HR2.out]; exact own7, rr.out.trans hb7⟩
                      case measure => simp [intOf]; omega
                    · have HR2 : Hid (rowTo L v (m + 1) = rowTo L v m) := hid (by rw [HR.out, if_neg hlm]; simp)
                      have hsq : (((L m : Nat) : Int) == (v : Int)) = false := by rw [beq_eq_false_iff_ne]; omega
                      clear hlm HR
                      go_wp2
                      go_roundw
                      case rel => exact ⟨m + 1, A1, c1, by omega, by omega, by go_num, by rw [HR2.out], by rw [HR2.out]; exact ownl, hb⟩
                      case measure => simp [intOf]; omega
                  · obtain rfl : m = k := by omega
                    have HRR : Hid (rowTo L v m = refRow L m v) := hid rfl
                    generalize rowTo L v m = r at *
                    have k1 := Blk.new wr 48 #[.slice A1 r.length c1]
                    have n1 := new1 wr (.cells #[.slice A1 r.length c1] 48)
                    have oo := hid ((HOWN.out.below hb).below n1)
                    have ol := hid ((ownl.below n1).less HB.out.size)
                    have rr := hid (HB.out.trans ((hb.trans (n1.mono hb.size)).mono HB.out.size))
                    have hrl : r.length ≤ 64 := by omega
                    have hzl := HZL.out
                    clear ownl hb hrow
                    go_wp2_with (at_builtin; go_loud (refine AtInt.wpList_append_row _ _ rfl rfl w3.heap.size A c zs (r, A1, c1) rfl oo.out wr.heap.size rfl k1 ol.out (by omega) rr.out.size ?_); intro A2 c2 w7 own7 hb7)
                    go_roundw
                    case rel => exact ⟨v + 1, A2, c2, zs ++ [(r, A1, c1)], by omega, by go_num, by simp, hid (by rw [HS2.out, List.map_append, hzs.out, HRR.out]; rfl), own7, rr.out.trans hb7⟩
                    case measure => simp [intOf]; omega
              · have HS2 : Hid (labTo L k (v + 1) = labTo L k v) := hid (by rw [HS.out, if_neg hlv]; simp)
                have hsq : (((L v : Nat) : Int) != (v : Int)) = true := by rw [bne_iff_ne]; omega
                clear hlv HS
                go_wp2
                go_roundw
                case rel => exact ⟨v + 1, A, c, zs, by omega, by go_num, rfl, by rw [HS2.out]; exact hzs, own, hb⟩
                case measure => simp [intOf]; omega
            · obtain rfl : v = k := by omega
              have HZ : Hid (zs.map (·.1) = refPacks (g.es.foldl refE (fun x => x)) v) := hid (by rw [hzs.out, HG.out]; rfl)
              go_wp2
              go_ret
              rw [← HZ.out]
              refine ⟨A, c, by rw [List.length_map]; rfl, own.rdl ?_, hn0.trans (hb.mono hn0.size)⟩
              intro z hz
              have : z.1 ∈ labTo L v v := by rw [← hzs.out]; exact List.mem_map_of_mem hz
              unfold labTo at this
              obtain ⟨u, _, hu⟩ := List.mem_map.1 this
              rw [← hu]
              exact Nat.le_trans (rowTo_len L u v) hN64
end Go.Proofs.Ytofmidhkiobldaa
