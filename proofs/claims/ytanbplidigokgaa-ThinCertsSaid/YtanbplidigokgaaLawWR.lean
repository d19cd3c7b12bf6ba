/-
  gnomonlaw22.WidenRow: the law's own walk.
-/
import Derived.Test.YtanbplidigokgaaRowLaw
import Derived.Test.YtanbplidigokgaaLawWX
namespace Go.Proofs.Ytanbplidigokgaa
open Go.RowKit
attribute [local go_sem ↓] Go.wp_at_zero Go.wp_at_succ

theorem int_info : (Try.prog.info? 3).map (fun i => (i.zero, i.size, i.bytes)) = some (some (.int .i64 0), 1, 8) := by kernel_rfl
theorem run_makeInt (n : Nat) (hn : n ≤ 17592186044416) : ∀ W : World, (Instr.makeSlice 38 (.int .i64 (n : Int)) (.int .i64 (n : Int))).run Try.prog W = .ok (.slice (some ⟨W.heap.size, 0, none⟩) n n) (W.alloc (.cells (zcells n) 3)) := fun W => by
  obtain ⟨i0, hi, hz0, hz1, hz2⟩ := info_parts int_info
  have := run_make (P := Try.prog) W 38 3 i0 _ Try.underlying38 hi hz0 .i64 .i64 (n : Int) (n : Int) (by omega) (Int.le_refl _) (by rw [hz2]; omega) (by omega)
  rw [this, hz1]
  simp only [Int.toNat_natCast, Nat.mul_one]
  rfl
theorem zcells_arr (n : Nat) : zcells n = (i64s (List.replicate n 0)).toArray := by rw [← zcells_list]

/-- Reads as xs, in blocks that have P. -/
def RdP (w : World) (P : Nat → Prop) (A : Option Addr) (xs : List Int) : Prop :=
  ∀ k : Nat, k < xs.length → ∃ b off, A = some ⟨b, off, none⟩ ∧ P b ∧ b < w.heap.size ∧ w.cell? ⟨b, off + k, none⟩ = some (.int .i64 (gI xs k))
section
variable {w w' : World} {P : Nat → Prop} {A : Option Addr} {xs : List Int} {B c : Nat}
theorem RdP.rd (h : RdP w P A xs) : Rd w w.heap.size A xs := fun k hk => by
  obtain ⟨b, off, hA, _, hB, hc⟩ := h k hk
  exact ⟨b, off, hA, hB, hc⟩
theorem RdP.up (h : RdP w P A xs) (hb : Below w.heap.size w w') : RdP w' P A xs := fun k hk => by
  obtain ⟨b, off, hA, hP, hB, hc⟩ := h k hk
  exact ⟨b, off, hA, hP, Nat.lt_of_lt_of_le hB hb.size, (hb.cell (p := ⟨b, off + k, none⟩) hB).trans hc⟩
theorem cell_of_same {b o : Nat} (h : w'.heap[b]? = w.heap[b]?) : w'.cell? ⟨b, o, none⟩ = w.cell? ⟨b, o, none⟩ := by simp [World.cell?, h]
theorem RdP.set (h : RdP w P A xs) {p : Addr} (hp : ¬ P p.block) (u : Value) : RdP (w.setCell p u) P A xs := fun k hk => by
  obtain ⟨b, off, hA, hP, hB, hc⟩ := h k hk
  refine ⟨b, off, hA, hP, by simpa using hB, ?_⟩
  rw [cell_of_same (heap_setCell_other w p b u (fun e => hp (e ▸ hP)))]
  exact hc
theorem RdP.of_rd (h : Rd w B A xs) (hB : B ≤ w.heap.size) (hP : ∀ b, b < B → P b) : RdP w P A xs := fun k hk => by
  obtain ⟨b, off, hA, hB', hc⟩ := h k hk
  exact ⟨b, off, hA, hP b hB', by omega, hc⟩
theorem RdP.of_own {base : Nat} (h : Own w base A c xs) (hP : ∀ b, base ≤ b → P b) : RdP w P A xs := fun k hk => by
  obtain ⟨b, off, hA, hB', hc⟩ := h.rd k hk
  refine ⟨b, off, hA, hP b ?_, hB', hc⟩
  rcases h.form with ⟨h1, _⟩ | ⟨g, h1, h2, _⟩
  · rw [hA] at h1; cases h1
  · rw [hA] at h1
    simp only [Option.some.injEq, Addr.mk.injEq] at h1
    omega
end

/-- A row of octagons, as it came in. -/
def RowRd (w : World) (A : Option Addr) (len : Nat) : Prop :=
  ∀ k : Nat, k < len → ∃ b off n e A' c' m, A = some ⟨b, off, none⟩ ∧ b < w.heap.size ∧ w.cell? ⟨b, off + k * 3, none⟩ = some (.int .i64 n) ∧ w.cell? ⟨b, off + k * 3 + 1, none⟩ = some (.bool e) ∧ w.cell? ⟨b, off + k * 3 + 2, none⟩ = some (.slice A' m.length c') ∧
    Rd w w.heap.size A' m ∧ m.length ≤ 17592186044416 ∧ ∀ i : Nat, gI m i ≤ 9223372036854775807

def Counts (n : Int) (steps : List Int) (L : Nat) (v : Nat → Int) (cn : List Int) : Prop :=
  cn.length = L ∧ ∀ i : Nat, i < L → 0 ≤ gI cn i ∧ gI cn i ≤ cnt (fOf (single n i)) steps (v i)

def RowInv (w : World) (gC : Nat) (n : Int) (steps : List Int) (L : Nat) (mk : List Int) (Ak : Option Addr) (ck : Nat) (cn : List Int) (wr : World) : Prop :=
  Below w.heap.size w wr ∧ Blk wr w.heap.size 24 #[.int .i64 n, .bool false, .slice Ak mk.length ck] ∧ mk.length = L ∧ RdP wr (fun b => b ≠ w.heap.size ∧ b ≠ gC) Ak mk ∧ Blk wr gC 3 (i64s cn).toArray ∧ Counts n steps L (fun i => gI mk i) cn

theorem gI_setR (xs : List Int) (k : Nat) (v : Int) (i : Nat) (hk : k < xs.length) : gI (xs.set k v) i = if i = k then v else gI xs i := by
  unfold gI
  simp only [Int.toNat_natCast, List.getD, List.getElem?_set]
  by_cases h : k = i
  · subst h; simp [hk]
  · rw [if_neg h, if_neg (fun e => h e.symm)]
theorem blk_ints {w : World} {g : Nat} {t : TypeId} {xs : List Int} (h : Blk w g t (i64s xs).toArray) {k : Nat} (hk : k < xs.length) : w.cell? ⟨g, k, none⟩ = some (.int .i64 (gI xs k)) := by
  rw [h.cell]; simpa using i64s_get xs hk
theorem blk_ints_set {w : World} {g : Nat} {t : TypeId} {xs : List Int} (h : Blk w g t (i64s xs).toArray) (k : Nat) (v : Int) : Blk (w.setCell ⟨g, k, none⟩ (.int .i64 v)) g t (i64s (xs.set k v)).toArray := by
  have := h.set_ k (.int .i64 v)
  have e : (i64s (xs.set k v)).toArray = (i64s xs).toArray.setIfInBounds k (.int .i64 v) := by unfold i64s; simp [List.map_set]
  rw [e]; exact this
theorem counts_same {n : Int} {steps : List Int} {L j : Nat} {mk wm cn : List Int} (h : ∀ i : Nat, i < L → 0 ≤ gI cn i ∧ gI cn i ≤ cnt (fOf (single n i)) steps (if i < j then gI wm i else gI mk i)) (he : gI wm j = gI mk j) :
    ∀ i : Nat, i < L → 0 ≤ gI cn i ∧ gI cn i ≤ cnt (fOf (single n i)) steps (if i < j + 1 then gI wm i else gI mk i) := fun i hi => by
  have := h i hi
  by_cases hij : i < j
  · rw [if_pos hij] at this; rw [if_pos (by omega)]; exact this
  · rw [if_neg hij] at this
    by_cases hij' : i < j + 1
    · obtain rfl : i = j := by omega
      rw [if_pos hij', he]; exact this
    · rw [if_neg hij']; exact this
theorem counts_more {n : Int} {steps : List Int} {L j : Nat} {mk wm cn : List Int} (hj : j < cn.length) (h : ∀ i : Nat, i < L → 0 ≤ gI cn i ∧ gI cn i ≤ cnt (fOf (single n i)) steps (if i < j then gI wm i else gI mk i)) (he : cnt (fOf (single n j)) steps (gI mk j) + 1 ≤ cnt (fOf (single n j)) steps (gI wm j)) :
    ∀ i : Nat, i < L → 0 ≤ gI (cn.set j (gI cn j + 1)) i ∧ gI (cn.set j (gI cn j + 1)) i ≤ cnt (fOf (single n i)) steps (if i < j + 1 then gI wm i else gI mk i) := fun i hi => by
  have := h i hi
  rw [gI_setR cn j _ i hj]
  by_cases hij : i < j
  · rw [if_pos hij] at this; rw [if_pos (show i < j + 1 by omega), if_neg (by omega)]; exact this
  · rw [if_neg hij] at this
    by_cases hij' : i < j + 1
    · obtain rfl : i = j := by omega
      rw [if_pos hij', if_pos rfl]; omega
    · rw [if_neg hij', if_neg (by omega)]; exact this

theorem widenO_open {a b : O} {steps : List Int} (h : pairErr a b = 0) (ha : a.e = false) (hb : b.e = false) : widenO a b steps = (⟨a.n, false, cellsF (widenF steps) a.n a.m b.m⟩, 0) := by
  unfold widenO
  rw [if_neg (by simpa using h), if_neg (by simp [ha]), if_neg (by simp [hb])]

set_option maxRecDepth 8000 in
set_option maxHeartbeats 2000000 in
theorem widenRow_walk (a : O) (len : Nat) (steps : List Int) (A R S : Option Addr) (c cr cs : Nat) (w : World) (hx : Rd w w.heap.size A a.m) (hr : RowRd w R len) (hs : Rd w w.heap.size S steps) (hm : a.m.length ≤ 17592186044416) (hml : len ≤ 17592186044416) (hms : steps.length ≤ 17592186044416) :
    Calls Try.prog 4 #[.agg #[.int .i64 a.n, .bool a.e, .slice A a.m.length c], .slice R len cr, .slice S steps.length cs] w fun e w' => e = .returned (.bool true) ∧ Below w.heap.size w w' := by
  obtain ⟨n, e, m⟩ := a
  dsimp only at *
  have hb0 : Below w.heap.size w (w.alloc (Obj.cells #[.int .i64 n, .bool e, .slice A m.length c] 24)) := new1 _ _
  have p0 := Blk.new w 24 #[.int .i64 n, .bool e, .slice A m.length c]
  have hx0 := hx.up hb0
  by_cases hlen : 40 < len ∨ 30 < steps.length ∨ e = true
  · obtain ⟨x0, x1, x2, fx⟩ := octbox p0
    have f1 := later x1
    by_cases h1 : 40 < len
    · have hl : (40 : Int) < (len : Int) := by omega
      clear hlen
      go_enter Try.func4, Try.ntmps4
      go_wp2_with fail
      refine (known22_any _).mono ?_
      rintro e1 w1 ⟨rfl, hb1⟩
      go_wp2
      go_ret
      exact ⟨rfl, bup hb0 hb1⟩
    · have hl : ¬ (40 : Int) < (len : Int) := by omega
      by_cases h2 : 30 < steps.length
      · have hl' : (30 : Int) < (steps.length : Int) := by omega
        clear hlen
        go_enter Try.func4, Try.ntmps4
        go_wp2_with fail
        refine (known22_any _).mono ?_
        rintro e1 w1 ⟨rfl, hb1⟩
        go_wp2
        go_ret
        exact ⟨rfl, bup hb0 hb1⟩
      · have hl' : ¬ (30 : Int) < (steps.length : Int) := by omega
        have he : e = true := by rcases hlen with h | h | h; exact absurd h h1; exact absurd h h2; exact h
        subst he
        clear hlen
        go_enter Try.func4, Try.ntmps4
        go_wp2_with fail
        refine (known22_any _).mono ?_
        rintro e1 w1 ⟨rfl, hb1⟩
        have y1 := f1 w1 hb1
        go_wp2
        go_ret
        exact ⟨rfl, bup hb0 hb1⟩
  · have hl1 : ¬ (40 : Int) < (len : Int) := by omega
    have hl2 : ¬ (30 : Int) < (steps.length : Int) := by omega
    have hl3 : steps.length ≤ 30 := by omega
    have he : e = false := by cases e with | false => rfl | true => exact absurd (.inr (.inr rfl)) hlen
    subst he
    clear hlen
    have hmk := run_makeInt m.length hm
    go_enter Try.func4, Try.ntmps4
    go_wp2_with fail
    refine (known22_any _).mono ?_
    generalize w.alloc (Obj.cells #[.int .i64 n, .bool false, .slice A m.length c] 24) = w0 at *
    rintro e1 w1 ⟨rfl, hb1⟩
    replace hx0 := hx0.up hb1
    replace p0 := p0.later hb1
    replace hb0 := bup hb0 hb1
    clear hb1
    obtain ⟨x0, x1, x2, fx⟩ := octbox p0
    have hlm : (0 : Int) ≤ (m.length : Int) := by omega
    go_wp2_with fail
    have n2 := new1 w1 (.cells (zcells m.length) 3)
    have hI0 : RowInv w w1.heap.size n steps m.length m A c (List.replicate m.length 0) (w1.alloc (.cells (zcells m.length) 3)) := by
      refine ⟨bup hb0 n2, p0.later n2, rfl, RdP.of_rd (hx.below (bup hb0 n2)) (bup hb0 n2).size (fun b hb => ⟨by omega, by have := hb0.size; omega⟩), ?_, by simp, fun i hi => ?_⟩
      · rw [← zcells_arr]; exact Blk.new _ _ _
      · have q : gI (List.replicate m.length (0 : Int)) i = 0 := by simp [gI, List.getD, hi]
        rw [q]
        exact ⟨Int.le_refl _, cnt_nonneg _ _ _⟩
    have hgC : w.heap.size < w1.heap.size := p0.lt
    generalize w1.alloc (.cells (zcells m.length) 3) = w2 at *
    generalize w1.heap.size = gC at *
    clear p0 hb0 hx0 n2 x0 x1 x2 fx hmk hx
    go_loopw [8] (fun i wr => ∃ (k : Nat) (mk : List Int) (Ak : Option Addr) (ck : Nat) (cn : List Int), k ≤ len ∧ i = .int .i64 k ∧ RowInv w gC n steps m.length mk Ak ck cn wr) (fun i _ => len - (intOf i).toNat)
    case atStart => exact ⟨0, m, A, c, _, by omega, rfl, hI0⟩
    case round =>
      clear hI0
      obtain ⟨k, mk, Ak, ck, cn, hk, rfl, hbr, p0, hlm', hxk, hC, hcn⟩ := hrel
      have HLM := hid hlm'; clear hlm'
      by_cases hlt : k < len
      · have hi0 : (0 : Int) ≤ (k : Int) := by omega
        have hi1 : (k : Int) < (len : Int) := by omega
        obtain ⟨bR, oR, bn, be, Ab, cb, bm, rfl, hBR, r0, r1, r2, hbm, hbl, hbi⟩ := hr k hlt
        have hbm0 := hbm
        replace r0 := (hbr.cell (p := ⟨bR, oR + k * 3, none⟩) hBR).trans r0
        replace r1 := (hbr.cell (p := ⟨bR, oR + k * 3 + 1, none⟩) hBR).trans r1
        replace r2 := (hbr.cell (p := ⟨bR, oR + k * 3 + 2, none⟩) hBR).trans r2
        have n3 := new1 wr (.cells #[.int .i64 bn, .bool be, .slice Ab bm.length cb] 24)
        have pb := Blk.new wr 24 #[.int .i64 bn, .bool be, .slice Ab bm.length cb]
        obtain ⟨x0, x1, x2, fx⟩ := octbox (p0.later n3)
        go_wp2_with fail
        have hgC' := hC.lt
        replace p0 := p0.later n3
        replace hxk := hxk.up n3
        replace hC := hC.later n3
        replace hbm := (hbm.up hbr).up n3
        have hs3 := (hs.up hbr).up n3
        replace hbr := bup hbr n3
        have hgb : wr.heap.size < (wr.alloc (.cells #[.int .i64 bn, .bool be, .slice Ab bm.length cb] 24)).heap.size := by simp
        clear n3 x0 x1 x2 fx r0 r1 r2
        have hkm : mk.length ≤ 17592186044416 := by have := HLM.out; omega
        generalize wr.alloc (.cells #[.int .i64 bn, .bool be, .slice Ab bm.length cb] 24) = w3 at *
        generalize wr.heap.size = gb at *
        have hc := widen_any ⟨n, false, mk⟩ ⟨bn, be, bm⟩ steps Ak Ab S ck cb cs w3 hxk.rd hbm hs3 hkm hbl hms
        rw [widenO_err] at hc
        by_cases hp : pairErr ⟨n, false, mk⟩ ⟨bn, be, bm⟩ = 0
        · rw [hp] at hc
          refine hc.mono ?_
          clear hc
          rintro ee w4 ⟨B1, r1, rfl, own4, hb4⟩
          cases be with
          | true =>
            have hhp := hid hp
            clear hp own4
            generalize (widenO ⟨n, false, mk⟩ ⟨bn, true, bm⟩ steps).1 = RR at *
            obtain ⟨y0, y1, y2, fy⟩ := octbox ((pb.later hb4).later (new1 w4 (.cells #[.int .i64 RR.n, .bool RR.e, .slice B1 RR.m.length r1] 24)))
            go_wp2
            go_ret
            exact ⟨rfl, bup (bup hbr hb4) (new1 _ _)⟩
          | false =>
            have hwo := widenO_open (steps := steps) hp rfl rfl
            obtain ⟨k1, k2, k3⟩ := pair_ok hp
            have l1 := (check_ok k1).2.2.2 rfl
            have l2 := (check_ok k2).2.2.2 rfl
            dsimp only at k3 l1 l2
            have hlb : bm.length = mk.length := by subst k3; omega
            rw [hwo] at own4 ⊢
            dsimp only at own4 ⊢
            have hwl : (cellsF (widenF steps) n mk bm).length = mk.length := cellsF_len _ _ _ _
            have hwg : ∀ i : Nat, i < mk.length → gI (cellsF (widenF steps) n mk bm) i = widenF steps (gI mk i) (gI bm i) (single n i) := fun i hi => cellsF_get _ _ _ _ hi
            clear k1 k2 k3 l1 l2 hwo hp
            generalize cellsF (widenF steps) n mk bm = wm at *
            have tw : ((wm.length : Int) != (mk.length : Int)) = false := by rw [bne_eq_false_iff_eq]; omega
            have tb : ((bm.length : Int) != (mk.length : Int)) = false := by rw [bne_eq_false_iff_eq]; omega
            have HWL := hid hwl
            have HLB := hid hlb
            have HWG := hid hwg
            clear hwl hlb hwg
            have pw := Blk.new w4 24 #[.int .i64 n, .bool false, .slice B1 wm.length r1]
            have n5 := new1 w4 (.cells #[.int .i64 n, .bool false, .slice B1 wm.length r1] 24)
            have hs34 := hb4.size
            have hwk : RdP w4 (fun b => b ≠ w.heap.size ∧ b ≠ gC) B1 wm := RdP.of_own own4 (fun b hb => ⟨by omega, by omega⟩)
            replace hwk := hwk.up n5
            replace p0 := (p0.later hb4).later n5
            replace pb := (pb.later hb4).later n5
            replace hxk := (hxk.up hb4).up n5
            replace hC := (hC.later hb4).later n5
            replace hbr := bup (bup hbr hb4) n5
            have hgw : gb < w4.heap.size := by omega
            clear own4 hb4 n5 hs34 hs3
            obtain ⟨x0, x1, x2, fx⟩ := octbox p0
            obtain ⟨y0, y1, y2, fy⟩ := octbox pb
            obtain ⟨z0, z1, z2, fz⟩ := octbox pw
            go_wp2_with fail
            generalize w4.alloc (.cells #[.int .i64 n, .bool false, .slice B1 wm.length r1] 24) = w5 at *
            generalize w4.heap.size = gw at *
            clear x0 x1 x2 fx y0 y1 y2 fy z0 z1 z2 fz
            go_loopw [12] (fun i wi => ∃ (j : Nat) (cn : List Int), j ≤ mk.length ∧ i = .int .i64 j ∧ Below w.heap.size w wi ∧ Blk wi w.heap.size 24 #[.int .i64 n, .bool false, .slice Ak mk.length ck] ∧ Blk wi gb 24 #[.int .i64 bn, .bool false, .slice Ab bm.length cb] ∧ Blk wi gw 24 #[.int .i64 n, .bool false, .slice B1 wm.length r1] ∧ RdP wi (fun b => b ≠ w.heap.size ∧ b ≠ gC) Ak mk ∧ RdP wi (fun b => b ≠ w.heap.size ∧ b ≠ gC) B1 wm ∧ Blk wi gC 3 (i64s cn).toArray ∧ Counts n steps m.length (fun i => if i < j then gI wm i else gI mk i) cn) (fun i _ => mk.length - (intOf i).toNat)
            case atStart => exact ⟨0, cn, by omega, rfl, hbr, p0, pb, pw, hxk, hwk, hC, by simpa using hcn⟩
            case round =>
              clear hbr p0 pb pw hxk hwk hC hcn
              obtain ⟨j, cn, hj, rfl, hbr, p0, pb, pw, hxk, hwk, hC, hcl, hcn⟩ := hrel
              have HCL := hid hcl; clear hcl
              have HCN := hid hcn; clear hcn
              by_cases hlt' : j < mk.length
              · have hi0 : (0 : Int) ≤ (j : Int) := by omega
                have hi1 : (j : Int) < (mk.length : Int) := by omega
                have hi2 : (j : Int) < (wm.length : Int) := by have := HWL.out; omega
                have hi3 : (j : Int) < (bm.length : Int) := by have := HLB.out; omega
                have hi4 : (j : Int) < (m.length : Int) := by have := HLM.out; omega
                have hcj := HCN.out j (by have := HLM.out; omega)
                dsimp only at hcj
                rw [if_neg (by omega)] at hcj
                have hle := cnt_le (fOf (single n j)) steps (gI mk j)
                have hc0 : 0 ≤ gI cn j := hcj.1
                have hc1 : gI cn j ≤ (steps.length : Int) + 1 := by omega
                have hc2 : gI cn j ≤ 31 := by omega
                obtain ⟨v1, v2, v3⟩ := widenF_row (steps := steps) (x := gI mk j) (single n j) (hbi j)
                rw [← HWG.out j hlt'] at v1 v2 v3
                have q1 : decide (gI wm j < gI mk j) = false := by rw [decide_eq_false_iff_not]; omega
                have q2 : decide (gI wm j < gI bm j) = false := by rw [decide_eq_false_iff_not]; omega
                obtain ⟨bk, ok, rfl, _, hBk, hck⟩ := hxk j hlt'
                obtain ⟨bw, ow, rfl, _, hBw, hcw⟩ := hwk j (by have := HWL.out; omega)
                obtain ⟨bb, ob, rfl, hBb, hcb⟩ := (hbm0.below hbr) j (by have := HLB.out; omega)
                obtain ⟨x0, x1, x2, fx⟩ := octbox p0
                obtain ⟨y0, y1, y2, fy⟩ := octbox pb
                obtain ⟨z0, z1, z2, fz⟩ := octbox pw
                have fx2 := later x2
                have fy2 := later y2
                have fz2 := later z2
                have fck := later hck
                have fcw := later hcw
                have fcb := later hcb
                have hjc : j < cn.length := by have := HCL.out; have := HLM.out; omega
                have HLE := hid hle
                have HCJ := hid hcj
                have HKM := hid hkm
                have HBI := hid hbi
                have HBL := hid hbl
                have HV1 := hid v1
                have HV2 := hid v2
                clear hck hcw hcb x0 x1 x2 fx y0 y1 y2 fy z0 z1 fz hle hcj hkm hbi hbl v1 v2
                by_cases hv : gI wm j = gI mk j
                · have tv : (gI wm j != gI mk j) = false := by rw [bne_eq_false_iff_eq]; exact hv
                  have HV := hid hv
                  have q3 : ¬ ((steps.length : Int) + 1 < gI cn j) := by omega
                  clear hv v3
                  go_wp2
                  clear z2
                  refine wp_region_flow 24 (fun W => Below wr.heap.size wr W) (by kernel_rfl) (by kernel_rfl) (Below.refl _ _).drew ?_
                  (repeat (first | (refine Flow.skip (by rfl) ?_; simp only [Act.put, List.setIfInBounds_toArray, List.set_cons_zero, List.set_cons_succ]) | (refine' Flow.take _ (by rfl) (fun W hW R hR => ?_) ?_; rotate_left; (go_simp; (try go_bits); with_reducible exact hR); simp only [Act.put, List.setIfInBounds_toArray, List.set_cons_zero, List.set_cons_succ])))
                  intro w6 hb6
                  go_wp2
                  refine wp_region_flow 11 (fun W => Below wr.heap.size wr W) (by kernel_rfl) (by kernel_rfl) hb6.drew ?_
                  (repeat (first | (refine Flow.skip (by rfl) ?_; simp only [Act.put, List.setIfInBounds_toArray, List.set_cons_zero, List.set_cons_succ]) | (refine' Flow.take _ (by rfl) (fun W hW R hR => ?_) ?_; rotate_left; (go_simp; (try go_bits); with_reducible exact hR); simp only [Act.put, List.setIfInBounds_toArray, List.set_cons_zero, List.set_cons_succ])))
                  intro w7 hb7
                  have c7 := blk_ints (hC.later hb7) hjc
                  go_wp2
                  go_roundw
                  case rel => exact ⟨j + 1, cn, by omega, by go_num, bup hbr hb7, p0.later hb7, pb.later hb7, pw.later hb7, hxk.up hb7, hwk.up hb7, hC.later hb7, HCL.out, counts_same HCN.out HV.out⟩
                  case measure => simp [intOf]; omega
                · have tv : (gI wm j != gI mk j) = true := by rw [bne_iff_ne]; exact hv
                  have HV := hid (v3.resolve_left hv)
                  have hc3 : gI cn j ≤ (steps.length : Int) := by have := HV.out; have := cnt_le (fOf (single n j)) steps (gI wm j); have := HCJ.out; omega
                  have q3 : ¬ ((steps.length : Int) + 1 < gI cn j + 1) := by omega
                  clear hv v3
                  go_wp2
                  clear z2
                  refine wp_region_flow 24 (fun W => Below wr.heap.size wr W) (by kernel_rfl) (by kernel_rfl) (Below.refl _ _).drew ?_
                  (repeat (first | (refine Flow.skip (by rfl) ?_; simp only [Act.put, List.setIfInBounds_toArray, List.set_cons_zero, List.set_cons_succ]) | (refine' Flow.take _ (by rfl) (fun W hW R hR => ?_) ?_; rotate_left; (go_simp; (try go_bits); with_reducible exact hR); simp only [Act.put, List.setIfInBounds_toArray, List.set_cons_zero, List.set_cons_succ])))
                  intro w6 hb6
                  go_wp2
                  refine wp_region_flow 11 (fun W => Below wr.heap.size wr W) (by kernel_rfl) (by kernel_rfl) hb6.drew ?_
                  (repeat (first | (refine Flow.skip (by rfl) ?_; simp only [Act.put, List.setIfInBounds_toArray, List.set_cons_zero, List.set_cons_succ]) | (refine' Flow.take _ (by rfl) (fun W hW R hR => ?_) ?_; rotate_left; (go_simp; (try go_bits); with_reducible exact hR); simp only [Act.put, List.setIfInBounds_toArray, List.set_cons_zero, List.set_cons_succ])))
                  intro w7 hb7
                  have c7 := blk_ints (hC.later hb7) hjc
                  have f7 := (hC.later hb7).fr j
                  have hC7 := blk_ints_set (hC.later hb7) j (gI cn j + 1)
                  have c8 := blk_ints hC7 (k := j) (by rw [List.length_set]; exact hjc)
                  rw [gI_setR cn j _ j hjc, if_pos rfl] at c8
                  go_wp2
                  go_roundw
                  case rel => exact ⟨j + 1, cn.set j (gI cn j + 1), by omega, by go_num, (bup hbr hb7).trans (below1 (by omega) (by have := (bup hbr hb7).size; omega)), (p0.later hb7).far (by simp; omega) _, (pb.later hb7).far (by simp; omega) _, (pw.later hb7).far (by simp; omega) _, (hxk.up hb7).set (by simp) _, (hwk.up hb7).set (by simp) _, hC7, by rw [List.length_set]; exact HCL.out, counts_more hjc HCN.out HV.out⟩
                  case measure => simp [intOf]; omega
              · have hki : ¬ (j : Int) < (wm.length : Int) := by have := HWL.out; omega
                obtain ⟨x0, x1, x2, fx⟩ := octbox p0
                obtain ⟨z0, z1, z2, fz⟩ := octbox pw
                have HJ := hid (show j = mk.length by omega)
                have HKM := hid hkm
                have HBI := hid hbi
                have HBL := hid hbl
                clear hlt' hj hkm hbi hbl
                go_wp2_with fail
                go_roundw
                case rel =>
                  refine ⟨k + 1, wm, B1, r1, cn, by omega, by go_num, hbr.trans (below3 (Nat.le_refl _) hbr.size), p0.set3, by have := HWL.out; have := HLM.out; omega, ((hwk.set (by simp) _).set (by simp) _).set (by simp) _, hC.far3 (by omega), HCL.out, fun i hi => ?_⟩
                  have := HCN.out i hi
                  dsimp only at this
                  rw [if_pos (by have := HLM.out; have := HJ.out; omega)] at this
                  exact this
                case measure => simp [intOf]; omega
        · have tp : (pairErr ⟨n, false, mk⟩ ⟨bn, be, bm⟩ != 0) = true := by simp [hp]
          generalize pairErr ⟨n, false, mk⟩ ⟨bn, be, bm⟩ = P at *
          have hhp := hid hp
          clear hp
          refine hc.mono ?_
          rintro ee w4 ⟨B1, r1, rfl, own3, hb3⟩
          clear own3 hc
          generalize (widenO ⟨n, false, mk⟩ ⟨bn, be, bm⟩ steps).1 = RR at *
          go_wp2
          go_ret
          exact ⟨rfl, bup (bup hbr hb3) (new1 _ _)⟩
      · have hki : ¬ (k : Int) < (len : Int) := by omega
        go_wp2
        go_ret
        exact ⟨rfl, hbr⟩
end Go.Proofs.Ytanbplidigokgaa
