/-
  pack.Cut: what it answers: cutAns.
-/
import Derived.Test.YtjmmegnonlbdnaaBPP20
import Derived.Test.YtjmmegnonlbdnaaCloseOk
namespace Go.Proofs.Ytjmmegnonlbdnaa
open Go.RowKit
attribute [local go_sem ↓] Go.wp_at_zero Go.wp_at_succ

theorem ints64_start (w : World) : (w.alloc (.cells #[.int .i64 0, .int .i64 0, .int .i64 0, .int .i64 0, .int .i64 0, .int .i64 0, .int .i64 0, .int .i64 0, .int .i64 0, .int .i64 0, .int .i64 0, .int .i64 0, .int .i64 0, .int .i64 0, .int .i64 0, .int .i64 0, .int .i64 0, .int .i64 0, .int .i64 0, .int .i64 0, .int .i64 0, .int .i64 0, .int .i64 0, .int .i64 0, .int .i64 0, .int .i64 0, .int .i64 0, .int .i64 0, .int .i64 0, .int .i64 0, .int .i64 0, .int .i64 0, .int .i64 0, .int .i64 0, .int .i64 0, .int .i64 0, .int .i64 0, .int .i64 0, .int .i64 0, .int .i64 0, .int .i64 0, .int .i64 0, .int .i64 0, .int .i64 0, .int .i64 0, .int .i64 0, .int .i64 0, .int .i64 0, .int .i64 0, .int .i64 0, .int .i64 0, .int .i64 0, .int .i64 0, .int .i64 0, .int .i64 0, .int .i64 0, .int .i64 0, .int .i64 0, .int .i64 0, .int .i64 0, .int .i64 0, .int .i64 0, .int .i64 0, .int .i64 0] 58)).rowIs w.heap.size 58 64 (fun _ => .int .i64 0) :=
  World.rowIs_alloc w (Array.replicate 64 (Value.int .i64 0)) 58 (fun _ => .int .i64 0) (fun i hi => by simp at hi; simp [hi])
/-- An octagon of one's own, and a number. -/
def CutRes (w : World) (o : O) (er : Int) (e : Ending) (w' : World) : Prop := ∃ A1 c1, e = .returned (.tuple #[.agg #[.int .i64 o.n, .bool o.e, .slice A1 o.m.length c1], .int .i64 er]) ∧ Own w' w.heap.size A1 c1 o.m ∧ Below w.heap.size w w'

set_option maxRecDepth 8000 in
set_option maxHeartbeats 8000000 in
theorem pcut_any (o : O) (ps : List (List Int)) (A P : Option Addr) (c pc : Nat) (w : World) (hx : Rd w w.heap.size A o.m) (hm : o.m.length ≤ 17592186044416) (hr : RdL w w.heap.size P ps) (hl : ps.length ≤ 1000) :
    Calls Try.prog 14 #[.agg #[.int .i64 o.n, .bool o.e, .slice A o.m.length c], .slice P ps.length pc] w (CutRes w (cutAns o ps) (cutErr o ps)) := by
  have hb0 : Below w.heap.size w ((w.alloc (Obj.cells #[.int .i64 o.n, .bool o.e, .slice A o.m.length c] 39)).alloc (Obj.cells #[.int .i64 0, .bool false, .slice none 0 0] 39)) := ((Below.refl _ _).alloc (Nat.le_refl _) _).alloc (by simp) _
  obtain ⟨p0, p1⟩ := blk_two (w := w) (Below.refl _ ((w.alloc (Obj.cells #[.int .i64 o.n, .bool o.e, .slice A o.m.length c] 39)).alloc (Obj.cells #[.int .i64 0, .bool false, .slice none 0 0] 39)))
  have HC := hid (check_any o A c _ (hx.up hb0) (by omega))
  obtain ⟨x0, x1, x2, fx⟩ := octbox p0
  go_enter Try.func14, Try.ntmps14
  go_wp2_with fail
  refine HC.out.mono ?_
  clear HC x0 x1 x2 fx
  generalize (w.alloc (Obj.cells #[.int .i64 o.n, .bool o.e, .slice A o.m.length c] 39)).alloc (Obj.cells #[.int .i64 0, .bool false, .slice none 0 0] 39) = w0 at *
  rintro e1 w1 ⟨rfl, hb1⟩
  replace p0 := p0.later hb1
  replace p1 := p1.later hb1
  replace hb0 := bup hb0 hb1
  clear hb1
  obtain ⟨x0, x1, x2, fx⟩ := octbox p0
  obtain ⟨z0, z1, z2, fz⟩ := octbox p1
  by_cases hk : check o = 0
  rotate_left
  · have t : (check o != 0) = true := by simpa using hk
    have HA : Hid (cutErr o ps = check o ∧ cutAns o ps = ⟨0, false, []⟩) := hid (by
      have h1 : cutErr o ps = check o := by unfold cutErr; rw [if_pos hk]
      exact ⟨h1, by unfold cutAns; rw [h1, if_neg hk]⟩)
    clear hk
    go_wp2
    have q1 := p1.set3 (v0 := .int .i64 0) (v1 := .bool false) (v2 := .slice none 0 0)
    obtain ⟨y0, y1, y2, -⟩ := octbox q1
    refine bodyPost_ret (v := .tuple #[.agg #[.int .i64 0, .bool false, .slice none 0 0], .int .i64 (check o)]) (by simp [results, Try.results14, go_sem, y0, y1, y2]) rfl ?_
    rw [HA.out.1, HA.out.2]
    exact ⟨none, 0, rfl, own_nil _ _, hb0.trans (below3 (by omega) hb0.size)⟩
  · have t : (check o != 0) = false := by simpa using hk
    have HCK := hid hk
    have HPC := hid (pcheck_any o.n ps P pc w1 (hr.up hb0) hl)
    clear hk
    go_wp2_with fail
    refine HPC.out.mono ?_
    clear HPC x0 x1 x2 fx z0 z1 z2 fz
    rintro e2 w2 ⟨rfl, hb2⟩
    replace p0 := p0.later hb2
    replace p1 := p1.later hb2
    replace hb0 := bup hb0 hb2
    clear hb2
    obtain ⟨x0, x1, x2, fx⟩ := octbox p0
    obtain ⟨z0, z1, z2, fz⟩ := octbox p1
    by_cases hp : packErr o.n ps = 0
    rotate_left
    · have t' : (packErr o.n ps != 0) = true := by simpa using hp
      have HA : Hid (cutErr o ps = packErr o.n ps ∧ cutAns o ps = ⟨0, false, []⟩) := hid (by
        have h1 : cutErr o ps = packErr o.n ps := by unfold cutErr; rw [if_neg (by rw [HCK.out]; simp)]
        exact ⟨h1, by unfold cutAns; rw [h1, if_neg hp]⟩)
      clear hp
      go_wp2
      have q1 := p1.set3 (v0 := .int .i64 0) (v1 := .bool false) (v2 := .slice none 0 0)
      obtain ⟨y0, y1, y2, -⟩ := octbox q1
      refine bodyPost_ret (v := .tuple #[.agg #[.int .i64 0, .bool false, .slice none 0 0], .int .i64 (packErr o.n ps)]) (by simp [results, Try.results14, go_sem, y0, y1, y2]) rfl ?_
      rw [HA.out.1, HA.out.2]
      exact ⟨none, 0, rfl, own_nil _ _, hb0.trans (below3 (by omega) hb0.size)⟩
    · have t' : (packErr o.n ps != 0) = false := by simpa using hp
      have HA : Hid (cutErr o ps = 0 ∧ cutAns o ps = cutO o ps) := hid (by
        have h1 : cutErr o ps = 0 := by unfold cutErr; rw [if_neg (by rw [HCK.out]; simp), hp]
        exact ⟨h1, by unfold cutAns; rw [if_pos h1]⟩)
      have HIN := hid (packErr_in hp)
      have HCL := hid (close_all o A c w2 (hx.up hb0) hm)
      rw [closedO_ok HCK.out, HCK.out] at HCL
      clear hp
      go_wp2_with fail
      refine HCL.out.mono ?_
      clear HCL x0 x1 x2 fx z0 z1 z2 fz
      rintro e3 w3 ⟨A3, c3, s3, rfl, own3, hb3⟩
      have hcn := closeO_n o
      have HLE : Hid ((closeO o).m.length ≤ 17592186044416) := hid (Nat.le_trans closeO_m_le hm)
      have HCO : Hid (cutO o ps = if (closeO o).e = true then closeO o else ⟨o.n, false, cutK (2 * o.n).toNat (ofRows ps ps.length) (closeO o).m ((2 * o.n).toNat * (2 * o.n).toNat)⟩) := hid rfl
      have HLN : Hid ((closeO o).e = false → (closeO o).m.length = (2 * o.n).toNat * (2 * o.n).toNat) := hid (fun he => by
        obtain ⟨h1, h2⟩ := closeO_len HCK.out he
        obtain ⟨n0, n1, _, h4⟩ := check_ok HCK.out
        rw [h1]
        obtain ⟨on, oe, om⟩ := o
        dsimp only at h2 n0 n1 ⊢
        subst h2
        exact (cells_of (N := (2 * on).toNat) (by omega) HCK.out).len)
      have hpw := p1.lt
      generalize closeO o = co at *
      obtain ⟨cn, cee, cm⟩ := co
      dsimp only at hcn HLE HCO HLN own3 ⊢
      subst hcn
      have k8 := Blk.new w3 39 #[.int .i64 o.n, .bool cee, .slice A3 cm.length c3]
      have n8 := new1 w3 (.cells #[.int .i64 o.n, .bool cee, .slice A3 cm.length c3] 39)
      replace p1 := (p1.later hb3).later n8
      have hb38 := bup (bup hb0 hb3) n8
      have own8 := own3.below n8
      have hp1 := p1.lt
      cases cee with
      | true =>
        obtain ⟨z0, z1, z2, fz⟩ := octbox p1
        go_wp2
        have q1 := p1.set3 (v0 := .int .i64 o.n) (v1 := .bool true) (v2 := .slice A3 cm.length c3)
        obtain ⟨y0, y1, y2, -⟩ := octbox q1
        refine bodyPost_ret (v := .tuple #[.agg #[.int .i64 o.n, .bool true, .slice A3 cm.length c3], .int .i64 0]) (by simp [results, Try.results14, go_sem, y0, y1, y2]) rfl ?_
        rw [HA.out.1, HA.out.2, HCO.out, if_pos trivial]
        exact ⟨A3, c3, rfl, (((own8.setFar (by simpa using hpw) _).setFar (by simpa using hpw) _).setFar (by simpa using hpw) _).less (by have := hb0.size; omega), hb38.trans (below3 (by omega) hb38.size)⟩
      | false =>
        have hml := HLN.out rfl
        have HML := hid hml
        clear hml
        have n9 := new1 (w3.alloc (.cells #[.int .i64 o.n, .bool false, .slice A3 cm.length c3] 39)) (.cells #[.int .i64 0, .int .i64 0, .int .i64 0, .int .i64 0, .int .i64 0, .int .i64 0, .int .i64 0, .int .i64 0, .int .i64 0, .int .i64 0, .int .i64 0, .int .i64 0, .int .i64 0, .int .i64 0, .int .i64 0, .int .i64 0, .int .i64 0, .int .i64 0, .int .i64 0, .int .i64 0, .int .i64 0, .int .i64 0, .int .i64 0, .int .i64 0, .int .i64 0, .int .i64 0, .int .i64 0, .int .i64 0, .int .i64 0, .int .i64 0, .int .i64 0, .int .i64 0, .int .i64 0, .int .i64 0, .int .i64 0, .int .i64 0, .int .i64 0, .int .i64 0, .int .i64 0, .int .i64 0, .int .i64 0, .int .i64 0, .int .i64 0, .int .i64 0, .int .i64 0, .int .i64 0, .int .i64 0, .int .i64 0, .int .i64 0, .int .i64 0, .int .i64 0, .int .i64 0, .int .i64 0, .int .i64 0, .int .i64 0, .int .i64 0, .int .i64 0, .int .i64 0, .int .i64 0, .int .i64 0, .int .i64 0, .int .i64 0, .int .i64 0, .int .i64 0] 58)
        have r9 := ints64_start (w3.alloc (.cells #[.int .i64 o.n, .bool false, .slice A3 cm.length c3] 39))
        rw [World.size_alloc] at r9
        replace own8 := own8.below n9
        replace k8 := k8.later n9
        replace p1 := p1.later n9
        replace hb38 := bup hb38 n9
        have own3s := hid hb3.size
        have HS9 : Hid (((w3.alloc (.cells #[.int .i64 o.n, .bool false, .slice A3 cm.length c3] 39)).alloc (.cells #[.int .i64 0, .int .i64 0, .int .i64 0, .int .i64 0, .int .i64 0, .int .i64 0, .int .i64 0, .int .i64 0, .int .i64 0, .int .i64 0, .int .i64 0, .int .i64 0, .int .i64 0, .int .i64 0, .int .i64 0, .int .i64 0, .int .i64 0, .int .i64 0, .int .i64 0, .int .i64 0, .int .i64 0, .int .i64 0, .int .i64 0, .int .i64 0, .int .i64 0, .int .i64 0, .int .i64 0, .int .i64 0, .int .i64 0, .int .i64 0, .int .i64 0, .int .i64 0, .int .i64 0, .int .i64 0, .int .i64 0, .int .i64 0, .int .i64 0, .int .i64 0, .int .i64 0, .int .i64 0, .int .i64 0, .int .i64 0, .int .i64 0, .int .i64 0, .int .i64 0, .int .i64 0, .int .i64 0, .int .i64 0, .int .i64 0, .int .i64 0, .int .i64 0, .int .i64 0, .int .i64 0, .int .i64 0, .int .i64 0, .int .i64 0, .int .i64 0, .int .i64 0, .int .i64 0, .int .i64 0, .int .i64 0, .int .i64 0, .int .i64 0, .int .i64 0] 58)).heap.size = w3.heap.size + 2) := hid (by simp)
        have HG : Hid (∀ G, A3 = some ⟨G, 0, none⟩ → w2.heap.size ≤ G ∧ G < w3.heap.size) := hid (fun G hG => by
          rcases own3.form with ⟨h, _⟩ | ⟨G', h, h1, h2⟩
          · rw [hG] at h; cases h
          · rw [hG] at h; injection h with h; injection h with h; subst h; exact ⟨h1, h2⟩)
        clear own3 hb3 n8
        go_wp2
        have hr9 := hr.below (hb38.mono (Nat.le_refl _))
        have hsz3 := hb0.size
        have hs23 : w2.heap.size ≤ w3.heap.size := by have := own3s.out; exact this
        generalize (w3.alloc (.cells #[.int .i64 o.n, .bool false, .slice A3 cm.length c3] 39)).alloc (.cells #[.int .i64 0, .int .i64 0, .int .i64 0, .int .i64 0, .int .i64 0, .int .i64 0, .int .i64 0, .int .i64 0, .int .i64 0, .int .i64 0, .int .i64 0, .int .i64 0, .int .i64 0, .int .i64 0, .int .i64 0, .int .i64 0, .int .i64 0, .int .i64 0, .int .i64 0, .int .i64 0, .int .i64 0, .int .i64 0, .int .i64 0, .int .i64 0, .int .i64 0, .int .i64 0, .int .i64 0, .int .i64 0, .int .i64 0, .int .i64 0, .int .i64 0, .int .i64 0, .int .i64 0, .int .i64 0, .int .i64 0, .int .i64 0, .int .i64 0, .int .i64 0, .int .i64 0, .int .i64 0, .int .i64 0, .int .i64 0, .int .i64 0, .int .i64 0, .int .i64 0, .int .i64 0, .int .i64 0, .int .i64 0, .int .i64 0, .int .i64 0, .int .i64 0, .int .i64 0, .int .i64 0, .int .i64 0, .int .i64 0, .int .i64 0, .int .i64 0, .int .i64 0, .int .i64 0, .int .i64 0, .int .i64 0, .int .i64 0, .int .i64 0, .int .i64 0] 58) = w9 at *
        go_loopw [43] (fun i wr => ∃ k : Nat, k ≤ ps.length ∧ i = .int .i64 k ∧ wr.rowIs (w3.heap.size + 1) 58 64 (fun v => .int .i64 (ofRows ps k v)) ∧ Below (w3.heap.size + 1) w9 wr) (fun i _ => ps.length - (intOf i).toNat)
        case atStart => exact ⟨0, by omega, rfl, r9.congr (fun _ _ => rfl), Below.refl _ _⟩
        case round =>
          clear r9
          obtain ⟨k, hk, rfl, hrow, hb⟩ := hrel
          by_cases hlt : k < ps.length
          · have hlt' : (k : Int) < (ps.length : Int) := by omega
            obtain ⟨b, off, A1, c1, rfl, hB, d0, r1, l1⟩ := hr9 k hlt
            have d1 := (hb.cell (p := ⟨b, off + k, none⟩) (by simp; omega)).trans d0
            have HR1 := hid r1
            have HIN1 := hid (fun j hj => (HIN.out.2.2 k hlt j hj))
            have HSU := hid (ofRows_succ ps k)
            generalize hL : (rowL ps k).length = L at *
            have HL := hid hL
            clear hL d0 r1
            go_wp2
            clear d1
            go_loopw [50] (fun i wr => ∃ j : Nat, j ≤ L ∧ i = .int .i64 j ∧ wr.rowIs (w3.heap.size + 1) 58 64 (fun v => .int .i64 (ofRow (ofRows ps k) (rowL ps k) k j v)) ∧ Below (w3.heap.size + 1) w9 wr) (fun i _ => L - (intOf i).toNat)
            case atStart => exact ⟨0, by omega, rfl, by rw [ofRow_zero]; exact hrow, hb⟩
            case round =>
              clear hrow hb
              obtain ⟨j, hj, rfl, hrow, hb⟩ := hrel
              by_cases hlt2 : j < L
              · have hlt3 : (j : Int) < (L : Int) := by omega
                obtain ⟨b1, o1, rfl, hB1, q0⟩ := (HR1.out.below (hb.mono (show w.heap.size ≤ _ by omega))) j (by rw [HL.out]; exact hlt2)
                replace hB1 : b1 < wr.heap.size := by have := hb.size; have := hrow.lt; omega
                obtain ⟨v1, v2⟩ := HIN1.out j (by first | exact hlt2 | (rw [HL.out]; exact hlt2))
                have HS := hid (ofRow_succ (ofRows ps k) (rowL ps k) k j (by rw [HL.out]; exact hlt2))
                have hn64 := HIN.out.2.1
                generalize gI (rowL ps k) j = v at *
                obtain ⟨q, rfl⟩ : ∃ q : Nat, v = (q : Int) := ⟨v.toNat, by omega⟩
                have hq : q < 64 := by omega
                have hq' : (q : Int) < 64 := by omega
                have hcell := hrow.cell hq
                have hfr := hrow.frozen
                have HROW := hid hrow
                clear hrow
                generalize ofRow (ofRows ps k) (rowL ps k) k j = f at *
                go_wp2
                go_roundw
                case rel =>
                  refine ⟨j + 1, by omega, by go_num, (HROW.out.set q (.int .i64 k)).congr ?_, hb.setCell (by simp) _⟩
                  intro x hx
                  rw [HS.out]
                  unfold setV
                  by_cases e : x = q
                  · subst e; simp
                  · rw [if_neg e, if_neg (by omega)]
                case measure => simp [intOf]; omega
              · obtain rfl : j = L := by omega
                rw [← HSU.out] at hrow
                go_wp2
                go_roundw
                case rel => exact ⟨k + 1, by omega, by go_num, hrow, hb⟩
                case measure => simp [intOf]; omega
          · obtain rfl : k = ps.length := by omega
            replace own8 : Own wr w2.heap.size A3 c3 cm := by
              refine own8.grown (row := some (w3.heap.size + 1)) ⟨hb.os, hb.tape, hb.output, hb.size, fun k hk hne => hb.block k ?_⟩ ?_
              · have := HS9.out
                have : k ≠ w3.heap.size + 1 := fun e => hne (by rw [e])
                omega
              · rcases own8.form with ⟨h, _⟩ | ⟨G, h, _⟩
                · rw [h]; exact .inl rfl
                · have := (HG.out G h).2
                  rw [h]; exact .inr (fun e => by simp [Value.ownBlock] at e; omega)
            have k8' := k8.below hb (by omega)
            have p1' := p1.below hb (by omega)
            obtain ⟨x0, x1, x2, fx⟩ := octbox k8'
            obtain ⟨N, hN⟩ : ∃ N : Nat, (N : Int) = 2 * o.n := ⟨(2 * o.n).toNat, by have := HIN.out.1; omega⟩
            have HN := hid hN
            have hN1 : N ≤ 128 := by have := HIN.out.2.1; omega
            have hn0 : 0 ≤ o.n := HIN.out.1
            have hn1 : o.n ≤ 64 := HIN.out.2.1
            rw [show (2 * o.n).toNat = N by omega] at HML HCO
            clear hN
            go_wp2
            clear x0 x1 x2 fx
            generalize hf : ofRows ps ps.length = f at *
            have hb2 := hid hb
            have hws : w2.heap.size ≤ wr.heap.size := by have := hrow.lt; omega
            go_loopw [62] (fun t wq => ∃ i : Nat, i ≤ N ∧ t = .int .i64 i ∧ Own wq w2.heap.size A3 c3 (cutK N f cm (i * N)) ∧ Blk wq w3.heap.size 39 #[.int .i64 o.n, .bool false, .slice A3 cm.length c3] ∧ wq.rowIs (w3.heap.size + 1) 58 64 (fun v => .int .i64 (f v)) ∧ Below w2.heap.size wr wq) (fun t _ => N - (intOf t).toNat)
            case atStart => exact ⟨0, by omega, rfl, by rw [Nat.zero_mul, cutK_zero]; exact own8, k8', hrow, Below.refl _ _⟩
            case round =>
              clear hrow own8 hb
              obtain ⟨i, hi, rfl, own4, k9, hrow, hb⟩ := hrel
              obtain ⟨x0, x1, x2, fx⟩ := octbox k9
              by_cases hlt : i < N
              · have hlti : (i : Int) < 2 * o.n := by have := HN.out; omega
                go_wp2
                clear x0 x1 x2 fx
                go_loopw [68] (fun t wq => ∃ j : Nat, j ≤ N ∧ t = .int .i64 j ∧ Own wq w2.heap.size A3 c3 (cutK N f cm (i * N + j)) ∧ Blk wq w3.heap.size 39 #[.int .i64 o.n, .bool false, .slice A3 cm.length c3] ∧ wq.rowIs (w3.heap.size + 1) 58 64 (fun v => .int .i64 (f v)) ∧ Below w2.heap.size wr wq) (fun t _ => N - (intOf t).toNat)
                case atStart => exact ⟨0, by omega, rfl, own4, k9, hrow, Below.refl _ _⟩
                case round =>
                  have hbo := hid hb
                  clear hrow own4 k9 hb
                  obtain ⟨j, hj, rfl, own5, k9, hrow, hb⟩ := hrel
                  by_cases hlt2 : j < N
                  · have hltj : (j : Int) < 2 * o.n := by have := HN.out; omega
                    obtain ⟨i2, hie⟩ : ∃ i2, i2 = i / 2 := ⟨_, rfl⟩
                    obtain ⟨j2, hje⟩ : ∃ j2, j2 = j / 2 := ⟨_, rfl⟩
                    have hi2 : i2 < 64 := by omega
                    have hj2 : j2 < 64 := by omega
                    have hi3 : (i2 : Int) < 64 := by omega
                    have hj3 : (j2 : Int) < 64 := by omega
                    have di1 : Int.tdiv (i : Int) 2 = (i2 : Int) := by rw [Int.tdiv_eq_ediv_of_nonneg (by omega)]; omega
                    have di2 : (i : Int) / 2 = (i2 : Int) := by omega
                    have dj1 : Int.tdiv (j : Int) 2 = (j2 : Int) := by rw [Int.tdiv_eq_ediv_of_nonneg (by omega)]; omega
                    have dj2 : (j : Int) / 2 = (j2 : Int) := by omega
                    have HIE := hid hie
                    have HJE := hid hje
                    clear hie hje
                    have c1 := later (hrow.cell hi2)
                    have c2 := later (hrow.cell hj2)
                    go_upto_region 26 with fail
                    refine wp_region_flow 8 (fun W => Below wr.heap.size wr W) (by kernel_rfl) (by kernel_rfl) (Below.refl _ _).drew ?_
                    (repeat (first | (refine Flow.skip (by rfl) ?_; simp only [Act.put, List.setIfInBounds_toArray, List.set_cons_zero, List.set_cons_succ]) | (refine' Flow.take _ (by rfl) (fun W hW R hR => ?_) ?_; rotate_left; (go_simp; (try go_bits); with_reducible exact hR); simp only [Act.put, List.setIfInBounds_toArray, List.set_cons_zero, List.set_cons_succ])))
                    intro w4 hb4
                    clear c1 c2
                    have hkN : (i * N + j) / N = i ∧ (i * N + j) % N = j := by
                      constructor
                      · rw [Nat.mul_comm, Nat.mul_add_div (by omega), Nat.div_eq_of_lt hlt2]; rfl
                      · rw [Nat.mul_comm, Nat.mul_add_mod, Nat.mod_eq_of_lt hlt2]
                    cases t5 : (f i2 != f j2)
                    · have HS : Hid (cutK N f cm (i * N + (j + 1)) = cutK N f cm (i * N + j)) := hid (cutK_same (k := i * N + j) (by rw [hkN.1, hkN.2, ← HIE.out, ← HJE.out]; simpa using t5))
                      clear hkN di1 di2 dj1 dj2
                      go_wp2
                      go_roundw
                      case rel => exact ⟨j + 1, by omega, by go_num, by rw [HS.out]; exact own5.below hb4, k9.later hb4, World.rowIs.of_block hrow (hb4.block _ hrow.lt), hb.trans (hb4.mono (by have := hb.size; have := hbo.out.size; omega))⟩
                      case measure => simp [intOf]; omega
                    · have HS : Hid (cutK N f cm (i * N + (j + 1)) = (cutK N f cm (i * N + j)).set (i * N + j) 9223372036854775807) := hid (cutK_set (k := i * N + j) (by rw [hkN.1, hkN.2, ← HIE.out, ← HJE.out]; simpa using t5))
                      have hpl : i * N + j < cm.length := by
                        rw [HML.out]
                        have : (i + 1) * N ≤ N * N := Nat.mul_le_mul_right _ hlt
                        rw [Nat.succ_mul] at this; omega
                      obtain ⟨r, hre⟩ : ∃ r, r = i * N := ⟨_, rfl⟩
                      have hm1 : 2 * o.n * (i : Int) = (r : Int) := by rw [hre, ← HN.out, Int.natCast_mul, Int.mul_comm]
                      have hr1 : r ≤ 16384 := by rw [hre]; exact Nat.le_trans (Nat.mul_le_mul (Nat.le_of_lt hlt) (Nat.le_refl N)) (Nat.mul_le_mul hN1 hN1)
                      have hm2 : (r : Int) + (j : Int) = ((i * N + j : Nat) : Int) := by rw [hre]; simp
                      clear hkN di1 di2 dj1 dj2
                      clear hre
                      generalize i * N + j = p at *
                      have hp' : (p : Int) < (cm.length : Int) := by omega
                      have own6 := own5.below hb4
                      have k10 := k9.later hb4
                      have hrow4 := World.rowIs.of_block hrow (hb4.block _ hrow.lt)
                      have hb5 := hb.trans (hb4.mono (by have := hb.size; have := hbo.out.size; omega))
                      obtain ⟨x0, x1, x2, fx⟩ := octbox k10
                      rcases own6.form with ⟨_, h0, _⟩ | ⟨G, hG, hG1, hG2⟩
                      · have := cutK_len N f cm p; rw [h0] at this; simp at this; omega
                      · subst hG
                        obtain ⟨hg1, hg2⟩ := HG.out G rfl
                        have hcell := own6.rd p (by rw [cutK_len]; exact hpl)
                        obtain ⟨_, _, e1, _, hcell⟩ := hcell
                        injection e1 with e1; injection e1 with e1 e2; subst e1; subst e2
                        rw [Nat.zero_add] at hcell
                        have hfr := own6.frozen
                        have HO6 := hid own6
                        have HP := hid (show (0 : Int) ≤ (p : Int) by omega)
                        clear own6 own5 k9 hrow hb4 hb
                        go_wp2
                        go_roundw
                        case rel =>
                          refine ⟨j + 1, by omega, by go_num, by rw [HS.out]; exact HO6.out.store p 9223372036854775807, k10.far (by simp; omega) _, World.rowIs.setOther hrow4 (by simp; omega) _, hb5.setCell (by simpa using hg1) _⟩
                        case measure => simp [intOf]; omega
                  · obtain rfl : j = N := by omega
                    have hge : ¬ ((j : Int) < 2 * o.n) := by have := HN.out; omega
                    have hmul : i * j + j = (i + 1) * j := by rw [Nat.succ_mul]
                    rw [hmul] at own5
                    go_wp2
                    go_roundw
                    case rel => exact ⟨i + 1, by omega, by go_num, own5, k9, hrow, hbo.out.trans (hb.mono (by have := hbo.out.size; omega))⟩
                    case measure => simp [intOf]; omega
              · obtain rfl : i = N := by omega
                have hge : ¬ ((i : Int) < 2 * o.n) := by have := HN.out; omega
                have p2 := p1'.below hb (by omega)
                obtain ⟨z0, z1, z2, fz⟩ := octbox p2
                have HLK := hid (cutK_len i f cm (i * i))
                go_wp2
                have q1 := p2.set3 (v0 := .int .i64 o.n) (v1 := .bool false) (v2 := .slice A3 cm.length c3)
                obtain ⟨y0, y1, y2, -⟩ := octbox q1
                refine bodyPost_ret (v := .tuple #[.agg #[.int .i64 o.n, .bool false, .slice A3 cm.length c3], .int .i64 0]) (by simp [results, Try.results14, go_sem, y0, y1, y2]) rfl ?_
                rw [HA.out.1, HA.out.2, HCO.out, if_neg (by simp)]
                refine ⟨A3, c3, by rw [HLK.out], (((own4.setFar (by simpa using hpw) _).setFar (by simpa using hpw) _).setFar (by simpa using hpw) _).less (by have := hb0.size; omega), ?_⟩
                have h1 := (hb38.trans (hb2.out.mono (by omega))).trans (hb.mono (by omega))
                exact h1.trans (below3 (by omega) h1.size)
end Go.Proofs.Ytjmmegnonlbdnaa
