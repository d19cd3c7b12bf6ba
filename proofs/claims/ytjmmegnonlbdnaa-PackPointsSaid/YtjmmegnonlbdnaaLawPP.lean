/-
  gnomonlaw23.PackPoints answers true, whatever it is handed.
-/
import Derived.Test.YtjmmegnonlbdnaaBPP35
import Derived.Test.YtjmmegnonlbdnaaCut
import Derived.Test.YtjmmegnonlbdnaaBPP12
import Derived.Test.YtjmmegnonlbdnaaHas
import Derived.Test.YtjmmegnonlbdnaaCutAgain
import Derived.Test.YtjmmegnonlbdnaaBPP44
namespace Go.Proofs.Ytjmmegnonlbdnaa
open Go.RowKit
attribute [local go_sem ↓] Go.wp_at_zero Go.wp_at_succ

theorem eqO_refl (o : O) : eqO o o = true := by unfold eqO; simp
theorem cutO_len2 (o : O) (ps : List (List Int)) : (cutO o ps).m.length ≤ o.m.length := by
  unfold cutO
  split
  · exact closeO_m_le
  · show (cutK _ _ _ _).length ≤ _; rw [cutK_len]; exact closeO_m_le
theorem rdl_one {w : World} {g : Nat} {A : Option Addr} {c : Nat} {l : List Int} (hk : Blk w g 48 #[.slice A l.length c]) (hr : Rd w w.heap.size A l) (hl : l.length ≤ 17592186044416) : RdL w w.heap.size (some ⟨g, 0, none⟩) [l] := fun i hi => by
  obtain rfl : i = 0 := by simpa using hi
  exact ⟨g, 0, A, c, rfl, hk.lt, hk.cell 0, hr, hl⟩

set_option maxRecDepth 8000 in
set_option maxHeartbeats 8000000 in
theorem packPoints_walk (o : O) (ps : List (List Int)) (xs : List Int) (A P X : Option Addr) (c pc xc : Nat) (w : World) (hx : Rd w w.heap.size A o.m) (hm : o.m.length ≤ 17592186044416) (hr : RdL w w.heap.size P ps) (hl : ps.length ≤ 17592186044416) (hxs : Rd w w.heap.size X xs) (hI : ∀ k : Nat, I64 (gI xs (k : Int))) :
    Calls Try.prog 5 #[.agg #[.int .i64 o.n, .bool o.e, .slice A o.m.length c], .slice P ps.length pc, .slice X xs.length xc] w (SomeT w) := by
  have n0 := new1 w (.cells #[.int .i64 o.n, .bool o.e, .slice A o.m.length c] 39)
  have k0 := Blk.new w 39 #[.int .i64 o.n, .bool o.e, .slice A o.m.length c]
  have HI := hid hI
  clear hI
  go_enter Try.func5, Try.ntmps5
  go_wp2_with fail
  refine (known23_any _).mono ?_
  generalize w.alloc (.cells #[.int .i64 o.n, .bool o.e, .slice A o.m.length c] 39) = w0 at *
  rintro e1 w1 ⟨rfl, hb1⟩
  replace k0 := k0.later hb1
  replace n0 := bup n0 hb1
  clear hb1
  by_cases h100 : 100 < (ps.length : Int)
  · go_wp2
    go_ret
    exact ⟨rfl, n0⟩
  have hl2 : ps.length ≤ 1000 := by omega
  have HC := hid (pcut_any o ps A P c pc w1 (hx.up n0) hm (hr.up n0) hl2)
  obtain ⟨x0, x1, x2, fx⟩ := octbox k0
  go_wp2_with fail
  refine HC.out.mono ?_
  clear HC x0 x1 x2 fx
  rintro e4 w4 ⟨A4, c4, rfl, own4, hb4⟩
  replace k0 := k0.later hb4
  replace n0 := bup n0 hb4
  clear hb4
  by_cases her : cutErr o ps = 0
  rotate_left
  · have t2 : (cutErr o ps != 0) = true := by rw [bne_iff_ne]; exact her
    clear her
    generalize cutErr o ps = er at *
    go_wp2
    go_ret
    exact ⟨rfl, bup n0 (new1 _ _)⟩
  have hk : check o = 0 := by
    unfold cutErr at her
    by_cases e : check o = 0
    · exact e
    · rw [if_pos e] at her; exact absurd her e
  have hp : packErr o.n ps = 0 := by
    unfold cutErr at her
    rwa [if_neg (by rw [hk]; simp)] at her
  have hca : cutAns o ps = cutO o ps := by unfold cutAns; rw [if_pos her]
  rw [hca] at own4 ⊢
  rw [her]
  obtain ⟨hpc, hpn⟩ := cut_form ps hk
  have HHAS := hid (fun h => cut_has (x := xs) ps hk h)
  have HAG := hid (fun h => cut_calm ps hk h)
  have HLEN := hid (cutO_len2 o ps)
  have HPC := hid hpc
  have HPN := hid hpn
  have HK := hid hk
  have HP := hid hp
  have hrng := check_ok hk
  have HRNG := hid hrng
  clear her hk hp hca hpc hpn hrng
  generalize cutO o ps = p at *
  have n7 := new1 w4 (.cells #[.int .i64 p.n, .bool p.e, .slice A4 p.m.length c4] 39)
  have k7 := Blk.new w4 39 #[.int .i64 p.n, .bool p.e, .slice A4 p.m.length c4]
  replace own4 := own4.below n7
  replace k0 := k0.later n7
  replace n0 := bup n0 n7
  clear n7
  have HH := hid (has_ok o HK.out xs A X c xc (w4.alloc (.cells #[.int .i64 p.n, .bool p.e, .slice A4 p.m.length c4] 39)) (hx.up n0) hm (hxs.up n0) HI.out)
  obtain ⟨x0, x1, x2, fx⟩ := octbox k0
  go_wp2_with fail
  clear x0 x1 x2 fx
  generalize w4.alloc (.cells #[.int .i64 p.n, .bool p.e, .slice A4 p.m.length c4] 39) = w5 at *
  refine HH.out.mono ?_
  clear HH
  rintro e6 w6 ⟨b, rfl, hbb, hb6⟩
  have HB := hid hbb
  clear hbb
  replace own4 := own4.below hb6
  replace k0 := k0.later hb6
  replace k7 := k7.later hb6
  replace n0 := bup n0 hb6
  clear hb6
  cases b
  rotate_left
  focus
    have HH := hid (has_ok p HPC.out xs A4 X c4 xc w6 own4.rd (Nat.le_trans HLEN.out hm) (hxs.up n0) HI.out)
    obtain ⟨y0, y1, y2, fy⟩ := octbox k7
    go_wp2_with fail
    clear y0 y1 y2 fy
    refine HH.out.mono ?_
    clear HH
    rintro e7 w7 ⟨b, rfl, hbb, hb7⟩
    have hb1 : b = true := hbb.mpr (HHAS.out (HB.out.mp (by simp)))
    subst hb1
    clear hbb
    replace own4 := own4.below hb7
    replace k0 := k0.later hb7
    replace k7 := k7.later hb7
    replace n0 := bup n0 hb7
    clear hb7
  rotate_left
  focus
    obtain ⟨w7, rfl⟩ : ∃ w7, w7 = w6 := ⟨_, rfl⟩
  all_goals
    clear HB HHAS
    have HFIN : Hid (∀ W, Below w7.heap.size w7 W → Calls Try.prog 20 #[.agg #[.int .i64 o.n, .bool o.e, .slice A o.m.length c]] W fun e w' => ∃ b, e = .returned (.bool b) ∧ Below W.heap.size W w' ∧ (b = true → (closeO o).e = false → calmO (2 * o.n).toNat o.m)) := hid (fun W hW => calmS_ok o A c W ((hx.up n0).up hW) hm HK.out)
    have HFIN2 : Hid (∀ W, Below w7.heap.size w7 W → Calls Try.prog 20 #[.agg #[.int .i64 p.n, .bool p.e, .slice A4 p.m.length c4]] W fun e w' => ∃ b, e = .returned (.bool b) ∧ Below W.heap.size W w' ∧ (b = true → (closeO p).e = false → calmO (2 * p.n).toNat p.m)) := hid (fun W hW => calmS_ok p A4 c4 W (own4.rd.up hW) (Nat.le_trans HLEN.out hm) HPC.out)
    have HCUT2 : Hid (∀ W, Below w7.heap.size w7 W → Calls Try.prog 14 #[.agg #[.int .i64 p.n, .bool p.e, .slice A4 p.m.length c4], .slice P ps.length pc] W (CutRes W (cutAns p ps) (cutErr p ps))) := hid (fun W hW => pcut_any p ps A4 P c4 pc W (own4.rd.up hW) (Nat.le_trans HLEN.out hm) ((hr.up n0).up hW) hl2)
    have HE2 : Hid (cutErr p ps = 0 ∧ cutAns p ps = cutO p ps) := hid (by
      have e1 : cutErr p ps = 0 := by unfold cutErr; rw [if_neg (by rw [HPC.out]; simp), HPN.out]; exact HP.out
      exact ⟨e1, by unfold cutAns; rw [if_pos e1]⟩)
    have HEQ : Hid (∀ (q : O) Aq cq W, Own W w7.heap.size Aq cq q.m → Below w7.heap.size w7 W → q = p → Calls Try.prog 16 #[.agg #[.int .i64 q.n, .bool q.e, .slice Aq q.m.length cq], .agg #[.int .i64 p.n, .bool p.e, .slice A4 p.m.length c4]] W fun e w' => e = .returned (.bool true) ∧ Below W.heap.size W w') := hid (fun q Aq cq W h1 h2 h3 => by
      subst h3
      have := oct_any q q Aq A4 cq c4 W h1.rd (own4.rd.up h2) (Nat.le_trans HLEN.out hm)
      rw [eqO_refl] at this; exact this)
    have hr7 := Below.refl w7.heap.size w7
    by_cases hn : 0 < o.n
    rotate_left
    focus
      have tn : decide (0 < o.n) = false := decide_eq_false hn
      clear hn
      obtain ⟨u0, u1, u2, fu⟩ := octbox k0
      go_wp2_with fail
      clear u0 u1 u2 fu tn
      obtain ⟨x0, x1, x2, fx⟩ := octbox (k0.later hr7)
      go_wp2_with fail
      clear x0 x1 x2 fx
      (with_reducible refine (HFIN.out w7 hr7).mono ?_)
      rintro e20 w20 ⟨b1, rfl, hb20, hc1⟩
      have HC1 := hid hc1
      clear hc1
      have hbx := bup hr7 hb20
      obtain ⟨y0, y1, y2, fy⟩ := octbox (k7.later hbx)
      cases b1
      · go_wp2
        go_ret
        exact ⟨rfl, bup n0 hbx⟩
      go_wp2_with fail
      clear y0 y1 y2 fy
      (with_reducible refine (HFIN2.out w20 hbx).mono ?_)
      rintro e21 w21 ⟨b2, rfl, hb21, hc2⟩
      clear hc2
      have hby := bup hbx hb21
      obtain ⟨y0, y1, y2, fy⟩ := octbox (k7.later hby)
      cases b2
      · go_wp2
        go_ret
        exact ⟨rfl, bup n0 hby⟩
      go_wp2_with fail
      clear y0 y1 y2 fy
      (with_reducible refine (HCUT2.out w21 hby).mono ?_)
      rw [HE2.out.1, HE2.out.2, HAG.out (fun _ => HC1.out (by simp))]
      rintro e22 w22 ⟨A22, c22, rfl, own22, hb22⟩
      have n22 := new1 w22 (.cells #[.int .i64 p.n, .bool p.e, .slice A22 p.m.length c22] 39)
      have k22 := Blk.new w22 39 #[.int .i64 p.n, .bool p.e, .slice A22 p.m.length c22]
      have hbz := bup hby (bup hb22 n22)
      have HQ := hid (HEQ.out p A22 c22 (w22.alloc (.cells #[.int .i64 p.n, .bool p.e, .slice A22 p.m.length c22] 39)) ((own22.below n22).less hby.size) hbz rfl)
      obtain ⟨z0, z1, z2, fz⟩ := octbox k22
      obtain ⟨y0, y1, y2, fy⟩ := octbox (k7.later hbz)
      go_wp2_with fail
      (with_reducible refine HQ.out.mono ?_)
      rintro e23 w23 ⟨rfl, hb23⟩
      go_wp2
      go_ret
      exact ⟨rfl, bup n0 (bup hbz hb23)⟩
    focus
      have HN := hid hn
      have tn : decide (0 < o.n) = true := decide_eq_true hn
      clear hn
      obtain ⟨x0, x1, x2, fx⟩ := octbox k0
      go_wp2_with fail
      clear x0 x1 x2 fx tn
      go_loopw [9, 10] (fun s t wr => ∃ (k : Nat) (A5 : Option Addr) (c5 : Nat), (k : Int) ≤ o.n ∧ s = .slice A5 (upL k).length c5 ∧ t = .int .i64 (k : Int) ∧ AtInt.Own wr w7.heap.size A5 c5 (upL k) ∧ Below w7.heap.size w7 wr) (fun _ t _ => o.n.toNat - (intOf t).toNat)
      case atStart => exact ⟨0, none, 0, by have := HN.out; omega, rfl, rfl, World.ownsRow_nil _ _ _ _, hr7⟩
      case round =>
        obtain ⟨k, A5, c5, hk5, rfl, rfl, own5, hb5⟩ := hrel
        have x0 := (k0.later hb5).cell 0
        have HL := hid (upL_len k)
        have HS := hid (upL_succ k)
        by_cases hkn : (k : Int) < o.n
        · clear hr7
          have hn64 := HRNG.out.2.1
          generalize upL k = r at *
          have k1 := Blk.new wr 3 #[.int .i64 (k : Int)]
          have n1 := new1 wr (.cells #[.int .i64 (k : Int)] 3)
          have oo := hid (own5.below n1)
          have rr := hid (hb5.trans (n1.mono hb5.size))
          clear own5 hb5
          go_wp2_with (at_builtin; go_loud (refine AtInt.wpList_append_1 _ _ _ rfl rfl Try.underlying48 w7.heap.size A5 c5 r rfl oo.out wr.heap.size (k : Int) (r ++ [(k : Int)]) rfl k1 rfl (by have := HL.out; simp; omega) rr.out.size ?_); intro A6 c6 w8 own8 hb8)
          go_roundw
          case rel => exact ⟨k + 1, A6, c6, by omega, by rw [HS.out]; simp, by go_num, by rw [HS.out]; exact own8, rr.out.trans hb8⟩
          case measure => simp [intOf]; omega
        · have tk : decide ((k : Int) < o.n) = false := decide_eq_false hkn
          have HER : Hid (cutErr o [upL k] = 0 ∧ cutAns o [upL k] = closeO o) := hid (by
            have h1 := HRNG.out
            have h2 := HN.out
            have e0 : o.n = ((k - 1 + 1 : Nat) : Int) := by omega
            have e2 : packErr o.n [upL k] = 0 := by
              have := packErr_all ⟨k - 1, by omega⟩
              rw [e0]
              have e3 : k = k - 1 + 1 := by omega
              rw [e3]
              exact this
            have e1 : cutErr o [upL k] = 0 := by unfold cutErr; rw [if_neg (by rw [HK.out]; simp)]; exact e2
            exact ⟨e1, by unfold cutAns; rw [if_pos e1]; exact cut_all o _⟩)
          have HLK : Hid ((upL k).length ≤ 17592186044416) := hid (by have h1 := HRNG.out; rw [HL.out]; omega)
          clear HS HL hkn
          generalize upL k = r at *
          have k3 := Blk.new wr 48 #[.slice A5 r.length c5]
          have n3 := new1 wr (.cells #[.slice A5 r.length c5] 48)
          have hb3 := bup hb5 n3
          have HPC2 : Hid (Calls Try.prog 14 #[.agg #[.int .i64 o.n, .bool o.e, .slice A o.m.length c], .slice (some ⟨wr.heap.size, 0, none⟩) 1 1] (wr.alloc (.cells #[.slice A5 r.length c5] 48)) (CutRes (wr.alloc (.cells #[.slice A5 r.length c5] 48)) (cutAns o [r]) (cutErr o [r]))) :=
            hid (pcut_any o [r] A (some ⟨wr.heap.size, 0, none⟩) c 1 (wr.alloc (.cells #[.slice A5 r.length c5] 48)) ((hx.up n0).up hb3) hm (rdl_one k3 (own5.below n3).rd HLK.out) (by simp))
          obtain ⟨v0, v1, v2, fv⟩ := octbox (k0.later hb3)
          obtain ⟨x0, x1, x2, fx⟩ := octbox (k0.later hb5)
          go_wp2_with fail
          clear x0 x1 x2 fx v0 v1 v2 fv tk
          (with_reducible refine HPC2.out.mono ?_)
          rw [HER.out.1, HER.out.2]
          clear HPC2 HER k3 own5
          generalize wr.alloc (.cells #[.slice A5 r.length c5] 48) = w8 at *
          rintro e9 w9 ⟨A9, c9, rfl, own9, hb9⟩
          have n9 := new1 w9 (.cells #[.int .i64 (closeO o).n, .bool (closeO o).e, .slice A9 (closeO o).m.length c9] 39)
          have k9 := Blk.new w9 39 #[.int .i64 (closeO o).n, .bool (closeO o).e, .slice A9 (closeO o).m.length c9]
          replace hb9 := bup hb3 (bup hb9 n9)
          replace own9 := own9.below n9
          obtain ⟨x0, x1, x2, fx⟩ := octbox (k0.later hb9)
          have HCL : Hid (Calls Try.prog 19 #[.agg #[.int .i64 o.n, .bool o.e, .slice A o.m.length c]] (w9.alloc (.cells #[.int .i64 (closeO o).n, .bool (closeO o).e, .slice A9 (closeO o).m.length c9] 39)) (CloseRes (w9.alloc (.cells #[.int .i64 (closeO o).n, .bool (closeO o).e, .slice A9 (closeO o).m.length c9] 39)) (closeO o) 0)) := hid (by
            have h1 := close_all o A c (w9.alloc (.cells #[.int .i64 (closeO o).n, .bool (closeO o).e, .slice A9 (closeO o).m.length c9] 39)) ((hx.up n0).up hb9) hm
            rw [closedO_ok HK.out, HK.out] at h1
            exact h1)
          clear hb3 hb5 n3 n9
          go_wp2_with fail
          clear x0 x1 x2 fx
          (with_reducible refine HCL.out.mono ?_)
          clear HCL
          generalize w9.alloc (.cells #[.int .i64 (closeO o).n, .bool (closeO o).e, .slice A9 (closeO o).m.length c9] 39) = w10 at *
          rintro e11 w11 ⟨A11, c11, s11, rfl, own11, hb11⟩
          have n11 := new1 w11 (.cells #[.int .i64 (closeO o).n, .bool (closeO o).e, .slice A11 (closeO o).m.length c11] 39)
          have k11 := Blk.new w11 39 #[.int .i64 (closeO o).n, .bool (closeO o).e, .slice A11 (closeO o).m.length c11]
          have HOC := hid (oct_any (closeO o) (closeO o) A9 A11 c9 c11 (w11.alloc (.cells #[.int .i64 (closeO o).n, .bool (closeO o).e, .slice A11 (closeO o).m.length c11] 39)) ((own9.below hb11).below n11).rd (own11.below n11).rd (Nat.le_trans closeO_m_le hm))
          rw [eqO_refl] at HOC
          replace hb9 := bup hb9 (bup hb11 n11)
          obtain ⟨x0, x1, x2, fx⟩ := octbox ((k9.later hb11).later n11)
          obtain ⟨y0, y1, y2, fy⟩ := octbox k11
          clear own9 own11
          go_wp2_with fail
          clear x0 x1 x2 fx y0 y1 y2 fy k9 k11
          (with_reducible refine HOC.out.mono ?_)
          clear HOC
          generalize w11.alloc (.cells #[.int .i64 (closeO o).n, .bool (closeO o).e, .slice A11 (closeO o).m.length c11] 39) = w12 at *
          rintro e13 w13 ⟨rfl, hb13⟩
          replace hb9 := bup hb9 hb13
          obtain ⟨x0, x1, x2, fx⟩ := octbox (k0.later hb9)
          go_wp2_with fail
          clear x0 x1 x2 fx
          (with_reducible refine (HFIN.out w13 hb9).mono ?_)
          rintro e20 w20 ⟨b1, rfl, hb20, hc1⟩
          have HC1 := hid hc1
          clear hc1
          have hbx := bup hb9 hb20
          obtain ⟨y0, y1, y2, fy⟩ := octbox (k7.later hbx)
          cases b1
          · go_wp2
            go_ret
            exact ⟨rfl, bup n0 hbx⟩
          go_wp2_with fail
          clear y0 y1 y2 fy
          (with_reducible refine (HFIN2.out w20 hbx).mono ?_)
          rintro e21 w21 ⟨b2, rfl, hb21, hc2⟩
          clear hc2
          have hby := bup hbx hb21
          obtain ⟨y0, y1, y2, fy⟩ := octbox (k7.later hby)
          cases b2
          · go_wp2
            go_ret
            exact ⟨rfl, bup n0 hby⟩
          go_wp2_with fail
          clear y0 y1 y2 fy
          (with_reducible refine (HCUT2.out w21 hby).mono ?_)
          rw [HE2.out.1, HE2.out.2, HAG.out (fun _ => HC1.out (by simp))]
          rintro e22 w22 ⟨A22, c22, rfl, own22, hb22⟩
          have n22 := new1 w22 (.cells #[.int .i64 p.n, .bool p.e, .slice A22 p.m.length c22] 39)
          have k22 := Blk.new w22 39 #[.int .i64 p.n, .bool p.e, .slice A22 p.m.length c22]
          have hbz := bup hby (bup hb22 n22)
          have HQ := hid (HEQ.out p A22 c22 (w22.alloc (.cells #[.int .i64 p.n, .bool p.e, .slice A22 p.m.length c22] 39)) ((own22.below n22).less hby.size) hbz rfl)
          obtain ⟨z0, z1, z2, fz⟩ := octbox k22
          obtain ⟨y0, y1, y2, fy⟩ := octbox (k7.later hbz)
          go_wp2_with fail
          (with_reducible refine HQ.out.mono ?_)
          rintro e23 w23 ⟨rfl, hb23⟩
          go_wp2
          go_ret
          exact ⟨rfl, bup n0 (bup hbz hb23)⟩
theorem packPoints_walkE (o : O) (ps : List (List Int)) (xs : List Int) (A P X : Option Addr) (c pc xc : Nat) (w : World) (hx : Rd w w.heap.size A o.m) (hr : RdL w w.heap.size P ps) (hxs : Rd w w.heap.size X xs) (hm : o.m.length ≤ 17592186044416) (hl : ps.length ≤ 17592186044416) (_ : xs.length ≤ 17592186044416) (hI : ∀ k : Nat, I64 (gI xs (k : Int))) :
    Calls Try.prog 5 #[.agg #[.int .i64 o.n, .bool o.e, .slice A o.m.length c], .slice P ps.length pc, .slice X xs.length xc] w (SomeT w) := packPoints_walk o ps xs A P X c pc xc w hx hm hr hl hxs hI
end Go.Proofs.Ytjmmegnonlbdnaa
