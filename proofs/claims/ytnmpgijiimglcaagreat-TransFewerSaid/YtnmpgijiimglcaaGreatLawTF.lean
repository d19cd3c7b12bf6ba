/-
  gnomonlaw16.TransFewer.
-/
import Derived.Test.YtnmpgijiimglcaaGreatKnown16
import Derived.Test.YtnmpgijiimglcaaGreatFewLaw
import Derived.Test.YtnmpgijiimglcaaGreatHas
namespace Go.Proofs.YtnmpgijiimglcaaGreat
open Go.RowKit
attribute [local go_sem ↓] Go.wp_at_zero Go.wp_at_succ

theorem opd_i64 {x : List Int} (h : ∀ k : Nat, I64 (gI x (k : Int))) {v n : Int} (hn : I64 n) : -9223372036854775808 ≤ opdX x v n ∧ opdX x v n ≤ 9223372036854775807 := by
  unfold opdX
  split
  · rename_i hv
    have := h v.toNat
    rw [Int.toNat_of_nonneg hv] at this
    exact this
  · exact hn
theorem not_rng {op : Int} (h : 1 ≤ op ∧ op ≤ 6) : 1 ≤ notOp op ∧ notOp op ≤ 6 := by
  have : op = 1 ∨ op = 2 ∨ op = 3 ∨ op = 4 ∨ op = 5 ∨ op = 6 := by omega
  unfold notOp
  rcases this with rfl | rfl | rfl | rfl | rfl | rfl <;> decide
theorem swap_cell {u : World} {b o : Nat} {x : Value} {c d : Obj} (h : (u.alloc c).cell? ⟨b, o, none⟩ = some x) (hb : b < u.heap.size) : (u.alloc d).cell? ⟨b, o, none⟩ = some x := by
  have e : ∀ c : Obj, (u.alloc c).cell? ⟨b, o, none⟩ = u.cell? ⟨b, o, none⟩ := fun c => (new1 u c).cell (p := ⟨b, o, none⟩) hb
  exact (e d).trans ((e c).symm.trans h)
theorem far_cell3 {W : World} {g b o : Nat} {v0 v1 v2 c : Value} (h : W.cell? ⟨b, o, none⟩ = some c) (hne : g ≠ b) : (((W.setCell ⟨g, 0, none⟩ v0).setCell ⟨g, 1, none⟩ v1).setCell ⟨g, 2, none⟩ v2).cell? ⟨b, o, none⟩ = some c := by
  have e : ∀ (X : World) (k : Nat) (u : Value), (X.setCell ⟨g, k, none⟩ u).cell? ⟨b, o, none⟩ = X.cell? ⟨b, o, none⟩ := fun X k u => World.cell?_setCell_other X _ _ _ (by intro e; injection e with e; exact hne e)
  rw [e, e, e]; exact h
/-- What the seven cells of the contraries hold. -/
theorem not_cell {op : Int} (h : 1 ≤ op ∧ op ≤ 6) : (#[.int .i64 0, .int .i64 6, .int .i64 5, .int .i64 4, .int .i64 3, .int .i64 2, .int .i64 1] : Array Value)[op.toNat]? = some (.int .i64 (notOp op)) := by
  have : op = 1 ∨ op = 2 ∨ op = 3 ∨ op = 4 ∨ op = 5 ∨ op = 6 := by omega
  rcases this with rfl | rfl | rfl | rfl | rfl | rfl <;> rfl

set_option maxRecDepth 8000 in
set_option maxHeartbeats 8000000 in
theorem transFewer_walk (o : O) (op av an bv bn : Int) (xs : List Int) (iva : I64 av) (ia : I64 an) (ivb : I64 bv) (ib : I64 bn) (A X : Option Addr) (cap xc : Nat) (w : World) (hx : Rd w w.heap.size A o.m) (hxs : Rd w w.heap.size X xs) (hm : o.m.length ≤ 17592186044416) (_ : xs.length ≤ 17592186044416) (hI : ∀ k : Nat, I64 (gI xs (k : Int))) :
    Calls Tryz.prog 11 #[.agg #[.int .i64 o.n, .bool o.e, .slice A o.m.length cap], .int .i64 op, .agg #[.int .i64 av, .int .i64 an], .agg #[.int .i64 bv, .int .i64 bn], .slice X xs.length xc] w fun e w' => e = .returned (.bool true) ∧ Below w.heap.size w w' := by
  have HE : Hid (assumeErr o op av bv = if check o ≠ 0 then check o else if 1 ≤ op ∧ op ≤ 6 ∧ av < o.n ∧ bv < o.n then 0 else 160) := hid rfl
  have HT := hid (fun W (h : Rd W W.heap.size A o.m) => tassume_any o op av an bv bn ia ib A cap W h hm W.heap.size (Nat.le_refl _))
  have HT2 := hid (fun B W (hB : B ≤ W.heap.size) (h : Rd W W.heap.size A o.m) => tassume_any o (notOp op) av an bv bn ia ib A cap W h hm B hB)
  have HL : Hid (assumeErr o op av bv = 0 → check o = 0 ∧ (1 ≤ op ∧ op ≤ 6) ∧ av < o.n ∧ bv < o.n ∧ assumeAns o op av an bv bn = assumeO o op av an bv bn ∧ assumeErr o (notOp op) av bv = 0 ∧ assumeAns o (notOp op) av an bv bn = assumeO o (notOp op) av an bv bn) := hid (fun h => by
    have h0 := h
    unfold assumeErr at h
    by_cases hk : check o = 0
    · rw [if_neg (by simpa using hk)] at h
      have hh : 1 ≤ op ∧ op ≤ 6 ∧ av < o.n ∧ bv < o.n := by
        by_cases q : 1 ≤ op ∧ op ≤ 6 ∧ av < o.n ∧ bv < o.n
        · exact q
        · rw [if_neg q] at h; omega
      have hop : 1 ≤ op ∧ op ≤ 6 := ⟨hh.1, hh.2.1⟩
      have hno := not_rng hop
      have e2 : assumeErr o (notOp op) av bv = 0 := by unfold assumeErr; rw [if_neg (by simpa using hk), if_pos ⟨hno.1, hno.2, hh.2.2.1, hh.2.2.2⟩]
      exact ⟨hk, hop, hh.2.2.1, hh.2.2.2, by unfold assumeAns; rw [if_pos h0], e2, by unfold assumeAns; rw [if_pos e2]⟩
    · rw [if_pos hk] at h; exact absurd h hk)
  have HOK : Hid (check o = 0 → av < o.n → bv < o.n → ∀ p, check (assumeO o p av an bv bn) = 0) := hid (fun hk ha hb p => by
    have ok : OkO o.n o := ⟨rfl, hk⟩
    unfold assumeO
    split
    · exact ok.close.ok
    · exact (ok.close.assumes ha hb).ok)
  have HLAW := hid (fun hk hop ha hb => fewer_law (o := o) hk (op := op) (av := av) (an := an) (bv := bv) (bn := bn) (x := xs) hop ha hb (opd_i64 hI ia) (opd_i64 hI ib))
  generalize assumeAns o op av an bv bn = R at *
  generalize assumeAns o (notOp op) av an bv bn = S at *
  generalize assumeErr o op av bv = E at *
  generalize assumeErr o (notOp op) av bv = F at *
  generalize hP : assumeO o op av an bv bn = PO at *
  generalize hQ : assumeO o (notOp op) av an bv bn = QO at *
  clear iva ivb HE
  obtain ⟨p0, p1, p2, hb0, hsz⟩ := new_three w #[.int .i64 o.n, .bool o.e, .slice A o.m.length cap] #[.int .i64 av, .int .i64 an] #[.int .i64 bv, .int .i64 bn] 24 26 26
  replace hx := hx.up hb0
  replace hxs := hxs.up hb0
  clear hsz
  go_enter Tryz.func11, Tryz.ntmps11
  go_wp2_with fail
  generalize ((w.alloc (Obj.cells #[.int .i64 o.n, .bool o.e, .slice A o.m.length cap] 24)).alloc (Obj.cells #[.int .i64 av, .int .i64 an] 26)).alloc (Obj.cells #[.int .i64 bv, .int .i64 bn] 26) = w1 at *
  (with_reducible refine (known16_any w1).mono ?_)
  rintro e_w2 w2 ⟨rfl, hb_w2⟩
  replace p0 := p0.later hb_w2
  replace p1 := p1.later hb_w2
  replace p2 := p2.later hb_w2
  replace hx := hx.up hb_w2
  replace hxs := hxs.up hb_w2
  replace hb0 := bup hb0 hb_w2
  obtain ⟨p0_0, p0_1, p0_2, p0_f⟩ := octbox p0
  obtain ⟨p1_0, p1_1, p1_f⟩ := opbox p1
  obtain ⟨p2_0, p2_1, p2_f⟩ := opbox p2
  go_wp2_with fail
  clear p0_0 p0_1 p0_2 p0_f p1_0 p1_1 p1_f p2_0 p2_1 p2_f
  (with_reducible refine (HT.out w2 hx).mono ?_)
  rintro e_w3 w3 ⟨A1, c1, rfl, sx1, hb_w3⟩
  have hr1 := sx1.rd hb_w3.size
  clear sx1 HT
  replace p0 := p0.later hb_w3
  replace p1 := p1.later hb_w3
  replace p2 := p2.later hb_w3
  replace hx := hx.up hb_w3
  replace hxs := hxs.up hb_w3
  replace hb0 := bup hb0 hb_w3
  obtain ⟨p4, hbn, -⟩ := new_one w3 #[.int .i64 R.n, .bool R.e, .slice A1 R.m.length c1] 24
  replace p0 := p0.later hbn
  replace p1 := p1.later hbn
  replace p2 := p2.later hbn
  replace hx := hx.up hbn
  replace hxs := hxs.up hbn
  replace hr1 := hr1.up hbn
  replace hb0 := bup hb0 hbn
  cases t1 : (E != 0)
  rotate_left
  · go_wp2
    go_ret
    exact ⟨rfl, hb0⟩
  · have hE : E = 0 := by simpa using t1
    subst hE
    obtain ⟨hk, hop, ha, hb, e1, e2, e3⟩ := HL.out (by first | rfl | trivial)
    subst e1
    subst e2
    subst e3
    have HLW := hid (HLAW.out hk hop ha hb)
    have okR := HOK.out hk ha hb op
    have okS := HOK.out hk ha hb (notOp op)
    rw [hP] at okR
    rw [hQ] at okS
    have HKK := hid hk
    have HOP := hid hop
    have HNC := hid (not_cell hop)
    have op0 : 0 ≤ op := by omega
    have op7 : op < 7 := by omega
    have hmR := OkO.small (n := R.n) ⟨rfl, okR⟩
    have hmS := OkO.small (n := S.n) ⟨rfl, okS⟩
    have HRK := hid okR
    have HSK := hid okS
    clear hk hop ha hb HL HLAW HOK okR okS hP hQ t1
    go_upto_region 7 with fail
    have hs4 : (w3.alloc (Obj.cells #[.int .i64 R.n, .bool R.e, .slice A1 R.m.length c1] 24)).heap.size = w3.heap.size + 1 := by simp
    generalize w3.alloc (Obj.cells #[.int .i64 R.n, .bool R.e, .slice A1 R.m.length c1] 24) = w5 at *
    obtain ⟨p5, hbn, -⟩ := new_one w5 #[.int .i64 0, .int .i64 6, .int .i64 5, .int .i64 4, .int .i64 3, .int .i64 2, .int .i64 1] 73
    replace p0 := p0.later hbn
    replace p1 := p1.later hbn
    replace p2 := p2.later hbn
    replace p4 := p4.later hbn
    replace hx := hx.up hbn
    replace hxs := hxs.up hbn
    replace hr1 := hr1.up hbn
    replace hb0 := bup hb0 hbn
    generalize w5.alloc (Obj.cells #[.int .i64 0, .int .i64 6, .int .i64 5, .int .i64 4, .int .i64 3, .int .i64 2, .int .i64 1] 73) = w6 at *
    rw [hs4] at p5
    clear HNC
    go_cut [14, 15] (fun s14 s15 W => ∃ (g : Nat) (A2 : Option Addr) (c2 : Nat), s14 = .pointer (some ⟨g, 0, none⟩) ∧ s15 = .int .i64 0 ∧ Blk W g 24 #[.int .i64 S.n, .bool S.e, .slice A2 S.m.length c2] ∧ Rd W W.heap.size A2 S.m ∧ Below w6.heap.size w6 W)
    case first =>
      have hxd : Rd w6.drew w6.drew.heap.size A o.m := hx
      have hle1 : w6.heap.size ≤ w6.drew.heap.size := Nat.le_refl _
      have hle2 : ∀ o, w6.heap.size ≤ (w6.alloc o).drew.heap.size := fun o => (new1 w6 o).size
      have c5 : w6.cell? ⟨w3.heap.size + 1, op.toNat, none⟩ = some (.int .i64 (notOp op)) := by rw [p5.cell]; exact not_cell HOP.out
      clear hm hI HLW HRK HSK HKK
      obtain ⟨p0_0, p0_1, p0_2, p0_f⟩ := octbox p0
      obtain ⟨p1_0, p1_1, p1_f⟩ := opbox p1
      obtain ⟨p2_0, p2_1, p2_f⟩ := opbox p2
      have lt1 : w.heap.size + 2 < w6.drew.heap.size := p2.lt
      have lt2 : w3.heap.size + 1 < w6.drew.heap.size := p5.lt
      generalize notOp op = nop at *
      have HLT := hid (show w.heap.size + 2 < w6.heap.size ∧ w3.heap.size + 1 < w6.heap.size ∧ w6.drew.heap.size = w6.heap.size from ⟨lt1, lt2, rfl⟩)
      go_region_held3 (fun W => W.cell? ⟨w.heap.size, 0, none⟩ = some (.int .i64 o.n) ∧ W.cell? ⟨w.heap.size, 1, none⟩ = some (.bool o.e) ∧ W.cell? ⟨w.heap.size, 2, none⟩ = some (.slice A o.m.length cap) ∧ W.cell? ⟨w.heap.size + 1, 0, none⟩ = some (.int .i64 av) ∧ W.cell? ⟨w.heap.size + 1, 1, none⟩ = some (.int .i64 an) ∧ W.cell? ⟨w.heap.size + 1 + 1, 0, none⟩ = some (.int .i64 bv) ∧ W.cell? ⟨w.heap.size + 1 + 1, 1, none⟩ = some (.int .i64 bn) ∧ W.cell? ⟨w3.heap.size + 1, op.toNat, none⟩ = some (.int .i64 nop)) (first | go_keep | (refine ⟨?_, ?_, ?_, ?_, ?_, ?_, ?_, ?_⟩ <;> (refine cell_later ‹Below _ _ _› ?_; first | assumption | go_keep)) | (have hlt := HLT.out; go_split_ands; refine ⟨?_, ?_, ?_, ?_, ?_, ?_, ?_, ?_⟩ <;> (refine far_cell3 (by assumption) ?_; first | omega | (simp only [World.size_alloc] at *; omega))) | (have hlt := HLT.out; go_split_ands; refine ⟨?_, ?_, ?_, ?_, ?_, ?_, ?_, ?_⟩ <;> (refine swap_cell (by assumption) ?_; omega)))
        (first | (go_at_call 20; (with_reducible refine (HT2.out w6.heap.size _ (by first | exact hle1 | exact hle2 _) (by first | exact hxd | exact hxd.up (new1 _ _))).mono ?_); rintro e9 u1 ⟨A2, c2, rfl, sx2, hu1⟩; have hu1s := hu1.size; (try simp only [World.size_alloc] at hu1s); try (have HZ := hid ((show Blk (w6.alloc (Obj.cells #[.int .i64 0, .bool false, .slice none 0 0] 24)).drew w6.heap.size 24 #[.int .i64 0, .bool false, .slice none 0 0] from Blk.new w6 24 #[.int .i64 0, .bool false, .slice none 0 0]).later hu1))) | (obtain ⟨zz0, zz1, zz2, fz⟩ := octbox HZ.out; clear HZ; go_simp))
      all_goals (go_wp2_with fail; go_meet)
      · exact ⟨_, _, _, rfl, rfl, Blk.new _ _ _, (sx2.rd hu1s).up (new1 _ _), bup (Ext.trans (Below.refl _ _).drew hu1) (new1 _ _)⟩
      · have hlt := HLT.out
        have bz := (show Blk (w6.alloc (Obj.cells #[.int .i64 0, .bool false, .slice none 0 0] 24)).drew w6.heap.size 24 #[.int .i64 0, .bool false, .slice none 0 0] from Blk.new w6 24 #[.int .i64 0, .bool false, .slice none 0 0]).later hu1
        have hA : Below w6.heap.size w6 u1 := bup (new1 w6 _).drew hu1
        have hB9 := below3 (W := u1) (g := w6.heap.size) (v0 := .int .i64 S.n) (v1 := .bool S.e) (v2 := .slice A2 S.m.length c2) (Nat.le_refl _) hA.size
        have s9 := sx2.far3 (g := w6.heap.size) (v0 := .int .i64 S.n) (v1 := .bool S.e) (v2 := .slice A2 S.m.length c2) (Nat.le_refl _) bz (by decide)
        exact ⟨_, _, _, rfl, rfl, bz.set3, s9.rd (hA.trans hB9).size, hA.trans hB9⟩
    case rest =>
      skip
      obtain ⟨g, A2, c2, rfl, rfl, b14, hr2, hbc⟩ := hcut
      replace p0 := p0.later hbc
      replace p1 := p1.later hbc
      replace p2 := p2.later hbc
      replace p4 := p4.later hbc
      replace p5 := p5.later hbc
      replace hx := hx.up hbc
      replace hxs := hxs.up hbc
      replace hr1 := hr1.up hbc
      replace hb0 := bup hb0 hbc
      clear hbc p1 p2 p5 HT2
      obtain ⟨bo, hbo⟩ : ∃ b : Bool, (b = true ↔ HasO o xs) := ⟨@decide _ (Classical.propDecidable (HasO o xs)), by simp⟩
      obtain ⟨bR, hbR⟩ : ∃ b : Bool, (b = true ↔ HasO R xs) := ⟨@decide _ (Classical.propDecidable (HasO R xs)), by simp⟩
      obtain ⟨bS, hbS⟩ : ∃ b : Bool, (b = true ↔ HasO S xs) := ⟨@decide _ (Classical.propDecidable (HasO S xs)), by simp⟩
      have hl1 : bR = true → bo = true := fun h => hbo.2 (HLW.out.1 (hbR.1 h))
      have hl2 : bS = true → bo = true := fun h => hbo.2 (HLW.out.2.1 (hbS.1 h))
      have hl3 : bo = true → bR = true ∨ bS = true := fun h => (HLW.out.2.2 (hbo.1 h)).imp hbR.2 hbS.2
      have hco := hid (fun W (h : Rd W W.heap.size A o.m) (k : Rd W W.heap.size X xs) => (has_ok o HKK.out xs A X cap xc W h hm k hI).mono fun e w' (⟨b, he, hb, hB⟩ : HasRes o xs W e w') => (⟨by rw [he, Bool.eq_iff_iff.2 (hb.trans hbo.symm)], hB⟩ : e = Ending.returned (.bool bo) ∧ Below W.heap.size W w'))
      have hcR := hid (fun W (h : Rd W W.heap.size A1 R.m) (k : Rd W W.heap.size X xs) => (has_ok R HRK.out xs A1 X c1 xc W h hmR k hI).mono fun e w' (⟨b, he, hb, hB⟩ : HasRes R xs W e w') => (⟨by rw [he, Bool.eq_iff_iff.2 (hb.trans hbR.symm)], hB⟩ : e = Ending.returned (.bool bR) ∧ Below W.heap.size W w'))
      have hcS := hid (fun W (h : Rd W W.heap.size A2 S.m) (k : Rd W W.heap.size X xs) => (has_ok S HSK.out xs A2 X c2 xc W h hmS k hI).mono fun e w' (⟨b, he, hb, hB⟩ : HasRes S xs W e w') => (⟨by rw [he, Bool.eq_iff_iff.2 (hb.trans hbS.symm)], hB⟩ : e = Ending.returned (.bool bS) ∧ Below W.heap.size W w'))
      clear hbo hbR hbS HLW HKK HRK HSK hm hmR hmS hI
      cases bo <;> cases bR <;> cases bS
      · clear hl1 hl2 hl3
        obtain ⟨p0_0, p0_1, p0_2, p0_f⟩ := octbox p0
        obtain ⟨p4_0, p4_1, p4_2, p4_f⟩ := octbox p4
        obtain ⟨b14_0, b14_1, b14_2, b14_f⟩ := octbox b14
        go_wp2_with fail
        clear p0_0 p0_1 p0_2 p0_f p4_0 p4_1 p4_2 p4_f b14_0 b14_1 b14_2 b14_f
        (with_reducible refine (hcR.out wc hr1 hxs).mono ?_)
        rintro e_w7 w7 ⟨rfl, hb_w7⟩
        replace p0 := p0.later hb_w7
        replace p4 := p4.later hb_w7
        replace b14 := b14.later hb_w7
        replace hx := hx.up hb_w7
        replace hxs := hxs.up hb_w7
        replace hr1 := hr1.up hb_w7
        replace hr2 := hr2.up hb_w7
        replace hb0 := bup hb0 hb_w7
        obtain ⟨p0_0, p0_1, p0_2, p0_f⟩ := octbox p0
        obtain ⟨p4_0, p4_1, p4_2, p4_f⟩ := octbox p4
        obtain ⟨b14_0, b14_1, b14_2, b14_f⟩ := octbox b14
        go_wp2_with fail
        clear p0_0 p0_1 p0_2 p0_f p4_0 p4_1 p4_2 p4_f b14_0 b14_1 b14_2 b14_f
        (with_reducible refine (hcS.out w7 hr2 hxs).mono ?_)
        rintro e_w8 w8 ⟨rfl, hb_w8⟩
        replace p0 := p0.later hb_w8
        replace p4 := p4.later hb_w8
        replace b14 := b14.later hb_w8
        replace hx := hx.up hb_w8
        replace hxs := hxs.up hb_w8
        replace hr1 := hr1.up hb_w8
        replace hr2 := hr2.up hb_w8
        replace hb0 := bup hb0 hb_w8
        obtain ⟨p0_0, p0_1, p0_2, p0_f⟩ := octbox p0
        obtain ⟨p4_0, p4_1, p4_2, p4_f⟩ := octbox p4
        obtain ⟨b14_0, b14_1, b14_2, b14_f⟩ := octbox b14
        go_wp2_with fail
        clear p0_0 p0_1 p0_2 p0_f p4_0 p4_1 p4_2 p4_f b14_0 b14_1 b14_2 b14_f
        (with_reducible refine (hco.out w8 hx hxs).mono ?_)
        rintro e_w9 w9 ⟨rfl, hb_w9⟩
        replace p0 := p0.later hb_w9
        replace p4 := p4.later hb_w9
        replace b14 := b14.later hb_w9
        replace hx := hx.up hb_w9
        replace hxs := hxs.up hb_w9
        replace hr1 := hr1.up hb_w9
        replace hr2 := hr2.up hb_w9
        replace hb0 := bup hb0 hb_w9
        go_wp2
        go_ret
        exact ⟨rfl, hb0⟩
      · exact absurd (hl2 rfl) (by simp)
      · exact absurd (hl1 rfl) (by simp)
      · exact absurd (hl1 rfl) (by simp)
      · exact absurd (hl3 rfl) (by simp)
      · clear hl1 hl2 hl3
        obtain ⟨p0_0, p0_1, p0_2, p0_f⟩ := octbox p0
        obtain ⟨p4_0, p4_1, p4_2, p4_f⟩ := octbox p4
        obtain ⟨b14_0, b14_1, b14_2, b14_f⟩ := octbox b14
        go_wp2_with fail
        clear p0_0 p0_1 p0_2 p0_f p4_0 p4_1 p4_2 p4_f b14_0 b14_1 b14_2 b14_f
        (with_reducible refine (hcR.out wc hr1 hxs).mono ?_)
        rintro e_w7 w7 ⟨rfl, hb_w7⟩
        replace p0 := p0.later hb_w7
        replace p4 := p4.later hb_w7
        replace b14 := b14.later hb_w7
        replace hx := hx.up hb_w7
        replace hxs := hxs.up hb_w7
        replace hr1 := hr1.up hb_w7
        replace hr2 := hr2.up hb_w7
        replace hb0 := bup hb0 hb_w7
        obtain ⟨p0_0, p0_1, p0_2, p0_f⟩ := octbox p0
        obtain ⟨p4_0, p4_1, p4_2, p4_f⟩ := octbox p4
        obtain ⟨b14_0, b14_1, b14_2, b14_f⟩ := octbox b14
        go_wp2_with fail
        clear p0_0 p0_1 p0_2 p0_f p4_0 p4_1 p4_2 p4_f b14_0 b14_1 b14_2 b14_f
        (with_reducible refine (hcS.out w7 hr2 hxs).mono ?_)
        rintro e_w8 w8 ⟨rfl, hb_w8⟩
        replace p0 := p0.later hb_w8
        replace p4 := p4.later hb_w8
        replace b14 := b14.later hb_w8
        replace hx := hx.up hb_w8
        replace hxs := hxs.up hb_w8
        replace hr1 := hr1.up hb_w8
        replace hr2 := hr2.up hb_w8
        replace hb0 := bup hb0 hb_w8
        obtain ⟨p0_0, p0_1, p0_2, p0_f⟩ := octbox p0
        obtain ⟨p4_0, p4_1, p4_2, p4_f⟩ := octbox p4
        obtain ⟨b14_0, b14_1, b14_2, b14_f⟩ := octbox b14
        go_wp2_with fail
        clear p0_0 p0_1 p0_2 p0_f p4_0 p4_1 p4_2 p4_f b14_0 b14_1 b14_2 b14_f
        (with_reducible refine (hco.out w8 hx hxs).mono ?_)
        rintro e_w9 w9 ⟨rfl, hb_w9⟩
        replace p0 := p0.later hb_w9
        replace p4 := p4.later hb_w9
        replace b14 := b14.later hb_w9
        replace hx := hx.up hb_w9
        replace hxs := hxs.up hb_w9
        replace hr1 := hr1.up hb_w9
        replace hr2 := hr2.up hb_w9
        replace hb0 := bup hb0 hb_w9
        obtain ⟨p0_0, p0_1, p0_2, p0_f⟩ := octbox p0
        obtain ⟨p4_0, p4_1, p4_2, p4_f⟩ := octbox p4
        obtain ⟨b14_0, b14_1, b14_2, b14_f⟩ := octbox b14
        go_wp2_with fail
        clear p0_0 p0_1 p0_2 p0_f p4_0 p4_1 p4_2 p4_f b14_0 b14_1 b14_2 b14_f
        (with_reducible refine (hco.out w9 hx hxs).mono ?_)
        rintro e_w10 w10 ⟨rfl, hb_w10⟩
        replace p0 := p0.later hb_w10
        replace p4 := p4.later hb_w10
        replace b14 := b14.later hb_w10
        replace hx := hx.up hb_w10
        replace hxs := hxs.up hb_w10
        replace hr1 := hr1.up hb_w10
        replace hr2 := hr2.up hb_w10
        replace hb0 := bup hb0 hb_w10
        obtain ⟨p0_0, p0_1, p0_2, p0_f⟩ := octbox p0
        obtain ⟨p4_0, p4_1, p4_2, p4_f⟩ := octbox p4
        obtain ⟨b14_0, b14_1, b14_2, b14_f⟩ := octbox b14
        go_wp2_with fail
        clear p0_0 p0_1 p0_2 p0_f p4_0 p4_1 p4_2 p4_f b14_0 b14_1 b14_2 b14_f
        (with_reducible refine (hcR.out w10 hr1 hxs).mono ?_)
        rintro e_w11 w11 ⟨rfl, hb_w11⟩
        replace p0 := p0.later hb_w11
        replace p4 := p4.later hb_w11
        replace b14 := b14.later hb_w11
        replace hx := hx.up hb_w11
        replace hxs := hxs.up hb_w11
        replace hr1 := hr1.up hb_w11
        replace hr2 := hr2.up hb_w11
        replace hb0 := bup hb0 hb_w11
        obtain ⟨p0_0, p0_1, p0_2, p0_f⟩ := octbox p0
        obtain ⟨p4_0, p4_1, p4_2, p4_f⟩ := octbox p4
        obtain ⟨b14_0, b14_1, b14_2, b14_f⟩ := octbox b14
        go_wp2_with fail
        clear p0_0 p0_1 p0_2 p0_f p4_0 p4_1 p4_2 p4_f b14_0 b14_1 b14_2 b14_f
        (with_reducible refine (hcS.out w11 hr2 hxs).mono ?_)
        rintro e_w12 w12 ⟨rfl, hb_w12⟩
        replace p0 := p0.later hb_w12
        replace p4 := p4.later hb_w12
        replace b14 := b14.later hb_w12
        replace hx := hx.up hb_w12
        replace hxs := hxs.up hb_w12
        replace hr1 := hr1.up hb_w12
        replace hr2 := hr2.up hb_w12
        replace hb0 := bup hb0 hb_w12
        go_wp2
        go_ret
        exact ⟨rfl, hb0⟩
      · clear hl1 hl2 hl3
        obtain ⟨p0_0, p0_1, p0_2, p0_f⟩ := octbox p0
        obtain ⟨p4_0, p4_1, p4_2, p4_f⟩ := octbox p4
        obtain ⟨b14_0, b14_1, b14_2, b14_f⟩ := octbox b14
        go_wp2_with fail
        clear p0_0 p0_1 p0_2 p0_f p4_0 p4_1 p4_2 p4_f b14_0 b14_1 b14_2 b14_f
        (with_reducible refine (hcR.out wc hr1 hxs).mono ?_)
        rintro e_w7 w7 ⟨rfl, hb_w7⟩
        replace p0 := p0.later hb_w7
        replace p4 := p4.later hb_w7
        replace b14 := b14.later hb_w7
        replace hx := hx.up hb_w7
        replace hxs := hxs.up hb_w7
        replace hr1 := hr1.up hb_w7
        replace hr2 := hr2.up hb_w7
        replace hb0 := bup hb0 hb_w7
        obtain ⟨p0_0, p0_1, p0_2, p0_f⟩ := octbox p0
        obtain ⟨p4_0, p4_1, p4_2, p4_f⟩ := octbox p4
        obtain ⟨b14_0, b14_1, b14_2, b14_f⟩ := octbox b14
        go_wp2_with fail
        clear p0_0 p0_1 p0_2 p0_f p4_0 p4_1 p4_2 p4_f b14_0 b14_1 b14_2 b14_f
        (with_reducible refine (hco.out w7 hx hxs).mono ?_)
        rintro e_w8 w8 ⟨rfl, hb_w8⟩
        replace p0 := p0.later hb_w8
        replace p4 := p4.later hb_w8
        replace b14 := b14.later hb_w8
        replace hx := hx.up hb_w8
        replace hxs := hxs.up hb_w8
        replace hr1 := hr1.up hb_w8
        replace hr2 := hr2.up hb_w8
        replace hb0 := bup hb0 hb_w8
        obtain ⟨p0_0, p0_1, p0_2, p0_f⟩ := octbox p0
        obtain ⟨p4_0, p4_1, p4_2, p4_f⟩ := octbox p4
        obtain ⟨b14_0, b14_1, b14_2, b14_f⟩ := octbox b14
        go_wp2_with fail
        clear p0_0 p0_1 p0_2 p0_f p4_0 p4_1 p4_2 p4_f b14_0 b14_1 b14_2 b14_f
        (with_reducible refine (hcS.out w8 hr2 hxs).mono ?_)
        rintro e_w9 w9 ⟨rfl, hb_w9⟩
        replace p0 := p0.later hb_w9
        replace p4 := p4.later hb_w9
        replace b14 := b14.later hb_w9
        replace hx := hx.up hb_w9
        replace hxs := hxs.up hb_w9
        replace hr1 := hr1.up hb_w9
        replace hr2 := hr2.up hb_w9
        replace hb0 := bup hb0 hb_w9
        obtain ⟨p0_0, p0_1, p0_2, p0_f⟩ := octbox p0
        obtain ⟨p4_0, p4_1, p4_2, p4_f⟩ := octbox p4
        obtain ⟨b14_0, b14_1, b14_2, b14_f⟩ := octbox b14
        go_wp2_with fail
        clear p0_0 p0_1 p0_2 p0_f p4_0 p4_1 p4_2 p4_f b14_0 b14_1 b14_2 b14_f
        (with_reducible refine (hco.out w9 hx hxs).mono ?_)
        rintro e_w10 w10 ⟨rfl, hb_w10⟩
        replace p0 := p0.later hb_w10
        replace p4 := p4.later hb_w10
        replace b14 := b14.later hb_w10
        replace hx := hx.up hb_w10
        replace hxs := hxs.up hb_w10
        replace hr1 := hr1.up hb_w10
        replace hr2 := hr2.up hb_w10
        replace hb0 := bup hb0 hb_w10
        obtain ⟨p0_0, p0_1, p0_2, p0_f⟩ := octbox p0
        obtain ⟨p4_0, p4_1, p4_2, p4_f⟩ := octbox p4
        obtain ⟨b14_0, b14_1, b14_2, b14_f⟩ := octbox b14
        go_wp2_with fail
        clear p0_0 p0_1 p0_2 p0_f p4_0 p4_1 p4_2 p4_f b14_0 b14_1 b14_2 b14_f
        (with_reducible refine (hcR.out w10 hr1 hxs).mono ?_)
        rintro e_w11 w11 ⟨rfl, hb_w11⟩
        replace p0 := p0.later hb_w11
        replace p4 := p4.later hb_w11
        replace b14 := b14.later hb_w11
        replace hx := hx.up hb_w11
        replace hxs := hxs.up hb_w11
        replace hr1 := hr1.up hb_w11
        replace hr2 := hr2.up hb_w11
        replace hb0 := bup hb0 hb_w11
        go_wp2
        go_ret
        exact ⟨rfl, hb0⟩
      · clear hl1 hl2 hl3
        obtain ⟨p0_0, p0_1, p0_2, p0_f⟩ := octbox p0
        obtain ⟨p4_0, p4_1, p4_2, p4_f⟩ := octbox p4
        obtain ⟨b14_0, b14_1, b14_2, b14_f⟩ := octbox b14
        go_wp2_with fail
        clear p0_0 p0_1 p0_2 p0_f p4_0 p4_1 p4_2 p4_f b14_0 b14_1 b14_2 b14_f
        (with_reducible refine (hcR.out wc hr1 hxs).mono ?_)
        rintro e_w7 w7 ⟨rfl, hb_w7⟩
        replace p0 := p0.later hb_w7
        replace p4 := p4.later hb_w7
        replace b14 := b14.later hb_w7
        replace hx := hx.up hb_w7
        replace hxs := hxs.up hb_w7
        replace hr1 := hr1.up hb_w7
        replace hr2 := hr2.up hb_w7
        replace hb0 := bup hb0 hb_w7
        obtain ⟨p0_0, p0_1, p0_2, p0_f⟩ := octbox p0
        obtain ⟨p4_0, p4_1, p4_2, p4_f⟩ := octbox p4
        obtain ⟨b14_0, b14_1, b14_2, b14_f⟩ := octbox b14
        go_wp2_with fail
        clear p0_0 p0_1 p0_2 p0_f p4_0 p4_1 p4_2 p4_f b14_0 b14_1 b14_2 b14_f
        (with_reducible refine (hco.out w7 hx hxs).mono ?_)
        rintro e_w8 w8 ⟨rfl, hb_w8⟩
        replace p0 := p0.later hb_w8
        replace p4 := p4.later hb_w8
        replace b14 := b14.later hb_w8
        replace hx := hx.up hb_w8
        replace hxs := hxs.up hb_w8
        replace hr1 := hr1.up hb_w8
        replace hr2 := hr2.up hb_w8
        replace hb0 := bup hb0 hb_w8
        obtain ⟨p0_0, p0_1, p0_2, p0_f⟩ := octbox p0
        obtain ⟨p4_0, p4_1, p4_2, p4_f⟩ := octbox p4
        obtain ⟨b14_0, b14_1, b14_2, b14_f⟩ := octbox b14
        go_wp2_with fail
        clear p0_0 p0_1 p0_2 p0_f p4_0 p4_1 p4_2 p4_f b14_0 b14_1 b14_2 b14_f
        (with_reducible refine (hcS.out w8 hr2 hxs).mono ?_)
        rintro e_w9 w9 ⟨rfl, hb_w9⟩
        replace p0 := p0.later hb_w9
        replace p4 := p4.later hb_w9
        replace b14 := b14.later hb_w9
        replace hx := hx.up hb_w9
        replace hxs := hxs.up hb_w9
        replace hr1 := hr1.up hb_w9
        replace hr2 := hr2.up hb_w9
        replace hb0 := bup hb0 hb_w9
        obtain ⟨p0_0, p0_1, p0_2, p0_f⟩ := octbox p0
        obtain ⟨p4_0, p4_1, p4_2, p4_f⟩ := octbox p4
        obtain ⟨b14_0, b14_1, b14_2, b14_f⟩ := octbox b14
        go_wp2_with fail
        clear p0_0 p0_1 p0_2 p0_f p4_0 p4_1 p4_2 p4_f b14_0 b14_1 b14_2 b14_f
        (with_reducible refine (hco.out w9 hx hxs).mono ?_)
        rintro e_w10 w10 ⟨rfl, hb_w10⟩
        replace p0 := p0.later hb_w10
        replace p4 := p4.later hb_w10
        replace b14 := b14.later hb_w10
        replace hx := hx.up hb_w10
        replace hxs := hxs.up hb_w10
        replace hr1 := hr1.up hb_w10
        replace hr2 := hr2.up hb_w10
        replace hb0 := bup hb0 hb_w10
        obtain ⟨p0_0, p0_1, p0_2, p0_f⟩ := octbox p0
        obtain ⟨p4_0, p4_1, p4_2, p4_f⟩ := octbox p4
        obtain ⟨b14_0, b14_1, b14_2, b14_f⟩ := octbox b14
        go_wp2_with fail
        clear p0_0 p0_1 p0_2 p0_f p4_0 p4_1 p4_2 p4_f b14_0 b14_1 b14_2 b14_f
        (with_reducible refine (hco.out w10 hx hxs).mono ?_)
        rintro e_w11 w11 ⟨rfl, hb_w11⟩
        replace p0 := p0.later hb_w11
        replace p4 := p4.later hb_w11
        replace b14 := b14.later hb_w11
        replace hx := hx.up hb_w11
        replace hxs := hxs.up hb_w11
        replace hr1 := hr1.up hb_w11
        replace hr2 := hr2.up hb_w11
        replace hb0 := bup hb0 hb_w11
        obtain ⟨p0_0, p0_1, p0_2, p0_f⟩ := octbox p0
        obtain ⟨p4_0, p4_1, p4_2, p4_f⟩ := octbox p4
        obtain ⟨b14_0, b14_1, b14_2, b14_f⟩ := octbox b14
        go_wp2_with fail
        clear p0_0 p0_1 p0_2 p0_f p4_0 p4_1 p4_2 p4_f b14_0 b14_1 b14_2 b14_f
        (with_reducible refine (hcR.out w11 hr1 hxs).mono ?_)
        rintro e_w12 w12 ⟨rfl, hb_w12⟩
        replace p0 := p0.later hb_w12
        replace p4 := p4.later hb_w12
        replace b14 := b14.later hb_w12
        replace hx := hx.up hb_w12
        replace hxs := hxs.up hb_w12
        replace hr1 := hr1.up hb_w12
        replace hr2 := hr2.up hb_w12
        replace hb0 := bup hb0 hb_w12
        go_wp2
        go_ret
        exact ⟨rfl, hb0⟩

end Go.Proofs.YtnmpgijiimglcaaGreat
