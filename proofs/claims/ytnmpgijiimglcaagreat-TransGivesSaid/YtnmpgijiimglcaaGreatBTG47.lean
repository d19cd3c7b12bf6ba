/-
  gnomonref16.Give: what it answers.
  trans.Give: what it answers.
  gnomonref13.Close of octagons that may be; gnomonlaw16.steady.
  gnomonref16.Assume: what it answers.
-/
import Derived.Test.YtnmpgijiimglcaaGreatBTG42
import Derived.Test.YtnmpgijiimglcaaGreatBTG46
import Derived.Test.YtnmpgijiimglcaaGreatRRanged
import Derived.Test.YtnmpgijiimglcaaGreatBTG18
import Derived.Test.YtnmpgijiimglcaaGreatBTG31
namespace Go.Proofs.YtnmpgijiimglcaaGreat
section
open Go.RowKit
attribute [local go_sem ↓] Go.wp_at_zero Go.wp_at_succ

set_option maxRecDepth 8000 in
set_option maxHeartbeats 2000000 in
theorem rgives_ok (o : O) (ok : check o = 0) (v : Nat) (hv : (v : Int) < o.n) (r : Rg) (hlo : I64 r.lo) (A : Option Addr) (cap : Nat) (w : World) (hx : Rd w w.heap.size A o.m) (hm : o.m.length ≤ 17592186044416) :
    Calls Tryz.prog 31 #[.agg #[.int .i64 o.n, .bool o.e, .slice A o.m.length cap], .int .i64 (v : Int), r.val] w (OctOwn w (giveO o v r)) := by
  have okF : OkO o.n (forgetO o v) := OkO.forget ⟨rfl, ok⟩ v
  have okR : OkO o.n (rangedO (forgetO o v) v r) := okF.ranged hv r
  have hmF := OkO.small okF
  have hmR := OkO.small okR
  have HF := hid (fun W (h : Rd W W.heap.size A o.m) => rforget_ok o ok v hv A cap W h hm)
  have HG := hid (show giveO o v r = closeO (rangedO (forgetO o v) v r) from rfl)
  generalize giveO o v r = G at *
  have HR := hid (fun A c W h hb => rranged_ok o.n (forgetO o v) okF v w.heap.size hv r hlo A c W h hb)
  generalize forgetO o v = F at *
  rw [Rg.val_eq] at HR
  have HCL := hid (fun A c W h => rclosed_ok (rangedO F v r) okR.ok A c W h hmR)
  rw [← HG.out] at HCL
  generalize rangedO F v r = Q at *
  rw [Rg.val_eq]
  clear HG
  obtain ⟨p0, p1, p2, hb0, hsz⟩ := new_three w #[.int .i64 o.n, .bool o.e, .slice A o.m.length cap] #[.int .i64 r.lo, .int .i64 r.hi, .bool r.hl, .bool r.hh] #[.int .i64 0, .bool false, .slice none 0 0] 24 49 24
  replace hx := hx.up hb0
  have HSZ := hid hsz
  clear hsz
  go_enter Tryz.func31, Tryz.ntmps31
  go_upto_region 1 with fail
  generalize ((w.alloc (Obj.cells #[.int .i64 o.n, .bool o.e, .slice A o.m.length cap] 24)).alloc (Obj.cells #[.int .i64 r.lo, .int .i64 r.hi, .bool r.hl, .bool r.hh] 49)).alloc (Obj.cells #[.int .i64 0, .bool false, .slice none 0 0] 24) = w1 at *
  have f0 := laterE (show w1.cell? ⟨w.heap.size, 0, none⟩ = some (.int .i64 o.n) from p0.cell 0)
  have f1 := laterE (show w1.cell? ⟨w.heap.size, 1, none⟩ = some (.bool o.e) from p0.cell 1)
  have f2 := laterE (show w1.cell? ⟨w.heap.size, 2, none⟩ = some (.slice A o.m.length cap) from p0.cell 2)
  have j0 := laterE (show w1.cell? ⟨w.heap.size + 1, 0, none⟩ = some (.int .i64 r.lo) from p1.cell 0)
  have j1 := laterE (show w1.cell? ⟨w.heap.size + 1, 1, none⟩ = some (.int .i64 r.hi) from p1.cell 1)
  have j2 := laterE (show w1.cell? ⟨w.heap.size + 1, 2, none⟩ = some (.bool r.hl) from p1.cell 2)
  have j3 := laterE (show w1.cell? ⟨w.heap.size + 1, 3, none⟩ = some (.bool r.hh) from p1.cell 3)
  refine wp_region_flowE 5 [Sp.val (.agg #[.int .i64 o.n, .bool o.e, .slice A o.m.length cap]), Sp.val (.int .i64 (v : Int)), Sp.any (IsOct F), Sp.val (.int .i64 (v : Int)), Sp.val (.agg #[.int .i64 r.lo, .int .i64 r.hi, .bool r.hl, .bool r.hh])] (by kernel_rfl) (by kernel_rfl) ?_
  (refine FlowE.take (by rfl) (fun W hW R hR => ?_) (fun _ _ => ?_); (go_simp; (try go_bits); with_reducible exact hR); simp only [Act.put, List.setIfInBounds_toArray, List.set_cons_zero, List.set_cons_succ])
  (refine FlowE.take (by rfl) (fun W hW R hR => ?_) (fun _ _ => ?_); (go_simp; (try go_bits); with_reducible exact hR); simp only [Act.put, List.setIfInBounds_toArray, List.set_cons_zero, List.set_cons_succ])
  refine FlowE.call 69 #[.agg #[.int .i64 o.n, .bool o.e, .slice A o.m.length cap], .int .i64 (v : Int)] (by rfl) (fun W hW => by go_simp) (fun W hW => (HF.out W (hx.up (Ext.trans (Below.refl _ _).drew hW))).mono fun _ _ ⟨A1, c1, he, ho, hb⟩ => ⟨_, he, hb, A1, c1, rfl, ho⟩) (fun v2 l2 h2 => ?_)
  simp only [Act.put, List.setIfInBounds_toArray, List.set_cons_zero, List.set_cons_succ]
  (refine FlowE.take (by rfl) (fun W hW R hR => ?_) (fun _ _ => ?_); (go_simp; (try go_bits); with_reducible exact hR); simp only [Act.put, List.setIfInBounds_toArray, List.set_cons_zero, List.set_cons_succ])
  (refine FlowE.take (by rfl) (fun W hW R hR => ?_) (fun _ _ => ?_); (go_simp; (try go_bits); with_reducible exact hR); simp only [Act.put, List.setIfInBounds_toArray, List.set_cons_zero, List.set_cons_succ])
  refine FlowE.tail (fun W hW hf hd => ?_)
  replace hW : Below w1.heap.size w1 W := Ext.trans (Below.refl _ _).drew hW
  obtain ⟨A1, c1, rfl, own1, hlo1, -, -⟩ := fact_oct (show Sp.fact w1.drew (Sp.any (IsOct F)) v2 l2 h2 W from hf 2)
  replace own1 : Own W w.heap.size A1 c1 F.m := own1.less (by have := HSZ.out; have h5 : w1.heap.size ≤ l2 := hlo1; omega)
  clear hf hd f0 f1 f2 j0 j1 j2 j3 HF hlo1
  replace p0 := p0.later hW
  replace p1 := p1.later hW
  replace p2 := p2.later hW
  replace hx := hx.up hW
  replace hb0 := bup hb0 hW
  clear hx
  go_wp2_with fail
  have hbs := hb0.size
  have own := own1
  clear own1
  have HX := hid (HR.out A1 c1 W own hbs)
  (try dsimp only at HX)
  (with_reducible refine HX.out.mono ?_)
  clear HX
  rintro e_w2 w2 ⟨A2, c2, rfl, own_w2, -, hg_w2, -⟩
  replace p0 := p0.kept hg_w2 (row_ne own p0 (by decide))
  replace p1 := p1.kept hg_w2 (row_ne own p1 (by decide))
  replace p2 := p2.kept hg_w2 (row_ne own p2 (by decide))
  replace hb0 := hb0.trans (below_grown hg_w2 (row_ge own) hb0.size)
  clear own hg_w2
  have own := own_w2
  clear own_w2
  have hr2 := own.rd
  go_wp2_with fail
  (with_reducible refine (HCL.out A2 c2 w2 hr2).mono ?_)
  rintro e_w3 w3 ⟨A3, c3, rfl, own3, hb_w3⟩
  have hle3 := hb0.size
  replace p0 := p0.later hb_w3
  replace p1 := p1.later hb_w3
  replace p2 := p2.later hb_w3
  replace hr2 := hr2.up hb_w3
  replace own := own.below hb_w3
  replace hb0 := bup hb0 hb_w3
  obtain ⟨p2_0, p2_1, p2_2, p2_f⟩ := octbox p2
  go_wp2
  clear p2_0 p2_1 p2_2 p2_f
  have o9 := own3.far3 (g := w.heap.size + 2) (v0 := .int .i64 G.n) (v1 := .bool G.e) (v2 := .slice A3 G.m.length c3) (own_blk' own3 p2 (by decide))
  have hq2 : w.heap.size + 1 + 1 = w.heap.size + 2 := rfl
  have q9 := p2.set3 (v0 := .int .i64 G.n) (v1 := .bool G.e) (v2 := .slice A3 G.m.length c3)
  have hb9 := hb0.trans (below3 (W := w3) (g := w.heap.size + 1 + 1) (v0 := .int .i64 G.n) (v1 := .bool G.e) (v2 := .slice A3 G.m.length c3) (by omega) hb0.size)
  have own9 := own3.far3 (g := w.heap.size + 1 + 1) (v0 := .int .i64 G.n) (v1 := .bool G.e) (v2 := .slice A3 G.m.length c3) (own_blk' own3 p2 (by decide))
  obtain ⟨z0, z1, z2, fz⟩ := octbox q9
  refine bodyPost_ret (v := .agg #[.int .i64 G.n, .bool G.e, .slice A3 G.m.length c3]) (by simp [results, Tryz.results31, go_sem, z0, z1, z2]) rfl ?_
  exact ⟨_, _, rfl, o9.less hle3, hb9⟩
end
section
open Go.RowKit
attribute [local go_sem ↓] Go.wp_at_zero Go.wp_at_succ

set_option maxRecDepth 8000 in
set_option maxHeartbeats 4000000 in
theorem tgive_any (o : O) (v : Int) (r : Rg) (hlo : I64 r.lo) (A : Option Addr) (cap : Nat) (w : World) (hx : Rd w w.heap.size A o.m) (hm : o.m.length ≤ 17592186044416) (B : Nat) (hB : B ≤ w.heap.size) :
    Calls Tryz.prog 30 #[.agg #[.int .i64 o.n, .bool o.e, .slice A o.m.length cap], .int .i64 v, r.val] w (ErrSx w B (giveAns o v r) (giveErr o v)) := by
  have HE : Hid (giveErr o v = if check o ≠ 0 then check o else if 0 ≤ v ∧ v < o.n then 0 else 122) := hid rfl
  have HR : Hid (giveAns o v r = if giveErr o v = 0 then giveO o v.toNat r else ⟨0, false, []⟩) := hid rfl
  generalize giveAns o v r = R at *
  generalize giveErr o v = E at *
  have HCK := hid (fun W (h : Rd W W.heap.size A o.m) => check_any o A cap W h (by omega))
  have HG := hid (fun (ok : check o = 0) (u : Nat) (hu : (u : Int) < o.n) W (h : Rd W W.heap.size A o.m) => tgives_ok o ok u hu r hlo A cap W h hm)
  rw [Rg.val_eq] at HG ⊢
  have HK : Hid (∃ k, k = check o) := hid ⟨_, rfl⟩
  obtain ⟨k, hk⟩ := HK.out
  rw [← hk] at HCK HE HG
  clear HK hlo
  obtain ⟨p0, p1, p2, hb0, hsz⟩ := new_three w #[.int .i64 o.n, .bool o.e, .slice A o.m.length cap] #[.int .i64 r.lo, .int .i64 r.hi, .bool r.hl, .bool r.hh] #[.int .i64 0, .bool false, .slice none 0 0] 24 49 24
  replace hx := hx.up hb0
  have HSZ := hid hsz
  clear hsz hk
  obtain ⟨p0_0, p0_1, p0_2, p0_f⟩ := octbox p0
  go_enter Tryz.func30, Tryz.ntmps30
  go_wp2_with fail
  clear p0_0 p0_1 p0_2 p0_f
  generalize ((w.alloc (Obj.cells #[.int .i64 o.n, .bool o.e, .slice A o.m.length cap] 24)).alloc (Obj.cells #[.int .i64 r.lo, .int .i64 r.hi, .bool r.hl, .bool r.hh] 49)).alloc (Obj.cells #[.int .i64 0, .bool false, .slice none 0 0] 24) = w1 at *
  (with_reducible refine (HCK.out w1 hx).mono ?_)
  rintro e_w2 w2 ⟨rfl, hb_w2⟩
  replace p0 := p0.later hb_w2
  replace p1 := p1.later hb_w2
  replace p2 := p2.later hb_w2
  replace hx := hx.up hb_w2
  replace hb0 := bup hb0 hb_w2
  cases t1 : (k != 0)
  rotate_left
  · have hk0 : k ≠ 0 := by simpa using t1
    have e1 : E = k := by rw [HE.out, if_pos hk0]
    have e2 : R = ⟨0, false, []⟩ := by rw [HR.out, e1, if_neg hk0]
    subst e2
    clear HR HE HG hk0
    subst e1
    obtain ⟨p2_0, p2_1, p2_2, p2_f⟩ := octbox p2
    go_wp2
    clear p2_0 p2_1 p2_2 p2_f
    have hBz := hb0.size
    have q9 := p2.set3 (v0 := .int .i64 0) (v1 := .bool false) (v2 := .slice none 0 0)
    have hb9 := hb0.trans (below3 (W := w2) (g := w.heap.size + 1 + 1) (v0 := .int .i64 0) (v1 := .bool false) (v2 := .slice none 0 0) (by omega) hb0.size)
    obtain ⟨z0, z1, z2, fz⟩ := octbox q9
    refine bodyPost_ret (v := .tuple #[.agg #[.int .i64 0, .bool false, .slice none 0 0], .int .i64 E]) (by simp [results, Tryz.results30, go_sem, z0, z1, z2]) rfl ?_
    exact ⟨none, 0, rfl, sx_nil _ _, hb9⟩
  · have hk0 : k = 0 := by simpa using t1
    subst hk0
    clear t1
    replace HE : Hid (E = if 0 ≤ v ∧ v < o.n then 0 else 122) := hid (by rw [HE.out, if_neg (by simp)])
    by_cases h1 : v < 0
    · have e1 : E = 122 := by rw [HE.out, if_neg (by omega)]
      have e2 : R = ⟨0, false, []⟩ := by rw [HR.out, e1, if_neg (by omega)]
      subst e2
      clear HR HE HG
      subst e1
      have t2 : decide (v < 0) = true := by rw [decide_eq_true_eq]; exact h1
      obtain ⟨p0_0, p0_1, p0_2, p0_f⟩ := octbox p0
      obtain ⟨p2_0, p2_1, p2_2, p2_f⟩ := octbox p2
      go_wp2
      clear p0_0 p0_1 p0_2 p0_f p2_0 p2_1 p2_2 p2_f
      have hBz := hb0.size
      have q9 := p2.set3 (v0 := .int .i64 0) (v1 := .bool false) (v2 := .slice none 0 0)
      have hb9 := hb0.trans (below3 (W := w2) (g := w.heap.size + 1 + 1) (v0 := .int .i64 0) (v1 := .bool false) (v2 := .slice none 0 0) (by omega) hb0.size)
      obtain ⟨z0, z1, z2, fz⟩ := octbox q9
      refine bodyPost_ret (v := .tuple #[.agg #[.int .i64 0, .bool false, .slice none 0 0], .int .i64 122]) (by simp [results, Tryz.results30, go_sem, z0, z1, z2]) rfl ?_
      exact ⟨none, 0, rfl, sx_nil _ _, hb9⟩
    · obtain ⟨u, rfl⟩ : ∃ u : Nat, v = (u : Int) := ⟨v.toNat, by omega⟩
      have t2 : decide ((u : Int) < 0) = false := by rw [decide_eq_false_iff_not]; exact h1
      by_cases h2 : o.n ≤ (u : Int)
      · have e1 : E = 122 := by rw [HE.out, if_neg (by omega)]
        have e2 : R = ⟨0, false, []⟩ := by rw [HR.out, e1, if_neg (by omega)]
        subst e2
        clear HR HE HG
        subst e1
        have t3 : decide (o.n ≤ (u : Int)) = true := by rw [decide_eq_true_eq]; exact h2
        obtain ⟨p0_0, p0_1, p0_2, p0_f⟩ := octbox p0
        obtain ⟨p2_0, p2_1, p2_2, p2_f⟩ := octbox p2
        go_wp2
        clear p0_0 p0_1 p0_2 p0_f p2_0 p2_1 p2_2 p2_f
        have hBz := hb0.size
        have q9 := p2.set3 (v0 := .int .i64 0) (v1 := .bool false) (v2 := .slice none 0 0)
        have hb9 := hb0.trans (below3 (W := w2) (g := w.heap.size + 1 + 1) (v0 := .int .i64 0) (v1 := .bool false) (v2 := .slice none 0 0) (by omega) hb0.size)
        obtain ⟨z0, z1, z2, fz⟩ := octbox q9
        refine bodyPost_ret (v := .tuple #[.agg #[.int .i64 0, .bool false, .slice none 0 0], .int .i64 122]) (by simp [results, Tryz.results30, go_sem, z0, z1, z2]) rfl ?_
        exact ⟨none, 0, rfl, sx_nil _ _, hb9⟩
      · have t3 : decide (o.n ≤ (u : Int)) = false := by rw [decide_eq_false_iff_not]; exact h2
        have e1 : E = 0 := by rw [HE.out, if_pos (by omega)]
        have e2 : R = giveO o u r := by rw [HR.out, e1, if_pos rfl]; simp
        have HG2 := hid (HG.out (by first | rfl | trivial) u (by omega) w2 hx)
        rw [← e2] at HG2
        clear HE HR HG HCK h1 h2 e2
        subst e1
        obtain ⟨p0_0, p0_1, p0_2, p0_f⟩ := octbox p0
        obtain ⟨p1_0, p1_1, p1_2, p1_3, p1_f⟩ := rgbox p1
        go_wp2_with fail
        clear p0_0 p0_1 p0_2 p0_f p1_0 p1_1 p1_2 p1_3 p1_f
        have hle : w.heap.size ≤ w2.heap.size := hb0.size
        have hBc := Nat.le_trans hB hle
        (with_reducible refine (HG2.out).mono ?_)
        rintro e_w3 w3 ⟨A2, c2, rfl, own2, hb_w3⟩
        have sx2 := Sx.of_own own2 hBc
        clear HG2
        replace p0 := p0.later hb_w3
        replace p1 := p1.later hb_w3
        replace p2 := p2.later hb_w3
        replace hx := hx.up hb_w3
        replace hb0 := bup hb0 hb_w3
        obtain ⟨p2_0, p2_1, p2_2, p2_f⟩ := octbox p2
        go_wp2
        clear p2_0 p2_1 p2_2 p2_f
        have hBz := hb0.size
        have s9 := sx2.far3 (g := w.heap.size + 1 + 1) (v0 := .int .i64 R.n) (v1 := .bool R.e) (v2 := .slice A2 R.m.length c2) (by omega) p2 (by decide)
        have q9 := p2.set3 (v0 := .int .i64 R.n) (v1 := .bool R.e) (v2 := .slice A2 R.m.length c2)
        have hb9 := hb0.trans (below3 (W := w3) (g := w.heap.size + 1 + 1) (v0 := .int .i64 R.n) (v1 := .bool R.e) (v2 := .slice A2 R.m.length c2) (by omega) hb0.size)
        obtain ⟨z0, z1, z2, fz⟩ := octbox q9
        refine bodyPost_ret (v := .tuple #[.agg #[.int .i64 R.n, .bool R.e, .slice A2 R.m.length c2], .int .i64 0]) (by simp [results, Tryz.results30, go_sem, z0, z1, z2]) rfl ?_
        exact ⟨_, _, rfl, s9, hb9⟩
end
section
open Go.RowKit
attribute [local go_sem ↓] Go.wp_at_zero Go.wp_at_succ
end
section
open Go.RowKit
attribute [local go_sem ↓] Go.wp_at_zero Go.wp_at_succ
end
end Go.Proofs.YtnmpgijiimglcaaGreat
