/-
  gnomonref27.Run tells what seenW says.
-/
import Derived.Test.YtkncebcekhfnfaaGreatRComes
import Derived.Test.YtkncebcekhfnfaaGreatWRun
import Derived.Test.YtkncebcekhfnfaaGreatBWE41
import Derived.Test.YtkncebcekhfnfaaGreatBWE42
namespace Go.Proofs.YtkncebcekhfnfaaGreat
open Go.RowKit
attribute [local go_sem ↓] Go.wp_at_zero Go.wp_at_succ

theorem OwnC.far {w : World} {base cap : Nat} {A : Option Addr} {zs : List Cm} (h : OwnC w base A cap zs) {g : Nat} (k : Nat) (u : Value) (hg : g < base) : OwnC (w.setCell ⟨g, k, none⟩ u) base A cap zs := h.setFar (p := ⟨g, k, none⟩) hg u
theorem comes_at {g : Gr} {m : Mach} {n : Nat} {zs : List Cm} (h : zs.map cmk = comesW g m n) {i : Nat} (hi : i < zs.length) : zs[i].p = ((mAt g m i).p : Int) ∧ zs[i].s = (i : Int) ∧ zs[i].xs = (mAt g m i).xs := by
  have e : (zs.map cmk)[i]? = (comesW g m n)[i]? := by rw [h]
  have hl : zs.length = n + 1 := by have := congrArg List.length h; rw [comesW_len, List.length_map] at this; exact this
  rw [List.getElem?_map, List.getElem?_eq_getElem hi] at e
  unfold comesW at e
  rw [List.getElem?_map, List.getElem?_range (by omega)] at e
  simp [cmk] at e
  exact e
/-- What is seen, in memory. -/
def SeenR (W : World) (ga gv : Nat) (s : Sn) : Prop := Blk W ga 36 (seenV s gv) ∧ Blk W gv 3 (intA s.vis)
theorem SeenR.up {W W' : World} {ga gv : Nat} {s : Sn} (h : SeenR W ga gv s) (hb : Below W.heap.size W W') : SeenR W' ga gv s := ⟨h.1.later hb, h.2.later hb⟩
theorem SeenR.mk' {W : World} {ga gv p : Nat} {hd : Bool} {st pt u : Int} {vis : List Int} (k1 : Blk W ga 36 #[.bool hd, .int .i64 st, .int .i64 pt, .slice (some ⟨gv, 0, none⟩) vis.length vis.length]) (k2 : Blk W gv 3 (intA (vis.set p u))) :
    SeenR W ga gv ⟨hd, st, pt, vis.set p u⟩ := ⟨by unfold seenV; dsimp only; rw [List.length_set]; exact k1, k2⟩
theorem rget_ok {g : Nat} {w : World} {t : TypeId} {a b c : Value} (h : Blk w g t #[a, b, c]) : w.cell? ⟨g, 0, none⟩ = some a ∧ w.cell? ⟨g, 1, none⟩ = some b ∧ w.cell? ⟨g, 2, none⟩ = some c ∧ ∀ j, w.frozen? ⟨g, j, none⟩ = false := ⟨h.cell 0, h.cell 1, h.cell 2, h.fr⟩
set_option maxRecDepth 8000 in
set_option maxHeartbeats 16000000 in
theorem r27run_ok (g : Gr) (V D E : Option Addr) (cv cd ce : Nat) (A : Option Addr) (c : Nat) (zs : List Z) (inp : List Int) (S : Option Addr) (sc : Nat) (k : Int) (w : World) (hD : RdD w w.heap.size D g.sz) (hE : RdE w w.heap.size E g.es) (hz : RowZ w A zs) (hS : Rd w w.heap.size S inp)
    (lv : g.nv ≤ 17592186044416) (ls : g.sz.length ≤ 17592186044416) (le : g.es.length ≤ 17592186044416) (lz : zs.length ≤ 17592186044416) (hi : ∀ e ∈ g.es, I64 e.an ∧ I64 e.bn) (hI : I64s inp) :
    Calls Tryz.prog 12 #[grV g V D E cv cd ce, .slice A zs.length c, .slice S inp.length sc, .int .i64 k] w (WRes g (zs.map (fun (z : Z) => z.1)) inp k w) := by
  have HCH := hid (fun W (h1 : RdD W W.heap.size D g.sz) (h2 : RdE W W.heap.size E g.es) => rgcheck_any g V D E cv cd ce W h1 h2 lv ls le)
  have HFI := hid (fun W (h1 : RowZ W A zs) (hc : chk g = 0) => rshaped_ok g V D E cv cd ce A c zs W h1 hc lz)
  have n0 := new1 w (.cells #[.slice V g.nv cv, .int .i64 g.tm, .slice D g.sz.length cd, .int .i64 g.pts, .int .i64 g.ex, .slice E g.es.length ce] 26)
  have n2 := new1 (w.alloc (.cells #[.slice V g.nv cv, .int .i64 g.tm, .slice D g.sz.length cd, .int .i64 g.pts, .int .i64 g.ex, .slice E g.es.length ce] 26)) (.cells #[.bool false, .int .i64 0, .int .i64 0, .slice none 0 0] 36)
  have k0 := (Blk.new w 26 #[.slice V g.nv cv, .int .i64 g.tm, .slice D g.sz.length cd, .int .i64 g.pts, .int .i64 g.ex, .slice E g.es.length ce]).later n2
  have k2 := Blk.new (w.alloc (.cells #[.slice V g.nv cv, .int .i64 g.tm, .slice D g.sz.length cd, .int .i64 g.pts, .int .i64 g.ex, .slice E g.es.length ce] 26)) 36 #[.bool false, .int .i64 0, .int .i64 0, .slice none 0 0]
  rw [show (w.alloc (.cells #[.slice V g.nv cv, .int .i64 g.tm, .slice D g.sz.length cd, .int .i64 g.pts, .int .i64 g.ex, .slice E g.es.length ce] 26)).heap.size = w.heap.size + 1 by simp] at k2
  have hb0 := bup n0 n2
  have HE0 := hid hE
  have HD0 := hid hD
  have HS0 := hid hS
  have HZ0 := hid hz
  have HI := hid hi
  have HII := hid hI
  clear n0 n2 hE hD hS hz hi hI
  unfold grV
  go_enter Tryz.func12, Tryz.ntmps12
  go_upto_region 1 with fail
  generalize (w.alloc (.cells #[.slice V g.nv cv, .int .i64 g.tm, .slice D g.sz.length cd, .int .i64 g.pts, .int .i64 g.ex, .slice E g.es.length ce] 26)).alloc (.cells #[.bool false, .int .i64 0, .int .i64 0, .slice none 0 0] 36) = w1 at *
  obtain ⟨f0, f1, f2, f3, f4, f5, ff⟩ := blk6 k0
  go_wp2_with fail
  clear f0 f1 f2 f3 f4 f5 ff
  have hR : Calls Tryz.prog 7 #[.agg #[.slice V g.nv cv, .int .i64 g.tm, .slice D g.sz.length cd, .int .i64 g.pts, .int .i64 g.ex, .slice E g.es.length ce]] w1 fun e w' => e = .returned (.int .i64 (chk g)) ∧ Below w1.heap.size w1 w' := HCH.out w1 (HD0.out.up hb0) (HE0.out.up hb0)
  (with_reducible refine hR.mono ?_)
  clear hR HCH
  rintro e2 w2 ⟨rfl, hb2⟩
  replace k0 := k0.later hb2
  replace k2 := k2.later hb2
  replace hb0 := bup hb0 hb2
  clear hb2
  obtain ⟨ck, HCK⟩ : ∃ ck, Hid (chk g = ck) := ⟨_, hid rfl⟩
  rw [HCK.out]
  by_cases hck : ck = 0
  case neg =>
    have HR : Hid (runE g (zs.map (fun (z : Z) => z.1)) inp.length k = ck) := hid (by unfold runE; rw [if_pos (by rw [HCK.out]; exact hck), HCK.out])
    have hne : (ck != 0) = true := by rw [bne_iff_ne]; exact hck
    have heq : (ck == 0) = false := by rw [beq_eq_false_iff_ne]; exact hck
    have HN := hid hck
    have HB := hid (below4 (W := w2) (B := w.heap.size) (g := w.heap.size + 1) (v0 := .bool false) (v1 := .int .i64 0) (v2 := .int .i64 0) (v3 := .slice none 0 0) (by omega) hb0.size)
    have K4 := hid (set4 (h := k2) (v0 := .bool false) (v1 := .int .i64 0) (v2 := .int .i64 0) (v3 := .slice none 0 0))
    obtain ⟨f0, f1, f2, f3, ff⟩ := blk4 k2
    clear hck
    go_wp2
    clear f0 f1 f2 f3 ff
    obtain ⟨f0, f1, f2, f3, ff⟩ := blk4 K4.out
    refine bodyPost_ret (v := .tuple #[.agg #[.bool false, .int .i64 0, .int .i64 0, .slice none 0 0], .int .i64 ck]) (by simp [results, Tryz.results12, go_sem, f0, f1, f2, f3]) rfl ?_
    exact ⟨0, by rw [HR.out, if_neg HN.out], fun h => absurd (HR.out.symm.trans h) HN.out, hb0.trans HB.out⟩
  subst hck
  obtain ⟨f0, f1, f2, f3, f4, f5, ff⟩ := blk6 k0
  go_wp2_with fail
  clear f0 f1 f2 f3 f4 f5 ff
  have hR : Calls Tryz.prog 30 #[.agg #[.slice V g.nv cv, .int .i64 g.tm, .slice D g.sz.length cd, .int .i64 g.pts, .int .i64 g.ex, .slice E g.es.length ce], .slice A zs.length c] w2 fun e w' => e = .returned (.bool (fitsB g (zs.map (fun (z : Z) => z.1)))) ∧ Below w2.heap.size w2 w' := HFI.out w2 (HZ0.out.up hb0) HCK.out
  (with_reducible refine hR.mono ?_)
  clear hR HFI
  rintro e3 w3 ⟨rfl, hb3⟩
  replace k0 := k0.later hb3
  replace k2 := k2.later hb3
  replace hb0 := bup hb0 hb3
  clear hb3
  obtain ⟨fb, HFB⟩ : ∃ fb, Hid (fitsB g (zs.map (fun (z : Z) => z.1)) = fb) := ⟨_, hid rfl⟩
  rw [HFB.out]
  cases fb
  case false =>
    have HR : Hid (runE g (zs.map (fun (z : Z) => z.1)) inp.length k = 211) := hid (by unfold runE; rw [if_neg (by rw [HCK.out]; decide), if_pos HFB.out])
    have HB := hid (below4 (W := w3) (B := w.heap.size) (g := w.heap.size + 1) (v0 := .bool false) (v1 := .int .i64 0) (v2 := .int .i64 0) (v3 := .slice none 0 0) (by omega) hb0.size)
    have K4 := hid (set4 (h := k2) (v0 := .bool false) (v1 := .int .i64 0) (v2 := .int .i64 0) (v3 := .slice none 0 0))
    obtain ⟨f0, f1, f2, f3, ff⟩ := blk4 k2
    go_wp2
    clear f0 f1 f2 f3 ff
    obtain ⟨f0, f1, f2, f3, ff⟩ := blk4 K4.out
    refine bodyPost_ret (v := .tuple #[.agg #[.bool false, .int .i64 0, .int .i64 0, .slice none 0 0], .int .i64 211]) (by simp [results, Tryz.results12, go_sem, f0, f1, f2, f3]) rfl ?_
    exact ⟨0, by rw [HR.out, if_neg (by decide)], fun h => absurd (HR.out.symm.trans h) (by decide), hb0.trans HB.out⟩
  obtain ⟨p1, p2, -, -⟩ := chk_in HCK.out
  obtain ⟨N, hN⟩ := Int.eq_ofNat_of_zero_le (show 0 ≤ g.pts by omega)
  have hNN : N ≤ 4096 := by omega
  have HN := hid hN
  have hlz : zs.length = N := by
    have h1 := HFB.out
    unfold fitsB at h1
    rw [Bool.and_eq_true, decide_eq_true_eq, List.length_map] at h1
    omega
  have HCKS := hid (fun (j : Nat) (hj : j < zs.length) => (show check zs[j].1 = 0 ∧ zs[j].1.n = g.all from by
    have h1 := HFB.out
    unfold fitsB at h1
    rw [Bool.and_eq_true, List.all_eq_true] at h1
    have h2 := h1.2 zs[j].1 (List.mem_map_of_mem (List.getElem_mem hj))
    rw [Bool.and_eq_true, decide_eq_true_eq, decide_eq_true_eq] at h2
    exact h2.symm))
  have HLZ := hid hlz
  clear p1 p2 hlz hN
  have HRF : Hid (runE g (zs.map (fun (z : Z) => z.1)) inp.length k = fuelE inp.length k) := hid (by unfold runE; rw [if_neg (by rw [HCK.out]; decide), if_neg (by rw [HFB.out]; decide)])
  go_wp2_with fail
  (with_reducible refine (rfuel_ok S inp.length sc k w3).mono ?_)
  rintro e4 w4 ⟨rfl, rfl⟩
  obtain ⟨fu, HFU⟩ : ∃ fu, Hid (fuelE inp.length k = fu) := ⟨_, hid rfl⟩
  rw [HFU.out]
  by_cases hfu : fu = 0
  case neg =>
    have hne : (fu != 0) = true := by rw [bne_iff_ne]; exact hfu
    have HN2 := hid hfu
    have HB := hid (below4 (W := w4) (B := w.heap.size) (g := w.heap.size + 1) (v0 := .bool false) (v1 := .int .i64 0) (v2 := .int .i64 0) (v3 := .slice none 0 0) (by omega) hb0.size)
    have K4 := hid (set4 (h := k2) (v0 := .bool false) (v1 := .int .i64 0) (v2 := .int .i64 0) (v3 := .slice none 0 0))
    obtain ⟨f0, f1, f2, f3, ff⟩ := blk4 k2
    clear hfu
    go_wp2
    clear f0 f1 f2 f3 ff
    obtain ⟨f0, f1, f2, f3, ff⟩ := blk4 K4.out
    refine bodyPost_ret (v := .tuple #[.agg #[.bool false, .int .i64 0, .int .i64 0, .slice none 0 0], .int .i64 fu]) (by simp [results, Tryz.results12, go_sem, f0, f1, f2, f3]) rfl ?_
    exact ⟨0, by rw [HRF.out, HFU.out, if_neg HN2.out], fun h => absurd ((HRF.out.trans HFU.out).symm.trans h) HN2.out, hb0.trans HB.out⟩
  subst hfu
  have hkb : 0 ≤ k ∧ k ≤ 65536 ∧ (inp.length : Int) ≤ 65536 := by
    have h1 := HFU.out
    unfold fuelE at h1
    split at h1
    · cases h1
    · omega
  have HKB := hid hkb
  have hk1 : -9223372036854775808 ≤ k + 1 ∧ k + 1 ≤ 9223372036854775807 := by omega
  obtain ⟨kn, rfl⟩ := Int.eq_ofNat_of_zero_le hkb.1
  clear hkb
  have hmk := wrun_make N (by omega)
  have hN2 : g.pts = (N : Int) := HN.out
  have n4 := new1 w4 (.cells (zcells N) 3)
  have kv := Blk.new w4 3 (zcells N)
  have n5 := new1 (w4.alloc (.cells (zcells N) 3)) (.cells #[.bool true, .int .i64 0, .int .i64 0, .slice (some ⟨w4.heap.size, 0, none⟩) N N] 36)
  have ks := Blk.new (w4.alloc (.cells (zcells N) 3)) 36 #[.bool true, .int .i64 0, .int .i64 0, .slice (some ⟨w4.heap.size, 0, none⟩) N N]
  rw [show (w4.alloc (.cells (zcells N) 3)).heap.size = w4.heap.size + 1 by simp] at ks
  replace kv := kv.later n5
  have hb5 := bup hb0 (bup n4 n5)
  have hk0 := (k0.later n4).later n5
  have hk2 := (k2.later n4).later n5
  have h8 : w.heap.size + 1 < w4.heap.size := k2.lt
  obtain ⟨f0, f1, f2, f3, f4, f5, ff⟩ := blk6 k0
  rw [hN2] at f3
  clear n4 n5 k2 hb0
  go_upto_region 9 with fail
  clear f0 f1 f2 f3 f4 f5 ff k0 hmk hN2
  have HSN : Hid (SeenR ((w4.alloc (.cells (zcells N) 3)).alloc (.cells #[.bool true, .int .i64 0, .int .i64 0, .slice (some ⟨w4.heap.size, 0, none⟩) N N] 36)) (w4.heap.size + 1) w4.heap.size (snZero g)) := hid ⟨by
      have h1 := HN.out
      unfold seenV snZero
      dsimp only
      rw [List.length_replicate, show g.pts.toNat = N by omega]
      exact ks, by
      have h1 := HN.out
      show Blk _ _ _ (intA (List.replicate g.pts.toNat 0))
      rw [show g.pts.toNat = N by omega, ← zcells_intA]
      exact kv⟩
  have hs5 : w4.heap.size + 2 ≤ ((w4.alloc (.cells (zcells N) 3)).alloc (.cells #[.bool true, .int .i64 0, .int .i64 0, .slice (some ⟨w4.heap.size, 0, none⟩) N N] 36)).heap.size := by simp
  clear ks kv
  generalize (w4.alloc (.cells (zcells N) 3)).alloc (.cells #[.bool true, .int .i64 0, .int .i64 0, .slice (some ⟨w4.heap.size, 0, none⟩) N N] 36) = w5 at *
  have HCO := hid (rcomes_ok g V D E cv cd ce inp S sc (kn : Int) ((kn : Int) + 1) kn (by omega) w5 (HD0.out.up hb5) (HE0.out.up hb5) (HS0.out.up hb5) (by have := HKB.out; omega) (by have := HKB.out; omega) HII.out HI.out HCK.out)
  unfold grV at HCO
  obtain ⟨f0, f1, f2, f3, f4, f5, ff⟩ := blk6 hk0
  go_wp2_with fail
  clear f0 f1 f2 f3 f4 f5 ff hk0
  (with_reducible refine HCO.out.mono ?_)
  rintro e6 w6 ⟨AC, cc, zc, rfl, hzc, hC, hb6⟩
  have HZC := hid hzc
  have hlc : zc.length = lenW g (mZero g inp) kn + 1 := by have := congrArg List.length hzc; rw [comesW_len, List.length_map] at this; exact this
  have HLC := hid hlc
  have hsn6 := HSN.out.up hb6
  have hk2' := hk2.later hb6
  have hb7 := bup hb5 hb6
  have hgv : w4.heap.size < w5.heap.size := by omega
  have hga : w4.heap.size + 1 < w5.heap.size := by omega
  clear HCO hk2 hb6 HSN hs5 hzc hlc
  generalize w5.heap.size = bC at *
  generalize w4.heap.size = gv at *
  go_wp2
  go_loopw [13] (fun t wr => ∃ i : Nat, i ≤ zc.length ∧ t = .int .i64 i ∧ SeenR wr (gv + 1) gv (snAt g (zs.map (fun (z : Z) => z.1)) (mZero g inp) i) ∧ OwnC wr bC AC cc zc ∧ Blk wr (w.heap.size + 1) 36 #[.bool false, .int .i64 0, .int .i64 0, .slice none 0 0] ∧ Below w.heap.size w wr) (fun t _ => zc.length - (Go.RowKit.intOf t).toNat)
  case atStart => exact ⟨0, by omega, rfl, hsn6, hC, hk2', hb7⟩
  case round =>
    clear hsn6 hC hk2' hb7
    obtain ⟨i, hi, rfl, hs, hC, hk2, hb⟩ := hrel
    by_cases hlt : i < zc.length
    · have hlt' : (i : Int) < (zc.length : Int) := by omega
      obtain ⟨hz0, hz1, hz2⟩ := comes_at HZC.out hlt
      obtain ⟨b, off, hA, hB, c0, c1, c2, -⟩ := hC.rd i hlt
      have hrd := hC.own _ (List.getElem_mem hlt)
      obtain ⟨zA, hzA⟩ : ∃ zA, zc[i].A = zA := ⟨_, rfl⟩
      obtain ⟨zC, hzC⟩ : ∃ zC, zc[i].c = zC := ⟨_, rfl⟩
      rw [hz0] at c0
      rw [hz1] at c1
      rw [hz2, hzA, hzC] at c2
      rw [hz2, hzA, hzC] at hrd
      have hM := (MOk.zero (inp := inp) HCK.out HII.out).at HCK.out HI.out i (fun j hj => (okW_next (lenW_ok g (mZero g inp) kn j (by have := HLC.out; omega))).1)
      have hvl : (snAt g (zs.map (fun (z : Z) => z.1)) (mZero g inp) i).vis.length = N := by rw [snAt_len]; have h1 := HN.out; omega
      have hvn := snAt_vis g (zs.map (fun (z : Z) => z.1)) (mZero g inp) i (mAt g (mZero g inp) i).p
      have hi' : (i : Int) ≤ 65536 := by
        have := HLC.out
        have := lenW_le g (mZero g inp) kn
        have := HKB.out
        omega
      have hos : ∀ p (hp : p < zs.length), octAt (zs.map (fun (z : Z) => z.1)) p = zs[p].1 := fun p hp => by
        unfold octAt
        rw [List.getD_eq_getElem?_getD, List.getElem?_map, List.getElem?_eq_getElem hp]
        rfl
      have HNEXT : Hid (snAt g (zs.map (fun (z : Z) => z.1)) (mZero g inp) (i + 1) = snStep (hasB (octAt (zs.map (fun (z : Z) => z.1)) (mAt g (mZero g inp) i).p) (mAt g (mZero g inp) i).xs) i (mAt g (mZero g inp) i).p (snAt g (zs.map (fun (z : Z) => z.1)) (mZero g inp) i)) := hid rfl
      clear hz0 hz1 hz2 hzA hzC
      generalize mAt g (mZero g inp) i = M at *
      generalize hss : snAt g (zs.map (fun (z : Z) => z.1)) (mZero g inp) i = s at *
      clear hss
      have hpz : M.p < zs.length := by have := hM.p; have h1 := HN.out; have h2 := HLZ.out; omega
      obtain ⟨z, hzp⟩ : ∃ z, zs[M.p] = z := ⟨_, rfl⟩
      rw [hos _ hpz, hzp] at HNEXT
      clear hos
      obtain ⟨hck, hzn⟩ := HCKS.out M.p hpz
      rw [hzp] at hck hzn
      have HZP := hid hzp
      have hMx : (M.xs.length : Int) = z.1.n := by rw [hzn]; exact hM.xl
      have hMi := hM.xi
      obtain ⟨hb1, HHB⟩ : ∃ hb1, Hid (hasB z.1 M.xs = hb1) := ⟨_, hid rfl⟩
      rw [HHB.out] at HNEXT
      have hpz' : (M.p : Int) < (zs.length : Int) := by omega
      clear hzp hzn hM
      obtain ⟨hd, st, pt, vis⟩ := s
      dsimp only at hvl hvn hs HNEXT
      have hpv : M.p < vis.length := by have := HLZ.out; omega
      have hpv' : (M.p : Int) < (vis.length : Int) := by omega
      have hp0 : (0 : Int) ≤ (M.p : Int) := by omega
      obtain ⟨v0, hv0⟩ : ∃ v0, gI vis (M.p : Int) = v0 := ⟨_, rfl⟩
      have HV0 := hid hv0
      rw [hv0] at hvn
      subst hA
      -- the point is laid
      have nA := new1 wr (.cells #[.int .i64 (M.p : Int), .int .i64 (i : Int), .slice zA M.xs.length zC] 78)
      have kA := Blk.new wr 78 #[.int .i64 (M.p : Int), .int .i64 (i : Int), .slice zA M.xs.length zC]
      have hCA := hC.below nA
      have hsA := hs.up nA
      have hk2A := hk2.later nA
      have hbA := bup hb nA
      have hxA := hrd.below nA
      have hbCr : bC ≤ wr.heap.size := by
        rcases hC.form with ⟨-, e, -⟩ | ⟨_, _, _, h1, h2, _⟩
        · rw [e] at hlt; simp at hlt
        · omega
      have hgc := kA.lt
      go_upto_region 14 with fail
      clear c0 c1 c2 hrd hC hs hk2 hb nA
      generalize hgw : wr.heap.size = gc at *
      generalize wr.alloc (.cells #[.int .i64 (M.p : Int), .int .i64 (i : Int), .slice zA M.xs.length zC] 78) = wA at *
      clear hgw
      -- the visit is counted
      obtain ⟨h1, h2⟩ := hsA
      have s3 := h1.cell 3
      have fv := h2.fr
      have cv : wA.cell? ⟨gv, M.p, none⟩ = some (.int .i64 v0) := by rw [h2.cell M.p, intA_get hpv, hv0]
      unfold seenV at h1 s3
      dsimp only at h1 s3 h2
      have a0 := kA.cell 0
      have hne1 : gv ≠ gv + 1 := by omega
      have hne2 : gv ≠ gc := by omega
      have hne3 : gv ≠ w.heap.size + 1 := by omega
      have k1 : Blk (wA.setCell ⟨gv, M.p, none⟩ (.int .i64 (v0 + 1))) (gv + 1) 36 #[.bool hd, .int .i64 st, .int .i64 pt, .slice (some ⟨gv, 0, none⟩) vis.length vis.length] := h1.far (p := ⟨gv, M.p, none⟩) hne1 _
      have kv : Blk (wA.setCell ⟨gv, M.p, none⟩ (.int .i64 (v0 + 1))) gv 3 (intA (vis.set M.p (v0 + 1))) := by
        have := h2.set_ M.p (.int .i64 (v0 + 1))
        rw [intA_set] at this
        exact this
      have kA1 := kA.far (p := ⟨gv, M.p, none⟩) hne2 (.int .i64 (v0 + 1))
      have hk21 := hk2A.far (p := ⟨gv, M.p, none⟩) hne3 (.int .i64 (v0 + 1))
      have hC1 := hCA.far M.p (.int .i64 (v0 + 1)) hgv
      have hx1 := (hxA.setFar (p := ⟨gv, M.p, none⟩) hgv (.int .i64 (v0 + 1))).rd
      have hb1' : Below w.heap.size w (wA.setCell ⟨gv, M.p, none⟩ (.int .i64 (v0 + 1))) := hbA.setCell (p := ⟨gv, M.p, none⟩) (by show w.heap.size ≤ gv; omega) _
      go_upto_region 15 with fail
      clear s3 fv cv a0 h1 h2 kA hCA hk2A hbA hxA hne2 hne3
      generalize wA.setCell ⟨gv, M.p, none⟩ (.int .i64 (v0 + 1)) = W1 at *
      have HNX : Hid (∀ s', s' = snStep hb1 i M.p ⟨hd, st, pt, vis⟩ → snAt g (zs.map (fun (z : Z) => z.1)) (mZero g inp) (i + 1) = s') := hid fun s' e => HNEXT.out.trans e.symm
      have HMEA : Hid (zc.length - (i + 1) < zc.length - i) := hid (by omega)
      have HLT := hid hlt
      clear HNEXT hlt'
      have s0 := k1.cell 0
      cases hd
      · have HK := hid (And.intro k1 kv)
        have HC1 := hid hC1
        have HK2 := hid hk21
        have HB1 := hid hb1'
        have l0 := later s0
        clear k1 kv hC1 hk21 hb1' s0 kA1 hx1 hck hMx hMi
        refine wp_region_flow 10 (fun W => Below W1.heap.size W1 W) (by kernel_rfl) (by kernel_rfl) (Below.refl _ _).drew ?_
        (repeat (first | (refine Flow.skip (by rfl) ?_; simp only [Act.put, List.setIfInBounds_toArray, List.set_cons_zero, List.set_cons_succ]) | (refine' Flow.take _ (by rfl) (fun W hW R hR => ?_) ?_; rotate_left; (go_simp; (try go_bits); with_reducible exact hR); simp only [Act.put, List.setIfInBounds_toArray, List.set_cons_zero, List.set_cons_succ])))
        intro W2 hb2
        clear l0
        go_wp2
        go_roundw
        case rel =>
          refine ⟨i + 1, by have := HLT.out; omega, by go_num, ?_, HC1.out.below hb2, HK2.out.later hb2, bup HB1.out hb2⟩
          rw [HNX.out ⟨false, st, pt, vis.set M.p (v0 + 1)⟩ (by unfold snStep; rw [HV0.out]; rfl)]
          exact SeenR.up (SeenR.mk' HK.out.1 HK.out.2) hb2
        case measure => have := HMEA.out; simp [Go.RowKit.intOf]; omega
      · obtain ⟨b3, off3, rfl, hB3, c0, c1, c2⟩ := (HZ0.out.up hb1').at_ M.p hpz
        have hrz := (HZ0.out.up hb1').rd M.p hpz
        have hlz := (HZ0.out.up hb1').le M.p hpz
        rw [HZP.out] at c0 c1 c2 hrz hlz
        have a0 := kA1.cell 0
        have a2 := kA1.cell 2
        have HHS := hid (fun W (hX : Below W1.heap.size W1 W) => rhasA_ok z.1 hck M.xs hMx (fun k => hMi k) z.2.1 zA z.2.2 zC W (hrz.up hX) hlz (hx1.up hX))
        have l0 := later s0
        have la0 := later a0
        have la2 := later a2
        have lc0 := later c0
        have lc1 := later c1
        have lc2 := later c2
        have HK := hid (And.intro k1 kv)
        have HC1 := hid hC1
        have HK2 := hid hk21
        have HB1 := hid hb1'
        have HKA := hid kA1
        clear k1 kv hC1 hk21 hb1' s0 hx1 hck hMx hMi c0 c1 c2 a0 a2 hrz hlz kA1
        refine wp_region_flow 10 (fun W => Below W1.heap.size W1 W) (by kernel_rfl) (by kernel_rfl) (Below.refl _ _).drew ?_
        (repeat (first | (refine Flow.skip (by rfl) ?_; simp only [Act.put, List.setIfInBounds_toArray, List.set_cons_zero, List.set_cons_succ]) | (refine' Flow.take _ (by rfl) (fun W hW R hR => ?_) ?_; rotate_left; (go_simp; (try go_bits); with_reducible exact hR); simp only [Act.put, List.setIfInBounds_toArray, List.set_cons_zero, List.set_cons_succ])))
        intro W2 hb2
        clear l0 la0 la2 lc0 lc1 lc2
        go_wp2_with fail
        (with_reducible refine (HHS.out W2 hb2).mono ?_)
        clear HHS
        rintro e3 W3 ⟨bb, rfl, hbb, hb3⟩
        have HBB : bb = hb1 := by
          rw [← HHB.out]
          cases bb
          · cases q : hasB z.1 M.xs
            · rfl
            · exact absurd (hbb.2 (hasB_iff.1 q)) (by decide)
          · exact (hasB_iff.2 (hbb.1 rfl)).symm
        subst HBB
        have hb23 : Below W1.heap.size W1 W3 := hb2.trans (hb3.mono hb2.size)
        have k13 := HK.out.1.later hb23
        have kv3 := HK.out.2.later hb23
        have hC3 := HC1.out.below hb23
        have hK23 := HK2.out.later hb23
        have hB3' := bup HB1.out hb23
        have kA3 := HKA.out.later hb23
        clear hb2 hb3 hbb hb23
        cases bb
        · obtain ⟨s0, s1, s2, s3, fs⟩ := blk4 k13
          obtain ⟨a0, a1, -, -⟩ := rget_ok kA3
          have hag : gv + 1 ≠ w.heap.size + 1 := by omega
          have k14 := hid (((k13.set_ 0 (.bool false)).set_ 1 (.int .i64 (i : Int))).set_ 2 (.int .i64 (M.p : Int)))
          have kv4 := hid (((kv3.far (p := ⟨gv + 1, 0, none⟩) (fun e => hne1 e.symm) (.bool false)).far (p := ⟨gv + 1, 1, none⟩) (fun e => hne1 e.symm) (.int .i64 (i : Int))).far (p := ⟨gv + 1, 2, none⟩) (fun e => hne1 e.symm) (.int .i64 (M.p : Int)))
          have hC4 := hid (((hC3.far 0 (.bool false) hga).far 1 (.int .i64 (i : Int)) hga).far 2 (.int .i64 (M.p : Int)) hga)
          have hK4 := hid (((hK23.far (p := ⟨gv + 1, 0, none⟩) hag (.bool false)).far (p := ⟨gv + 1, 1, none⟩) hag (.int .i64 (i : Int))).far (p := ⟨gv + 1, 2, none⟩) hag (.int .i64 (M.p : Int)))
          have hB4 := hid (((hB3'.setCell (p := ⟨gv + 1, 0, none⟩) (by show w.heap.size ≤ gv + 1; omega) (.bool false)).setCell (p := ⟨gv + 1, 1, none⟩) (by show w.heap.size ≤ gv + 1; omega) (.int .i64 (i : Int))).setCell (p := ⟨gv + 1, 2, none⟩) (by show w.heap.size ≤ gv + 1; omega) (.int .i64 (M.p : Int)))
          have hgcv : gc ≠ gv + 1 := by omega
          have kA4 := hid ((kA3.far (p := ⟨gv + 1, 0, none⟩) (fun e => hgcv e.symm) (.bool false)).cell 1)
          have kA5 := hid (((kA3.far (p := ⟨gv + 1, 0, none⟩) (fun e => hgcv e.symm) (.bool false)).far (p := ⟨gv + 1, 1, none⟩) (fun e => hgcv e.symm) (.int .i64 (i : Int))).cell 0)
          clear k13 kv3 hC3 hK23 hB3' kA3 s3
          go_wp2
          clear s0 s1 s2 fs a0 a1
          go_roundw
          case rel =>
            refine ⟨i + 1, by have := HLT.out; omega, by go_num, ?_, hC4.out, hK4.out, hB4.out⟩
            rw [HNX.out ⟨false, i, M.p, vis.set M.p (v0 + 1)⟩ (by unfold snStep; rw [HV0.out]; rfl)]
            exact SeenR.mk' k14.out kv4.out
          case measure => have := HMEA.out; simp [Go.RowKit.intOf]; omega
        · go_wp2
          go_roundw
          case rel =>
            refine ⟨i + 1, by have := HLT.out; omega, by go_num, ?_, hC3, hK23, hB3'⟩
            rw [HNX.out ⟨true, st, pt, vis.set M.p (v0 + 1)⟩ (by unfold snStep; rw [HV0.out]; rfl)]
            exact SeenR.mk' k13 kv3
          case measure => have := HMEA.out; simp [Go.RowKit.intOf]; omega
    · obtain rfl : i = zc.length := by omega
      have HS : Hid (SeenR wr (gv + 1) gv (seenW g (zs.map (fun (z : Z) => z.1)) inp (kn : Int))) := hid (by
        unfold seenW
        rw [Int.toNat_natCast, ← HLC.out]; exact hs)
      have HR : Hid (runE g (zs.map (fun (z : Z) => z.1)) inp.length (kn : Int) = 0) := hid (HRF.out.trans HFU.out)
      generalize hsw : seenW g (zs.map (fun (z : Z) => z.1)) inp (kn : Int) = sw at *
      obtain ⟨hd, st, pt, vis⟩ := sw
      have k1 := HS.out.1
      unfold seenV at k1
      dsimp only at k1
      have hag : w.heap.size + 1 ≠ gv := by omega
      have hag1 : w.heap.size + 1 ≠ gv + 1 := by omega
      have K4 := hid (set4 (h := hk2) (v0 := .bool hd) (v1 := .int .i64 st) (v2 := .int .i64 pt) (v3 := .slice (some ⟨gv, 0, none⟩) vis.length vis.length))
      have KV := hid ((((HS.out.2.far (p := ⟨w.heap.size + 1, 0, none⟩) hag (.bool hd)).far (p := ⟨w.heap.size + 1, 1, none⟩) hag (.int .i64 st)).far (p := ⟨w.heap.size + 1, 2, none⟩) hag (.int .i64 pt)).far (p := ⟨w.heap.size + 1, 3, none⟩) hag (.slice (some ⟨gv, 0, none⟩) vis.length vis.length))
      have HB := hid (hb.trans (below4 (W := wr) (B := w.heap.size) (g := w.heap.size + 1) (v0 := .bool hd) (v1 := .int .i64 st) (v2 := .int .i64 pt) (v3 := .slice (some ⟨gv, 0, none⟩) vis.length vis.length) (by omega) hb.size))
      obtain ⟨s0, s1, s2, s3, -⟩ := blk4 k1
      obtain ⟨f0, f1, f2, f3, ff⟩ := blk4 hk2
      clear k1 hk2 hs hC hb hlt
      go_wp2
      clear f0 f1 f2 f3 ff s0 s1 s2 s3
      obtain ⟨f0, f1, f2, f3, ff⟩ := blk4 K4.out
      refine bodyPost_ret (v := .tuple #[.agg #[.bool hd, .int .i64 st, .int .i64 pt, .slice (some ⟨gv, 0, none⟩) vis.length vis.length], .int .i64 0]) (by simp [results, Tryz.results12, go_sem, f0, f1, f2, f3]) rfl ?_
      refine ⟨gv, by rw [HR.out, if_pos rfl, hsw]; rfl, fun _ => by rw [hsw]; exact KV.out, HB.out⟩
end Go.Proofs.YtkncebcekhfnfaaGreat
