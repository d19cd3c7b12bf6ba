/-
  dbm.Has: whether an octagon that may be has a point.
  watch.Run: what is done at each point that a run comes to. (Printed by gen_runf.py.)
-/
import Derived.Test.YtkncebcekhfnfaaGreatBWT35
import Derived.Test.YtkncebcekhfnfaaGreatBWT05
import Derived.Test.YtkncebcekhfnfaaGreatBWT34
namespace Go.Proofs.YtkncebcekhfnfaaGreat
open Go.RowKit
section
attribute [local go_sem ↓] Go.wp_at_zero Go.wp_at_succ

theorem sgn_pos (a b : Int) : decide (0 < sgnI a b) = decide (b < a) := by
  unfold sgnI
  split
  · rw [decide_eq_decide]; omega
  · split
    · rw [decide_eq_decide]; omega
    · rw [decide_eq_decide]; omega
/-- Some answer, which is 'true' just where the octagon has the point. -/
def HasRes (o : O) (xs : List Int) (w : World) (e : Ending) (w' : World) : Prop := ∃ b, e = .returned (.bool b) ∧ (b = true ↔ HasO o xs) ∧ Below w.heap.size w w'
set_option maxRecDepth 8000 in
set_option maxHeartbeats 4000000 in
theorem has_ok (o : O) (hk : check o = 0) (xs : List Int) (A X : Option Addr) (cap xc : Nat) (w : World) (hx : Rd w w.heap.size A o.m) (hm : o.m.length ≤ 17592186044416) (hxs : Rd w w.heap.size X xs) (hI : ∀ k : Nat, I64 (gI xs (k : Int))) :
    Calls Tryz.prog 29 #[.agg #[.int .i64 o.n, .bool o.e, .slice A o.m.length cap], .slice X xs.length xc] w (HasRes o xs w) := by
  obtain ⟨p0, hb0, hsz⟩ := new_one w #[.int .i64 o.n, .bool o.e, .slice A o.m.length cap] 53
  have hx0 := hx.up hb0
  have hxs0 := hxs.up hb0
  have HK := hid hk
  have HC := hid (fun W h => check_any o A cap W h (by omega))
  rw [HK.out] at HC
  obtain ⟨on, oe, om⟩ := o
  dsimp only at *
  clear hk hsz hx hxs
  go_enter Tryz.func29, Tryz.ntmps29
  obtain ⟨x0, x1, x2, fx⟩ := octbox p0
  go_wp2_with fail
  clear x0 x1 x2 fx
  generalize w.alloc (Obj.cells #[.int .i64 on, .bool oe, .slice A om.length cap] 53) = w0 at *
  (with_reducible refine (HC.out w0 hx0).mono ?_)
  clear HC
  rintro e1 w1 ⟨rfl, hb1⟩
  replace p0 := p0.later hb1
  replace hx0 := hx0.up hb1
  replace hxs0 := hxs0.up hb1
  replace hb0 := bup hb0 hb1
  clear hb1
  obtain ⟨x0, x1, x2, fx⟩ := octbox p0
  cases oe with
  | true =>
    have HF : Hid (¬ HasO ⟨on, true, om⟩ xs) := hid (fun h => by have := h.1; simp at this)
    go_wp2
    go_ret
    exact ⟨false, rfl, ⟨fun h => by simp at h, fun h => absurd h HF.out⟩, hb0⟩
  | false =>
    by_cases hl : (xs.length : Int) = on
    rotate_left
    · have HF : Hid (¬ HasO ⟨on, false, om⟩ xs) := hid (fun h => hl h.2.1)
      have t1 : ((xs.length : Int) != on) = true := by simpa using hl
      clear hl
      go_wp2
      go_ret
      exact ⟨false, rfl, ⟨fun h => by simp at h, fun h => absurd h HF.out⟩, hb0⟩
    · have t1 : ((xs.length : Int) != on) = false := by simpa using hl
      obtain ⟨n0, n1, -, -⟩ := check_ok HK.out
      dsimp only at n0 n1
      obtain ⟨N, hN⟩ : ∃ N : Nat, (N : Int) = 2 * on := ⟨(2 * on).toNat, by omega⟩
      have hn : N ≤ 128 := by omega
      have HCC := hid (cells_of hN HK.out)
      have HHF : Hid (HasO ⟨on, false, om⟩ xs ↔ HasM N om xs) := hid (by unfold HasO; dsimp only; rw [show (2 * on).toNat = N by omega]; simp [hl])
      have HL := hid hl
      have HN := hid hN
      have HML := hid HCC.out.len
      clear hl hN
      go_wp2
      clear x0 x1 x2 fx t1
      go_loopw [25] (fun t wq => ∃ i : Nat, i ≤ N ∧ t = .int .i64 i ∧ (∀ a b : Nat, a < i → b < N → Lets (G N om a b) (apartX xs a b)) ∧ Below w1.heap.size w1 wq) (fun t _ => N - (Go.RowKit.intOf t).toNat)
      case atStart => exact ⟨0, by omega, rfl, fun a b h => by omega, Below.refl _ _⟩
      case round =>
        obtain ⟨i, hi, rfl, hrow, hb⟩ := hrel
        have HR := hid hrow
        clear hrow
        have q0 := p0.later hb
        obtain ⟨x0, x1, x2, fx⟩ := octbox q0
        by_cases hlt : i < N
        · have hlti : (i : Int) < 2 * on := by have := HN.out; omega
          go_wp2
          clear x0 x1 x2 fx q0
          go_loopw [31] (fun t wq => ∃ j : Nat, j ≤ N ∧ t = .int .i64 j ∧ (∀ b : Nat, b < j → Lets (G N om i b) (apartX xs i b)) ∧ Below w1.heap.size w1 wq) (fun t _ => N - (Go.RowKit.intOf t).toNat)
          case atStart => exact ⟨0, by omega, rfl, fun b h => by omega, hb⟩
          case round =>
            clear hb
            obtain ⟨j, hj, rfl, hcol, hb⟩ := hrel
            have HCO := hid hcol
            clear hcol
            have q0 := p0.later hb
            obtain ⟨x0, x1, x2, fx⟩ := octbox q0
            by_cases hlt2 : j < N
            · have hltj : (j : Int) < 2 * on := by have := HN.out; omega
              have hx1 := hx0.up hb
              have hxs1 := hxs0.up hb
              obtain ⟨q1, q2, q3, q4, q5, q6⟩ := idx_ok (i := i) (j := j) HN.out hlt hlt2 hn
              rw [← HML.out] at q4 q6
              obtain ⟨g1, o1, rfl, hg1, c4⟩ := hx1 (i * N + j) q4
              obtain ⟨v, hv⟩ : ∃ v, v = G N om i j := ⟨_, rfl⟩
              have HV := hid hv
              rw [show gI om ((i * N + j : Nat) : Int) = v from hv.symm] at c4
              have hvI : I64 v := by
                have e : isBound (G N om i j) = true := HCC.out.bd i j hlt hlt2
                rw [← hv] at e
                unfold I64
                rcases bndS e with e | e <;> omega
              have HVI := hid hvI
              clear hv hvI
              go_upto_region 9 with fail
              have f0 := later x0
              have f1 := later x1
              have f2 := later x2
              have f4 := later c4
              clear x0 x1 x2 fx c4
              refine wp_region_flow 8 (fun X => Below wr.heap.size wr X) (by kernel_rfl) (by kernel_rfl) (Below.refl _ _).drew ?_
              (repeat (first | (refine Flow.skip (by rfl) ?_; simp only [Act.put, List.setIfInBounds_toArray, List.set_cons_zero, List.set_cons_succ]) | (refine' Flow.take _ (by rfl) (fun W hW R hR => ?_) ?_; rotate_left; (go_simp; (try go_bits); with_reducible exact hR); simp only [Act.put, List.setIfInBounds_toArray, List.set_cons_zero, List.set_cons_succ])))
              (refine Flow.call 52 #[.agg #[.int .i64 (i : Int), .int .i64 (j : Int)], .int .i64 on] (.int .i64 (2 * on * (i : Int) + (j : Int))) (by rfl) (fun X hX => by go_simp) (fun X hX => (at_any _ _ _ _ n0 n1 (by omega) (by omega) (by omega) (by omega)).mono fun e' w' ⟨he, hb'⟩ => ⟨he, bstep hX hX.size hb'⟩) ?_; simp only [Act.put, List.setIfInBounds_toArray, List.set_cons_zero, List.set_cons_succ])
              (repeat (first | (refine Flow.skip (by rfl) ?_; simp only [Act.put, List.setIfInBounds_toArray, List.set_cons_zero, List.set_cons_succ]) | (refine' Flow.take _ (by rfl) (fun W hW R hR => ?_) ?_; rotate_left; (go_simp; (try go_bits); with_reducible exact hR); simp only [Act.put, List.setIfInBounds_toArray, List.set_cons_zero, List.set_cons_succ])))
              intro w3 hb3
              have c4 := f4 w3 hb3
              clear f0 f1 f2 f4
              have hxs3 := hxs1.up hb3
              replace hb := bup hb hb3
              clear hxs1 hb3
              cases t2 : (v != 9223372036854775807)
              · have HG : Hid (Lets (G N om i j) (apartX xs i j)) := hid (.inl (by rw [← HV.out]; simpa using t2))
                go_wp2
                go_roundw
                case rel => exact ⟨j + 1, by omega, by go_num, fun b h => if e : b = j then e ▸ HG.out else HCO.out b (by omega), hb⟩
                case measure => simp [Go.RowKit.intOf]; omega
              · have hv2 : v ≠ 9223372036854775807 := by simpa using t2
                have HV2 := hid hv2
                clear hv2
                have HA := hid (wapart_ok xs i j X xc w3.heap.size w3 hxs3 (Nat.le_refl _) hI (by have := HL.out; have := HN.out; omega) (by omega) (by have := HL.out; have := HN.out; omega) (by omega))
                go_wp2_with (refine HA.out.mono ?_)
                rintro e4 w4 ⟨rfl, hb4⟩
                clear HA
                have HO := hid (of_ok v HVI.out w4)
                go_wp2_with (refine HO.out.mono ?_)
                rintro e5 w5 ⟨rfl, hb5⟩
                clear HO
                have HW := hid (wcompare_ok (apartX xs i j) v w5)
                go_wp2_with (refine HW.out.mono ?_)
                rintro e6 w6 ⟨rfl, hb6⟩
                clear HW
                replace hb := bup (bup (bup hb hb4) hb5) hb6
                have HS := hid (sgn_pos (apartX xs i j) v)
                generalize sgnI (apartX xs i j) v = sg at *
                by_cases hgt : v < apartX xs i j
                · have t3 : decide (0 < sg) = true := by rw [HS.out, decide_eq_true_eq]; exact hgt
                  have HF : Hid (¬ HasO ⟨on, false, om⟩ xs) := hid (fun h => by
                    rcases (HHF.out.1 h) i j hlt hlt2 with e | e
                    · exact HV2.out (by rw [HV.out]; exact e)
                    · rw [← HV.out] at e; omega)
                  clear hgt
                  go_wp2
                  go_ret
                  exact ⟨false, rfl, ⟨fun h => by simp at h, fun h => absurd h HF.out⟩, bup hb0 hb⟩
                · have t3 : decide (0 < sg) = false := by rw [HS.out, decide_eq_false_iff_not]; exact hgt
                  have HG : Hid (Lets (G N om i j) (apartX xs i j)) := hid (.inr (by rw [← HV.out]; omega))
                  clear hgt
                  go_wp2
                  go_roundw
                  case rel => exact ⟨j + 1, by omega, by go_num, fun b h => if e : b = j then e ▸ HG.out else HCO.out b (by omega), hb⟩
                  case measure => simp [Go.RowKit.intOf]; omega
            · obtain rfl : j = N := by omega
              have hge : ¬ ((j : Int) < 2 * on) := by have := HN.out; omega
              clear x0 x1 x2 fx q0
              go_wp2
              go_roundw
              case rel => exact ⟨i + 1, by omega, by go_num, fun a b h h2 => if e : a = i then e ▸ HCO.out b h2 else HR.out a b (by omega) h2, hb⟩
              case measure => simp [Go.RowKit.intOf]; omega
        · obtain rfl : i = N := by omega
          have hge : ¬ ((i : Int) < 2 * on) := by have := HN.out; omega
          clear x0 x1 x2 fx q0
          go_wp2
          go_ret
          exact ⟨true, rfl, ⟨fun _ => HHF.out.2 (fun a b ha hb => HR.out a b ha hb), fun _ => rfl⟩, bup hb0 hb⟩
end
section
attribute [local go_sem ↓] Go.wp_at_zero Go.wp_at_succ

def intA (xs : List Int) : Array Value := (i64s xs).toArray
theorem intA_get {xs : List Int} {k : Nat} (h : k < xs.length) : (intA xs)[k]? = some (.int .i64 (gI xs (k : Int))) := by
  unfold intA i64s gI
  simp [h]
theorem intA_set {xs : List Int} {k : Nat} {u : Int} : (intA xs).setIfInBounds k (.int .i64 u) = intA (xs.set k u) := by
  unfold intA i64s
  simp [List.map_set]
theorem zcells_intA (n : Nat) : zcells n = intA (List.replicate n 0) := by
  unfold intA
  rw [← zcells_list]
def seenV (s : Sn) (gv : Nat) : Array Value := #[.bool s.held, .int .i64 s.step, .int .i64 s.point, .slice (some ⟨gv, 0, none⟩) s.vis.length s.vis.length]
/-- What is seen, in memory. -/
structure SeenM (W : World) (ga gb gv : Nat) (A : Option Addr) (c l : Nat) (s : Sn) : Prop where
  blk : Blk W ga 36 (seenV s gv)
  vis : Blk W gv 3 (intA s.vis)
  lst : Blk W gb 27 #[.slice A l c]
section
variable {W W' : World} {ga gb gv c l c0 b0 b1 : Nat} {A : Option Addr} {s : Sn}
theorem SeenM.off (h : SeenM W ga gb gv A c l s) (hb : Off b0 b1 W W') (h1 : ga < b0) (h2 : gb < b0) (h3 : gv < b0) : SeenM W' ga gb gv A c l s := ⟨h.blk.below hb.low h1, h.vis.below hb.low h3, h.lst.below hb.low h2⟩
theorem Rd.off {B : Nat} {X : Option Addr} {xs : List Int} (h : Rd W B X xs) (hB : B ≤ W.heap.size) (hb : Off c0 b0 W W') (hx : ∀ k o, X = some ⟨k, o, none⟩ → b0 ≤ k) : Rd W' B X xs := fun k hk => by
  obtain ⟨b, off, hA, hl, hc⟩ := h k hk
  exact ⟨b, off, hA, hl, (World.cell?_of_block (w := W) (hb.high b (hx b off hA) (Nat.lt_of_lt_of_le hl hB))).trans hc⟩
end
theorem SeenM.mk' {W : World} {ga gb gv c l p : Nat} {A : Option Addr} {hd : Bool} {st pt u : Int} {vis : List Int} (k1 : Blk W ga 36 #[.bool hd, .int .i64 st, .int .i64 pt, .slice (some ⟨gv, 0, none⟩) vis.length vis.length]) (k2 : Blk W gv 3 (intA (vis.set p u))) (k3 : Blk W gb 27 #[.slice A l c]) :
    SeenM W ga gb gv A c l ⟨hd, st, pt, vis.set p u⟩ := ⟨by unfold seenV; dsimp only; rw [List.length_set]; exact k1, k2, k3⟩
set_option maxRecDepth 8000 in
set_option maxHeartbeats 16000000 in
theorem runf_ok (ga gb gv b0 : Nat) (A X : Option Addr) (c xc : Nat) (zs : List Z) (s : Sn) (n p : Nat) (xs : List Int) (w0 W : World) (h : SeenM W ga gb gv A c zs.length s) (hz : RowZ w0 A zs) (hlow : Below w0.heap.size w0 W) (ha : w0.heap.size ≤ ga ∧ ga < b0) (hv : w0.heap.size ≤ gv ∧ gv < b0)
    (hbs : b0 ≤ W.heap.size) (hp : p < zs.length) (hvl : s.vis.length = zs.length) (hck : check zs[p].1 = 0) (hx : Rd W W.heap.size X xs) (hxb : ∀ k o, X = some ⟨k, o, none⟩ → b0 ≤ k) (hI : I64s xs) (hvn : 0 ≤ gI s.vis (p : Int) ∧ gI s.vis (p : Int) ≤ 65537) :
    Calls Tryz.prog 28 #[.int .i64 (n : Int), .int .i64 (p : Int), .slice X xs.length xc, .pointer (some ⟨ga, 0, none⟩), .pointer (some ⟨gb, 0, none⟩)] W fun e w' =>
      e = .returned (.tuple #[]) ∧ SeenM w' ga gb gv A c zs.length (snStep (hasB zs[p].1 xs) n p s) ∧ Off w0.heap.size b0 W w' := by
  obtain ⟨hd, st, pt, vis⟩ := s
  dsimp only at *
  have hpv : p < vis.length := by omega
  obtain ⟨v0, hv0⟩ : ∃ v0, gI vis (p : Int) = v0 := ⟨_, rfl⟩
  rw [hv0] at hvn
  obtain ⟨h1, h2, h3⟩ := h
  have hag : ga ≠ gv := by
    intro e; subst e
    have := h1.symm.trans h2
    injection this with this; injection this with this this2; cases this2
  have hbv : gb ≠ gv := by
    intro e; subst e
    have := h3.symm.trans h2
    injection this with this; injection this with this this2; cases this2
  have hba : gb ≠ ga := by
    intro e; subst e
    have := h3.symm.trans h1
    injection this with this; injection this with this this2; cases this2
  -- the visit is counted
  have o1 : Off w0.heap.size b0 W (W.setCell ⟨gv, p, none⟩ (.int .i64 (v0 + 1))) := off_set hv.1 hv.2 (Nat.le_trans ha.1 (Nat.le_of_lt (Nat.lt_of_lt_of_le ha.2 hbs)))
  have k1 : Blk (W.setCell ⟨gv, p, none⟩ (.int .i64 (v0 + 1))) ga 36 #[.bool hd, .int .i64 st, .int .i64 pt, .slice (some ⟨gv, 0, none⟩) vis.length vis.length] := h1.far (fun e => hag e.symm) _
  have k2 : Blk (W.setCell ⟨gv, p, none⟩ (.int .i64 (v0 + 1))) gv 3 (intA (vis.set p (v0 + 1))) := by
    have := h2.set_ p (.int .i64 (v0 + 1))
    rw [intA_set] at this
    exact this
  have k3 : Blk (W.setCell ⟨gv, p, none⟩ (.int .i64 (v0 + 1))) gb 27 #[.slice A zs.length c] := h3.far (fun e => hbv e.symm) _
  have s0 := h1.cell 0
  have s3 := h1.cell 3
  have fv := h2.fr
  have cv : W.cell? ⟨gv, p, none⟩ = some (.int .i64 v0) := by rw [h2.cell p, intA_get hpv, hv0]
  have hx1 := hx.off (Nat.le_refl _) o1 hxb
  have hlow1 : Below w0.heap.size w0 _ := hlow.trans o1.low
  have hz1 := hz.up hlow1
  have HPV := hid hpv
  have hpv' : (p : Int) < (vis.length : Int) := by omega
  have hp0 : (0 : Int) ≤ (p : Int) := by omega
  have HO1 := hid o1
  have HK := hid (And.intro k1 (And.intro k2 k3))
  unfold seenV at s0 s3
  dsimp only at s0 s3
  clear k2 h1 h2 h3 hx o1 hlow hz hpv hvl hxb
  obtain ⟨z, hzp⟩ : ∃ z, zs[p] = z := ⟨_, rfl⟩
  rw [hzp] at hck ⊢
  have HZP := hid hzp
  clear hzp
  obtain ⟨hb, HHB⟩ : ∃ hb, Hid (hasB z.1 xs = hb) := ⟨_, hid rfl⟩
  rw [HHB.out]
  go_enter Tryz.func28, Tryz.ntmps28
  go_upto_region 1 with fail
  clear fv cv s0 s3 hpv' hvn
  generalize W.setCell ⟨gv, p, none⟩ (.int .i64 (v0 + 1)) = W1 at *
  have hbs1 : b0 ≤ W1.heap.size := Nat.le_trans hbs HO1.out.size
  obtain ⟨b, off, rfl, hB, c0, c1, c2⟩ := hz1.at_ p hp
  have hrd := hz1.rd p hp
  have hle := hz1.le p hp
  rw [HZP.out] at c0 c1 c2 hrd hle
  have HC := hid (has_ok z.1 hck xs z.2.1 X z.2.2 xc W1 hrd hle (hx1.more HO1.out.size) (fun k => hI k))
  have s0 := k1.cell 0
  have t0 := k3.cell 0
  have hpz : (p : Int) < (zs.length : Int) := by omega
  have HV := hid hv0
  clear hrd hle hx1 hz1 hck hI hB hv0
  cases hd
  · clear c0 c1 c2 k1 k3 t0
    go_wp2
    go_end0
    exact ⟨rfl, by unfold snStep; rw [HV.out]; exact SeenM.mk' HK.out.1 HK.out.2.1 HK.out.2.2, HO1.out⟩
  · go_wp2_with fail
    clear c0 c1 c2 s0 t0
    (with_reducible refine HC.out.mono ?_)
    rintro e2 W2 ⟨bb, rfl, hbb, hb2⟩
    have HBB : bb = hb := by
      rw [← HHB.out]
      cases bb
      · cases q : hasB z.1 xs
        · rfl
        · exact absurd (hbb.2 (hasB_iff.1 q)) (by decide)
      · exact (hasB_iff.2 (hbb.1 rfl)).symm
    subst HBB
    have HK2 := hid (And.intro (HK.out.1.later hb2) (And.intro (HK.out.2.1.later hb2) (HK.out.2.2.later hb2)))
    have HO2 := hid (HO1.out.trans (Off.of hb2 (Nat.le_trans (Nat.le_trans ha.1 (Nat.le_of_lt ha.2)) hbs1)))
    have HS2 := hid (Nat.le_trans hbs1 hb2.size)
    clear hb2 hbb HC k1 k3
    cases bb
    · have hw0 : w0.heap.size ≤ W2.heap.size := Nat.le_trans (Nat.le_trans ha.1 (Nat.le_of_lt ha.2)) HS2.out
      have oA := hid (((HO2.out.trans (off_set (k := 0) (v := .bool false) ha.1 ha.2 hw0)).trans (off_set (k := 1) (v := .int .i64 (n : Int)) ha.1 ha.2 (by simpa using hw0))).trans (off_set (k := 2) (v := .int .i64 (p : Int)) ha.1 ha.2 (by simpa using hw0)))
      have kA := hid (And.intro (((HK2.out.1.set_ 0 (.bool false)).set_ 1 (.int .i64 (n : Int))).set_ 2 (.int .i64 (p : Int))) (And.intro (((HK2.out.2.1.far (p := ⟨ga, 0, none⟩) hag (.bool false)).far (p := ⟨ga, 1, none⟩) hag (.int .i64 (n : Int))).far (p := ⟨ga, 2, none⟩) hag (.int .i64 (p : Int))) (((HK2.out.2.2.far (p := ⟨ga, 0, none⟩) (fun e => hba e.symm) (.bool false)).far (p := ⟨ga, 1, none⟩) (fun e => hba e.symm) (.int .i64 (n : Int))).far (p := ⟨ga, 2, none⟩) (fun e => hba e.symm) (.int .i64 (p : Int)))))
      have s0 := HK2.out.1.cell 0
      have s1 := HK2.out.1.cell 1
      have s2 := HK2.out.1.cell 2
      have fs := HK2.out.1.fr
      go_wp2
      clear s0 s1 s2 fs
      go_end0
      exact ⟨rfl, by unfold snStep; rw [HV.out]; exact SeenM.mk' kA.out.1 kA.out.2.1 kA.out.2.2, oA.out⟩
    · go_wp2
      go_end0
      exact ⟨rfl, by unfold snStep; rw [HV.out]; exact SeenM.mk' HK2.out.1 HK2.out.2.1 HK2.out.2.2, HO2.out⟩
end
end Go.Proofs.YtkncebcekhfnfaaGreat
