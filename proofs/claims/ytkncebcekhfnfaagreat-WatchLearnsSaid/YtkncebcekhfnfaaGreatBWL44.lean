/-
  watch.Learn: what is done at each point that a run comes to.
  watch.Learn tells what learnO says.
-/
import Derived.Test.YtkncebcekhfnfaaGreatBWL31
import Derived.Test.YtkncebcekhfnfaaGreatBWL43
import Derived.Test.YtkncebcekhfnfaaGreatBWL05
namespace Go.Proofs.YtkncebcekhfnfaaGreat
open Go.RowKit
section
attribute [local go_sem ↓] Go.wp_at_zero Go.wp_at_succ

set_option maxRecDepth 8000 in
set_option maxHeartbeats 16000000 in
theorem learnf_ok (ga gb gR b0 b1 base d p c n pn xc : Nat) (hd : d ≤ 64) (zs : List Z) (os : List O) (x : List Int) (X : Option Addr) (wV W : World) (hP : LnP b0 b1 W base d (some ⟨gR, 0, none⟩) c zs os) (hzl : zs.length = p) (hpn : pn < p) (hp4 : p ≤ 4096) (hb1 : b1 ≤ W.heap.size) (hxl : x.length = d) (hI : I64s x) (hx : Rd W W.heap.size X x)
    (ka : Blk wV ga 3 #[.int .i64 (d : Int)]) (kb : Blk wV gb 27 #[.slice (some ⟨gR, 0, none⟩) p c]) (hga : ga < base) (hgb : gb < base) (hbase : base ≤ wV.heap.size) (hlow : Below base wV W) :
    Calls Tryz.prog 36 #[.int .i64 (n : Int), .int .i64 (pn : Int), .slice X x.length xc, .pointer (some ⟨ga, 0, none⟩), .pointer (some ⟨gb, 0, none⟩)] W fun e w' => e = .returned (.tuple #[]) ∧ (∃ zs', zs'.length = p ∧ LnP b0 b1 w' base d (some ⟨gR, 0, none⟩) c zs' (os.set pn (moreO (octAt os pn) d x))) ∧ Win base b0 b1 W w' := by
  have hpz : pn < zs.length := by omega
  have hoct : octAt os pn = zs[pn].1 := by
    unfold octAt
    rw [← hP.ln.eq, List.getD_eq_getElem?_getD, List.getElem?_map, List.getElem?_eq_getElem hpz]; rfl
  rw [hoct]
  clear hoct
  have hW : base ≤ W.heap.size := Nat.le_trans hbase hlow.size
  have hX := hP.toX hb1
  have hgood := hP.ln.ok _ (List.getElem_mem hpz)
  have hown := hP.ln.own.own _ (List.getElem_mem hpz)
  obtain ⟨_, _, hAR, hBR, r0, r1, r2⟩ := hP.ln.own.rows.at_ pn hpz
  injection hAR with hAR; injection hAR with hARa hARb; subst hARa; subst hARb
  rw [Nat.zero_add] at r0 r1 r2
  obtain ⟨z, hz⟩ : ∃ z, zs[pn] = z := ⟨_, rfl⟩
  rw [hz] at r0 r1 r2 hgood hown ⊢
  have HZZ := hid hz
  have HXX := hid hX
  have HGD := hid hgood
  have HGO := hid (GoodO.more hd hgood x)
  have HZL := hid hzl
  have HRW := hid hP.row
  obtain ⟨⟨zn, ze, zm⟩, zA, zC⟩ := z
  dsimp only at r0 r1 r2 hgood hown HGD HGO ⊢
  obtain ⟨mo, hmo⟩ : ∃ mo, moreO ⟨zn, ze, zm⟩ d x = mo := ⟨_, rfl⟩
  have HMO : Hid (mo = if ze = true then ⟨(d : Int), false, (onePt d x).m⟩ else ⟨zn, ze, maxM zm (onePt d x).m⟩) := hid (by rw [← hmo]; unfold moreO; cases ze <;> rfl)
  rw [hmo] at HGO ⊢
  clear hmo
  have HR2 := hid r2
  have hgRb : base ≤ gR := by
    rcases hP.ln.own.form with ⟨e, _⟩ | ⟨g2, cs, e, h5, _⟩
    · cases e
    · injection e with e; injection e with e; omega
  have HFR : Hid (∀ j, W.frozen? ⟨gR, j, none⟩ = false) := hid fun j => by
    rcases hP.ln.own.form with ⟨e2, _⟩ | ⟨g2, cs, e2, _, _, h9⟩
    · cases e2
    · injection e2 with e2; injection e2 with e2; subst e2
      exact (show Blk W gR 53 cs from h9).fr j
  have HTR : Hid (∃ cs, Blk W gR 53 cs) := hid (by
    rcases hP.ln.own.form with ⟨e2, _⟩ | ⟨g2, cs, e2, _, _, h9⟩
    · cases e2
    · injection e2 with e2; injection e2 with e2; subst e2; exact ⟨cs, h9⟩)
  have ka1 := ka.below hlow hga
  have kb1 := kb.below hlow hgb
  have hpn' : (pn : Int) < (p : Int) := by omega
  have hpn0 : (0 : Int) ≤ (pn : Int) := by omega
  have hpn3 : (pn : Int) < 100000 := by omega
  have kx := Blk.new W 28 #[.slice X x.length xc]
  have nx := new1 W (.cells #[.slice X x.length xc] 28)
  have HPT := hid (dpoint_ok d hd x hxl hI X xc 1 W.heap.size 0 (W.alloc (.cells #[.slice X x.length xc] 28)) (hx.up nx) (by simp) (kx.cell 0))
  have a0 := ka1.cell 0
  have HT0 := hid (kb1.cell 0)
  clear hP hX hz hgood hzl hx kx ka kb hI hxl
  go_enter Tryz.func36, Tryz.ntmps36
  go_wp2_with fail
  (with_reducible refine HPT.out.mono ?_)
  clear HPT a0
  rintro e2 w2 ⟨A2, c2, rfl, own2, hb2⟩
  have hon : (onePt d x).n = (d : Int) := rfl
  have hoe : (onePt d x).e = false := rfl
  rw [hon, hoe]
  clear hon hoe
  have hb02 := bup nx hb2
  have own3 := own2.less nx.size
  have HQM : Hid ((onePt d x).m.length = 2 * d * (2 * d)) := hid (by unfold onePt ptC; simp)
  generalize (onePt d x).m = q at *
  have n8 := new1 w2 (.cells #[.int .i64 (d : Int), .bool false, .slice A2 q.length c2] 53)
  have p8 := Blk.new w2 53 #[.int .i64 (d : Int), .bool false, .slice A2 q.length c2]
  have own4 := own3.below n8
  have hg8 : W.heap.size ≤ w2.heap.size := hb02.size
  have hb08 := bup hb02 n8
  clear own2 own3 hb2 n8 nx hb02
  go_upto_region 1 with fail
  generalize w2.alloc (.cells #[.int .i64 (d : Int), .bool false, .slice A2 q.length c2] 53) = w3 at *
  generalize w2.heap.size = g8 at *
  have ka3 := ka1.later hb08
  have kb3 := kb1.later hb08
  have t0 := kb3.cell 0
  have q0 := (hb08.cell (p := ⟨gR, pn * 3, none⟩) hBR).trans r0
  have q1 := (hb08.cell (p := ⟨gR, pn * 3 + 1, none⟩) hBR).trans r1
  have q2 := (hb08.cell (p := ⟨gR, pn * 3 + 2, none⟩) hBR).trans r2
  have hfR : ∀ j, w3.frozen? ⟨gR, j, none⟩ = false := fun j => by
    rw [World.frozen?_of_block (w := W) (a := ⟨gR, j, none⟩) (hb08.block gR hBR)]
    exact HFR.out j
  clear r0 r1 r2 ka1 kb1
  cases ze
  case true =>
    have hmn : mo.n = (d : Int) ∧ mo.e = false ∧ mo.m = q := by rw [HMO.out, if_pos rfl]; exact ⟨rfl, rfl, rfl⟩
    have hX3 := HXX.out.step1 (q := mo) hpz hb08 (by rw [hmn.2.2]; exact own4) hW HGO.out
    unfold putW at hX3
    dsimp only at hX3
    rw [hmn.1, hmn.2.1, hmn.2.2] at hX3
    have HX3 := hid hX3
    have HWN := hid (show Win base b0 b1 W _ from ⟨((hb08.mono hW).setCell (p := ⟨gR, pn * 3, none⟩) hgRb _).setCell (p := ⟨gR, pn * 3 + 1, none⟩) hgRb _ |>.setCell (p := ⟨gR, pn * 3 + 2, none⟩) hgRb _, hX3.kept⟩)
    obtain ⟨x0, x1, x2, fx⟩ := octbox p8
    clear hX3 own4 hb08 HXX ka3 kb3 p8 hmn
    go_wp2
    refine bodyPost_ret (v := .tuple #[]) (by simp [results, Tryz.results36, go_sem]) rfl ?_
    exact ⟨rfl, ⟨_, by rw [List.length_set]; exact HZL.out, HX3.out.toP⟩, HWN.out⟩
  case false =>
    have hml := HGD.out.2.1 rfl
    have HMO2 : Hid (mo = ⟨zn, false, ptG 1 (mxF zm q) zm zm.length⟩) := hid (by rw [HMO.out, if_neg (by decide), maxM_ptG])
    obtain ⟨L, hL⟩ : ∃ L, zm.length = L := ⟨_, rfl⟩
    have HL := hid hL
    have hqL : q.length = L := by rw [HQM.out, ← hL, ← hml]
    have HQL := hid hqL
    have ownP : Own w3 base zA zC (ptG 1 (mxF zm q) zm 0) := by rw [ptG_zero]; exact hown.below hb08
    have hG : W.grownBy w3 (blkOf zA) := grown_of_below hb08 _
    have HAL : Hid (∀ g, zA = some ⟨g, 0, none⟩ → g < W.heap.size ∧ g ≠ gR ∧ g ≠ gb ∧ base ≤ g) := hid fun g e => by
      rw [e] at hown
      rcases hown.form with ⟨h1, _⟩ | ⟨g', h1, h5, h2⟩
      · cases h1
      · injection h1 with h1; injection h1 with h1; subst h1
        obtain ⟨cs, hcs⟩ := HTR.out
        exact ⟨h2, own_blk hown hcs (by decide), by omega, h5⟩
    have HLC : Hid (L ≤ 16384) := hid (by have := HGD.out.2.2; rw [← hL]; exact this)
    rw [hL] at q2 HMO2 HR2
    rw [hqL] at p8
    clear hml hL hqL HMO hb08
    have hLb : (L : Int) ≤ 16384 := by have := HLC.out; omega
    obtain ⟨x0, x1, x2, fx⟩ := octbox p8
    go_wp2
    clear x0 x1 x2 fx q0 q1 q2 hfR t0
    go_loopw [31] (fun t wr => ∃ k : Nat, k ≤ L ∧ t = .int .i64 (k : Int) ∧ Own wr base zA zC (ptG 1 (mxF zm q) zm k) ∧ Own wr W.heap.size A2 c2 q ∧ Blk wr g8 53 #[.int .i64 (d : Int), .bool false, .slice A2 L c2] ∧ W.grownBy wr (blkOf zA)) (fun t _ => L - (Go.RowKit.intOf t).toNat)
    case atStart => exact ⟨0, by omega, rfl, ownP, own4, p8, hG⟩
    case round =>
      clear ownP own4 p8 hG ka3 kb3
      obtain ⟨k, hk, rfl, ownP, own4, p8, hG⟩ := hrel
      have HRW2 : Hid (∀ b i v, b < W.heap.size → (b = gR ∨ b = gb) → W.cell? ⟨b, i, none⟩ = some v → wr.cell? ⟨b, i, none⟩ = some v) := hid fun b i v h1 h2 h3 =>
        (World.cell?_of_block (w := W) (w' := wr) (a := ⟨b, i, none⟩) (hG.block b h1 (fun e => by
          rcases hown.form with ⟨e1, _⟩ | ⟨g', e1, _⟩
          · rw [e1] at e; cases e
          · rw [e1] at e
            have e : some b = some g' := e
            injection e with e
            subst e
            obtain ⟨-, h6, h7, -⟩ := HAL.out _ e1
            rcases h2 with rfl | rfl
            · exact h6 rfl
            · exact h7 rfl))).trans h3
      have q2 := HRW2.out gR _ _ hBR (.inl rfl) HR2.out
      have t0 := HRW2.out gb _ _ (Nat.lt_of_lt_of_le hgb hW) (.inr rfl) HT0.out
      obtain ⟨x0, x1, x2, fx⟩ := octbox p8
      by_cases hlt : k < L
      · have hlt' : (k : Int) < (L : Int) := by omega
        have hPl : (ptG 1 (mxF zm q) zm k).length = L := by rw [ptG_len]; exact HL.out
        have hAt : gI (ptG 1 (mxF zm q) zm k) (k : Int) = gI zm (k : Int) := ptG_at (by rw [HL.out]; exact hlt)
        have HSET : Hid (ptG 1 (mxF zm q) zm (k + 1) = (ptG 1 (mxF zm q) zm k).set k (max (gI zm (k : Int)) (gI q (k : Int)))) := hid (by
          rw [ptG_set, Nat.div_one]; rfl)
        obtain ⟨gA, rfl, hgA, hgB⟩ : ∃ g, zA = some ⟨g, 0, none⟩ ∧ base ≤ g ∧ g < wr.heap.size := by
          rcases ownP.form with ⟨_, h, _⟩ | h
          · exfalso; rw [h] at hPl; simp at hPl; omega
          · exact h
        obtain ⟨g2, rfl, hg2, hg2B⟩ : ∃ g, A2 = some ⟨g, 0, none⟩ ∧ W.heap.size ≤ g ∧ g < wr.heap.size := by
          rcases own4.form with ⟨_, h, _⟩ | h
          · exfalso; have := HQL.out; rw [h] at this; simp at this; omega
          · exact h
        obtain ⟨hA1, hA2, hA3, hA4⟩ := HAL.out gA rfl
        obtain ⟨_, _, eA, _, cA⟩ := ownP.rd k (by omega)
        injection eA with eA; injection eA with eA1 eA2; subst eA1; subst eA2
        obtain ⟨_, _, eB, _, cB⟩ := own4.rd k (by rw [HQL.out]; exact hlt)
        injection eB with eB; injection eB with eB1 eB2; subst eB1; subst eB2
        rw [Nat.zero_add, hAt] at cA
        rw [Nat.zero_add] at cB
        obtain ⟨a, hav⟩ : ∃ a, gI zm (k : Int) = a := ⟨_, rfl⟩
        obtain ⟨b, hbv⟩ : ∃ b, gI q (k : Int) = b := ⟨_, rfl⟩
        rw [hav] at cA
        rw [hbv] at cB
        rw [hav, hbv] at HSET
        clear hav hbv hAt
        have HPL := hid hPl
        have HJ := hid hlt
        go_upto_region 6 with fail
        have l0 := later t0
        have l1 := later q2
        have l2 := later cA
        have ne8 := own_blk' ownP p8 (by decide) gA rfl
        have ne2 : gA ≠ g2 := by omega
        have HSV := hid (And.intro ownP (And.intro own4 (And.intro p8 hG)))
        clear x0 x1 x2 fx cA cB ownP own4 p8 hG hPl hk t0 q2
        refine wp_region_flow 16 (fun W => Below wr.heap.size wr W) (by kernel_rfl) (by kernel_rfl) (Below.refl _ _).drew ?_
        (repeat (first | (refine Flow.skip (by rfl) ?_; simp only [Act.put, List.setIfInBounds_toArray, List.set_cons_zero, List.set_cons_succ]) | (refine' Flow.take _ (by rfl) (fun W hW R hR => ?_) ?_; rotate_left; (go_simp; (try go_bits); with_reducible exact hR); simp only [Act.put, List.setIfInBounds_toArray, List.set_cons_zero, List.set_cons_succ])))
        intro w9 hb9
        clear l0 l1 l2
        obtain ⟨ownP, own4, p8, hG⟩ := HSV.out
        have hfr := (ownP.below hb9).frozen k
        obtain ⟨_, _, eA, _, cA⟩ := (ownP.below hb9).rd k (by rw [HPL.out]; exact hlt)
        injection eA with eA; injection eA with eA1 eA2; subst eA1; subst eA2
        rw [Nat.zero_add] at cA
        obtain ⟨v, hv⟩ : ∃ v, max a b = v := ⟨_, rfl⟩
        have HV : Hid ((if a < b then b else a) = v) := hid (by rw [← hv]; split <;> omega)
        rw [hv] at HSET
        have HR := hid (And.intro ((ownP.below hb9).store k v) (And.intro ((own4.below hb9).far1 (g := gA) (i := k) (v := .int .i64 v) (fun kk e => by injection e with e; injection e with e; omega)) (And.intro ((p8.later hb9).far (p := ⟨gA, k, none⟩) ne8 (.int .i64 v)) ((hG.trans (grown_of_below hb9 _)).trans (grown_setCell w9 ⟨gA, k, none⟩ (.int .i64 v))))))
        clear ownP own4 p8 hG hb9 HSV hv
        rw [HV.out]
        go_wp2
        go_roundw
        case rel =>
          obtain ⟨h1, h2, h3, h4⟩ := HR.out
          exact ⟨k + 1, by have := HJ.out; omega, by go_num, by rw [HSET.out]; exact h1, h2, h3, h4⟩
        case measure => simp [Go.RowKit.intOf]; omega
      · obtain rfl : k = L := by omega
        have hmn : mo.n = zn ∧ mo.e = false ∧ mo.m = ptG 1 (mxF zm q) zm k := by rw [HMO2.out]; exact ⟨rfl, rfl, rfl⟩
        have hX3 := HXX.out.grow (q := mo) (W2 := wr) hpz (by rw [HZZ.out]; exact hG) (by rw [HZZ.out, hmn.2.2]; exact ownP) (by rw [HZZ.out]; exact hmn.1) (by rw [HZZ.out]; exact hmn.2.1) (by rw [HZZ.out, hmn.2.2, ptG_len]) HGO.out
        have HX3 := hid hX3
        have HWN : Hid (Win base b0 b1 W wr) := hid ⟨below_grown hG (fun kk hkk => by
          rcases hown.form with ⟨e1, _⟩ | ⟨g', e1, h5, _⟩
          · rw [e1] at hkk; cases hkk
          · rw [e1] at hkk
            have hkk : some g' = some kk := hkk
            injection hkk with hkk; omega) hW, hX3.kept⟩
        clear hX3 hmn ownP own4 p8 hG hlt hk t0 q2
        go_wp2
        go_end0
        exact ⟨rfl, ⟨_, by rw [List.length_set]; exact HZL.out, HX3.out.toP⟩, HWN.out⟩
end
section
attribute [local go_sem ↓] Go.wp_at_zero Go.wp_at_succ

theorem learnf_enters (args : Array Value) (X : World) : (callFunc 36 args).run Tryz.prog X = .ok (.enter 36 args) X := by
  go_simp
/-- The slice's own variable stays where a row of octagons grows. -/
theorem Blk.grow9 {w w' : World} {g base c : Nat} {A : Option Addr} {zs : List Z} {cs : Array Value} (h : Blk w g 27 cs) (ho : OwnZ w base A c zs) (hg : w.grownBy w' (Value.slice A zs.length c).ownBlock) : Blk w' g 27 cs := by
  refine (hg.block g h.lt fun e => ?_).trans h
  rcases ho.form with ⟨rfl, _⟩ | ⟨g', cs', rfl, _, _, h3⟩
  · simp [Value.ownBlock] at e
  · simp [Value.ownBlock] at e
    subst e
    have := h.symm.trans h3
    injection this with this; injection this with this this2; cases this2
set_option maxRecDepth 8000 in
set_option maxHeartbeats 16000000 in
theorem wlearn_ok (g : Gr) (V D E : Option Addr) (cv cd ce : Nat) (ss : List (List Int)) (S : Option Addr) (sc : Nat) (k : Int) (w : World) (hD : RdD w w.heap.size D g.sz) (hE : RdE w w.heap.size E g.es) (hS : RdRC w w.heap.size S ss)
    (lv : g.nv ≤ 17592186044416) (ls : g.sz.length ≤ 17592186044416) (le : g.es.length ≤ 17592186044416) (hi : ∀ e ∈ g.es, I64 e.an ∧ I64 e.bn) (hI : ∀ s ∈ ss, I64s s) (hlm : ss.length ≤ 17592186044416) (hsl : ∀ s ∈ ss, s.length ≤ 17592186044416) :
    Calls Tryz.prog 15 #[grV g V D E cv cd ce, .slice S ss.length sc, .int .i64 k] w (LearnRes g ss k w) := by
  have HCH := hid (fun W (h1 : RdD W W.heap.size D g.sz) (h2 : RdE W W.heap.size E g.es) => (show Calls Tryz.prog 25 #[.agg #[.slice V g.nv cv, .int .i64 g.tm, .slice D g.sz.length cd, .int .i64 g.pts, .int .i64 g.ex, .slice E g.es.length ce]] W _ from gcheck_any g V D E cv cd ce W h1 h2 lv ls le))
  have n0 := new1 w (.cells #[.slice V g.nv cv, .int .i64 g.tm, .slice D g.sz.length cd, .int .i64 g.pts, .int .i64 g.ex, .slice E g.es.length ce] 26)
  have k0 := Blk.new w 26 #[.slice V g.nv cv, .int .i64 g.tm, .slice D g.sz.length cd, .int .i64 g.pts, .int .i64 g.ex, .slice E g.es.length ce]
  have HE0 := hid hE
  have HD0 := hid hD
  have HS0 := hid hS
  have HI := hid hi
  have HII := hid hI
  have HSL := hid hsl
  have hb0 := n0
  clear n0 hE hD hS hi hI hsl
  unfold grV
  go_enter Tryz.func15, Tryz.ntmps15
  go_upto_region 1 with fail
  generalize w.alloc (.cells #[.slice V g.nv cv, .int .i64 g.tm, .slice D g.sz.length cd, .int .i64 g.pts, .int .i64 g.ex, .slice E g.es.length ce] 26) = w1 at *
  obtain ⟨f0, f1, f2, f3, f4, f5, ff⟩ := blk6 k0
  go_wp2_with fail
  clear f0 f1 f2 f3 f4 f5 ff
  (with_reducible refine (HCH.out w1 (HD0.out.up hb0) (HE0.out.up hb0)).mono ?_)
  clear HCH
  rintro e2 w2 ⟨rfl, hb2⟩
  replace k0 := k0.later hb2
  replace hb0 := bup hb0 hb2
  clear hb2
  obtain ⟨ck, HCK⟩ : ∃ ck, Hid (chk g = ck) := ⟨_, hid rfl⟩
  rw [HCK.out]
  by_cases hck : ck = 0
  case neg =>
    have HR : Hid (learnE g ss k = ck) := hid (by unfold learnE; rw [if_pos (by rw [HCK.out]; exact hck), HCK.out])
    have hne : (ck != 0) = true := by rw [bne_iff_ne]; exact hck
    have HN := hid hck
    clear hck
    go_wp2
    refine bodyPost_ret (v := .tuple #[.slice none 0 0, .int .i64 ck]) (by simp [results, Tryz.results15, go_sem]) rfl ?_
    exact ⟨none, 0, [], by rw [HR.out]; rfl, by rw [HR.out, if_neg HN.out]; rfl, RowZ.nil _, by simp, hb0⟩
  subst hck
  obtain ⟨ct0, ct1, ca, ces, csz, cz, cr⟩ := chk_parts HCK.out
  obtain ⟨p1, p2, -, -⟩ := chk_in HCK.out
  obtain ⟨d, hd⟩ := Int.eq_ofNat_of_zero_le (show 0 ≤ g.all by have : g.all = g.nv + g.tm := rfl; omega)
  obtain ⟨N, hN⟩ := Int.eq_ofNat_of_zero_le (show 0 ≤ g.pts by omega)
  have hd64 : d ≤ 64 := by omega
  have hN4 : N ≤ 4096 := by omega
  have hN1 : 0 < N := by omega
  have HDA := hid hd
  have HN := hid hN
  have hnt : (g.nv : Int) + g.tm = (d : Int) := hd
  have hs0 : 0 ≤ (g.nv : Int) + g.tm := by omega
  have hs1 : (g.nv : Int) + g.tm ≤ 64 := by omega
  clear hd hN
  have n9 := new1 w2 (.cells #[.int .i64 (d : Int)] 3)
  have k9 := Blk.new w2 3 #[.int .i64 (d : Int)]
  obtain ⟨f0, f1, f2, f3, f4, f5, ff⟩ := blk6 k0
  go_upto_region 5 with fail
  clear f0 f1 f2 f3 f4 f5 ff hnt hs0 hs1 cz cr ca ct0 ct1 p1 p2
  have hnr : w2.alloc (.cells #[.int .i64 ((g.nv : Int) + g.tm)] 3) = w2.alloc (.cells #[.int .i64 (d : Int)] 3) := by rw [show (g.nv : Int) + g.tm = (d : Int) from HDA.out]
  try rw [hnr]
  clear hnr
  have HG9 := hid k0.lt
  replace k0 := k0.later n9
  replace hb0 := bup hb0 n9
  clear n9
  generalize hw3 : w2.alloc (.cells #[.int .i64 (d : Int)] 3) = w3 at *
  clear hw3
  generalize w2.heap.size = g9 at *
  have hq1 : 4 * (d : Int) * (d : Int) ≤ 16384 := by
    have : d * d ≤ 64 * 64 := Nat.mul_le_mul hd64 hd64
    have e : 4 * (d : Int) * (d : Int) = 4 * ((d * d : Nat) : Int) := by rw [Int.natCast_mul, Int.mul_assoc]
    omega
  have hq0 : 0 ≤ 4 * (d : Int) * (d : Int) := by
    have e : 4 * (d : Int) * (d : Int) = 4 * ((d * d : Nat) : Int) := by rw [Int.natCast_mul, Int.mul_assoc]
    omega
  have hq2 : 4 * (d : Int) * (d : Int) * (N : Int) ≤ 16384 * 4096 := Int.mul_le_mul hq1 (by omega) (by omega) (by omega)
  have hq3 : 0 ≤ 4 * (d : Int) * (d : Int) * (N : Int) := Int.mul_nonneg hq0 (by omega)
  have HLE : Hid (learnE g ss k = if 64 < ss.length ∨ 4194304 < 4 * (d : Int) * (d : Int) * (N : Int) then 270 else fuelsE k ss) := hid (by unfold learnE; rw [if_neg (by rw [HCK.out]; decide), HDA.out, HN.out])
  have x3 : w3.cell? ⟨w.heap.size, 3, none⟩ = some (.int .i64 (N : Int)) := (k0.cell 3).trans (by show some (Value.int .i64 g.pts) = _; rw [HN.out])
  have x9 : w3.cell? ⟨g9, 0, none⟩ = some (.int .i64 (d : Int)) := k9.cell 0
  obtain ⟨q3, hq⟩ : ∃ q3, 4 * (d : Int) * (d : Int) * (N : Int) = q3 := ⟨_, rfl⟩
  rw [hq] at hq2 hq3 HLE
  by_cases hmany : 64 < ss.length ∨ 4194304 < q3
  case pos =>
    have HR : Hid (learnE g ss k = 270) := hid (by rw [HLE.out, if_pos hmany])
    have ht : decide ((64 : Int) < (ss.length : Int)) = true ∨ (decide ((64 : Int) < (ss.length : Int)) = false ∧ decide (4194304 < q3) = true) := by
      by_cases q : 64 < ss.length
      · exact .inl (decide_eq_true (by omega))
      · rcases hmany with h | h
        · exact absurd h q
        · exact .inr ⟨decide_eq_false (by omega), decide_eq_true h⟩
    have HBE : Hid (∀ W, Below w.heap.size w W → LearnRes g ss k w (.returned (.tuple #[.slice none 0 0, .int .i64 270])) W) := hid fun W hb => ⟨none, 0, [], by rw [HR.out]; rfl, by rw [HR.out, if_neg (by decide)]; rfl, RowZ.nil _, by simp, hb⟩
    clear hmany HLE k0 k9
    rcases ht with ht | ⟨ht, ht2⟩
    all_goals
      go_wp2
      refine bodyPost_ret (v := .tuple #[.slice none 0 0, .int .i64 270]) (by simp [results, Tryz.results15, go_sem]) rfl ?_
      exact HBE.out _ hb0
  have HLF : Hid (learnE g ss k = fuelsE k ss) := hid (by rw [HLE.out, if_neg hmany])
  have t64 : decide ((64 : Int) < (ss.length : Int)) = false := decide_eq_false (by omega)
  have tq3 : decide (4194304 < q3) = false := decide_eq_false (by omega)
  clear hmany HLE
  have n10 := new1 w3 (.cells #[.slice none 0 0] 27)
  have k10 := Blk.new w3 27 #[.slice none 0 0]
  have HB3 := hid hb0
  have hg93 := k9.lt
  have hg03 := k0.lt
  have x3' := (n10.cell (p := ⟨w.heap.size, 3, none⟩) hg03).trans x3
  have KB := hid k0
  have K9 := hid k9
  go_upto_region 8 with fail
  clear t64 tq3 x3 x9 hq hq0 hq1 hq2 hq3 k0 k9 hb0
  generalize hw4 : w3.alloc (.cells #[.slice none 0 0] 27) = w4 at *
  clear hw4
  have HN10 := hid n10
  clear n10
  obtain ⟨g10, hg10⟩ : ∃ g10, w3.heap.size = g10 := ⟨_, rfl⟩
  rw [hg10] at hg93 hg03 k10 ⊢
  have HG10 := hid hg10
  have hb34 : Below g10 w3 w4 := by rw [← hg10]; exact HN10.out
  clear hg10
  go_wp2
  clear x3'
  go_loopw [42] (fun t wr => ∃ (p : Nat) (A : Option Addr) (c : Nat) (zs : List Z), p ≤ N ∧ t = .int .i64 (p : Int) ∧ zs.length = p ∧ Blk wr g10 27 #[.slice A zs.length c] ∧ LnM wr (g10 + 1) d A c zs (List.replicate p ⟨(d : Int), true, []⟩) ∧ Below g10 w3 wr) (fun t _ => N - (Go.RowKit.intOf t).toNat)
  case atStart => exact ⟨0, none, 0, [], by omega, rfl, rfl, k10, ⟨OwnZ.nil _ _, ApartZ.nil, rfl, fun z hz => absurd hz (by simp)⟩, hb34⟩
  case round =>
    clear k10 hb34
    obtain ⟨p, A, c, zs, hp, rfl, hzl, k10, hln, hb⟩ := hrel
    by_cases hlt : p < N
    · have hlt' : (p : Int) < (N : Int) := by omega
      have x9 : wr.cell? ⟨g9, 0, none⟩ = some (.int .i64 (d : Int)) := (K9.out.below hb hg93).cell 0
      have HZL := hid hzl
      have HLN := hid hln
      have HB := hid hb
      have K10 := hid k10
      have HLT := hid hlt
      clear hzl hln hb
      go_wp2_with fail
      (with_reducible refine (dempty_any (d : Int) wr (by omega) (by omega)).mono ?_)
      clear x9
      rintro e5 w5 ⟨rfl, hb5⟩
      have n6 := new1 w5 (.cells #[.int .i64 (d : Int), .bool true, .slice none 0 0] 53)
      have k6 := Blk.new w5 53 #[.int .i64 (d : Int), .bool true, .slice none 0 0]
      have hln6 := (HLN.out.below hb5).below n6
      have k106 := (K10.out.later hb5).later n6
      have hg3 := HG10.out
      have hsr : g10 ≤ wr.heap.size := by rw [← hg3]; exact HB.out.size
      have hb6 := (HB.out.trans (hb5.mono hsr)).trans (n6.mono (Nat.le_trans hsr hb5.size))
      clear hb5 n6 k10
      go_upto_region 11 with fail
      generalize hw6 : w5.alloc (.cells #[.int .i64 (d : Int), .bool true, .slice none 0 0] 53) = w6 at *
      clear hw6
      generalize w5.heap.size = g11 at *
      have n8 := new1 w6 (.cells #[.int .i64 (d : Int), .bool true, .slice none 0 0] 53)
      have k8 := Blk.new w6 53 #[.int .i64 (d : Int), .bool true, .slice none 0 0]
      have hln8 := hln6.below n8
      have own8 := hln8.own
      have k108 := k106.later n8
      have hbx := hb6.trans (n8.mono (by rw [← hg3]; exact hb6.size))
      have hsx : g10 + 1 ≤ (w6.alloc (.cells #[.int .i64 (d : Int), .bool true, .slice none 0 0] 53)).heap.size := k108.lt
      have hyk : zs.length + 1 ≤ 1000000 := by have := HZL.out; omega
      obtain ⟨x0, x1, x2, fx⟩ := octbox k6
      have t0 := k106.cell 0
      have ft := k106.fr 0
      clear hln6 n8 k6 hb6
      go_wp2_with (at_builtin; go_loud (refine wpList_append_oct _ _ rfl rfl (g10 + 1) A c zs (⟨(d : Int), true, []⟩, none, 0) rfl own8 w6.heap.size rfl k8 (own_nil _ _) (by simp) hyk hsx ?_); intro A2 cap2 w9 own9 hg9; have k109 := k108.grow9 own8 hg9; have t9 := k109.cell 0; have f9 := k109.fr 0)
      have hb9 : Below g10 w3 w9 := hbx.trans (below_grown hg9 (fun kk hkk => by
        rcases own8.form with ⟨rfl, _⟩ | ⟨g', cs, rfl, h1, h2, h3⟩
        · simp [Value.ownBlock] at hkk
        · simp [Value.ownBlock] at hkk; subst hkk; omega) (by omega))
      go_roundw
      case rel =>
        refine ⟨p + 1, A2, cap2, zs ++ [(⟨(d : Int), true, []⟩, none, 0)], by have := HLT.out; omega, by go_num, by rw [List.length_append, List.length_singleton, HZL.out], by rw [List.length_append, List.length_singleton]; exact k109.set_ 0 _, ⟨own9.setFar (p := ⟨g10, 0, none⟩) (by show g10 < g10 + 1; omega) _, HLN.out.ap.snocNone, ?_, fun z hz => ?_⟩, hb9.setCell (p := ⟨g10, 0, none⟩) (Nat.le_refl _) _⟩
        · rw [List.map_append, HLN.out.eq, List.replicate_succ']; rfl
        · rcases List.mem_append.1 hz with hz | hz
          · exact HLN.out.ok z hz
          · rw [List.mem_singleton] at hz; subst hz
            exact And.intro rfl (And.intro (fun h => Bool.noConfusion h) (Nat.zero_le _))
      case measure => have := HLT.out; simp [Go.RowKit.intOf]; omega
    · obtain rfl : p = N := by omega
      have hz0 : List.replicate p (⟨(d : Int), true, []⟩ : O) = lnZero g := by
        unfold lnZero
        rw [HDA.out, show g.pts.toNat = p by have := HN.out; omega]
      rw [hz0] at hln
      rw [hzl] at k10
      have HLS : Hid (learnO g k ss = (ss.take ss.length).foldl (lnOne g k) (lnZero g)) := hid (by rw [List.take_length]; rfl)
      obtain ⟨gR, rfl, hgR1, hgR2⟩ : ∃ gR, A = some ⟨gR, 0, none⟩ ∧ g10 + 1 ≤ gR ∧ gR < wr.heap.size := by
        rcases hln.own.form with ⟨_, e, _⟩ | ⟨gR, _, e, h1, h2, _⟩
        · rw [e] at hzl; simp at hzl; omega
        · exact ⟨gR, e, h1, h2⟩
      have HZL := hid hzl
      clear hz0 hlt hp hzl
      go_wp2
      go_loopw [56] (fun t wr => ∃ (i : Nat) (zs : List Z), i ≤ ss.length ∧ t = .int .i64 (i : Int) ∧ fuelsE k (ss.take i) = 0 ∧ zs.length = p ∧ Blk wr g10 27 #[.slice (some ⟨gR, 0, none⟩) p c] ∧ LnM wr (g10 + 1) d (some ⟨gR, 0, none⟩) c zs ((ss.take i).foldl (lnOne g k) (lnZero g)) ∧ Below g10 w3 wr) (fun t _ => ss.length - (Go.RowKit.intOf t).toNat)
      case atStart => exact ⟨0, zs, by omega, rfl, rfl, HZL.out, k10, hln, hb⟩
      case round =>
        clear hln hb k10 hgR2
        obtain ⟨i, zs, hil, rfl, hfz, hzp, k10, hln, hb⟩ := hrel
        by_cases hlt : i < ss.length
        · have hlt' : (i : Int) < (ss.length : Int) := by omega
          have HNX : Hid ((ss.take (i + 1)).foldl (lnOne g k) (lnZero g) = lnOne g k ((ss.take i).foldl (lnOne g k) (lnZero g)) ss[i]) := hid (by rw [List.take_succ_eq_append_getElem hlt, List.foldl_append]; rfl)
          have HFT := hid (fuels_take k ss i hlt hfz)
          have hbw : Below w.heap.size w wr := HB3.out.trans (hb.mono (by omega))
          obtain ⟨b, off, Ak, ck, rfl, hB, hc, hrd, hcap⟩ := (HS0.out.below hbw) i hlt
          have hsI := HII.out _ (List.getElem_mem hlt)
          have hsL := HSL.out _ (List.getElem_mem hlt)
          obtain ⟨s, hs⟩ : ∃ s, ss[i] = s := ⟨_, rfl⟩
          rw [hs] at hc hrd hcap hsI hsL HNX HFT
          obtain ⟨os, hos⟩ : ∃ os, (ss.take i).foldl (lnOne g k) (lnZero g) = os := ⟨_, rfl⟩
          rw [hos] at hln HNX
          have kq := KB.out.below hb hg03
          have k9q := K9.out.below hb hg93
          have hgRw : gR < wr.heap.size := by
            rcases hln.own.form with ⟨e, _⟩ | ⟨g', _, e, _, h2, _⟩
            · cases e
            · injection e with e; injection e with e; omega
          have hbase : g10 + 1 ≤ wr.heap.size := by omega
          have hbc : w.heap.size ≤ g10 + 1 := by omega
          have HRS := hid (hb)
          have HV := hid (visits_ok g V D E cv cd ce s Ak ck k 36 g9 g10 (g10 + 1)
            (fun b1 n W => ∃ zs, zs.length = p ∧ LnP wr.heap.size b1 W (g10 + 1) d (some ⟨gR, 0, none⟩) c zs (lnAt g (mZero g s) os n) ∧ Below (g10 + 1) wr W) wr
            (((HD0.out.below hbw)).more hbc) ((HE0.out.below hbw).more hbc) (hrd.more hbc) hbase hcap HCK.out HI.out hsI hsL (fun args X _ => learnf_enters args X)
            (fun kn hk hfu n A' c' b1 W hn hM hb' hb1 hI hrdx hxb => by
              obtain ⟨zs', hzl', hP, hlow'⟩ := hI
              have h9 := learnf_ok g9 g10 gR wr.heap.size b1 (g10 + 1) d p c n (mAt g (mZero g s) n).p c' hd64 zs' _ (mAt g (mZero g s) n).xs A' wr W hP hzl' (by have := hM.p; have := HN.out; omega) hN4 hb1 (by have := hM.xl; have := HDA.out; omega) hM.xi hrdx k9q k10 (by omega) (by omega) hbase hlow'
              refine h9.mono fun e w' hh => ?_
              obtain ⟨h1, ⟨zs2, h2, h3⟩, h4⟩ := hh
              refine ⟨h1, ⟨zs2, h2, ?_, hlow'.trans h4.low⟩, h4⟩
              show LnP _ _ _ _ _ _ _ _ ((lnAt g (mZero g s) os n).set (mAt g (mZero g s) n).p (moreO (octAt (lnAt g (mZero g s) os n) (mAt g (mZero g s) n).p) g.all.toNat (mAt g (mZero g s) n).xs))
              rw [show g.all.toNat = d by have := HDA.out; omega]
              exact h3)
            (fun b1 _ => ⟨zs, hzp, ⟨hln, fun z hz g' hg' => by
              left
              rcases (hln.own.own z hz).form with ⟨e1, _⟩ | ⟨g1, e1, _, h6⟩
              · rw [e1] at hg'; cases hg'
              · rw [e1] at hg'; injection hg' with hg'; injection hg' with hg'; omega, fun g' hg' => by injection hg' with hg'; injection hg' with hg'; omega⟩, Below.refl _ _⟩)
            (fun b1 n W W' hI ho => by
              obtain ⟨zs', h1, h2, h3⟩ := hI
              exact ⟨zs', h1, h2.off ho, h3.trans (ho.low.mono hbase)⟩))
          unfold grV at HV
          obtain ⟨f0, f1, f2, f3, f4, f5, ff⟩ := blk6 kq
          have HK10 := hid k10
          have HZP := hid hzp
          have HLT := hid hlt
          clear hln hrd hcap hsI hsL hb hbw kq k9q hzp hos hs k10
          go_wp2_with fail
          clear f0 f1 f2 f3 f4 f5 ff hc
          (with_reducible refine HV.out.mono ?_)
          clear HV
          rintro e6 w6 ⟨rfl, hok, hbad, hb6⟩
          have hb36 : Below g10 w3 w6 := HRS.out.trans (hb6.mono (by omega))
          have HB36 := hid hb36
          by_cases hfu : fuelE s.length k = 0
          case neg =>
            have HN := hid hfu
            have hne : (fuelE s.length k != 0) = true := by rw [bne_iff_ne]; exact hfu
            have HR : Hid (learnE g ss k = fuelE s.length k) := hid (by
              rw [HLF.out, ← HFT.out]
              exact fuels_stop k ss (i + 1) (by rw [HFT.out]; exact hfu))
            generalize fuelE s.length k = fe at *
            clear hfu hok hbad hb6 hb36
            go_wp2
            refine bodyPost_ret (v := .tuple #[.slice none 0 0, .int .i64 fe]) (by simp [results, Tryz.results15, go_sem]) rfl ?_
            exact ⟨none, 0, [], by rw [HR.out]; rfl, by rw [HR.out, if_neg HN.out]; rfl, RowZ.nil _, by simp, HB3.out.trans (HB36.out.mono (by omega))⟩
          obtain ⟨b1, zs2, h1, h2, h3⟩ := hok hfu
          have HP := hid h2
          have HZ2 := hid h1
          have K10 := hid (HK10.out.below h3 (Nat.lt_succ_self g10))
          have HFZ : Hid (fuelsE k (ss.take (i + 1)) = 0) := hid (HFT.out.trans hfu)
          rw [hfu]
          clear hok hbad hb6 hb36 h1 h2 h3 hfu
          go_wp2
          go_roundw
          case rel => exact ⟨i + 1, zs2, by have := HLT.out; omega, by go_num, HFZ.out, HZ2.out, K10.out, by rw [HNX.out]; exact HP.out.ln, HB36.out⟩
          case measure => have := HLT.out; simp [Go.RowKit.intOf]; omega
        · obtain rfl : i = ss.length := by omega
          rw [← HLS.out] at hln
          rw [List.take_length] at hfz
          have HR : Hid (learnE g ss k = 0) := hid (HLF.out.trans hfz)
          have HLN := hid hln
          have HB := hid (HB3.out.trans (hb.mono (by omega)))
          have HZP2 := hid hzp
          have t0 := k10.cell 0
          clear hln hb hzp hlt hil hfz k10
          go_wp2
          refine bodyPost_ret (v := .tuple #[.slice (some ⟨gR, 0, none⟩) p c, .int .i64 0]) (by simp [results, Tryz.results15, go_sem]) rfl ?_
          exact ⟨some ⟨gR, 0, none⟩, c, zs, by rw [HR.out, HZP2.out], by rw [HR.out, if_pos rfl]; exact HLN.out.eq, HLN.out.own.rows, by rw [HZP2.out]; exact hN4, HB.out⟩
end
end Go.Proofs.YtkncebcekhfnfaaGreat
