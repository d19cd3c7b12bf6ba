/-
  One step of learning, in memory.
  gnomonref27.Learn tells what learnO says.
  watch.Learn: what is done at each point that a run comes to.
-/
import Derived.Test.YtkncebcekhfnfaaGreatBWT42
import Derived.Test.YtkncebcekhfnfaaGreatBWT38
import Derived.Test.YtkncebcekhfnfaaGreatBWT37
namespace Go.Proofs.YtkncebcekhfnfaaGreat
section
open Go.RowKit

/-- What Learn answers. -/
def LearnRes (g : Gr) (ss : List (List Int)) (k : Int) (w : World) (e : Ending) (w' : World) : Prop :=
  ∃ A c zs, e = .returned (.tuple #[.slice A zs.length c, .int .i64 (learnE g ss k)]) ∧ zs.map (fun (z : Z) => z.1) = (if learnE g ss k = 0 then learnO g k ss else []) ∧ RowZ w' A zs ∧ zs.length ≤ 4096 ∧ Below w.heap.size w w'
theorem RowZ.nil (w : World) : RowZ w none [] := ⟨fun k hk => absurd hk (by simp), fun k hk => absurd hk (by simp), fun k hk => absurd hk (by simp)⟩
/-- What holds of the octagons that are learnt. -/
structure LnM (W : World) (base d : Nat) (A : Option Addr) (c : Nat) (zs : List Z) (os : List O) : Prop where
  own : OwnZ W base A c zs
  ap : ApartZ zs
  eq : zs.map (fun (z : Z) => z.1) = os
  ok : ∀ z ∈ zs, GoodO d z.1
theorem LnM.below {W W' : World} {base d c : Nat} {A : Option Addr} {zs : List Z} {os : List O} (h : LnM W base d A c zs os) (hb : Below W.heap.size W W') : LnM W' base d A c zs os := ⟨h.own.below hb, h.ap, h.eq, h.ok⟩

/-- The same, beside rows that stand in between. -/
structure LnX (wC : World) (baseC hC : Nat) (W : World) (base d : Nat) (A : Option Addr) (c : Nat) (zs : List Z) (os : List O) : Prop where
  ln : LnM W base d A c zs os
  kept : ∀ q, baseC ≤ q → q < hC → W.heap[q]? = wC.heap[q]?
  out : ∀ z ∈ zs, ∀ g, z.2.1 = some ⟨g, 0, none⟩ → g < baseC ∨ hC ≤ g
  row : ∀ g, A = some ⟨g, 0, none⟩ → g < baseC
  size : hC ≤ W.heap.size
/-- An octagon put into the row, as worlds. -/
abbrev putW (w : World) (gR p : Nat) (z : Z) : World := ((w.setCell ⟨gR, p * 3, none⟩ (.int .i64 z.1.n)).setCell ⟨gR, p * 3 + 1, none⟩ (.bool z.1.e)).setCell ⟨gR, p * 3 + 2, none⟩ (.slice z.2.1 z.1.m.length z.2.2)
theorem put_grown (w : World) (gR p : Nat) (z : Z) : w.grownBy (putW w gR p z) (some gR) := ((grown_setCell w ⟨gR, p * 3, none⟩ _).trans (grown_setCell _ ⟨gR, p * 3 + 1, none⟩ _)).trans (grown_setCell _ ⟨gR, p * 3 + 2, none⟩ _)
section
variable {wC W W2 : World} {baseC hC base d c gR p : Nat} {zs : List Z} {os : List O} {q : O}
theorem LnX.up {A : Option Addr} (h : LnX wC baseC hC W base d A c zs os) (hb : Below W.heap.size W W2) : LnX wC baseC hC W2 base d A c zs os :=
  ⟨h.ln.below hb, fun q h1 h2 => (hb.block q (Nat.lt_of_lt_of_le h2 h.size)).trans (h.kept q h1 h2), h.out, h.row, Nat.le_trans h.size hb.size⟩
theorem LnX.step1 (h : LnX wC baseC hC W base d (some ⟨gR, 0, none⟩) c zs os) (hp : p < zs.length) (hb : Below W.heap.size W W2) {A' : Option Addr} {c' : Nat} (hq : Own W2 W.heap.size A' c' q.m) (hbase : base ≤ W.heap.size) (hok : GoodO d q) :
    LnX wC baseC hC (putW W2 gR p (q, A', c')) base d (some ⟨gR, 0, none⟩) c (zs.set p (q, A', c')) (os.set p q) := by
  have h2 := h.up hb
  have hgr := put_grown W2 gR p (q, A', c')
  have hrow := h.row gR rfl
  refine ⟨⟨h2.ln.own.put hp (hq.less hbase) (by have := hok.2.2; show q.m.length ≤ _; omega), h2.ln.ap.put hp fun g hg j hj hne e => ?_, ?_, fun z hz => ?_⟩, fun k h3 h4 => ?_, fun z hz g hg => ?_, h.row, Nat.le_trans h2.size hgr.size⟩
  · have hj2 := (h.ln.own.own _ (List.getElem_mem hj)).form
    rcases hq.form with ⟨e1, _⟩ | ⟨g1, e1, h5, _⟩
    · have hg : A' = some ⟨g, 0, none⟩ := hg
      rw [e1] at hg; cases hg
    · have hg : A' = some ⟨g, 0, none⟩ := hg
      rw [e1] at hg; injection hg with hg; injection hg with hg
      rcases hj2 with ⟨e2, _⟩ | ⟨g2, e2, _, h6⟩
      · rw [e2] at e; cases e
      · rw [e2] at e; injection e with e; injection e with e; omega
  · rw [List.map_set, h2.ln.eq]
  · rcases List.mem_or_eq_of_mem_set hz with hz | hz
    · exact h.ln.ok z hz
    · subst hz; exact hok
  · exact (hgr.block k (Nat.lt_of_lt_of_le h4 h2.size) (fun e => by injection e with e; omega)).trans (h2.kept k h3 h4)
  · rcases List.mem_or_eq_of_mem_set hz with hz | hz
    · exact h.out z hz g hg
    · subst hz
      right
      rcases hq.form with ⟨e1, _⟩ | ⟨g1, e1, h5, _⟩
      · have hg : A' = some ⟨g, 0, none⟩ := hg
        rw [e1] at hg; cases hg
      · have hg : A' = some ⟨g, 0, none⟩ := hg
        rw [e1] at hg; injection hg with hg; injection hg with hg
        have := h.size; omega
theorem LnX.grow {A : Option Addr} (h : LnX wC baseC hC W base d A c zs os) (hp : p < zs.length) (hgr : W.grownBy W2 (blkOf zs[p].2.1)) (hq : Own W2 base zs[p].2.1 zs[p].2.2 q.m) (hn : q.n = zs[p].1.n) (he : q.e = zs[p].1.e) (hl : q.m.length = zs[p].1.m.length) (hok : GoodO d q) :
    LnX wC baseC hC W2 base d A c (zs.set p (q, zs[p].2)) (os.set p q) := by
  have hqe : (⟨zs[p].1.n, zs[p].1.e, q.m⟩ : O) = q := by rw [← hn, ← he]
  have hown : OwnZ W2 base A c (zs.set p (q, zs[p].2)) ∧ ∀ k, baseC ≤ k → k < hC → W2.heap[k]? = wC.heap[k]? := by
    rcases (h.ln.own.own _ (List.getElem_mem hp)).form with ⟨e1, e2, _⟩ | ⟨g, e1, h5, h6⟩
    · have hgr' : W.grownBy W2 none := by rw [e1] at hgr; exact hgr
      have hz : zs.set p (q, zs[p].2) = zs := by
        have : (q, zs[p].2) = zs[p] := by
          refine Prod.ext ?_ rfl
          rw [← hqe]
          have : q.m = zs[p].1.m := by
            rw [e2] at hl ⊢
            exact List.eq_nil_of_length_eq_zero hl
          rw [this]
        rw [this, List.set_getElem_self]
      rw [hz]
      have hb : Below W.heap.size W W2 := ⟨hgr'.os, hgr'.tape, hgr'.output, hgr'.size, fun k hk => hgr'.block k hk (by simp)⟩
      exact ⟨h.ln.own.below hb, (h.up hb).kept⟩
    · have hgr' : W.grownBy W2 (some g) := by rw [e1] at hgr; exact hgr
      have h7 := h.ln.own.grow h.ln.ap hp e1 hgr' hl hq
      rw [hqe] at h7
      refine ⟨h7, fun k h3 h4 => ?_⟩
      rcases h.out _ (List.getElem_mem hp) g e1 with h8 | h8
      · exact (hgr'.block k (Nat.lt_of_lt_of_le h4 h.size) (fun e => by injection e with e; omega)).trans (h.kept k h3 h4)
      · exact (hgr'.block k (Nat.lt_of_lt_of_le h4 h.size) (fun e => by injection e with e; omega)).trans (h.kept k h3 h4)
  refine ⟨⟨hown.1, h.ln.ap.grow hp, ?_, fun z hz => ?_⟩, hown.2, fun z hz g hg => ?_, h.row, Nat.le_trans h.size hgr.size⟩
  · rw [List.map_set, h.ln.eq]
  · rcases List.mem_or_eq_of_mem_set hz with hz | hz
    · exact h.ln.ok z hz
    · subst hz; exact hok
  · rcases List.mem_or_eq_of_mem_set hz with hz | hz
    · exact h.out z hz g hg
    · subst hz
      exact h.out _ (List.getElem_mem hp) g hg
end
/-- What holds of the octagons while a run is under way whose own blocks lie in [b0, b1). -/
structure LnP (b0 b1 : Nat) (W : World) (base d : Nat) (A : Option Addr) (c : Nat) (zs : List Z) (os : List O) : Prop where
  ln : LnM W base d A c zs os
  out : ∀ z ∈ zs, ∀ g, z.2.1 = some ⟨g, 0, none⟩ → g < b0 ∨ b1 ≤ g
  row : ∀ g, A = some ⟨g, 0, none⟩ → g < b0
theorem LnP.toX {b0 b1 base d c : Nat} {W : World} {A : Option Addr} {zs : List Z} {os : List O} (h : LnP b0 b1 W base d A c zs os) (hs : b1 ≤ W.heap.size) : LnX W b0 b1 W base d A c zs os := ⟨h.ln, fun _ _ _ => rfl, h.out, h.row, hs⟩
theorem LnX.toP {wC W : World} {b0 b1 base d c : Nat} {A : Option Addr} {zs : List Z} {os : List O} (h : LnX wC b0 b1 W base d A c zs os) : LnP b0 b1 W base d A c zs os := ⟨h.ln, h.out, h.row⟩
theorem LnP.off {b0 b1 base d c : Nat} {W W' : World} {A : Option Addr} {zs : List Z} {os : List O} (h : LnP b0 b1 W base d A c zs os) (hO : Off b0 b1 W W') : LnP b0 b1 W' base d A c zs os := by
  have blk : ∀ g, g < W.heap.size → (g < b0 ∨ b1 ≤ g) → W'.heap[g]? = W.heap[g]? := fun g hg hq => by
    rcases hq with hq | hq
    · exact hO.low.block g hq
    · exact hO.high g hq hg
  have row : ∀ {e : TypeId} {size n : Nat} {v : Value} {xs : List Value}, W.ownsRow base e size v n xs → (∀ g, v.ownBlock = some g → g < b0 ∨ b1 ≤ g) → W'.ownsRow base e size v n xs := fun {e size n v xs} ho hv => by
    refine ⟨ho.1, ?_⟩
    rcases ho.2 with h1 | ⟨g, cap, cur, h1, h2, h3, h4⟩
    · exact .inl h1
    · exact .inr ⟨g, cap, cur, h1, h2, (blk g (Array.getElem?_eq_some_iff.1 h3).1 (hv g (by rw [h1]; rfl))).trans h3, h4⟩
  refine ⟨⟨⟨row h.ln.own.row fun g hg => ?_, fun z hz => row (h.ln.own.own z hz) fun g hg => ?_, h.ln.own.le⟩, h.ln.ap, h.ln.eq, h.ln.ok⟩, h.out, h.row⟩
  · rcases h.ln.own.form with ⟨e, _⟩ | ⟨g', _, e, _⟩
    · rw [e] at hg; simp [Value.ownBlock] at hg
    · rw [e] at hg; simp [Value.ownBlock] at hg; subst hg; exact .inl (h.row _ e)
  · rcases (h.ln.own.own z hz).form with ⟨e, _⟩ | ⟨g', e, _⟩
    · rw [e] at hg; simp [Value.ownBlock] at hg
    · rw [e] at hg; simp [Value.ownBlock] at hg; subst hg; exact h.out z hz _ e
end
section

end
section
open Go.RowKit
attribute [local go_sem ↓] Go.wp_at_zero Go.wp_at_succ

set_option maxRecDepth 8000 in
set_option maxHeartbeats 16000000 in
theorem learnf_ok (ga gb gR b0 b1 base d p c n pn xc : Nat) (hd : d ≤ 64) (zs : List Z) (os : List O) (x : List Int) (X : Option Addr) (wV W : World) (hP : LnP b0 b1 W base d (some ⟨gR, 0, none⟩) c zs os) (hzl : zs.length = p) (hpn : pn < p) (hp4 : p ≤ 4096) (hb1 : b1 ≤ W.heap.size) (hxl : x.length = d) (hI : I64s x) (hx : Rd W W.heap.size X x)
    (ka : Blk wV ga 3 #[.int .i64 (d : Int)]) (kb : Blk wV gb 27 #[.slice (some ⟨gR, 0, none⟩) p c]) (hga : ga < base) (hgb : gb < base) (hbase : base ≤ wV.heap.size) (hlow : Below base wV W) :
    Calls Tryz.prog 36 #[.int .i64 (n : Int), .int .i64 (pn : Int), .slice X x.length xc, .pointer (some ⟨ga, 0, none⟩), .pointer (some ⟨gb, 0, none⟩)] W fun e w' => e = .returned (.tuple #[]) ∧ (∃ zs', zs'.length = p ∧ LnP b0 b1 w' base d (some ⟨gR, 0, none⟩) c zs' (os.set pn (moreO (octAt os pn) d x))) ∧ Win base b0 b1 W w' := by
  have hpz : pn < zs.length := by omega
  have hoct : octAt os pn = zs[pn].1 := by
    unfold octAt
    rw [← hP.ln.eq, List.getD_eq_getElem?_getD, List.getElem?_map, List.getElem?_eq_getElem hpz]; rfl
  rw [hoct]
  clear hoct
  have hW : base ≤ W.heap.size := Nat.le_trans hbase hlow.size
  have hX := hP.toX hb1
  have hgood := hP.ln.ok _ (List.getElem_mem hpz)
  have hown := hP.ln.own.own _ (List.getElem_mem hpz)
  obtain ⟨_, _, hAR, hBR, r0, r1, r2⟩ := hP.ln.own.rows.at_ pn hpz
  injection hAR with hAR; injection hAR with hARa hARb; subst hARa; subst hARb
  rw [Nat.zero_add] at r0 r1 r2
  obtain ⟨z, hz⟩ : ∃ z, zs[pn] = z := ⟨_, rfl⟩
  rw [hz] at r0 r1 r2 hgood hown ⊢
  have HZZ := hid hz
  have HXX := hid hX
  have HGD := hid hgood
  have HGO := hid (GoodO.more hd hgood x)
  have HZL := hid hzl
  have HRW := hid hP.row
  obtain ⟨⟨zn, ze, zm⟩, zA, zC⟩ := z
  dsimp only at r0 r1 r2 hgood hown HGD HGO ⊢
  obtain ⟨mo, hmo⟩ : ∃ mo, moreO ⟨zn, ze, zm⟩ d x = mo := ⟨_, rfl⟩
  have HMO : Hid (mo = if ze = true then ⟨(d : Int), false, (onePt d x).m⟩ else ⟨zn, ze, maxM zm (onePt d x).m⟩) := hid (by rw [← hmo]; unfold moreO; cases ze <;> rfl)
  rw [hmo] at HGO ⊢
  clear hmo
  have HR2 := hid r2
  have hgRb : base ≤ gR := by
    rcases hP.ln.own.form with ⟨e, _⟩ | ⟨g2, cs, e, h5, _⟩
    · cases e
    · injection e with e; injection e with e; omega
  have HFR : Hid (∀ j, W.frozen? ⟨gR, j, none⟩ = false) := hid fun j => by
    rcases hP.ln.own.form with ⟨e2, _⟩ | ⟨g2, cs, e2, _, _, h9⟩
    · cases e2
    · injection e2 with e2; injection e2 with e2; subst e2
      exact (show Blk W gR 53 cs from h9).fr j
  have HTR : Hid (∃ cs, Blk W gR 53 cs) := hid (by
    rcases hP.ln.own.form with ⟨e2, _⟩ | ⟨g2, cs, e2, _, _, h9⟩
    · cases e2
    · injection e2 with e2; injection e2 with e2; subst e2; exact ⟨cs, h9⟩)
  have ka1 := ka.below hlow hga
  have kb1 := kb.below hlow hgb
  have hpn' : (pn : Int) < (p : Int) := by omega
  have hpn0 : (0 : Int) ≤ (pn : Int) := by omega
  have hpn3 : (pn : Int) < 100000 := by omega
  have kx := Blk.new W 28 #[.slice X x.length xc]
  have nx := new1 W (.cells #[.slice X x.length xc] 28)
  have HPT := hid (dpoint_ok d hd x hxl hI X xc 1 W.heap.size 0 (W.alloc (.cells #[.slice X x.length xc] 28)) (hx.up nx) (by simp) (kx.cell 0))
  have a0 := ka1.cell 0
  have HT0 := hid (kb1.cell 0)
  clear hP hX hz hgood hzl hx kx ka kb hI hxl
  go_enter Tryz.func36, Tryz.ntmps36
  go_wp2_with fail
  (with_reducible refine HPT.out.mono ?_)
  clear HPT a0
  rintro e2 w2 ⟨A2, c2, rfl, own2, hb2⟩
  have hon : (onePt d x).n = (d : Int) := rfl
  have hoe : (onePt d x).e = false := rfl
  rw [hon, hoe]
  clear hon hoe
  have hb02 := bup nx hb2
  have own3 := own2.less nx.size
  have HQM : Hid ((onePt d x).m.length = 2 * d * (2 * d)) := hid (by unfold onePt ptC; simp)
  generalize (onePt d x).m = q at *
  have n8 := new1 w2 (.cells #[.int .i64 (d : Int), .bool false, .slice A2 q.length c2] 53)
  have p8 := Blk.new w2 53 #[.int .i64 (d : Int), .bool false, .slice A2 q.length c2]
  have own4 := own3.below n8
  have hg8 : W.heap.size ≤ w2.heap.size := hb02.size
  have hb08 := bup hb02 n8
  clear own2 own3 hb2 n8 nx hb02
  go_upto_region 1 with fail
  generalize w2.alloc (.cells #[.int .i64 (d : Int), .bool false, .slice A2 q.length c2] 53) = w3 at *
  generalize w2.heap.size = g8 at *
  have ka3 := ka1.later hb08
  have kb3 := kb1.later hb08
  have t0 := kb3.cell 0
  have q0 := (hb08.cell (p := ⟨gR, pn * 3, none⟩) hBR).trans r0
  have q1 := (hb08.cell (p := ⟨gR, pn * 3 + 1, none⟩) hBR).trans r1
  have q2 := (hb08.cell (p := ⟨gR, pn * 3 + 2, none⟩) hBR).trans r2
  have hfR : ∀ j, w3.frozen? ⟨gR, j, none⟩ = false := fun j => by
    rw [World.frozen?_of_block (w := W) (a := ⟨gR, j, none⟩) (hb08.block gR hBR)]
    exact HFR.out j
  clear r0 r1 r2 ka1 kb1
  cases ze
  case true =>
    have hmn : mo.n = (d : Int) ∧ mo.e = false ∧ mo.m = q := by rw [HMO.out, if_pos rfl]; exact ⟨rfl, rfl, rfl⟩
    have hX3 := HXX.out.step1 (q := mo) hpz hb08 (by rw [hmn.2.2]; exact own4) hW HGO.out
    unfold putW at hX3
    dsimp only at hX3
    rw [hmn.1, hmn.2.1, hmn.2.2] at hX3
    have HX3 := hid hX3
    have HWN := hid (show Win base b0 b1 W _ from ⟨((hb08.mono hW).setCell (p := ⟨gR, pn * 3, none⟩) hgRb _).setCell (p := ⟨gR, pn * 3 + 1, none⟩) hgRb _ |>.setCell (p := ⟨gR, pn * 3 + 2, none⟩) hgRb _, hX3.kept⟩)
    obtain ⟨x0, x1, x2, fx⟩ := octbox p8
    clear hX3 own4 hb08 HXX ka3 kb3 p8 hmn
    go_wp2
    refine bodyPost_ret (v := .tuple #[]) (by simp [results, Tryz.results36, go_sem]) rfl ?_
    exact ⟨rfl, ⟨_, by rw [List.length_set]; exact HZL.out, HX3.out.toP⟩, HWN.out⟩
  case false =>
    have hml := HGD.out.2.1 rfl
    have HMO2 : Hid (mo = ⟨zn, false, ptG 1 (mxF zm q) zm zm.length⟩) := hid (by rw [HMO.out, if_neg (by decide), maxM_ptG])
    obtain ⟨L, hL⟩ : ∃ L, zm.length = L := ⟨_, rfl⟩
    have HL := hid hL
    have hqL : q.length = L := by rw [HQM.out, ← hL, ← hml]
    have HQL := hid hqL
    have ownP : Own w3 base zA zC (ptG 1 (mxF zm q) zm 0) := by rw [ptG_zero]; exact hown.below hb08
    have hG : W.grownBy w3 (blkOf zA) := grown_of_below hb08 _
    have HAL : Hid (∀ g, zA = some ⟨g, 0, none⟩ → g < W.heap.size ∧ g ≠ gR ∧ g ≠ gb ∧ base ≤ g) := hid fun g e => by
      rw [e] at hown
      rcases hown.form with ⟨h1, _⟩ | ⟨g', h1, h5, h2⟩
      · cases h1
      · injection h1 with h1; injection h1 with h1; subst h1
        obtain ⟨cs, hcs⟩ := HTR.out
        exact ⟨h2, own_blk hown hcs (by decide), by omega, h5⟩
    have HLC : Hid (L ≤ 16384) := hid (by have := HGD.out.2.2; rw [← hL]; exact this)
    rw [hL] at q2 HMO2 HR2
    rw [hqL] at p8
    clear hml hL hqL HMO hb08
    have hLb : (L : Int) ≤ 16384 := by have := HLC.out; omega
    obtain ⟨x0, x1, x2, fx⟩ := octbox p8
    go_wp2
    clear x0 x1 x2 fx q0 q1 q2 hfR t0
    go_loopw [31] (fun t wr => ∃ k : Nat, k ≤ L ∧ t = .int .i64 (k : Int) ∧ Own wr base zA zC (ptG 1 (mxF zm q) zm k) ∧ Own wr W.heap.size A2 c2 q ∧ Blk wr g8 53 #[.int .i64 (d : Int), .bool false, .slice A2 L c2] ∧ W.grownBy wr (blkOf zA)) (fun t _ => L - (Go.RowKit.intOf t).toNat)
    case atStart => exact ⟨0, by omega, rfl, ownP, own4, p8, hG⟩
    case round =>
      clear ownP own4 p8 hG ka3 kb3
      obtain ⟨k, hk, rfl, ownP, own4, p8, hG⟩ := hrel
      have HRW2 : Hid (∀ b i v, b < W.heap.size → (b = gR ∨ b = gb) → W.cell? ⟨b, i, none⟩ = some v → wr.cell? ⟨b, i, none⟩ = some v) := hid fun b i v h1 h2 h3 =>
        (World.cell?_of_block (w := W) (w' := wr) (a := ⟨b, i, none⟩) (hG.block b h1 (fun e => by
          rcases hown.form with ⟨e1, _⟩ | ⟨g', e1, _⟩
          · rw [e1] at e; cases e
          · rw [e1] at e
            have e : some b = some g' := e
            injection e with e
            subst e
            obtain ⟨-, h6, h7, -⟩ := HAL.out _ e1
            rcases h2 with rfl | rfl
            · exact h6 rfl
            · exact h7 rfl))).trans h3
      have q2 := HRW2.out gR _ _ hBR (.inl rfl) HR2.out
      have t0 := HRW2.out gb _ _ (Nat.lt_of_lt_of_le hgb hW) (.inr rfl) HT0.out
      obtain ⟨x0, x1, x2, fx⟩ := octbox p8
      by_cases hlt : k < L
      · have hlt' : (k : Int) < (L : Int) := by omega
        have hPl : (ptG 1 (mxF zm q) zm k).length = L := by rw [ptG_len]; exact HL.out
        have hAt : gI (ptG 1 (mxF zm q) zm k) (k : Int) = gI zm (k : Int) := ptG_at (by rw [HL.out]; exact hlt)
        have HSET : Hid (ptG 1 (mxF zm q) zm (k + 1) = (ptG 1 (mxF zm q) zm k).set k (max (gI zm (k : Int)) (gI q (k : Int)))) := hid (by
          rw [ptG_set, Nat.div_one]; rfl)
        obtain ⟨gA, rfl, hgA, hgB⟩ : ∃ g, zA = some ⟨g, 0, none⟩ ∧ base ≤ g ∧ g < wr.heap.size := by
          rcases ownP.form with ⟨_, h, _⟩ | h
          · exfalso; rw [h] at hPl; simp at hPl; omega
          · exact h
        obtain ⟨g2, rfl, hg2, hg2B⟩ : ∃ g, A2 = some ⟨g, 0, none⟩ ∧ W.heap.size ≤ g ∧ g < wr.heap.size := by
          rcases own4.form with ⟨_, h, _⟩ | h
          · exfalso; have := HQL.out; rw [h] at this; simp at this; omega
          · exact h
        obtain ⟨hA1, hA2, hA3, hA4⟩ := HAL.out gA rfl
        obtain ⟨_, _, eA, _, cA⟩ := ownP.rd k (by omega)
        injection eA with eA; injection eA with eA1 eA2; subst eA1; subst eA2
        obtain ⟨_, _, eB, _, cB⟩ := own4.rd k (by rw [HQL.out]; exact hlt)
        injection eB with eB; injection eB with eB1 eB2; subst eB1; subst eB2
        rw [Nat.zero_add, hAt] at cA
        rw [Nat.zero_add] at cB
        obtain ⟨a, hav⟩ : ∃ a, gI zm (k : Int) = a := ⟨_, rfl⟩
        obtain ⟨b, hbv⟩ : ∃ b, gI q (k : Int) = b := ⟨_, rfl⟩
        rw [hav] at cA
        rw [hbv] at cB
        rw [hav, hbv] at HSET
        clear hav hbv hAt
        have HPL := hid hPl
        have HJ := hid hlt
        go_upto_region 6 with fail
        have l0 := later t0
        have l1 := later q2
        have l2 := later cA
        have ne8 := own_blk' ownP p8 (by decide) gA rfl
        have ne2 : gA ≠ g2 := by omega
        have HSV := hid (And.intro ownP (And.intro own4 (And.intro p8 hG)))
        clear x0 x1 x2 fx cA cB ownP own4 p8 hG hPl hk t0 q2
        refine wp_region_flow 16 (fun W => Below wr.heap.size wr W) (by kernel_rfl) (by kernel_rfl) (Below.refl _ _).drew ?_
        (repeat (first | (refine Flow.skip (by rfl) ?_; simp only [Act.put, List.setIfInBounds_toArray, List.set_cons_zero, List.set_cons_succ]) | (refine' Flow.take _ (by rfl) (fun W hW R hR => ?_) ?_; rotate_left; (go_simp; (try go_bits); with_reducible exact hR); simp only [Act.put, List.setIfInBounds_toArray, List.set_cons_zero, List.set_cons_succ])))
        intro w9 hb9
        clear l0 l1 l2
        obtain ⟨ownP, own4, p8, hG⟩ := HSV.out
        have hfr := (ownP.below hb9).frozen k
        obtain ⟨_, _, eA, _, cA⟩ := (ownP.below hb9).rd k (by rw [HPL.out]; exact hlt)
        injection eA with eA; injection eA with eA1 eA2; subst eA1; subst eA2
        rw [Nat.zero_add] at cA
        obtain ⟨v, hv⟩ : ∃ v, max a b = v := ⟨_, rfl⟩
        have HV : Hid ((if a < b then b else a) = v) := hid (by rw [← hv]; split <;> omega)
        rw [hv] at HSET
        have HR := hid (And.intro ((ownP.below hb9).store k v) (And.intro ((own4.below hb9).far1 (g := gA) (i := k) (v := .int .i64 v) (fun kk e => by injection e with e; injection e with e; omega)) (And.intro ((p8.later hb9).far (p := ⟨gA, k, none⟩) ne8 (.int .i64 v)) ((hG.trans (grown_of_below hb9 _)).trans (grown_setCell w9 ⟨gA, k, none⟩ (.int .i64 v))))))
        clear ownP own4 p8 hG hb9 HSV hv
        rw [HV.out]
        go_wp2
        go_roundw
        case rel =>
          obtain ⟨h1, h2, h3, h4⟩ := HR.out
          exact ⟨k + 1, by have := HJ.out; omega, by go_num, by rw [HSET.out]; exact h1, h2, h3, h4⟩
        case measure => simp [Go.RowKit.intOf]; omega
      · obtain rfl : k = L := by omega
        have hmn : mo.n = zn ∧ mo.e = false ∧ mo.m = ptG 1 (mxF zm q) zm k := by rw [HMO2.out]; exact ⟨rfl, rfl, rfl⟩
        have hX3 := HXX.out.grow (q := mo) (W2 := wr) hpz (by rw [HZZ.out]; exact hG) (by rw [HZZ.out, hmn.2.2]; exact ownP) (by rw [HZZ.out]; exact hmn.1) (by rw [HZZ.out]; exact hmn.2.1) (by rw [HZZ.out, hmn.2.2, ptG_len]) HGO.out
        have HX3 := hid hX3
        have HWN : Hid (Win base b0 b1 W wr) := hid ⟨below_grown hG (fun kk hkk => by
          rcases hown.form with ⟨e1, _⟩ | ⟨g', e1, h5, _⟩
          · rw [e1] at hkk; cases hkk
          · rw [e1] at hkk
            have hkk : some g' = some kk := hkk
            injection hkk with hkk; omega) hW, hX3.kept⟩
        clear hX3 hmn ownP own4 p8 hG hlt hk t0 q2
        go_wp2
        go_end0
        exact ⟨rfl, ⟨_, by rw [List.length_set]; exact HZL.out, HX3.out.toP⟩, HWN.out⟩
end
end Go.Proofs.YtkncebcekhfnfaaGreat
