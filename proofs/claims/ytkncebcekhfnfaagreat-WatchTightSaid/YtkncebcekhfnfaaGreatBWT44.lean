/-
  watch.Learn tells what learnO says.
-/
import Derived.Test.YtkncebcekhfnfaaGreatBWT43
import Derived.Test.YtkncebcekhfnfaaGreatBWT09
namespace Go.Proofs.YtkncebcekhfnfaaGreat
open Go.RowKit
attribute [local go_sem ↓] Go.wp_at_zero Go.wp_at_succ

theorem learnf_enters (args : Array Value) (X : World) : (callFunc 36 args).run Tryz.prog X = .ok (.enter 36 args) X := by
  go_simp
/-- The slice's own variable stays where a row of octagons grows. -/
theorem Blk.grow9 {w w' : World} {g base c : Nat} {A : Option Addr} {zs : List Z} {cs : Array Value} (h : Blk w g 27 cs) (ho : OwnZ w base A c zs) (hg : w.grownBy w' (Value.slice A zs.length c).ownBlock) : Blk w' g 27 cs := by
  refine (hg.block g h.lt fun e => ?_).trans h
  rcases ho.form with ⟨rfl, _⟩ | ⟨g', cs', rfl, _, _, h3⟩
  · simp [Value.ownBlock] at e
  · simp [Value.ownBlock] at e
    subst e
    have := h.symm.trans h3
    injection this with this; injection this with this this2; cases this2
set_option maxRecDepth 8000 in
set_option maxHeartbeats 16000000 in
theorem wlearn_ok (g : Gr) (V D E : Option Addr) (cv cd ce : Nat) (ss : List (List Int)) (S : Option Addr) (sc : Nat) (k : Int) (w : World) (hD : RdD w w.heap.size D g.sz) (hE : RdE w w.heap.size E g.es) (hS : RdRC w w.heap.size S ss)
    (lv : g.nv ≤ 17592186044416) (ls : g.sz.length ≤ 17592186044416) (le : g.es.length ≤ 17592186044416) (hi : ∀ e ∈ g.es, I64 e.an ∧ I64 e.bn) (hI : ∀ s ∈ ss, I64s s) (hlm : ss.length ≤ 17592186044416) (hsl : ∀ s ∈ ss, s.length ≤ 17592186044416) :
    Calls Tryz.prog 15 #[grV g V D E cv cd ce, .slice S ss.length sc, .int .i64 k] w (LearnRes g ss k w) := by
  have HCH := hid (fun W (h1 : RdD W W.heap.size D g.sz) (h2 : RdE W W.heap.size E g.es) => (show Calls Tryz.prog 25 #[.agg #[.slice V g.nv cv, .int .i64 g.tm, .slice D g.sz.length cd, .int .i64 g.pts, .int .i64 g.ex, .slice E g.es.length ce]] W _ from gcheck_any g V D E cv cd ce W h1 h2 lv ls le))
  have n0 := new1 w (.cells #[.slice V g.nv cv, .int .i64 g.tm, .slice D g.sz.length cd, .int .i64 g.pts, .int .i64 g.ex, .slice E g.es.length ce] 26)
  have k0 := Blk.new w 26 #[.slice V g.nv cv, .int .i64 g.tm, .slice D g.sz.length cd, .int .i64 g.pts, .int .i64 g.ex, .slice E g.es.length ce]
  have HE0 := hid hE
  have HD0 := hid hD
  have HS0 := hid hS
  have HI := hid hi
  have HII := hid hI
  have HSL := hid hsl
  have hb0 := n0
  clear n0 hE hD hS hi hI hsl
  unfold grV
  go_enter Tryz.func15, Tryz.ntmps15
  go_upto_region 1 with fail
  generalize w.alloc (.cells #[.slice V g.nv cv, .int .i64 g.tm, .slice D g.sz.length cd, .int .i64 g.pts, .int .i64 g.ex, .slice E g.es.length ce] 26) = w1 at *
  obtain ⟨f0, f1, f2, f3, f4, f5, ff⟩ := blk6 k0
  go_wp2_with fail
  clear f0 f1 f2 f3 f4 f5 ff
  (with_reducible refine (HCH.out w1 (HD0.out.up hb0) (HE0.out.up hb0)).mono ?_)
  clear HCH
  rintro e2 w2 ⟨rfl, hb2⟩
  replace k0 := k0.later hb2
  replace hb0 := bup hb0 hb2
  clear hb2
  obtain ⟨ck, HCK⟩ : ∃ ck, Hid (chk g = ck) := ⟨_, hid rfl⟩
  rw [HCK.out]
  by_cases hck : ck = 0
  case neg =>
    have HR : Hid (learnE g ss k = ck) := hid (by unfold learnE; rw [if_pos (by rw [HCK.out]; exact hck), HCK.out])
    have hne : (ck != 0) = true := by rw [bne_iff_ne]; exact hck
    have HN := hid hck
    clear hck
    go_wp2
    refine bodyPost_ret (v := .tuple #[.slice none 0 0, .int .i64 ck]) (by simp [results, Tryz.results15, go_sem]) rfl ?_
    exact ⟨none, 0, [], by rw [HR.out]; rfl, by rw [HR.out, if_neg HN.out]; rfl, RowZ.nil _, by simp, hb0⟩
  subst hck
  obtain ⟨ct0, ct1, ca, ces, csz, cz, cr⟩ := chk_parts HCK.out
  obtain ⟨p1, p2, -, -⟩ := chk_in HCK.out
  obtain ⟨d, hd⟩ := Int.eq_ofNat_of_zero_le (show 0 ≤ g.all by have : g.all = g.nv + g.tm := rfl; omega)
  obtain ⟨N, hN⟩ := Int.eq_ofNat_of_zero_le (show 0 ≤ g.pts by omega)
  have hd64 : d ≤ 64 := by omega
  have hN4 : N ≤ 4096 := by omega
  have hN1 : 0 < N := by omega
  have HDA := hid hd
  have HN := hid hN
  have hnt : (g.nv : Int) + g.tm = (d : Int) := hd
  have hs0 : 0 ≤ (g.nv : Int) + g.tm := by omega
  have hs1 : (g.nv : Int) + g.tm ≤ 64 := by omega
  clear hd hN
  have n9 := new1 w2 (.cells #[.int .i64 (d : Int)] 3)
  have k9 := Blk.new w2 3 #[.int .i64 (d : Int)]
  obtain ⟨f0, f1, f2, f3, f4, f5, ff⟩ := blk6 k0
  go_upto_region 5 with fail
  clear f0 f1 f2 f3 f4 f5 ff hnt hs0 hs1 cz cr ca ct0 ct1 p1 p2
  have hnr : w2.alloc (.cells #[.int .i64 ((g.nv : Int) + g.tm)] 3) = w2.alloc (.cells #[.int .i64 (d : Int)] 3) := by rw [show (g.nv : Int) + g.tm = (d : Int) from HDA.out]
  try rw [hnr]
  clear hnr
  have HG9 := hid k0.lt
  replace k0 := k0.later n9
  replace hb0 := bup hb0 n9
  clear n9
  generalize hw3 : w2.alloc (.cells #[.int .i64 (d : Int)] 3) = w3 at *
  clear hw3
  generalize w2.heap.size = g9 at *
  have hq1 : 4 * (d : Int) * (d : Int) ≤ 16384 := by
    have : d * d ≤ 64 * 64 := Nat.mul_le_mul hd64 hd64
    have e : 4 * (d : Int) * (d : Int) = 4 * ((d * d : Nat) : Int) := by rw [Int.natCast_mul, Int.mul_assoc]
    omega
  have hq0 : 0 ≤ 4 * (d : Int) * (d : Int) := by
    have e : 4 * (d : Int) * (d : Int) = 4 * ((d * d : Nat) : Int) := by rw [Int.natCast_mul, Int.mul_assoc]
    omega
  have hq2 : 4 * (d : Int) * (d : Int) * (N : Int) ≤ 16384 * 4096 := Int.mul_le_mul hq1 (by omega) (by omega) (by omega)
  have hq3 : 0 ≤ 4 * (d : Int) * (d : Int) * (N : Int) := Int.mul_nonneg hq0 (by omega)
  have HLE : Hid (learnE g ss k = if 64 < ss.length ∨ 4194304 < 4 * (d : Int) * (d : Int) * (N : Int) then 270 else fuelsE k ss) := hid (by unfold learnE; rw [if_neg (by rw [HCK.out]; decide), HDA.out, HN.out])
  have x3 : w3.cell? ⟨w.heap.size, 3, none⟩ = some (.int .i64 (N : Int)) := (k0.cell 3).trans (by show some (Value.int .i64 g.pts) = _; rw [HN.out])
  have x9 : w3.cell? ⟨g9, 0, none⟩ = some (.int .i64 (d : Int)) := k9.cell 0
  obtain ⟨q3, hq⟩ : ∃ q3, 4 * (d : Int) * (d : Int) * (N : Int) = q3 := ⟨_, rfl⟩
  rw [hq] at hq2 hq3 HLE
  by_cases hmany : 64 < ss.length ∨ 4194304 < q3
  case pos =>
    have HR : Hid (learnE g ss k = 270) := hid (by rw [HLE.out, if_pos hmany])
    have ht : decide ((64 : Int) < (ss.length : Int)) = true ∨ (decide ((64 : Int) < (ss.length : Int)) = false ∧ decide (4194304 < q3) = true) := by
      by_cases q : 64 < ss.length
      · exact .inl (decide_eq_true (by omega))
      · rcases hmany with h | h
        · exact absurd h q
        · exact .inr ⟨decide_eq_false (by omega), decide_eq_true h⟩
    have HBE : Hid (∀ W, Below w.heap.size w W → LearnRes g ss k w (.returned (.tuple #[.slice none 0 0, .int .i64 270])) W) := hid fun W hb => ⟨none, 0, [], by rw [HR.out]; rfl, by rw [HR.out, if_neg (by decide)]; rfl, RowZ.nil _, by simp, hb⟩
    clear hmany HLE k0 k9
    rcases ht with ht | ⟨ht, ht2⟩
    all_goals
      go_wp2
      refine bodyPost_ret (v := .tuple #[.slice none 0 0, .int .i64 270]) (by simp [results, Tryz.results15, go_sem]) rfl ?_
      exact HBE.out _ hb0
  have HLF : Hid (learnE g ss k = fuelsE k ss) := hid (by rw [HLE.out, if_neg hmany])
  have t64 : decide ((64 : Int) < (ss.length : Int)) = false := decide_eq_false (by omega)
  have tq3 : decide (4194304 < q3) = false := decide_eq_false (by omega)
  clear hmany HLE
  have n10 := new1 w3 (.cells #[.slice none 0 0] 27)
  have k10 := Blk.new w3 27 #[.slice none 0 0]
  have HB3 := hid hb0
  have hg93 := k9.lt
  have hg03 := k0.lt
  have x3' := (n10.cell (p := ⟨w.heap.size, 3, none⟩) hg03).trans x3
  have KB := hid k0
  have K9 := hid k9
  go_upto_region 8 with fail
  clear t64 tq3 x3 x9 hq hq0 hq1 hq2 hq3 k0 k9 hb0
  generalize hw4 : w3.alloc (.cells #[.slice none 0 0] 27) = w4 at *
  clear hw4
  have HN10 := hid n10
  clear n10
  obtain ⟨g10, hg10⟩ : ∃ g10, w3.heap.size = g10 := ⟨_, rfl⟩
  rw [hg10] at hg93 hg03 k10 ⊢
  have HG10 := hid hg10
  have hb34 : Below g10 w3 w4 := by rw [← hg10]; exact HN10.out
  clear hg10
  go_wp2
  clear x3'
  go_loopw [42] (fun t wr => ∃ (p : Nat) (A : Option Addr) (c : Nat) (zs : List Z), p ≤ N ∧ t = .int .i64 (p : Int) ∧ zs.length = p ∧ Blk wr g10 27 #[.slice A zs.length c] ∧ LnM wr (g10 + 1) d A c zs (List.replicate p ⟨(d : Int), true, []⟩) ∧ Below g10 w3 wr) (fun t _ => N - (Go.RowKit.intOf t).toNat)
  case atStart => exact ⟨0, none, 0, [], by omega, rfl, rfl, k10, ⟨OwnZ.nil _ _, ApartZ.nil, rfl, fun z hz => absurd hz (by simp)⟩, hb34⟩
  case round =>
    clear k10 hb34
    obtain ⟨p, A, c, zs, hp, rfl, hzl, k10, hln, hb⟩ := hrel
    by_cases hlt : p < N
    · have hlt' : (p : Int) < (N : Int) := by omega
      have x9 : wr.cell? ⟨g9, 0, none⟩ = some (.int .i64 (d : Int)) := (K9.out.below hb hg93).cell 0
      have HZL := hid hzl
      have HLN := hid hln
      have HB := hid hb
      have K10 := hid k10
      have HLT := hid hlt
      clear hzl hln hb
      go_wp2_with fail
      (with_reducible refine (dempty_any (d : Int) wr (by omega) (by omega)).mono ?_)
      clear x9
      rintro e5 w5 ⟨rfl, hb5⟩
      have n6 := new1 w5 (.cells #[.int .i64 (d : Int), .bool true, .slice none 0 0] 53)
      have k6 := Blk.new w5 53 #[.int .i64 (d : Int), .bool true, .slice none 0 0]
      have hln6 := (HLN.out.below hb5).below n6
      have k106 := (K10.out.later hb5).later n6
      have hg3 := HG10.out
      have hsr : g10 ≤ wr.heap.size := by rw [← hg3]; exact HB.out.size
      have hb6 := (HB.out.trans (hb5.mono hsr)).trans (n6.mono (Nat.le_trans hsr hb5.size))
      clear hb5 n6 k10
      go_upto_region 11 with fail
      generalize hw6 : w5.alloc (.cells #[.int .i64 (d : Int), .bool true, .slice none 0 0] 53) = w6 at *
      clear hw6
      generalize w5.heap.size = g11 at *
      have n8 := new1 w6 (.cells #[.int .i64 (d : Int), .bool true, .slice none 0 0] 53)
      have k8 := Blk.new w6 53 #[.int .i64 (d : Int), .bool true, .slice none 0 0]
      have hln8 := hln6.below n8
      have own8 := hln8.own
      have k108 := k106.later n8
      have hbx := hb6.trans (n8.mono (by rw [← hg3]; exact hb6.size))
      have hsx : g10 + 1 ≤ (w6.alloc (.cells #[.int .i64 (d : Int), .bool true, .slice none 0 0] 53)).heap.size := k108.lt
      have hyk : zs.length + 1 ≤ 1000000 := by have := HZL.out; omega
      obtain ⟨x0, x1, x2, fx⟩ := octbox k6
      have t0 := k106.cell 0
      have ft := k106.fr 0
      clear hln6 n8 k6 hb6
      go_wp2_with (at_builtin; go_loud (refine wpList_append_oct _ _ rfl rfl (g10 + 1) A c zs (⟨(d : Int), true, []⟩, none, 0) rfl own8 w6.heap.size rfl k8 (own_nil _ _) (by simp) hyk hsx ?_); intro A2 cap2 w9 own9 hg9; have k109 := k108.grow9 own8 hg9; have t9 := k109.cell 0; have f9 := k109.fr 0)
      have hb9 : Below g10 w3 w9 := hbx.trans (below_grown hg9 (fun kk hkk => by
        rcases own8.form with ⟨rfl, _⟩ | ⟨g', cs, rfl, h1, h2, h3⟩
        · simp [Value.ownBlock] at hkk
        · simp [Value.ownBlock] at hkk; subst hkk; omega) (by omega))
      go_roundw
      case rel =>
        refine ⟨p + 1, A2, cap2, zs ++ [(⟨(d : Int), true, []⟩, none, 0)], by have := HLT.out; omega, by go_num, by rw [List.length_append, List.length_singleton, HZL.out], by rw [List.length_append, List.length_singleton]; exact k109.set_ 0 _, ⟨own9.setFar (p := ⟨g10, 0, none⟩) (by show g10 < g10 + 1; omega) _, HLN.out.ap.snocNone, ?_, fun z hz => ?_⟩, hb9.setCell (p := ⟨g10, 0, none⟩) (Nat.le_refl _) _⟩
        · rw [List.map_append, HLN.out.eq, List.replicate_succ']; rfl
        · rcases List.mem_append.1 hz with hz | hz
          · exact HLN.out.ok z hz
          · rw [List.mem_singleton] at hz; subst hz
            exact And.intro rfl (And.intro (fun h => Bool.noConfusion h) (Nat.zero_le _))
      case measure => have := HLT.out; simp [Go.RowKit.intOf]; omega
    · obtain rfl : p = N := by omega
      have hz0 : List.replicate p (⟨(d : Int), true, []⟩ : O) = lnZero g := by
        unfold lnZero
        rw [HDA.out, show g.pts.toNat = p by have := HN.out; omega]
      rw [hz0] at hln
      rw [hzl] at k10
      have HLS : Hid (learnO g k ss = (ss.take ss.length).foldl (lnOne g k) (lnZero g)) := hid (by rw [List.take_length]; rfl)
      obtain ⟨gR, rfl, hgR1, hgR2⟩ : ∃ gR, A = some ⟨gR, 0, none⟩ ∧ g10 + 1 ≤ gR ∧ gR < wr.heap.size := by
        rcases hln.own.form with ⟨_, e, _⟩ | ⟨gR, _, e, h1, h2, _⟩
        · rw [e] at hzl; simp at hzl; omega
        · exact ⟨gR, e, h1, h2⟩
      have HZL := hid hzl
      clear hz0 hlt hp hzl
      go_wp2
      go_loopw [56] (fun t wr => ∃ (i : Nat) (zs : List Z), i ≤ ss.length ∧ t = .int .i64 (i : Int) ∧ fuelsE k (ss.take i) = 0 ∧ zs.length = p ∧ Blk wr g10 27 #[.slice (some ⟨gR, 0, none⟩) p c] ∧ LnM wr (g10 + 1) d (some ⟨gR, 0, none⟩) c zs ((ss.take i).foldl (lnOne g k) (lnZero g)) ∧ Below g10 w3 wr) (fun t _ => ss.length - (Go.RowKit.intOf t).toNat)
      case atStart => exact ⟨0, zs, by omega, rfl, rfl, HZL.out, k10, hln, hb⟩
      case round =>
        clear hln hb k10 hgR2
        obtain ⟨i, zs, hil, rfl, hfz, hzp, k10, hln, hb⟩ := hrel
        by_cases hlt : i < ss.length
        · have hlt' : (i : Int) < (ss.length : Int) := by omega
          have HNX : Hid ((ss.take (i + 1)).foldl (lnOne g k) (lnZero g) = lnOne g k ((ss.take i).foldl (lnOne g k) (lnZero g)) ss[i]) := hid (by rw [List.take_succ_eq_append_getElem hlt, List.foldl_append]; rfl)
          have HFT := hid (fuels_take k ss i hlt hfz)
          have hbw : Below w.heap.size w wr := HB3.out.trans (hb.mono (by omega))
          obtain ⟨b, off, Ak, ck, rfl, hB, hc, hrd, hcap⟩ := (HS0.out.below hbw) i hlt
          have hsI := HII.out _ (List.getElem_mem hlt)
          have hsL := HSL.out _ (List.getElem_mem hlt)
          obtain ⟨s, hs⟩ : ∃ s, ss[i] = s := ⟨_, rfl⟩
          rw [hs] at hc hrd hcap hsI hsL HNX HFT
          obtain ⟨os, hos⟩ : ∃ os, (ss.take i).foldl (lnOne g k) (lnZero g) = os := ⟨_, rfl⟩
          rw [hos] at hln HNX
          have kq := KB.out.below hb hg03
          have k9q := K9.out.below hb hg93
          have hgRw : gR < wr.heap.size := by
            rcases hln.own.form with ⟨e, _⟩ | ⟨g', _, e, _, h2, _⟩
            · cases e
            · injection e with e; injection e with e; omega
          have hbase : g10 + 1 ≤ wr.heap.size := by omega
          have hbc : w.heap.size ≤ g10 + 1 := by omega
          have HRS := hid (hb)
          have HV := hid (visits_ok g V D E cv cd ce s Ak ck k 36 g9 g10 (g10 + 1)
            (fun b1 n W => ∃ zs, zs.length = p ∧ LnP wr.heap.size b1 W (g10 + 1) d (some ⟨gR, 0, none⟩) c zs (lnAt g (mZero g s) os n) ∧ Below (g10 + 1) wr W) wr
            (((HD0.out.below hbw)).more hbc) ((HE0.out.below hbw).more hbc) (hrd.more hbc) hbase hcap HCK.out HI.out hsI hsL (fun args X _ => learnf_enters args X)
            (fun kn hk hfu n A' c' b1 W hn hM hb' hb1 hI hrdx hxb => by
              obtain ⟨zs', hzl', hP, hlow'⟩ := hI
              have h9 := learnf_ok g9 g10 gR wr.heap.size b1 (g10 + 1) d p c n (mAt g (mZero g s) n).p c' hd64 zs' _ (mAt g (mZero g s) n).xs A' wr W hP hzl' (by have := hM.p; have := HN.out; omega) hN4 hb1 (by have := hM.xl; have := HDA.out; omega) hM.xi hrdx k9q k10 (by omega) (by omega) hbase hlow'
              refine h9.mono fun e w' hh => ?_
              obtain ⟨h1, ⟨zs2, h2, h3⟩, h4⟩ := hh
              refine ⟨h1, ⟨zs2, h2, ?_, hlow'.trans h4.low⟩, h4⟩
              show LnP _ _ _ _ _ _ _ _ ((lnAt g (mZero g s) os n).set (mAt g (mZero g s) n).p (moreO (octAt (lnAt g (mZero g s) os n) (mAt g (mZero g s) n).p) g.all.toNat (mAt g (mZero g s) n).xs))
              rw [show g.all.toNat = d by have := HDA.out; omega]
              exact h3)
            (fun b1 _ => ⟨zs, hzp, ⟨hln, fun z hz g' hg' => by
              left
              rcases (hln.own.own z hz).form with ⟨e1, _⟩ | ⟨g1, e1, _, h6⟩
              · rw [e1] at hg'; cases hg'
              · rw [e1] at hg'; injection hg' with hg'; injection hg' with hg'; omega, fun g' hg' => by injection hg' with hg'; injection hg' with hg'; omega⟩, Below.refl _ _⟩)
            (fun b1 n W W' hI ho => by
              obtain ⟨zs', h1, h2, h3⟩ := hI
              exact ⟨zs', h1, h2.off ho, h3.trans (ho.low.mono hbase)⟩))
          unfold grV at HV
          obtain ⟨f0, f1, f2, f3, f4, f5, ff⟩ := blk6 kq
          have HK10 := hid k10
          have HZP := hid hzp
          have HLT := hid hlt
          clear hln hrd hcap hsI hsL hb hbw kq k9q hzp hos hs k10
          go_wp2_with fail
          clear f0 f1 f2 f3 f4 f5 ff hc
          (with_reducible refine HV.out.mono ?_)
          clear HV
          rintro e6 w6 ⟨rfl, hok, hbad, hb6⟩
          have hb36 : Below g10 w3 w6 := HRS.out.trans (hb6.mono (by omega))
          have HB36 := hid hb36
          by_cases hfu : fuelE s.length k = 0
          case neg =>
            have HN := hid hfu
            have hne : (fuelE s.length k != 0) = true := by rw [bne_iff_ne]; exact hfu
            have HR : Hid (learnE g ss k = fuelE s.length k) := hid (by
              rw [HLF.out, ← HFT.out]
              exact fuels_stop k ss (i + 1) (by rw [HFT.out]; exact hfu))
            generalize fuelE s.length k = fe at *
            clear hfu hok hbad hb6 hb36
            go_wp2
            refine bodyPost_ret (v := .tuple #[.slice none 0 0, .int .i64 fe]) (by simp [results, Tryz.results15, go_sem]) rfl ?_
            exact ⟨none, 0, [], by rw [HR.out]; rfl, by rw [HR.out, if_neg HN.out]; rfl, RowZ.nil _, by simp, HB3.out.trans (HB36.out.mono (by omega))⟩
          obtain ⟨b1, zs2, h1, h2, h3⟩ := hok hfu
          have HP := hid h2
          have HZ2 := hid h1
          have K10 := hid (HK10.out.below h3 (Nat.lt_succ_self g10))
          have HFZ : Hid (fuelsE k (ss.take (i + 1)) = 0) := hid (HFT.out.trans hfu)
          rw [hfu]
          clear hok hbad hb6 hb36 h1 h2 h3 hfu
          go_wp2
          go_roundw
          case rel => exact ⟨i + 1, zs2, by have := HLT.out; omega, by go_num, HFZ.out, HZ2.out, K10.out, by rw [HNX.out]; exact HP.out.ln, HB36.out⟩
          case measure => have := HLT.out; simp [Go.RowKit.intOf]; omega
        · obtain rfl : i = ss.length := by omega
          rw [← HLS.out] at hln
          rw [List.take_length] at hfz
          have HR : Hid (learnE g ss k = 0) := hid (HLF.out.trans hfz)
          have HLN := hid hln
          have HB := hid (HB3.out.trans (hb.mono (by omega)))
          have HZP2 := hid hzp
          have t0 := k10.cell 0
          clear hln hb hzp hlt hil hfz k10
          go_wp2
          refine bodyPost_ret (v := .tuple #[.slice (some ⟨gR, 0, none⟩) p c, .int .i64 0]) (by simp [results, Tryz.results15, go_sem]) rfl ?_
          exact ⟨some ⟨gR, 0, none⟩, c, zs, by rw [HR.out, HZP2.out], by rw [HR.out, if_pos rfl]; exact HLN.out.eq, HLN.out.own.rows, by rw [HZP2.out]; exact hN4, HB.out⟩
end Go.Proofs.YtkncebcekhfnfaaGreat
