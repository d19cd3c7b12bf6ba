/-
  gnomonref27.Learn tells what learnO says.
-/
import Derived.Test.YtkncebcekhfnfaaGreatBWL31
namespace Go.Proofs.YtkncebcekhfnfaaGreat
open Go.RowKit
attribute [local go_sem ↓] Go.wp_at_zero Go.wp_at_succ

/-- What 'more' made. -/
def IsMore (B : Nat) (q : O) (v : Value) (_ wb : World) : Prop := ∃ A' c', v = .agg #[.int .i64 q.n, .bool q.e, .slice A' q.m.length c'] ∧ Own wb B A' c' q.m
theorem fact_more {w0 W : World} {B : Nat} {q : O} {v : Value} {lo hi : Nat} (h : Sp.fact w0 (Sp.any (IsMore B q)) v lo hi W) : ∃ A' c', v = .agg #[.int .i64 q.n, .bool q.e, .slice A' q.m.length c'] ∧ Own W B A' c' q.m := by
  obtain ⟨wa, wb, _, _, h3, _, _, A', c', e, own⟩ := h
  exact ⟨A', c', e, own.below h3⟩
theorem comes_atL {g : Gr} {m : Mach} {n : Nat} {zs : List Cm} (h : zs.map cmk = comesW g m n) {i : Nat} (hi : i < zs.length) : zs[i].p = ((mAt g m i).p : Int) ∧ zs[i].s = (i : Int) ∧ zs[i].xs = (mAt g m i).xs := by
  have e : (zs.map cmk)[i]? = (comesW g m n)[i]? := by rw [h]
  have hl : zs.length = n + 1 := by have := congrArg List.length h; rw [comesW_len, List.length_map] at this; exact this
  rw [List.getElem?_map, List.getElem?_eq_getElem hi] at e
  unfold comesW at e
  rw [List.getElem?_map, List.getElem?_range (by omega)] at e
  simp [cmk] at e
  exact e
set_option maxRecDepth 8000 in
set_option maxHeartbeats 16000000 in
theorem rlearn_ok (g : Gr) (V D E : Option Addr) (cv cd ce : Nat) (ss : List (List Int)) (S : Option Addr) (sc : Nat) (k : Int) (w : World) (hD : RdD w w.heap.size D g.sz) (hE : RdE w w.heap.size E g.es) (hS : RdRC w w.heap.size S ss)
    (lv : g.nv ≤ 17592186044416) (ls : g.sz.length ≤ 17592186044416) (le : g.es.length ≤ 17592186044416) (hi : ∀ e ∈ g.es, I64 e.an ∧ I64 e.bn) (hI : ∀ s ∈ ss, I64s s) (hlm : ss.length ≤ 17592186044416) :
    Calls Tryz.prog 16 #[grV g V D E cv cd ce, .slice S ss.length sc, .int .i64 k] w (LearnRes g ss k w) := by
  have HCH := hid (fun W (h1 : RdD W W.heap.size D g.sz) (h2 : RdE W W.heap.size E g.es) => (show Calls Tryz.prog 7 #[.agg #[.slice V g.nv cv, .int .i64 g.tm, .slice D g.sz.length cd, .int .i64 g.pts, .int .i64 g.ex, .slice E g.es.length ce]] W _ from rgcheck_any g V D E cv cd ce W h1 h2 lv ls le))
  have HAS := hid (fun W => (show Calls Tryz.prog 21 #[.agg #[.slice V g.nv cv, .int .i64 g.tm, .slice D g.sz.length cd, .int .i64 g.pts, .int .i64 g.ex, .slice E g.es.length ce]] W _ from rall_some g V D E cv cd ce W))
  have HAL := hid (fun W (hc : chk g = 0) => (show Calls Tryz.prog 21 #[.agg #[.slice V g.nv cv, .int .i64 g.tm, .slice D g.sz.length cd, .int .i64 g.pts, .int .i64 g.ex, .slice E g.es.length ce]] W _ from all_any g V D E cv cd ce W (chk_parts hc).1 (chk_parts hc).2.1 lv))
  have n0 := new1 w (.cells #[.slice V g.nv cv, .int .i64 g.tm, .slice D g.sz.length cd, .int .i64 g.pts, .int .i64 g.ex, .slice E g.es.length ce] 26)
  have k0 := Blk.new w 26 #[.slice V g.nv cv, .int .i64 g.tm, .slice D g.sz.length cd, .int .i64 g.pts, .int .i64 g.ex, .slice E g.es.length ce]
  have HE0 := hid hE
  have HD0 := hid hD
  have HS0 := hid hS
  have HI := hid hi
  have HII := hid hI
  have hb0 := n0
  clear n0 hE hD hS hi hI
  unfold grV
  go_enter Tryz.func16, Tryz.ntmps16
  go_upto_region 1 with fail
  generalize w.alloc (.cells #[.slice V g.nv cv, .int .i64 g.tm, .slice D g.sz.length cd, .int .i64 g.pts, .int .i64 g.ex, .slice E g.es.length ce] 26) = w1 at *
  obtain ⟨f0, f1, f2, f3, f4, f5, ff⟩ := blk6 k0
  go_wp2_with fail
  clear f0 f1 f2 f3 f4 f5 ff
  (with_reducible refine (HCH.out w1 (HD0.out.up hb0) (HE0.out.up hb0)).mono ?_)
  clear HCH
  rintro e2 w2 ⟨rfl, hb2⟩
  replace k0 := k0.later hb2
  replace hb0 := bup hb0 hb2
  clear hb2
  obtain ⟨ck, HCK⟩ : ∃ ck, Hid (chk g = ck) := ⟨_, hid rfl⟩
  rw [HCK.out]
  by_cases hck : ck = 0
  case neg =>
    have HR : Hid (learnE g ss k = ck) := hid (by unfold learnE; rw [if_pos (by rw [HCK.out]; exact hck), HCK.out])
    have hne : (ck != 0) = true := by rw [bne_iff_ne]; exact hck
    have heq : (ck == 0) = false := by rw [beq_eq_false_iff_ne]; exact hck
    have HN := hid hck
    clear hck
    obtain ⟨f0, f1, f2, f3, f4, f5, ff⟩ := blk6 k0
    go_wp2_with fail
    (with_reducible refine (HAS.out w2).mono ?_)
    clear f0 f1 f2 f3 f4 f5 ff
    rintro e3 w3 ⟨v, rfl, hb3⟩
    replace hb0 := bup hb0 hb3
    clear hb3 k0
    go_wp2
    go_loopw [8, 10] (fun s t wr => s = .int .i64 ck ∧ t = .int .i64 0 ∧ wr = w3) (fun _ _ _ => 0)
    case atStart => exact ⟨rfl, rfl, rfl⟩
    case round =>
      obtain ⟨rfl, rfl, rfl⟩ := hrel
      cases tz : decide ((0 : Int) < (ss.length : Int))
      all_goals
        go_wp2
        all_goals
         refine bodyPost_ret (v := .tuple #[.slice none 0 0, .int .i64 ck]) (by simp [results, Tryz.results16, go_sem]) rfl ?_
         exact ⟨none, 0, [], by rw [HR.out]; rfl, by rw [HR.out, if_neg HN.out]; rfl, RowZ.nil _, by simp, hb0⟩
  subst hck
  obtain ⟨ct0, ct1, ca, ces, csz, cz, cr⟩ := chk_parts HCK.out
  obtain ⟨p1, p2, -, -⟩ := chk_in HCK.out
  obtain ⟨d, hd⟩ := Int.eq_ofNat_of_zero_le (show 0 ≤ g.all by have : g.all = g.nv + g.tm := rfl; omega)
  obtain ⟨N, hN⟩ := Int.eq_ofNat_of_zero_le (show 0 ≤ g.pts by omega)
  have hd64 : d ≤ 64 := by omega
  have hN4 : N ≤ 4096 := by omega
  have HDA := hid hd
  have HN := hid hN
  clear hd hN
  obtain ⟨f0, f1, f2, f3, f4, f5, ff⟩ := blk6 k0
  go_wp2_with fail
  clear f0 f1 f2 f3 f4 f5 ff
  (with_reducible refine (HAL.out w2 HCK.out).mono ?_)
  rintro e3 w3 ⟨rfl, hb3⟩
  rw [HDA.out]
  replace k0 := k0.later hb3
  replace hb0 := bup hb0 hb3
  clear hb3 HAL HAS cz cr ca ct0 ct1 p1 p2
  have hq1 : 4 * (d : Int) * (d : Int) ≤ 16384 := by
    have : d * d ≤ 64 * 64 := Nat.mul_le_mul hd64 hd64
    have e : 4 * (d : Int) * (d : Int) = 4 * ((d * d : Nat) : Int) := by rw [Int.natCast_mul, Int.mul_assoc]
    omega
  have hq0 : 0 ≤ 4 * (d : Int) * (d : Int) := by
    have e : 4 * (d : Int) * (d : Int) = 4 * ((d * d : Nat) : Int) := by rw [Int.natCast_mul, Int.mul_assoc]
    omega
  have hq2 : 4 * (d : Int) * (d : Int) * (N : Int) ≤ 16384 * 4096 := Int.mul_le_mul hq1 (by omega) (by omega) (by omega)
  have hq3 : 0 ≤ 4 * (d : Int) * (d : Int) * (N : Int) := Int.mul_nonneg hq0 (by omega)
  have HLE : Hid (learnE g ss k = if 64 < ss.length ∨ 4194304 < 4 * (d : Int) * (d : Int) * (N : Int) then 270 else fuelsE k ss) := hid (by unfold learnE; rw [if_neg (by rw [HCK.out]; decide), HDA.out, HN.out])
  have x3 : w3.cell? ⟨w.heap.size, 3, none⟩ = some (.int .i64 (N : Int)) := (k0.cell 3).trans (by show some (Value.int .i64 g.pts) = _; rw [HN.out])
  by_cases hmany : 64 < ss.length ∨ 4194304 < 4 * (d : Int) * (d : Int) * (N : Int)
  case pos =>
    have HR : Hid (learnE g ss k = 270) := hid (by rw [HLE.out, if_pos hmany])
    have ht : decide ((64 : Int) < (ss.length : Int)) = true ∨ (decide ((64 : Int) < (ss.length : Int)) = false ∧ decide (4194304 < 4 * (d : Int) * (d : Int) * (N : Int)) = true) := by
      by_cases q : 64 < ss.length
      · exact .inl (decide_eq_true (by omega))
      · rcases hmany with h | h
        · exact absurd h q
        · exact .inr ⟨decide_eq_false (by omega), decide_eq_true h⟩
    clear hmany HLE k0
    obtain ⟨q3, hq⟩ : ∃ q3, 4 * (d : Int) * (d : Int) * (N : Int) = q3 := ⟨_, rfl⟩
    rw [hq] at ht hq2 hq3
    have HBE : Hid (∀ W, Below w.heap.size w W → LearnRes g ss k w (.returned (.tuple #[.slice none 0 0, .int .i64 270])) W) := hid fun W hb => ⟨none, 0, [], by rw [HR.out]; rfl, by rw [HR.out, if_neg (by decide)]; rfl, RowZ.nil _, by simp, hb⟩
    rcases ht with ht | ⟨ht, ht2⟩
    all_goals
      go_wp2
      go_loopw [8, 10] (fun s t wr => s = .int .i64 270 ∧ t = .int .i64 0 ∧ Below w.heap.size w wr) (fun _ _ _ => 0)
      case atStart => exact ⟨rfl, rfl, hb0⟩
      case round =>
        obtain ⟨rfl, rfl, hb⟩ := hrel
        cases tz : decide ((0 : Int) < (ss.length : Int))
        all_goals
          go_wp2
          all_goals
            refine bodyPost_ret (v := .tuple #[.slice none 0 0, .int .i64 270]) (by simp [results, Tryz.results16, go_sem]) rfl ?_
            exact HBE.out _ hb
  have HLF : Hid (learnE g ss k = fuelsE k ss) := hid (by rw [HLE.out, if_neg hmany])
  have t64 : decide ((64 : Int) < (ss.length : Int)) = false := decide_eq_false (by omega)
  have tq3 : decide (4194304 < 4 * (d : Int) * (d : Int) * (N : Int)) = false := decide_eq_false (by omega)
  clear hmany HLE
  obtain ⟨q3, hq⟩ : ∃ q3, 4 * (d : Int) * (d : Int) * (N : Int) = q3 := ⟨_, rfl⟩
  rw [hq] at tq3 hq2 hq3
  go_upto_region 5 with fail
  clear t64 tq3 x3 hq hq0 hq1 hq2 hq3
  go_wp2
  go_loopw [8, 10] (fun s t wr => ∃ i : Nat, i ≤ ss.length ∧ s = .int .i64 (fuelsE k (ss.take i)) ∧ t = .int .i64 (i : Int) ∧ wr = w3) (fun _ t _ => ss.length - (Go.RowKit.intOf t).toNat)
  case atStart => exact ⟨0, by omega, rfl, rfl, rfl⟩
  case round =>
    obtain ⟨i, hil, rfl, rfl, rfl⟩ := hrel
    by_cases hz : fuelsE k (ss.take i) = 0
    rotate_left
    · -- a script is too long, or there are too many steps
      have HR : Hid (learnE g ss k = fuelsE k (ss.take i)) := hid (HLF.out.trans (fuels_stop k ss i hz))
      have hne : (fuelsE k (ss.take i) != 0) = true := by rw [bne_iff_ne]; exact hz
      have heq : (fuelsE k (ss.take i) == 0) = false := by rw [beq_eq_false_iff_ne]; exact hz
      have HN := hid hz
      generalize fuelsE k (ss.take i) = fe at *
      clear hz
      cases tz : decide ((i : Int) < (ss.length : Int))
      all_goals
        go_wp2
        all_goals
          refine bodyPost_ret (v := .tuple #[.slice none 0 0, .int .i64 fe]) (by simp [results, Tryz.results16, go_sem]) rfl ?_
          exact ⟨none, 0, [], by rw [HR.out]; rfl, by rw [HR.out, if_neg HN.out]; rfl, RowZ.nil _, by simp, hb0⟩
    by_cases hlt : i < ss.length
    · have hlt' : (i : Int) < (ss.length : Int) := by omega
      have HZ := hid (fuels_take k ss i hlt hz)
      rw [hz]
      obtain ⟨b, off, Ak, ck, rfl, hB, hc, -, -⟩ := (HS0.out.up hb0) i hlt
      generalize ss[i].length = sl at *
      go_wp2_with fail
      (with_reducible refine (rfuel_ok Ak sl ck k wr).mono ?_)
      rintro e4 w4 ⟨rfl, rfl⟩
      clear hc
      generalize fuelE sl k = fe at *
      go_wp2
      go_roundw
      case rel => exact ⟨i + 1, by omega, by rw [HZ.out], by go_num, (by first | rfl | trivial)⟩
      case measure => simp [Go.RowKit.intOf]; omega
    · obtain rfl : i = ss.length := by omega
      rw [List.take_length] at hz
      have HFZ := hid hz
      have hz2 : fuelsE k (ss.take ss.length) = 0 := by rw [List.take_length]; exact hz
      rw [hz2]
      clear hz hz2 hlt hil
      have x3 : wr.cell? ⟨w.heap.size, 3, none⟩ = some (.int .i64 (N : Int)) := (k0.cell 3).trans (by show some (Value.int .i64 g.pts) = _; rw [HN.out])
      have HB0 := hid hb0
      have KB := hid k0
      clear hb0 k0
      generalize wr = wB at *
      go_wp2
      clear x3
      go_loopw [11, 12] (fun s t wr => ∃ (p : Nat) (A : Option Addr) (c : Nat) (zs : List Z), p ≤ N ∧ s = .slice A zs.length c ∧ t = .int .i64 (p : Int) ∧ LnM wr wB.heap.size d A c zs (List.replicate p ⟨(d : Int), true, []⟩) ∧ Below wB.heap.size wB wr) (fun _ t _ => N - (Go.RowKit.intOf t).toNat)
      case atStart => exact ⟨0, none, 0, [], by omega, rfl, rfl, ⟨OwnZ.nil _ _, ApartZ.nil, rfl, fun z hz => absurd hz (by simp)⟩, Below.refl _ _⟩
      case round =>
        obtain ⟨p, A, c, zs, hp, rfl, rfl, hln, hb⟩ := hrel
        have hzl : zs.length = p := by have := congrArg List.length hln.eq; simpa using this
        have kq := KB.out.below hb KB.out.lt
        have x3 : wr.cell? ⟨w.heap.size, 3, none⟩ = some (.int .i64 (N : Int)) := (kq.cell 3).trans (by show some (Value.int .i64 g.pts) = _; rw [HN.out])
        clear kq
        by_cases hlt : p < N
        · have hlt' : (p : Int) < (N : Int) := by omega
          have HZL := hid hzl
          have HLN := hid hln
          have HB := hid hb
          clear hzl hln hb
          go_wp2_with fail
          (with_reducible refine (rempty_any _ _).mono ?_)
          clear x3
          rintro e5 w5 ⟨rfl, hb5⟩
          have hln5 := HLN.out.below hb5
          have hbw := HB.out.trans (hb5.mono HB.out.size)
          have n8 := new1 w5 (.cells #[.int .i64 (d : Int), .bool true, .slice none 0 0] 53)
          have k8 := Blk.new w5 53 #[.int .i64 (d : Int), .bool true, .slice none 0 0]
          have hln8 := hln5.below n8
          have hbx := hbw.trans (n8.mono hbw.size)
          have hsx := hbx.size
          have hyk : zs.length + 1 ≤ 1000000 := by have := HZL.out; omega
          have own8 := hln8.own
          clear hln5 hb5 n8 hbw
          go_wp2_with (at_builtin; go_loud (refine wpList_append_oct _ _ rfl rfl wB.heap.size A c zs (⟨(d : Int), true, []⟩, none, 0) rfl own8 w5.heap.size rfl k8 (own_nil _ _) (by simp) hyk hsx ?_); intro A2 cap2 w6 own6 hg6)
          have hb6 : Below wB.heap.size _ w6 := below_grown hg6 (fun kk hkk => by
            rcases own8.form with ⟨rfl, _⟩ | ⟨g', cs, rfl, h1, h2, h3⟩
            · simp [Value.ownBlock] at hkk
            · simp [Value.ownBlock] at hkk; subst hkk; exact h1) hsx
          go_roundw
          case rel =>
            refine ⟨p + 1, A2, cap2, zs ++ [(⟨(d : Int), true, []⟩, none, 0)], by omega, by rw [List.length_append, List.length_singleton], by go_num, ⟨own6, HLN.out.ap.snocNone, ?_, fun z hz => ?_⟩, hbx.trans hb6⟩
            · rw [List.map_append, HLN.out.eq, List.replicate_succ']; rfl
            · rcases List.mem_append.1 hz with hz | hz
              · exact HLN.out.ok z hz
              · rw [List.mem_singleton] at hz; subst hz
                exact And.intro rfl (And.intro (fun h => Bool.noConfusion h) (Nat.zero_le _))
          case measure => simp [Go.RowKit.intOf]; omega
        · obtain rfl : p = N := by omega
          have hz0 : List.replicate p (⟨(d : Int), true, []⟩ : O) = lnZero g := by
            unfold lnZero
            rw [HDA.out, show g.pts.toNat = p by have := HN.out; omega]
          rw [hz0] at hln
          have HLS : Hid (learnO g k ss = (ss.take ss.length).foldl (lnOne g k) (lnZero g)) := hid (by rw [List.take_length]; rfl)
          have HSC := hid (fuels_each k ss HFZ.out)
          rw [hzl]
          have HZP := hid hzl
          clear hz0 hlt hp hzl
          go_wp2
          clear x3
          go_loopw [13] (fun t wr => ∃ (i : Nat) (zs : List Z), i ≤ ss.length ∧ t = .int .i64 (i : Int) ∧ zs.length = p ∧ LnM wr wB.heap.size d A c zs ((ss.take i).foldl (lnOne g k) (lnZero g)) ∧ Below wB.heap.size wB wr) (fun t _ => ss.length - (Go.RowKit.intOf t).toNat)
          case atStart => exact ⟨0, zs, by omega, rfl, HZP.out, hln, hb⟩
          case round =>
            clear hln hb
            obtain ⟨i, zs, hil, rfl, hzp, hln, hb⟩ := hrel
            by_cases hlt : i < ss.length
            · have hlt' : (i : Int) < (ss.length : Int) := by omega
              have HNX : Hid ((ss.take (i + 1)).foldl (lnOne g k) (lnZero g) = lnOne g k ((ss.take i).foldl (lnOne g k) (lnZero g)) ss[i]) := hid (by rw [List.take_succ_eq_append_getElem hlt, List.foldl_append]; rfl)
              obtain ⟨b, off, Ak, ck, rfl, hB, hc, hrd, -⟩ := ((HS0.out.up HB0.out).below hb) i hlt
              have hfu := HSC.out _ (List.getElem_mem hlt)
              have hsI := HII.out _ (List.getElem_mem hlt)
              obtain ⟨s, hs⟩ : ∃ s, ss[i] = s := ⟨_, rfl⟩
              rw [hs] at hc hrd hfu hsI HNX
              obtain ⟨os, hos⟩ : ∃ os, (ss.take i).foldl (lnOne g k) (lnZero g) = os := ⟨_, rfl⟩
              rw [hos] at hln HNX
              have hkb : 0 ≤ k ∧ k ≤ 65536 ∧ (s.length : Int) ≤ 65536 := by
                unfold fuelE at hfu
                split at hfu
                · cases hfu
                · omega
              obtain ⟨kn, hkn⟩ := Int.eq_ofNat_of_zero_le hkb.1
              have HKN := hid hkn
              have hk1 : -9223372036854775808 ≤ k + 1 ∧ k + 1 ≤ 9223372036854775807 := by omega
              have hz0 : 0 < p := by have := HN.out; have := (chk_in HCK.out).1; omega
              obtain ⟨gR, hgR, hgR2⟩ : ∃ gR, A = some ⟨gR, 0, none⟩ ∧ gR < wr.heap.size := by
                rcases hln.own.form with ⟨_, e, _⟩ | ⟨gR, _, e, _, h2, _⟩
                · rw [e] at hzp; simp at hzp; omega
                · exact ⟨gR, e, h2⟩
              subst hgR
              have kq := KB.out.below hb KB.out.lt
              obtain ⟨f0, f1, f2, f3, f4, f5, ff⟩ := blk6 kq
              have l0 := later f0
              have l1 := later f1
              have l2 := later f2
              have l3 := later f3
              have l4 := later f4
              have l5 := later f5
              have lc := later hc
              have HLN := hid hln
              have HB := hid hb
              have HRD := hid (hrd.more (B' := wr.heap.size) hb.size)
              have HZP2 := hid hzp
              have HSI := hid hsI
              have HKB := hid hkb
              have hgRw := hgR2
              go_upto_region 19 with fail
              clear f0 f1 f2 f3 f4 f5 ff kq hc hrd hln hb hzp hsI hkb hfu hos hs hkn hgR2
              refine wp_region_flow 8 (fun W => Below wr.heap.size wr W) (by kernel_rfl) (by kernel_rfl) (Below.refl _ _).drew ?_
              (repeat (first | (refine Flow.skip (by rfl) ?_; simp only [Act.put, List.setIfInBounds_toArray, List.set_cons_zero, List.set_cons_succ]) | (refine' Flow.take _ (by rfl) (fun W hW R hR => ?_) ?_; rotate_left; (go_simp; (try go_bits); with_reducible exact hR); simp only [Act.put, List.setIfInBounds_toArray, List.set_cons_zero, List.set_cons_succ])))
              intro w5 hb5
              clear l0 l1 l2 l3 l4 l5 lc
              have hb05 := HB.out.trans (hb5.mono HB.out.size)
              have hw05 : Below w.heap.size w w5 := HB0.out.trans (hb05.mono HB0.out.size)
              have HCO := hid (rcomes_ok g V D E cv cd ce s Ak ck k (k + 1) kn (by have := HKN.out; omega) w5 (HD0.out.up hw05) (HE0.out.up hw05) (HRD.out.up hb5) (by have := HKB.out; omega) (by have := HKB.out; have := HKN.out; omega) HSI.out HI.out HCK.out)
              unfold grV at HCO
              go_wp2_with fail
              (with_reducible refine HCO.out.mono ?_)
              rintro e6 w6 ⟨AC, cc, zc, rfl, hzc, hC, hb6⟩
              have HZC := hid hzc
              have hlc : zc.length = lenW g (mZero g s) kn + 1 := by have := congrArg List.length hzc; rw [comesW_len, List.length_map] at this; exact this
              have HLC := hid hlc
              have hln6 := (HLN.out.below hb5).below hb6
              have hX6 : LnX w6 w5.heap.size w6.heap.size w6 wB.heap.size d (some ⟨gR, 0, none⟩) c zs os := ⟨hln6, fun _ _ _ => rfl, fun z hz g' hg' => by
                left
                rcases (HLN.out.own.own _ hz).form with ⟨e1, _⟩ | ⟨g1, e1, _, h6⟩
                · rw [e1] at hg'; cases hg'
                · rw [e1] at hg'; injection hg' with hg'; injection hg' with hg'; have := hb5.size; omega, fun g' hg' => by injection hg' with hg'; injection hg' with hg'; have := hb5.size; omega, Nat.le_refl _⟩
              have hb06 := hb05.trans (hb6.mono hb05.size)
              have HC6 := hid hC
              have hgRC : gR < w5.heap.size := by have := hb5.size; omega
              have hBC : wB.heap.size ≤ w5.heap.size := hb05.size
              clear HCO hb5 hb6 hzc hlc hC hln6 hb05 hw05
              go_wp2
              go_loopw [15] (fun t wq => ∃ (j : Nat) (zs : List Z), j ≤ zc.length ∧ t = .int .i64 (j : Int) ∧ zs.length = p ∧ LnX w6 w5.heap.size w6.heap.size wq wB.heap.size d (some ⟨gR, 0, none⟩) c zs (lnAt g (mZero g s) os j) ∧ Below wB.heap.size wB wq) (fun t _ => zc.length - (Go.RowKit.intOf t).toNat)
              case atStart => exact ⟨0, zs, by omega, rfl, HZP2.out, hX6, hb06⟩
              case round =>
                clear hX6 hb06
                obtain ⟨j, zs, hjl, rfl, hzp, hX, hb⟩ := hrel
                by_cases hlt : j < zc.length
                · have hlt' : (j : Int) < (zc.length : Int) := by omega
                  obtain ⟨hz0, hz1, hz2⟩ := comes_atL HZC.out hlt
                  have hC := HC6.out.kept hX.kept
                  obtain ⟨bC, oC, hAC, hBCC, c0, c1, c2, hrdC⟩ := hC.rd j hlt
                  obtain ⟨zA, hzA⟩ : ∃ zA, zc[j].A = zA := ⟨_, rfl⟩
                  obtain ⟨zC, hzC⟩ : ∃ zC, zc[j].c = zC := ⟨_, rfl⟩
                  rw [hz0] at c0
                  rw [hz2, hzA, hzC] at c2
                  rw [hz2, hzA] at hrdC
                  have hM := (MOk.zero (inp := s) HCK.out HSI.out).at HCK.out HI.out j (fun q hq => (okW_next (lenW_ok g (mZero g s) kn q (by have := HLC.out; omega))).1)
                  have HLX : Hid (lnAt g (mZero g s) os (j + 1) = (lnAt g (mZero g s) os j).set (mAt g (mZero g s) j).p (moreO (octAt (lnAt g (mZero g s) os j) (mAt g (mZero g s) j).p) g.all.toNat (mAt g (mZero g s) j).xs)) := hid rfl
                  have HCF := hid hC
                  clear hz0 hz1 hz2 hzA hzC c1 hC
                  generalize mAt g (mZero g s) j = M at *
                  have hMp : M.p < zs.length := by have := hM.p; have := HN.out; omega
                  have hoct : octAt (lnAt g (mZero g s) os j) M.p = zs[M.p].1 := by
                    unfold octAt
                    rw [← hX.ln.eq, List.getD_eq_getElem?_getD, List.getElem?_map, List.getElem?_eq_getElem hMp]; rfl
                  rw [hoct, show g.all.toNat = d by have := HDA.out; omega] at HLX
                  clear hoct
                  obtain ⟨bR, oR, hAR, hBR, r0, r1, r2⟩ := hX.ln.own.rows.at_ M.p hMp
                  injection hAR with hAR; injection hAR with hARa hARb; subst hARa; subst hARb
                  rw [Nat.zero_add] at r0 r1 r2
                  have hgood := hX.ln.ok _ (List.getElem_mem hMp)
                  have hownz := hX.ln.own.own _ (List.getElem_mem hMp)
                  obtain ⟨z, hz⟩ : ∃ z, zs[M.p] = z := ⟨_, rfl⟩
                  rw [hz] at r0 r1 r2 hgood hownz HLX
                  have HZZ := hid hz
                  have hMx : M.xs.length = d := by have := hM.xl; have := HDA.out; omega
                  have hMi := hM.xi
                  subst hAC
                  have hMp' : (M.p : Int) < (p : Int) := by omega
                  have hM0 : (0 : Int) ≤ (M.p : Int) := by omega
                  have hMp3 : (M.p : Int) < 100000 := by omega
                  have hbW : wB.heap.size ≤ wr.heap.size := hb.size
                  have HMO := hid (fun W (ho : Own W wB.heap.size z.2.1 z.2.2 z.1.m) (hx : Rd W W.heap.size zA M.xs) (hs : wB.heap.size ≤ W.heap.size) => rmore_ok z.1 d hd64 hgood.2.1 M.xs hMx hMi wB.heap.size z.2.2 zC z.2.1 zA W ho hx (by have := hgood.2.2; omega) hs)
                  have HGO := hid (GoodO.more hd64 hgood M.xs)
                  have HGD := hid hgood
                  have HXX := hid hX
                  have HB := hid hb
                  have HZP3 := hid hzp
                  obtain ⟨⟨zn, ze, zm⟩, zA2, zC2⟩ := z
                  dsimp only at r0 r1 r2 hgood hownz HLX HMO HGO HGD
                  have HJ := hid hlt
                  have hj9 : (j : Int) ≤ 100000 := by have := HLC.out; have := lenW_le g (mZero g s) kn; have := HKB.out; have := HKN.out; omega
                  go_upto_region 23 with fail
                  clear hz hgood hX hb hzp hM hMx hMi
                  cases ze
                  case true =>
                    obtain ⟨mo, hmo⟩ : ∃ mo, moreO ⟨zn, true, zm⟩ d M.xs = mo := ⟨_, rfl⟩
                    rw [hmo] at HLX HGO
                    have HM1 := hid (fun W (hX : Below wr.heap.size wr W) => (show Calls Tryz.prog 39 #[.agg #[.int .i64 zn, .bool true, .slice zA2 zm.length zC2], .int .i64 (d : Int), .slice zA M.xs.length zC] W fun e w2 => ∃ v, e = .returned v ∧ Ext W w2 ∧ IsMore wr.heap.size mo v W w2 from
                      (HMO.out W (hownz.below hX) (hrdC.up hX) (Nat.le_trans hbW hX.size)).mono (fun e w' (h : MoreRes _ d M.xs wB.heap.size zA2 zC2 W e w') => by
                        obtain ⟨A', c', he, h2⟩ := h
                        rw [hmo] at he h2
                        rcases h2 with ⟨_, h3, h4⟩ | ⟨h3, _⟩
                        · exact ⟨_, he, h4, A', c', rfl, h3.less hX.size⟩
                        · cases h3)))
                    have HFR : Hid (∀ W, Below wr.heap.size wr W → ∀ j, W.frozen? ⟨gR, j, none⟩ = false) := hid fun W hX j => by
                      rcases HXX.out.ln.own.form with ⟨e2, _⟩ | ⟨g2, cs, e2, _, _, h9⟩
                      · cases e2
                      · injection e2 with e2; injection e2 with e2; subst e2
                        exact ((show Blk wr gR 53 cs from h9).later hX).fr j
                    have HGRB : Hid (wB.heap.size ≤ gR) := hid (by
                      rcases HXX.out.ln.own.form with ⟨e, _⟩ | ⟨g2, cs, e, h5, _⟩
                      · cases e
                      · injection e with e; injection e with e; omega)
                    have HR0 := hid r0
                    have HR1 := hid r1
                    have HR2 := hid r2
                    have l0 := laterE c0
                    have l2 := laterE c2
                    have q0 := laterE r0
                    have q1 := laterE r1
                    have q2 := laterE r2
                    clear c0 c2 r0 r1 r2 hmo HMO hownz hrdC
                    refine wp_region_flowE 21 [Sp.val (.slice (some ⟨gR, 0, none⟩) p c), Sp.val (.slice (some ⟨bC, oC, none⟩) zc.length cc), Sp.val (.int .i64 (j : Int)), Sp.val (.pointer (some ⟨bC, oC + j * 3, none⟩)), Sp.val (.pointer (some ⟨bC, oC + j * 3, none⟩)), Sp.val (.int .i64 (M.p : Int)), Sp.val (.slice (some ⟨gR, 0, none⟩) p c), Sp.val (.slice (some ⟨bC, oC, none⟩) zc.length cc), Sp.val (.int .i64 (j : Int)), Sp.val (.pointer (some ⟨bC, oC + j * 3, none⟩)), Sp.val (.pointer (some ⟨bC, oC + j * 3, none⟩)), Sp.val (.int .i64 (M.p : Int)), Sp.val (.pointer (some ⟨gR, M.p * 3, none⟩)), Sp.val (.agg #[.int .i64 zn, .bool true, .slice zA2 zm.length zC2]), Sp.val (.int .i64 (d : Int)), Sp.val (.slice (some ⟨bC, oC, none⟩) zc.length cc), Sp.val (.int .i64 (j : Int)), Sp.val (.pointer (some ⟨bC, oC + j * 3, none⟩)), Sp.val (.pointer (some ⟨bC, oC + j * 3 + 2, none⟩)), Sp.val (.slice zA M.xs.length zC), Sp.any (IsMore wr.heap.size mo)] (by kernel_rfl) (by kernel_rfl) ?_
                    (refine FlowE.take (by rfl) (fun W hW R hR => ?_) (fun _ _ => ?_); (go_simp; (try go_bits); with_reducible exact hR); simp only [Act.put, List.setIfInBounds_toArray, List.set_cons_zero, List.set_cons_succ])
                    (refine FlowE.take (by rfl) (fun W hW R hR => ?_) (fun _ _ => ?_); (go_simp; (try go_bits); with_reducible exact hR); simp only [Act.put, List.setIfInBounds_toArray, List.set_cons_zero, List.set_cons_succ])
                    (refine FlowE.take (by rfl) (fun W hW R hR => ?_) (fun _ _ => ?_); (go_simp; (try go_bits); with_reducible exact hR); simp only [Act.put, List.setIfInBounds_toArray, List.set_cons_zero, List.set_cons_succ])
                    (refine FlowE.take (by rfl) (fun W hW R hR => ?_) (fun _ _ => ?_); (go_simp; (try go_bits); with_reducible exact hR); simp only [Act.put, List.setIfInBounds_toArray, List.set_cons_zero, List.set_cons_succ])
                    (refine FlowE.take (by rfl) (fun W hW R hR => ?_) (fun _ _ => ?_); (go_simp; (try go_bits); with_reducible exact hR); simp only [Act.put, List.setIfInBounds_toArray, List.set_cons_zero, List.set_cons_succ])
                    (refine FlowE.take (by rfl) (fun W hW R hR => ?_) (fun _ _ => ?_); (go_simp; (try go_bits); with_reducible exact hR); simp only [Act.put, List.setIfInBounds_toArray, List.set_cons_zero, List.set_cons_succ])
                    (refine FlowE.take (by rfl) (fun W hW R hR => ?_) (fun _ _ => ?_); (go_simp; (try go_bits); with_reducible exact hR); simp only [Act.put, List.setIfInBounds_toArray, List.set_cons_zero, List.set_cons_succ])
                    (refine FlowE.take (by rfl) (fun W hW R hR => ?_) (fun _ _ => ?_); (go_simp; (try go_bits); with_reducible exact hR); simp only [Act.put, List.setIfInBounds_toArray, List.set_cons_zero, List.set_cons_succ])
                    (refine FlowE.take (by rfl) (fun W hW R hR => ?_) (fun _ _ => ?_); (go_simp; (try go_bits); with_reducible exact hR); simp only [Act.put, List.setIfInBounds_toArray, List.set_cons_zero, List.set_cons_succ])
                    (refine FlowE.take (by rfl) (fun W hW R hR => ?_) (fun _ _ => ?_); (go_simp; (try go_bits); with_reducible exact hR); simp only [Act.put, List.setIfInBounds_toArray, List.set_cons_zero, List.set_cons_succ])
                    (refine FlowE.take (by rfl) (fun W hW R hR => ?_) (fun _ _ => ?_); (go_simp; (try go_bits); with_reducible exact hR); simp only [Act.put, List.setIfInBounds_toArray, List.set_cons_zero, List.set_cons_succ])
                    (refine FlowE.take (by rfl) (fun W hW R hR => ?_) (fun _ _ => ?_); (go_simp; (try go_bits); with_reducible exact hR); simp only [Act.put, List.setIfInBounds_toArray, List.set_cons_zero, List.set_cons_succ])
                    (refine FlowE.take (by rfl) (fun W hW R hR => ?_) (fun _ _ => ?_); (go_simp; (try go_bits); with_reducible exact hR); simp only [Act.put, List.setIfInBounds_toArray, List.set_cons_zero, List.set_cons_succ])
                    (refine FlowE.take (by rfl) (fun W hW R hR => ?_) (fun _ _ => ?_); (go_simp; (try go_bits); with_reducible exact hR); simp only [Act.put, List.setIfInBounds_toArray, List.set_cons_zero, List.set_cons_succ])
                    (refine FlowE.take (by rfl) (fun W hW R hR => ?_) (fun _ _ => ?_); (go_simp; (try go_bits); with_reducible exact hR); simp only [Act.put, List.setIfInBounds_toArray, List.set_cons_zero, List.set_cons_succ])
                    (refine FlowE.take (by rfl) (fun W hW R hR => ?_) (fun _ _ => ?_); (go_simp; (try go_bits); with_reducible exact hR); simp only [Act.put, List.setIfInBounds_toArray, List.set_cons_zero, List.set_cons_succ])
                    (refine FlowE.take (by rfl) (fun W hW R hR => ?_) (fun _ _ => ?_); (go_simp; (try go_bits); with_reducible exact hR); simp only [Act.put, List.setIfInBounds_toArray, List.set_cons_zero, List.set_cons_succ])
                    (refine FlowE.take (by rfl) (fun W hW R hR => ?_) (fun _ _ => ?_); (go_simp; (try go_bits); with_reducible exact hR); simp only [Act.put, List.setIfInBounds_toArray, List.set_cons_zero, List.set_cons_succ])
                    (refine FlowE.take (by rfl) (fun W hW R hR => ?_) (fun _ _ => ?_); (go_simp; (try go_bits); with_reducible exact hR); simp only [Act.put, List.setIfInBounds_toArray, List.set_cons_zero, List.set_cons_succ])
                    (refine FlowE.take (by rfl) (fun W hW R hR => ?_) (fun _ _ => ?_); (go_simp; (try go_bits); with_reducible exact hR); simp only [Act.put, List.setIfInBounds_toArray, List.set_cons_zero, List.set_cons_succ])
                    refine FlowE.call 39 #[.agg #[.int .i64 zn, .bool true, .slice zA2 zm.length zC2], .int .i64 (d : Int), .slice zA M.xs.length zC] (by rfl) (fun W hW => by go_simp) (fun W hW => HM1.out W (Ext.trans (Below.refl _ _).drew hW)) (fun v4 lo4 hi4 => ?_)
                    simp only [Act.put, List.setIfInBounds_toArray, List.set_cons_zero, List.set_cons_succ]
                    refine FlowE.tail (fun W hW hf hd => ?_)
                    replace hW : Below wr.heap.size wr W := Ext.trans (Below.refl _ _).drew hW
                    obtain ⟨A4, c4, rfl, own4⟩ := fact_more (show Sp.fact wr.drew (Sp.any (IsMore wr.heap.size mo)) v4 lo4 hi4 W from hf 20)
                    have hX3 := HXX.out.step1 (q := mo) hMp hW own4 hbW HGO.out
                    unfold putW at hX3
                    dsimp only at hX3
                    have HX3 := hid hX3
                    have hfR := HFR.out W hW
                    have hq0 := HR0.out
                    have hq1 := HR1.out
                    have hq2 := HR2.out
                    rw [← World.cell?_of_block (w := wr) (w' := W) (a := ⟨gR, M.p * 3, none⟩) (hW.block gR hBR)] at hq0
                    rw [← World.cell?_of_block (w := wr) (w' := W) (a := ⟨gR, M.p * 3 + 1, none⟩) (hW.block gR hBR)] at hq1
                    rw [← World.cell?_of_block (w := wr) (w' := W) (a := ⟨gR, M.p * 3 + 2, none⟩) (hW.block gR hBR)] at hq2
                    have HB3 := hid (HB.out.trans (hW.mono hbW))
                    clear hX3 hW hf hd own4 l0 l2 q0 q1 q2 HM1
                    go_wp2
                    go_roundw
                    case rel =>
                      refine ⟨j + 1, zs.set M.p (mo, A4, c4), by have := HJ.out; omega, by go_num, by rw [List.length_set]; exact HZP3.out, by rw [HLX.out]; exact HX3.out, ?_⟩
                      exact ((HB3.out.setCell (p := ⟨gR, M.p * 3, none⟩) HGRB.out _).setCell (p := ⟨gR, M.p * 3 + 1, none⟩) HGRB.out _).setCell (p := ⟨gR, M.p * 3 + 2, none⟩) HGRB.out _
                    case measure => have := HJ.out; simp [Go.RowKit.intOf]; omega
                  case false =>
                    obtain ⟨mo, hmo⟩ : ∃ mo, moreO ⟨zn, false, zm⟩ d M.xs = mo := ⟨_, rfl⟩
                    have hmn : mo.n = zn ∧ mo.e = false ∧ mo.m.length = zm.length := by
                      rw [← hmo]; unfold moreO
                      refine ⟨rfl, rfl, ?_⟩
                      show (maxM zm _).length = _
                      unfold maxM; simp
                    rw [hmo] at HLX HGO
                    have HMN := hid hmn
                    have HM1 := hid (fun W ho hx hs => (HMO.out W ho hx hs).mono (fun e w' (h : MoreRes _ d M.xs wB.heap.size zA2 zC2 W e w') => (show e = .returned (.agg #[.int .i64 zn, .bool false, .slice zA2 zm.length zC2]) ∧ Own w' wB.heap.size zA2 zC2 mo.m ∧ W.grownBy w' (blkOf zA2) from by
                      obtain ⟨A', c', he, h2⟩ := h
                      rw [hmo] at he h2
                      rcases h2 with ⟨h3, _⟩ | ⟨_, rfl, rfl, h5, h6⟩
                      · cases h3
                      · exact ⟨by rw [he, hmn.1, hmn.2.1, hmn.2.2], h5, h6⟩)))
                    have hd64' : (d : Int) ≤ 64 := by omega
                    have HX2 := hid HXX.out.ln.own
                    have hown2 := hownz
                    have hgA : ∀ q, blkOf zA2 = some q → q ≠ bC ∧ q ≠ gR := fun q hq => by
                      rcases hownz.form with ⟨e1, _⟩ | ⟨g1, e1, _, h6⟩
                      · rw [e1] at hq; cases hq
                      · rw [e1] at hq
                        have hq : some g1 = some q := hq
                        injection hq with hq
                        subst hq
                        have hzb := HXX.out.out _ (List.getElem_mem hMp) g1 (by rw [HZZ.out]; exact e1)
                        have hrow := HXX.out.row gR rfl
                        rw [e1] at hownz
                        refine ⟨fun e => ?_, fun e => ?_⟩
                        · subst e
                          rcases HCF.out.form with ⟨e2, _⟩ | ⟨g2, cs, e2, _, _, h9⟩
                          · cases e2
                          · injection e2 with e2; injection e2 with e2
                            exact own_blk hownz (show Blk wr g2 78 cs from h9) (by decide) e2
                        · subst e
                          rcases HXX.out.ln.own.form with ⟨e2, _⟩ | ⟨g2, cs, e2, _, _, h9⟩
                          · cases e2
                          · injection e2 with e2; injection e2 with e2
                            exact own_blk hownz (show Blk wr g2 53 cs from h9) (by decide) e2
                    have HGA := hid hgA
                    have HFR : Hid (∀ j, wr.frozen? ⟨gR, j, none⟩ = false) := hid fun j => by
                      rcases HXX.out.ln.own.form with ⟨e2, _⟩ | ⟨g2, cs, e2, _, _, h9⟩
                      · cases e2
                      · injection e2 with e2; injection e2 with e2; subst e2
                        exact (show Blk wr gR 53 cs from h9).fr j
                    obtain ⟨SS, hSS⟩ : ∃ SS : Bool → World → Prop, SS = fun b W => if b then (Own W wB.heap.size zA2 zC2 mo.m ∧ wr.grownBy W (blkOf zA2)) else W = wr.drew := ⟨_, rfl⟩
                    have hS0 : SS false wr.drew := by rw [hSS]; rfl
                    have FB : ∀ W, AnyB SS W → wr.grownBy W (blkOf zA2) := by
                      rintro W ⟨b, h⟩
                      rw [hSS] at h
                      cases b
                      · obtain rfl : W = wr.drew := h
                        exact grown_of_below (Below.refl _ _).drew _
                      · exact h.2
                    have hk : ∀ b, b < wr.heap.size → (b = bC ∨ b = gR) → ∀ i v, wr.cell? ⟨b, i, none⟩ = some v → ∀ W, AnyB SS W → W.cell? ⟨b, i, none⟩ = some v := fun b hb1 hb2 i v hv W hW =>
                      (World.cell?_of_block (w := wr) (a := ⟨b, i, none⟩) ((FB W hW).block b hb1 (fun e => by
                        have := hgA b e.symm
                        rcases hb2 with h | h
                        · exact this.1 h
                        · exact this.2 h))).trans hv
                    have e0 := hk bC hBCC (.inl rfl) _ _ c0
                    have e2 := hk bC hBCC (.inl rfl) _ _ c2
                    have q0 := hk gR hBR (.inr rfl) _ _ r0
                    have q1 := hk gR hBR (.inr rfl) _ _ r1
                    have q2 := hk gR hBR (.inr rfl) _ _ r2
                    have HS := hid hSS
                    clear hSS c0 c2 r0 r1 r2 hk FB hgA hmo hmn HMO hownz
                    refine wp_region_flowM 21 20 SS (by kernel_rfl) (by kernel_rfl) (by decide) hS0 ?_
                    (repeat (first | (refine FlowM.skip (by rfl) (by rfl) ?_; simp only [Act.put, List.setIfInBounds_toArray, List.set_cons_zero, List.set_cons_succ]) | (refine' FlowM.take _ (by rfl) (by rfl) (fun W hW R hR => ?_) ?_; rotate_left; (go_simp; (try go_bits); with_reducible exact hR); simp only [Act.put, List.setIfInBounds_toArray, List.set_cons_zero, List.set_cons_succ])))
                    refine FlowM.callM 39 #[.agg #[.int .i64 zn, .bool false, .slice zA2 zm.length zC2], .int .i64 (d : Int), .slice zA M.xs.length zC] (.agg #[.int .i64 zn, .bool false, .slice zA2 zm.length zC2]) (by rfl) (by rfl) (fun W hW => by have hW' : AnyB SS W := ⟨false, hW⟩; clear hW; go_simp) (fun W hW => ?_) ?_
                    · rw [HS.out] at hW
                      obtain rfl : W = wr.drew := hW
                      refine (HM1.out _ (hown2.below (Below.refl _ _).drew) (hrdC.up (Below.refl _ _).drew) hbW).mono ?_
                      rintro e W2 ⟨rfl, h1, h2⟩
                      refine ⟨rfl, ?_⟩
                      rw [HS.out]
                      exact ⟨h1, (grown_of_below (Below.refl _ _).drew _).trans h2⟩
                    simp only [Act.put, List.setIfInBounds_toArray, List.set_cons_zero, List.set_cons_succ]
                    (repeat (first | (refine FlowM.skip (by rfl) (by rfl) ?_; simp only [Act.put, List.setIfInBounds_toArray, List.set_cons_zero, List.set_cons_succ]) | (refine' FlowM.take _ (by rfl) (by rfl) (fun W hW R hR => ?_) ?_; rotate_left; (go_simp; (try go_bits); with_reducible exact hR); simp only [Act.put, List.setIfInBounds_toArray, List.set_cons_zero, List.set_cons_succ])))
                    intro W hW
                    rw [HS.out] at hW
                    obtain ⟨ho, hG⟩ := hW
                    replace ho : Own W wB.heap.size zA2 zC2 mo.m := ho
                    replace hG : wr.grownBy W (blkOf zA2) := hG
                    have hX3 := HXX.out.step2 (q := mo) (W2 := W) hMp (by rw [HZZ.out]; exact hG) (by rw [HZZ.out]; exact ho) (by rw [HZZ.out]; exact HMN.out.1) (by rw [HZZ.out]; exact HMN.out.2.1) (by rw [HZZ.out]; exact HMN.out.2.2) HGO.out
                    rw [HZZ.out] at hX3
                    unfold putW at hX3
                    dsimp only at hX3
                    rw [HMN.out.1, HMN.out.2.1, HMN.out.2.2] at hX3
                    have HX3 := hid hX3
                    have hGR : W.heap[gR]? = wr.heap[gR]? := hG.block gR hBR (fun e => absurd rfl (HGA.out gR e.symm).2)
                    have hfR : ∀ j, W.frozen? ⟨gR, j, none⟩ = false := fun j => by
                      rw [World.frozen?_of_block (w := wr) (a := ⟨gR, j, none⟩) hGR]
                      exact HFR.out j
                    have hq0 : W.cell? ⟨gR, M.p * 3, none⟩ = _ := q0 W ⟨true, by rw [HS.out]; exact ⟨ho, hG⟩⟩
                    have hq1 : W.cell? ⟨gR, M.p * 3 + 1, none⟩ = _ := q1 W ⟨true, by rw [HS.out]; exact ⟨ho, hG⟩⟩
                    have hq2 : W.cell? ⟨gR, M.p * 3 + 2, none⟩ = _ := q2 W ⟨true, by rw [HS.out]; exact ⟨ho, hG⟩⟩
                    have HB3 := hid (HB.out.trans (below_grown (B := wB.heap.size) hG (fun kk hkk => by
                      rcases hown2.form with ⟨e1, _⟩ | ⟨g1, e1, h5, _⟩
                      · rw [e1] at hkk; cases hkk
                      · rw [e1] at hkk
                        have hkk : some g1 = some kk := hkk
                        injection hkk with hkk; omega) hbW))
                    have hgRB := hid (HXX.out.ln.own.form)
                    clear hX3 hG hGR ho e0 e2 q0 q1 q2 hS0 HS hown2 HM1 hrdC
                    have HGRB : Hid (wB.heap.size ≤ gR) := hid (by
                      rcases hgRB.out with ⟨e, _⟩ | ⟨g2, cs, e, h5, _⟩
                      · cases e
                      · injection e with e; injection e with e; omega)
                    go_wp2
                    go_roundw
                    case rel =>
                      refine ⟨j + 1, zs.set M.p (mo, zA2, zC2), by have := HJ.out; omega, by go_num, by rw [List.length_set]; exact HZP3.out, by rw [HLX.out]; exact HX3.out, ?_⟩
                      exact ((HB3.out.setCell (p := ⟨gR, M.p * 3, none⟩) HGRB.out _).setCell (p := ⟨gR, M.p * 3 + 1, none⟩) HGRB.out _).setCell (p := ⟨gR, M.p * 3 + 2, none⟩) HGRB.out _
                    case measure => have := HJ.out; simp [Go.RowKit.intOf]; omega
                · obtain rfl : j = zc.length := by omega
                  have HEQ : Hid (lnAt g (mZero g s) os zc.length = lnOne g k os s) := hid (by
                    unfold lnOne
                    rw [HLC.out, show k.toNat = kn by have := HKN.out; omega])
                  rw [HEQ.out, ← HNX.out] at hX
                  have HX := hid hX
                  have HB2 := hid hb
                  have HZP3 := hid hzp
                  clear hX hb hzp hlt hjl
                  go_wp2
                  go_roundw
                  case rel => exact ⟨i + 1, zs, by omega, by go_num, HZP3.out, HX.out.ln, HB2.out⟩
                  case measure => simp [Go.RowKit.intOf]; omega
            · obtain rfl : i = ss.length := by omega
              rw [← HLS.out] at hln
              have HR : Hid (learnE g ss k = 0) := hid (HLF.out.trans HFZ.out)
              have HLN := hid hln
              have HB := hid (HB0.out.trans (hb.mono HB0.out.size))
              have HZP2 := hid hzp
              clear hln hb hzp hlt hil
              go_wp2
              all_goals
                refine bodyPost_ret (v := .tuple #[.slice A p c, .int .i64 0]) (by simp [results, Tryz.results16, go_sem]) rfl ?_
                exact ⟨A, c, zs, by rw [HR.out, HZP2.out], by rw [HR.out, if_pos rfl]; exact HLN.out.eq, HLN.out.own.rows, by rw [HZP2.out]; exact hN4, HB.out⟩
end Go.Proofs.YtkncebcekhfnfaaGreat
