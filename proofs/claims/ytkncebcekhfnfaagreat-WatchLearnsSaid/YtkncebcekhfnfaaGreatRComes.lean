/-
  gnomonref10.Comes: the points that a run comes to.
-/
import Derived.Test.YtkncebcekhfnfaaGreatBWL29
import Derived.Deep.DeepCutAuto
import Derived.Deep.CutBlock
namespace Go.Proofs.YtkncebcekhfnfaaGreat
open Go.RowKit
attribute [local go_sem ↓] Go.wp_at_zero Go.wp_at_succ

/-- What holds when c steps have been taken. -/
def ComInv (g : Gr) (inp : List Int) (kn : Nat) (wB : World) (bT gs : Nat) (V : Option Addr) (vc : Nat) (c : Nat) (v p i n : Value) (wq : World) : Prop :=
  c ≤ kn ∧ (∀ j, j < c → okW g (mAt g (mZero g inp) j) = true) ∧ ∃ A cap zs ic R rc rows, v = .slice A zs.length cap ∧ zs.map cmk = comesW g (mZero g inp) c ∧ p = .int .i64 ((mAt g (mZero g inp) c).p : Int) ∧ i = .int .i64 ((ic : Nat) : Int) ∧ ic ≤ inp.length ∧ (mAt g (mZero g inp) c).inp = inp.drop ic ∧ n = .int .i64 (c : Int) ∧
    StAt wq wB.heap.size gs V R vc rc (mAt g (mZero g inp) c).xs rows ∧ rows.map (·.1) = (mAt g (mZero g inp) c).ls ∧ ApL bT gs rows ∧ OwnC wq bT A cap zs ∧ Below wB.heap.size wB wq
def ComEnd (g : Gr) (inp : List Int) (kn : Nat) (wB : World) (bT : Nat) (v : Value) (wq : World) : Prop :=
  ∃ A cap zs, v = .slice A zs.length cap ∧ zs.map cmk = comesW g (mZero g inp) (lenW g (mZero g inp) kn) ∧ OwnC wq bT A cap zs ∧ Below wB.heap.size wB wq
set_option maxRecDepth 8000 in
set_option maxHeartbeats 16000000 in
theorem rcomes_ok (g : Gr) (V D E : Option Addr) (cv cd ce : Nat) (inp : List Int) (S : Option Addr) (sc : Nat) (k most : Int) (kn : Nat) (hkn : (kn : Int) = min k (most - 1)) (w : World)
    (hD : RdD w w.heap.size D g.sz) (hE : RdE w w.heap.size E g.es) (hS : Rd w w.heap.size S inp) (hil : inp.length ≤ 65536) (hk : kn ≤ 65536) (hI : I64s inp) (hi : ∀ e ∈ g.es, I64 e.an ∧ I64 e.bn) (hc : chk g = 0) :
    Calls Tryz.prog 32 #[grV g V D E cv cd ce, .slice S inp.length sc, .int .i64 k, .int .i64 most] w (ComesRes g inp (lenW g (mZero g inp) kn) w) := by
  obtain ⟨ct0, ct1, ca, ces, csz, cz, cr⟩ := chk_parts hc
  obtain ⟨p1, p2, hin, -⟩ := chk_in hc
  obtain ⟨na, hna⟩ : ∃ na : Nat, g.all = (na : Int) := ⟨g.all.toNat, by have : g.all = g.nv + g.tm := rfl; omega⟩
  obtain ⟨N, hN⟩ : ∃ N : Nat, g.pts = (N : Int) := ⟨g.pts.toNat, by omega⟩
  have HNA := hid hna
  have HN := hid hN
  have hna64 : na ≤ 64 := by omega
  have hNb : (N : Int) ≤ 4096 := by omega
  have hnv : g.nv ≤ 17592186044416 := by have : g.all = g.nv + g.tm := rfl; omega
  have HC := hid hc
  have HI := hid hi
  have HII := hid hI
  have HCZ := hid cz
  have HCR := hid cr
  have HKN := hid (And.intro hkn hk)
  have HIN := hid (fun k (hk : k < g.es.length) => (show 0 ≤ (g.es[k]).fr ∧ (g.es[k]).fr < (N : Int) from by
    have := hin _ (List.getElem_mem hk)
    unfold inE at this
    rw [decide_eq_true_eq] at this
    omega))
  have HAL : Hid (∀ W, Calls Tryz.prog 21 #[.agg #[.slice V g.nv cv, .int .i64 g.tm, .slice D g.sz.length cd, .int .i64 g.pts, .int .i64 g.ex, .slice E g.es.length ce]] W fun e w' => e = .returned (.int .i64 (na : Int)) ∧ Below W.heap.size W w') := hid (fun W => by
    have := all_any g V D E cv cd ce W ct0 ct1 hnv
    rw [hna] at this
    exact this)
  have hmr := run_make_row' (P := Tryz.prog) 61 34 (.slice none 0 0) 24 Tryz.underlying61 ints_info rfl .i64 .i64 N (by omega) (by omega)
  rw [← hN] at hmr
  have hmk := hid (run_make64 na (by omega))
  have n0 := new1 w (.cells #[.slice V g.nv cv, .int .i64 g.tm, .slice D g.sz.length cd, .int .i64 g.pts, .int .i64 g.ex, .slice E g.es.length ce] 26)
  have k0 := Blk.new w 26 #[.slice V g.nv cv, .int .i64 g.tm, .slice D g.sz.length cd, .int .i64 g.pts, .int .i64 g.ex, .slice E g.es.length ce]
  replace hD := hD.up n0
  replace hE := hE.up n0
  replace hS := hS.up n0
  have HB0 := hid n0
  clear n0 hc hi hI cz cr ca hin hN hna hkn hk hnv ct0 ct1
  unfold grV
  go_enter Tryz.func32, Tryz.ntmps32
  go_upto_region 1 with fail
  generalize w.alloc (.cells #[.slice V g.nv cv, .int .i64 g.tm, .slice D g.sz.length cd, .int .i64 g.pts, .int .i64 g.ex, .slice E g.es.length ce] 26) = w3 at *
  have z3 := k0.cell 3
  have n4 := new1 w3 (.cells (madeCells #[.slice none 0 0] N) 34)
  have L4 := LL.start (α := Int) (enc := enc1) (w := w3) (base := w3.heap.size) (n := N) (T := 34) (e := 3) (size := 1) (Nat.le_refl _)
  have KX : Hid (w.heap.size < w3.heap.size) := hid k0.lt
  have E3 := hid hE
  have D3 := hid hD
  have S3 := hid hS
  have K0 := hid k0
  have N4 := hid n4
  clear hE hD hS k0 n4
  go_wp2
  clear z3 hmr
  generalize w3.alloc (.cells (madeCells #[.slice none 0 0] N) 34) = w4 at *
  go_loopw [10] (fun i wr => ∃ (k : Nat) (f : Nat → Value), k ≤ g.es.length ∧ i = .int .i64 k ∧ LL enc1 wr w3.heap.size w3.heap.size N 34 3 1 f (fun p => idxI g.es k p) ∧ Below w3.heap.size w4 wr) (fun i _ => g.es.length - (Go.RowKit.intOf i).toNat)
  case atStart => exact ⟨0, _, by omega, rfl, L4.congr (fun p _ => by simp [idxI, ints, idxE]), Below.refl _ _⟩
  case round =>
    clear L4
    obtain ⟨k, f, hk, rfl, hL, hb⟩ := hrel
    have hbw : Below w3.heap.size w3 wr := N4.out.trans hb
    have k0 := K0.out.below hbw KX.out
    have hsz := hbw.size
    by_cases hlt : k < g.es.length
    · have hlt' : (k : Int) < (g.es.length : Int) := by omega
      have HI := hid (HIN.out k hlt)
      obtain ⟨x, hx⟩ : ∃ x, g.es[k] = x := ⟨_, rfl⟩
      have HX2 := hid hx
      rw [hx] at HI
      obtain ⟨b, off, rfl, hB, p0, -⟩ := (E3.out.below hbw).get hlt hx
      clear hx
      have x5 := k0.cell 5
      have hgf : w.heap.size < wr.heap.size := by have := KX.out; omega
      have H9 : w3.heap.size < wr.heap.size := hL.row.lt
      have hi := HI.out
      obtain ⟨q, hq⟩ : ∃ q : Nat, x.fr = (q : Int) := ⟨x.fr.toNat, by omega⟩
      have hqN : q < N := by omega
      have hqN' : (q : Int) < (N : Int) := by omega
      have HQ := hid hq
      clear hi
      go_upto_region 5 with fail
      obtain ⟨v2, w2, hrun, ho, hg, hv⟩ := run_append_int (wr.drew.alloc (.cells #[.int .i64 (k : Int)] 3)) w3.heap.size 34 (f q) _ _ (k : Int) (((hL.own q hqN).alloc _)) wr.heap.size (Blk.new wr.drew _ _) (by
        have := idxI_len g.es k q
        omega) (by simp; omega)
      obtain ⟨g2, cap2, rfl, -, -⟩ := ho.form (by omega)
      have hrow : ∀ b, b < w3.heap.size ∨ b = w3.heap.size → (f q).ownBlock ≠ some b := by
        intro b hb e
        rcases hb with hb | rfl
        · have := ((hL.own q hqN).lt _ e).1; omega
        · exact hL.ne q hqN e
      have c0 := SN.cell hg (b := b) (by omega) (hrow _ (.inl hB)) p0
      have c5 := SN.cell hg hgf (hrow _ (.inl KX.out)) x5
      have cF := SN.cell hg H9 (hrow _ (.inr rfl)) (hL.row.cell hqN)
      have HH := hid hg
      have HO := hid ho
      have HVV := hid hv
      have HL8 := hid hL
      have hrun' := hid hrun
      have HBW := hid hb
      clear hg ho hv hrun hL k0 p0 x5 hbw hb
      replace c0 := fun W hW => (c0 W hW).trans (show some (Value.int .i64 x.fr) = some (Value.int .i64 (q : Int)) by rw [hq])
      clear hq
      have S0 : Hid (SN wr.drew (wr.drew.alloc (.cells #[.int .i64 (k : Int)] 3)) w2 false false = fun W => W = wr.drew) := hid rfl
      have S1 : Hid (SN wr.drew (wr.drew.alloc (.cells #[.int .i64 (k : Int)] 3)) w2 true false = fun W => W = wr.drew.alloc (.cells #[.int .i64 (k : Int)] 3)) := hid rfl
      have S2 : Hid (SN wr.drew (wr.drew.alloc (.cells #[.int .i64 (k : Int)] 3)) w2 true true = fun W => W = w2) := hid rfl
      generalize SN wr.drew (wr.drew.alloc (.cells #[.int .i64 (k : Int)] 3)) w2 = SS at *
      refine wp_region_flowN 19 17 18 SS (by kernel_rfl) (by kernel_rfl) (by kernel_rfl) (by decide) (by decide) (by rw [S0.out]) ?_
      (repeat (first | (refine FlowN.skip (by rfl) (by rfl) (by rfl) ?_; simp only [Act.put, List.setIfInBounds_toArray, List.set_cons_zero, List.set_cons_succ]) | (refine' FlowN.take _ (by rfl) (by rfl) (by rfl) (fun W hW R hR => ?_) ?_; rotate_left; (go_simp; (try go_bits); with_reducible exact hR); simp only [Act.put, List.setIfInBounds_toArray, List.set_cons_zero, List.set_cons_succ])))
      refine FlowN.mark1 (.slice (some ⟨wr.heap.size, 0, none⟩) 1 1) (by rfl) (by rfl) (by rfl) (fun W hW => ⟨wr.drew.alloc (.cells #[.int .i64 (k : Int)] 3), ?_, by rw [S1.out]⟩) ?_
      · rw [S0.out] at hW
        subst hW
        go_simp
      simp only [Act.put, List.setIfInBounds_toArray, List.set_cons_zero, List.set_cons_succ]
      refine FlowN.mark2 (.slice (some ⟨g2, 0, none⟩) ((idxI g.es k q).length + 1) cap2) (by rfl) (by rfl) (by rfl) (fun W hW => ⟨w2, ?_, by rw [S2.out]⟩) ?_
      · rw [S1.out] at hW
        subst hW
        exact exec_append _ _ 34 rfl rfl rfl hrun'.out
      simp only [Act.put, List.setIfInBounds_toArray, List.set_cons_zero, List.set_cons_succ]
      intro W hW
      rw [S2.out] at hW
      subst hW
      have L7 := HL8.out.below ((Below.refl wr.heap.size wr).drew.alloc (by simp) (.cells #[.int .i64 (k : Int)] 3))
      have hR2 : W.rowIs w3.heap.size 34 N f := L7.row.of_block (HH.out.block _ L7.row.lt (fun e => L7.ne q hqN e.symm))
      have hF2 := hR2.cell hqN
      have hFr := hR2.frozen
      have L9 := hid (LL.put (y := (k : Int)) L7 hqN HH.out HO.out HVV.out)
      have hb9 := hid (LL.put_below (v := .slice (some ⟨g2, 0, none⟩) ((idxI g.es k q).length + 1) cap2) L7 (Nat.le_refl _) (by simp; omega) hqN HH.out)
      clear c0 c5 cF hrow hR2 L7
      go_wp2
      go_roundw
      case rel =>
        refine ⟨k + 1, _, by omega, by go_num, L9.out.congr ?_, ?_⟩
        · intro p hp
          rw [idxI_succ g.es k hlt, HX2.out]
          by_cases e : p = q
          · subst e; simp [HQ.out]
          · simp only [if_neg e]; rw [if_neg (by rw [HQ.out]; omega)]; simp
        · exact (HBW.out.trans (((Below.refl wr.heap.size wr).drew.alloc (by simp) (.cells #[.int .i64 (k : Int)] 3)).mono (by omega))).trans hb9.out
      case measure => simp [Go.RowKit.intOf]; omega
    · obtain rfl : k = g.es.length := by omega
      have HL := hid hL
      have HBW := hid (HB0.out.trans (hbw.mono (Nat.le_of_lt KX.out)))
      have EB := hid (E3.out.below hbw)
      have DB := hid (D3.out.below hbw)
      have SB := hid (S3.out.below hbw)
      obtain ⟨f0, f1, f2, f3, f4, f5, ff⟩ := blk6 k0
      have KB := hid k0
      clear hL hk hlt k0 hb hbw
      go_wp2_with fail
      clear f0 f1 f2 f3 f4 f5 ff
      (with_reducible refine (HAL.out wr).mono ?_)
      rintro e5 w5 ⟨rfl, hb5⟩
      have hmk5 := hmk.out w5
      have hgs5 := hb5.size
      have own5 := own_made w5 (base := wr.heap.size) hgs5 (show na ≤ 17592186044416 by omega)
      have n5 := new1 w5 (.cells (zcells na) 2)
      have hs5 : (w5.alloc (.cells (zcells na) 2)).heap.size = w5.heap.size + 1 := by simp
      have n6 := new1 (w5.alloc (.cells (zcells na) 2)) (.cells #[.slice (some ⟨w5.heap.size, 0, none⟩) na na, .slice none 0 0] 117)
      have k6 := Blk.new (w5.alloc (.cells (zcells na) 2)) 117 #[.slice (some ⟨w5.heap.size, 0, none⟩) na na, .slice none 0 0]
      have st6 : StAt ((w5.alloc (.cells (zcells na) 2)).alloc (.cells #[.slice (some ⟨w5.heap.size, 0, none⟩) na na, .slice none 0 0] 117)) wr.heap.size (w5.heap.size + 1) (some ⟨w5.heap.size, 0, none⟩) none na 0 (List.replicate na 0) [] :=
        ⟨by rw [List.length_replicate, ← hs5]; exact k6, by omega, own5.below n6, fun g e => by injection e with e; injection e with e; omega, At64.OwnR.nil _ _⟩
      have hb6 : Below wr.heap.size wr ((w5.alloc (.cells (zcells na) 2)).alloc (.cells #[.slice (some ⟨w5.heap.size, 0, none⟩) na na, .slice none 0 0] 117)) := (hb5.trans (n5.mono hgs5)).trans (n6.mono (by omega))
      go_upto_region 7 with fail
      clear hmk5 own5 n5 n6 k6 hb5
      clear hs5
      generalize (w5.alloc (.cells (zcells na) 2)).alloc (.cells #[.slice (some ⟨w5.heap.size, 0, none⟩) na na, .slice none 0 0] 117) = w6 at *
      obtain ⟨gs, hgs⟩ : ∃ gs, w5.heap.size + 1 = gs := ⟨_, rfl⟩
      rw [hgs] at st6 ⊢
      have hgw : wr.heap.size < gs := by omega
      have HV : Hid (∀ b0', b0' ≤ gs → True) := hid fun _ _ => trivial
      clear HV
      generalize hVV : (some ⟨w5.heap.size, 0, none⟩ : Option Addr) = V1 at *
      clear hVV hgs hgs5
      generalize wr = wB at *
      go_wp2
      go_loopw [12] (fun t wr => ∃ (k : Nat) (R : Option Addr) (rc : Nat) (zs : List At64.R1), k ≤ g.sz.length ∧ t = .int .i64 k ∧ zs.map (·.1) = (g.sz.take k).map (fun s => List.replicate s.toNat 0) ∧ StAt wr wB.heap.size gs V1 R na rc (List.replicate na 0) zs ∧ ApartR zs ∧ Below wB.heap.size wB wr) (fun t _ => g.sz.length - (Go.RowKit.intOf t).toNat)
      case atStart => exact ⟨0, none, 0, [], by omega, rfl, rfl, st6, ApartR.nil, hb6⟩
      case round =>
        clear st6 hb6
        obtain ⟨q, R, rc, zs, hk, rfl, hz, st, hap, hb⟩ := hrel
        have k0 := KB.out.below hb (by have := KB.out.lt; omega)
        by_cases hlt : q < g.sz.length
        · have hlt' : (q : Int) < (g.sz.length : Int) := by omega
          have hcz := HCZ.out _ (gI_mem hlt)
          obtain ⟨b2, off2, s2, rfl, hB2, -, cb2⟩ := (DB.out.below (hb.mono (by omega))).size hlt
          obtain ⟨nk, hnk⟩ := Int.eq_ofNat_of_zero_le (show 0 ≤ gI g.sz (q : Int) by omega)
          have hz2 : zs.length = q := by have := congrArg List.length hz; simp at this; omega
          have HZ : Hid ((zs ++ [((List.replicate nk (0 : Int), (none : Option Addr), 0) : At64.R1)]).map (fun (z : At64.R1) => z.1) = (g.sz.take (q + 1)).map (fun s => List.replicate s.toNat (0 : Int))) := hid (by
            rw [List.map_append, hz, List.take_succ_eq_append_getElem hlt, List.map_append]
            have : gI g.sz (q : Int) = g.sz[q] := by unfold gI; simp [hlt]
            rw [← this, hnk]; rfl)
          rw [hnk] at cb2 hcz
          have hnk0 : 1 ≤ (nk : Int) := hcz.1
          have hnk1 : (nk : Int) ≤ 1024 := hcz.2
          have HNK := hid (show nk ≤ 1024 by omega)
          have HZL := hid hz2
          have hgl := st.blk.lt
          have hgb := st.le
          have hw0 := KB.out.lt
          clear hz2 hnk hcz hz
          have x2 := k0.cell 2
          go_upto_region 10 with fail
          obtain ⟨A3, c3, w9, hrun, hst9, hap9, hb9, hb89⟩ := (st.up (Below.refl _ _).drew).new_row (w := wr.drew) hap nk HNK.out (by have := HZL.out; omega)
          have hrun' : (Builtin.append_ #[45, 45] 45 #[.slice R zs.length rc, .slice (some ⟨wr.heap.size + 1, 0, none⟩) 1 1]).run Tryz.prog ((wr.drew.alloc (.cells (zcells nk) 2)).alloc (.cells #[.slice (some ⟨wr.heap.size, 0, none⟩) nk nk] 28)) = .ok (.slice A3 (zs.length + 1) c3) w9 := hrun
          have FB : ∀ W, AnyB3 (SO wr.drew (wr.drew.alloc (.cells (zcells nk) 2)) ((wr.drew.alloc (.cells (zcells nk) 2)).alloc (.cells #[.slice (some ⟨wr.heap.size, 0, none⟩) nk nk] 28)) w9) W → Below (gs + 1) wr W := fun W hW => by
            rcases SO.any hW with rfl | rfl | rfl | rfl
            · exact (Below.refl _ _).drew
            · exact (((Below.refl wr.heap.size wr).drew.trans (show Below wr.heap.size wr.drew _ from new1 wr.drew _))).mono hgl
            · exact ((((Below.refl wr.heap.size wr).drew.trans (show Below wr.heap.size wr.drew _ from new1 wr.drew _))).trans ((new1 _ _).mono (by simp))).mono hgl
            · exact (Below.refl _ wr).drew.trans hb9
          have d1 : ∀ W, AnyB3 (SO wr.drew (wr.drew.alloc (.cells (zcells nk) 2)) ((wr.drew.alloc (.cells (zcells nk) 2)).alloc (.cells #[.slice (some ⟨wr.heap.size, 0, none⟩) nk nk] 28)) w9) W → W.cell? ⟨gs, 1, none⟩ = some (.slice R zs.length rc) := fun W hW => ((FB W hW).cell (p := ⟨gs, 1, none⟩) (by show gs < gs + 1; omega)).trans (st.blk.cell 1)
          have d2 : ∀ W, AnyB3 (SO wr.drew (wr.drew.alloc (.cells (zcells nk) 2)) ((wr.drew.alloc (.cells (zcells nk) 2)).alloc (.cells #[.slice (some ⟨wr.heap.size, 0, none⟩) nk nk] 28)) w9) W → W.cell? ⟨w.heap.size, 2, none⟩ = some (.slice (some ⟨b2, off2, none⟩) g.sz.length cd) := fun W hW => ((FB W hW).cell (p := ⟨w.heap.size, 2, none⟩) (by show w.heap.size < gs + 1; omega)).trans x2
          have dd : ∀ W, AnyB3 (SO wr.drew (wr.drew.alloc (.cells (zcells nk) 2)) ((wr.drew.alloc (.cells (zcells nk) 2)).alloc (.cells #[.slice (some ⟨wr.heap.size, 0, none⟩) nk nk] 28)) w9) W → W.cell? ⟨b2, off2 + q * 2 + 1, none⟩ = some (.int .i64 (nk : Int)) := fun W hW => ((FB W hW).cell (p := ⟨b2, off2 + q * 2 + 1, none⟩) (by show b2 < gs + 1; omega)).trans cb2
          have S0 : Hid (SO wr.drew (wr.drew.alloc (.cells (zcells nk) 2)) ((wr.drew.alloc (.cells (zcells nk) 2)).alloc (.cells #[.slice (some ⟨wr.heap.size, 0, none⟩) nk nk] 28)) w9 false false false = fun W => W = wr.drew) := hid rfl
          have S1 : Hid (SO wr.drew (wr.drew.alloc (.cells (zcells nk) 2)) ((wr.drew.alloc (.cells (zcells nk) 2)).alloc (.cells #[.slice (some ⟨wr.heap.size, 0, none⟩) nk nk] 28)) w9 true false false = fun W => W = wr.drew.alloc (.cells (zcells nk) 2)) := hid rfl
          have S2 : Hid (SO wr.drew (wr.drew.alloc (.cells (zcells nk) 2)) ((wr.drew.alloc (.cells (zcells nk) 2)).alloc (.cells #[.slice (some ⟨wr.heap.size, 0, none⟩) nk nk] 28)) w9 true true false = fun W => W = (wr.drew.alloc (.cells (zcells nk) 2)).alloc (.cells #[.slice (some ⟨wr.heap.size, 0, none⟩) nk nk] 28)) := hid rfl
          have S3 : Hid (SO wr.drew (wr.drew.alloc (.cells (zcells nk) 2)) ((wr.drew.alloc (.cells (zcells nk) 2)).alloc (.cells #[.slice (some ⟨wr.heap.size, 0, none⟩) nk nk] 28)) w9 true true true = fun W => W = w9) := hid rfl
          have HP := hid (And.intro hst9 hap9)
          have HB9 := hid (show Below wB.heap.size wB (w9.setCell ⟨gs, 1, none⟩ (.slice A3 (zs.length + 1) c3)) from (hb.trans (((Below.refl _ wr).drew.trans hb9).mono (by omega))).setCell (p := ⟨gs, 1, none⟩) hgb _)
          have HR3 := hid hrun'
          have hk9 := (st.blk.below ((Below.refl _ wr).drew.trans hb9) (by omega))
          have HFZ := hid (hk9.fr 1)
          have HC9 := hid (hk9.cell 1)
          have hmk2 := hid (run_make64 nk (by omega))
          generalize SO wr.drew (wr.drew.alloc (.cells (zcells nk) 2)) ((wr.drew.alloc (.cells (zcells nk) 2)).alloc (.cells #[.slice (some ⟨wr.heap.size, 0, none⟩) nk nk] 28)) w9 = SS at *
          clear hrun hrun' hst9 hap9 hb9 hb89 FB hk9 st hb x2 cb2 k0
          refine wp_region_flowO 14 11 12 13 SS (by kernel_rfl) (by kernel_rfl) (by kernel_rfl) (by kernel_rfl) (by decide) (by decide) (by decide) (by rw [S0.out]) ?_
          (repeat (refine' FlowO.take _ (by rfl) (by rfl) (by rfl) (by rfl) (fun W hW R hR => ?_) ?_; rotate_left; (go_simp; (try go_bits); with_reducible exact hR); simp only [Act.put, List.setIfInBounds_toArray, List.set_cons_zero, List.set_cons_succ]))
          refine FlowO.mark1 (.slice (some ⟨wr.heap.size, 0, none⟩) nk nk) (by rfl) (by rfl) (by rfl) (by rfl) (fun W hW => ⟨wr.drew.alloc (.cells (zcells nk) 2), ?_, by rw [S1.out]⟩) ?_
          · rw [S0.out] at hW
            subst hW
            have hmk3 := hmk2.out wr.drew
            go_simp
          simp only [Act.put, List.setIfInBounds_toArray, List.set_cons_zero, List.set_cons_succ]
          refine FlowO.mark2 (.slice (some ⟨wr.heap.size + 1, 0, none⟩) 1 1) (by rfl) (by rfl) (by rfl) (by rfl) (fun W hW => ⟨(wr.drew.alloc (.cells (zcells nk) 2)).alloc (.cells #[.slice (some ⟨wr.heap.size, 0, none⟩) nk nk] 28), ?_, by rw [S2.out]⟩) ?_
          · rw [S1.out] at hW
            subst hW
            go_simp
          simp only [Act.put, List.setIfInBounds_toArray, List.set_cons_zero, List.set_cons_succ]
          refine FlowO.mark3 (.slice A3 (zs.length + 1) c3) (by rfl) (by rfl) (by rfl) (by rfl) (fun W hW => ⟨w9, ?_, by rw [S3.out]⟩) ?_
          · rw [S2.out] at hW
            subst hW
            exact exec_append _ _ 45 rfl rfl rfl HR3.out
          simp only [Act.put, List.setIfInBounds_toArray, List.set_cons_zero, List.set_cons_succ]
          intro W hW
          rw [S3.out] at hW
          subst hW
          have hfz := HFZ.out
          have hc9 : W.cell? ⟨gs, 1, none⟩ = some (.slice R zs.length rc) := HC9.out
          clear d1 d2 dd
          go_wp2
          go_roundw
          case rel => exact ⟨q + 1, A3, c3, _, by omega, by go_num, by rw [← HZ.out]; simp, HP.out.1, HP.out.2, HB9.out⟩
          case measure => simp [Go.RowKit.intOf]; omega
        · obtain rfl : q = g.sz.length := by omega
          rw [List.take_length] at hz
          have HZ := hid hz
          obtain ⟨x0, hx0⟩ : ∃ x0, List.replicate na (0 : Int) = x0 := ⟨_, rfl⟩
          rw [hx0] at st
          have HX0 := hid hx0
          have hxl : x0.length = na := by rw [← hx0]; exact List.length_replicate
          have HXL := hid hxl
          have hx0l : x0.length ≤ 17592186044416 := by omega
          have s0 := st.blk.cell 0
          have x2 := k0.cell 2
          have hx := st.vars.rd
          have hgl := st.blk.lt
          have hap2 : ApL wr.heap.size gs zs := ⟨hap, hgl, st.lt_a⟩
          have HAP := hid hap2
          have HST := hid st
          have HB := hid hb
          have hbs := hb.size
          clear hz hx0 hxl st hb hap hap2 k0 hlt hk
          go_upto_region 12 with (at_builtin; go_loud (refine wpList_append_ints _ _ _ rfl rfl Tryz.underlying28 wr.heap.size none 0 [] rfl (own_nil _ _) wr.heap.size V1 na x0 x0 rfl hx rfl hx0l (Nat.le_refl _) ?_); intro A' c' w7 own7 hg7 ho7)
          have hb7 : Below wr.heap.size wr w7 := below_grown hg7 (fun k hk => by simp [Value.ownBlock] at hk) (Nat.le_refl _)
          have n8 := new1 w7 (.cells #[.int .i64 0, .int .i64 0, .slice A' x0.length c'] 78)
          have hb8 : Below wr.heap.size wr (w7.alloc (.cells #[.int .i64 0, .int .i64 0, .slice A' x0.length c'] 78)) := hb7.trans (n8.mono hb7.size)
          have hC8 : OwnC (w7.alloc (.cells #[.int .i64 0, .int .i64 0, .slice A' x0.length c'] 78)) wr.heap.size (some ⟨w7.heap.size, 0, none⟩) 1 [⟨0, 0, x0, A', c'⟩] := ownC_one (z := ⟨0, 0, x0, A', c'⟩) hb7.size own7 hx0l
          have st8 := HST.out.up hb8
          have hbB := HB.out.trans (hb8.mono hbs)
          clear own7 hg7 ho7 hb7 n8 hb8 hx s0 x2 HST HB
          generalize w7.heap.size = g7 at *
          generalize w7.alloc (.cells #[.int .i64 0, .int .i64 0, .slice A' x0.length c'] 78) = w8 at *
          generalize wr.heap.size = bT at *
          go_upto_block 4 with fail
          go_cut [13] (fun v wx => ComEnd g inp kn wB bT v wx)
          case first =>
            go_wp2_with fail
            go_loopg [13, 14, 15, 16] kn (fun gk v p i n wq => ∃ c, gk + c = kn ∧ ComInv g inp kn wB bT gs V1 na c v p i n wq)
            case atStart =>
              have e0 : x0 = List.replicate g.all.toNat 0 := by rw [← HX0.out, show g.all.toNat = na by have := HNA.out; omega]
              refine ⟨0, by omega, Nat.zero_le _, fun j hj => absurd hj (Nat.not_lt_zero _), _, _, [⟨0, 0, x0, A', c'⟩], 0, R, rc, zs, rfl, ?_, rfl, rfl, Nat.zero_le _, rfl, rfl, ?_, HZ.out, HAP.out, hC8, hbB⟩
              · rw [e0]; rfl
              · show StAt w8 wB.heap.size gs V1 R na rc (List.replicate g.all.toNat 0) zs
                rw [← e0]; exact st8
            case round =>
              clear hC8 st8 hbB HZ HAP
              obtain ⟨c, hgk, hck, hok, A, cap, zs, ic, R, rc, rows, rfl, hz, rfl, rfl, hic, hinp, rfl, st, hls, hap, hC, hb⟩ := hrel
              have hM := (MOk.zero (inp := inp) HC.out HII.out).at HC.out HI.out c (fun j hj => (okW_next (hok j hj)).1)
              obtain ⟨M, hMe⟩ : ∃ M, mAt g (mZero g inp) c = M := ⟨_, rfl⟩
              rw [hMe] at hinp st hls hM ⊢
              have hlen : zs.length = c + 1 := by have := congrArg List.length hz; rw [comesW_len, List.length_map] at this; exact this
              have HSTEP := hid (fun (h : okW g M = true) (j : Nat) (hj : j < c + 1) => (show okW g (mAt g (mZero g inp) j) = true from by
                by_cases e : j = c
                · rw [e, hMe]; exact h
                · exact hok j (by omega)))
              have HLEN := hid (fun (h : c < kn → okW g M = false) => lenW_is (g := g) (m := mZero g inp) hck hok (by rw [hMe]; exact h))
              have HEND := hid (fun (h : lenW g (mZero g inp) kn = c) W (hc : OwnC W bT A cap zs) (hb : Below wB.heap.size wB W) => (show ComEnd g inp kn wB bT (.slice A zs.length cap) W from ⟨A, cap, zs, rfl, by rw [h]; exact hz, hc, hb⟩))
              have HZ := hid hz
              have HME := hid hMe
              have HK := hid (And.intro hgk hck)
              have hkn2 : (kn : Int) ≤ k ∧ (kn : Int) ≤ most - 1 ∧ ((kn : Int) = k ∨ (kn : Int) = most - 1) := by have := HKN.out.1; omega
              have hck' : (c : Int) ≤ 65536 := by have := HKN.out.2; omega
              clear hz hMe hok hgk
              by_cases hcl : c < kn
              rotate_left
              · have HL := hid (HLEN.out (fun q => absurd q hcl))
                have ht : decide ((c : Int) < k) = false ∨ (decide ((c : Int) < k) = true ∧ decide ((zs.length : Int) < most) = false) := by
                  by_cases q : (c : Int) < k
                  · exact .inr ⟨decide_eq_true q, decide_eq_false (by omega)⟩
                  · exact .inl (decide_eq_false q)
                have HE := hid (HEND.out HL.out _ hC hb)
                clear hC hb st hap hls hM hinp hic hcl hck hkn2 hlen HEND HSTEP
                rcases ht with t1 | ⟨t1, t2⟩
                all_goals
                  go_wp2_with fail
                  go_meet
                  exact HE.out
              have t1 : decide ((c : Int) < k) = true := decide_eq_true (by omega)
              have t2 : decide ((zs.length : Int) < most) = true := decide_eq_true (by omega)
              have HLN := hid (And.intro hlen hkn2)
              have HCL := hid hcl
              clear hkn2 hlen hcl
              go_upto_region 16 with fail
              clear t1 t2
              have HMM := hid hM
              have hall : g.all = (na : Int) := HNA.out
              have hxl : M.xs.length = na := by have := hM.xl; omega
              have HXL := hid hxl
              have hpN : (M.p : Int) < (N : Int) := by have := hM.p; have := HN.out; omega
              have kq := KB.out.below hb (by have := KB.out.lt; omega)
              obtain ⟨cF, A4, c4, hf, hA⟩ := outs_sliceL (HL.out.below hb) (p := M.p) (by omega)
              rw [hf] at cF
              have hEq : RdE wr wr.heap.size E g.es := (EB.out.below (hb.mono (by have := KB.out.lt; have := hgw; omega))).more (by have := hb.size; omega)
              have HTK : Hid (∀ W, Below wr.heap.size wr W → Calls Tryz.prog 57 #[.agg #[.slice V g.nv cv, .int .i64 g.tm, .slice D g.sz.length cd, .int .i64 g.pts, .int .i64 g.ex, .slice E g.es.length ce], .pointer (some ⟨gs, 0, none⟩), .slice A4 (idxE g.es g.es.length M.p).length c4] W fun e w' => e = .returned (.int .i64 (takenW g.es M.xs (idxE g.es g.es.length M.p))) ∧ Below W.heap.size W w') := hid (fun W hX => by
                refine taken_ok g V D E cv cd ce gs V1 na (.slice R rows.length rc) M.xs _ A4 c4 W (hEq.up hX) ces (st.blk.later hX) (st.vars.rd.up hX) (by omega) (hA.up hX) ?_ (fun i h => taken_idx _ h) (fun i h => ?_)
                · have := idxI_len g.es g.es.length M.p
                  unfold idxI at this
                  rw [ints_len] at this
                  omega
                · have h1 := HCR.out _ (eAt_mem (taken_idx _ h))
                  rw [hall, ← hxl] at h1
                  have ha := right_a h1
                  have hb := right_b h1
                  omega)
              obtain ⟨f0, f1, f2, f3, f4, f5, ff⟩ := blk6 kq
              have l0 := later f0
              have l1 := later f1
              have l2 := later f2
              have l3 := later f3
              have l4 := later f4
              have l5 := later f5
              have lF := later cF
              have HST := hid (And.intro st (And.intro hls hap))
              have HCO := hid hC
              have HB := hid hb
              clear f0 f1 f2 f3 f4 f5 ff cF kq hf hA hEq hM hxl st hls hap hC hb
              refine wp_region_flow 6 (fun W => Below wr.heap.size wr W) (by kernel_rfl) (by kernel_rfl) (Below.refl _ _).drew ?_
              (repeat (first | (refine Flow.skip (by rfl) ?_; simp only [Act.put, List.setIfInBounds_toArray, List.set_cons_zero, List.set_cons_succ]) | (refine' Flow.take _ (by rfl) (fun W hW R hR => ?_) ?_; rotate_left; (go_simp; (try go_bits); with_reducible exact hR); simp only [Act.put, List.setIfInBounds_toArray, List.set_cons_zero, List.set_cons_succ])))
              intro w8 hb8
              clear l0 l1 l2 l3 l4 l5 lF
              go_wp2_with fail
              (with_reducible refine (HTK.out w8 hb8).mono ?_)
              rintro e9 w9 ⟨rfl, hb9⟩
              replace hb9 : Below wr.heap.size wr w9 := hb8.trans (hb9.mono hb8.size)
              clear HTK hb8
              have hb19 : Below wB.heap.size wB w9 := HB.out.trans (hb9.mono HB.out.size)
              have st9 := HST.out.1.up hb9
              have hC9 := HCO.out.below hb9
              have HB9 := hid hb19
              have HS9 := hid st9
              have HC9 := hid hC9
              have k9 := KB.out.below hb19 (by have := KB.out.lt; omega)
              clear HB hb9 HCO
              have HNX : Hid (takenW g.es M.xs (idxE g.es g.es.length M.p) = nextW g M) := hid rfl
              rw [HNX.out]
              by_cases hT : nextW g M < 0
              · have HL := hid (HLEN.out (fun _ => by unfold okW stopsW; rw [decide_eq_true hT]; simp))
                have HE := hid (HEND.out HL.out _ hC9 hb19)
                have t1 : decide (nextW g M < 0) = true := decide_eq_true hT
                generalize nextW g M = T at *
                clear hT st9 hC9 hb19 k9 HLEN HSTEP HEND
                go_wp2_with fail
                go_meet
                exact HE.out
              obtain ⟨ie, hie, hil, -, hne⟩ := next_in hT
              obtain ⟨x, hx⟩ : ∃ x, nextE g M = x := ⟨_, rfl⟩
              have hxe : g.es[ie] = x := by rw [eAt_eq hil, ← hne, hx]
              have hxm : x ∈ g.es := hxe ▸ List.getElem_mem hil
              have HXX := hid hx
              have HIE := hid hie
              have HXM := hid hxm
              have HT0 := hid hT
              have HXE := hid (fun (h : ie < g.es.length) => (show g.es[ie]'h = x from hxe))
              have hil' : (ie : Int) < (g.es.length : Int) := by omega
              have HIL := hid hil
              have t1 : decide (nextW g M < 0) = false := decide_eq_false hT
              rw [hie] at t1 ⊢
              have hE9 : RdE w9 w3.heap.size E g.es := EB.out.below (hb19.mono (by have := hgw; have := KB.out.lt; omega))
              obtain ⟨bE, oE, hEe, hBE, p0, p1, p2, p3, p4, p5, p6, p7, p8, p9⟩ := hE9.get hil hxe
              subst hEe
              have c5 := k9.cell 5
              clear hE9 hT hie hx hne hxe hxm hil st9 hC9
              have HNE : Hid (¬ (x.kd = 9 ∧ ic = inp.length) → stopsW g M = false) := hid (fun hst => by
                unfold stopsW
                rw [decide_eq_false HT0.out, HXX.out, Bool.false_or]
                by_cases e : x.kd = 9
                · have : ¬ ic = inp.length := fun q => hst ⟨e, q⟩
                  rw [hinp]
                  cases hm : inp.drop ic with
                  | nil => rw [List.drop_eq_nil_iff] at hm; omega
                  | cons a l => simp
                · rw [decide_eq_false e, Bool.false_and])
              by_cases hstop : x.kd = 9 ∧ ic = inp.length
              · obtain ⟨hk9, hic2⟩ := hstop
                have HL := hid (HLEN.out (fun _ => by unfold okW stopsW; rw [HXX.out, hk9, hinp, hic2]; simp))
                have HE := hid (HEND.out HL.out _ HC9.out HB9.out)
                have t2 : (x.kd == 9) = true := by rw [hk9]; rfl
                have t3 : ((ic : Int) == (inp.length : Int)) = true := by rw [hic2]; simp
                have t4 : (ic == inp.length) = true := by rw [hic2]; simp
                clear hk9 hic2 HLEN HSTEP HEND hb19 k9 hinp hic
                go_wp2_with fail
                go_meet
                exact HE.out
              have HNS := hid (HNE.out hstop)
              clear HNE
              have HIC := hid hic
              have HINP := hid hinp
              have hcs : ∃ (iv : Int) (ic2 : Nat), ic2 ≤ inp.length ∧ inW g M = iv ∧ (if x.kd = 9 then M.inp.tail else M.inp) = inp.drop ic2 ∧
                  (((x.kd == 9) = false ∧ iv = 0 ∧ ic2 = ic) ∨ ((x.kd == 9) = true ∧ ((ic : Int) == (inp.length : Int)) = false ∧ (ic == inp.length) = false ∧ (ic : Int) < (inp.length : Int) ∧ ic2 = ic + 1 ∧ ∃ b off, S = some ⟨b, off, none⟩ ∧ w9.cell? ⟨b, off + ic, none⟩ = some (.int .i64 iv))) := by
                by_cases e : x.kd = 9
                · have hlt : ic < inp.length := by
                    have : ¬ ic = inp.length := fun q => hstop ⟨e, q⟩
                    omega
                  have hd : inp.drop ic = inp[ic] :: inp.drop (ic + 1) := List.drop_eq_getElem_cons hlt
                  obtain ⟨b, off, h1, h2, h3⟩ := (SB.out.below (hb19.mono (by have := hgw; have := KB.out.lt; omega))) ic hlt
                  have hgi : gI inp (ic : Int) = inp[ic] := by unfold gI; simp [hlt]
                  refine ⟨inp[ic], ic + 1, hlt, ?_, ?_, .inr ⟨by rw [e]; rfl, by rw [beq_eq_false_iff_ne]; omega, by rw [beq_eq_false_iff_ne]; omega, by omega, rfl, b, off, h1, by rw [← hgi]; exact h3⟩⟩
                  · unfold inW
                    rw [HXX.out, if_pos e, hinp, hd]; rfl
                  · rw [if_pos e, hinp, hd]; rfl
                · refine ⟨0, ic, hic, ?_, ?_, .inl ⟨by rw [beq_eq_false_iff_ne]; exact e, rfl, rfl⟩⟩
                  · unfold inW
                    rw [HXX.out, if_neg e]
                  · rw [if_neg e]; exact hinp
              obtain ⟨iv, ic2, hic2, hiw, hdrop, hcs⟩ := hcs
              have HIC2 := hid hic2
              have HIW := hid hiw
              have HDR := hid hdrop
              clear hic2 hiw hdrop hic hinp hstop
              have HDO : Hid (Calls Tryz.prog 58 #[.pointer (some ⟨gs, 0, none⟩), .agg #[.int .i64 x.fr, .int .i64 x.te, .int .i64 x.kd, .int .i64 x.dst, .int .i64 x.arr, .int .i64 x.op, .int .i64 x.av, .int .i64 x.an, .int .i64 x.bv, .int .i64 x.bn], .int .i64 iv] w9 (DoesAll w9 wB.heap.size bT gs V1 R na rc (doesW (rows.map (·.1)) x M.xs iv) (rowsW (rows.map (·.1)) x M.xs))) := hid (by
                have hrt := HCR.out _ HXM.out
                have hrl : rows.length = g.sz.length := by
                  have := congrArg List.length HST.out.2.1
                  rw [List.length_map] at this
                  rw [this]; exact HMM.out.ll
                rw [HNA.out, ← HXL.out, ← hrl] at hrt
                have h := does_all x iv wB.heap.size gs V1 R na rc M.xs rows w9 HS9.out hrt HMM.out.xi (HI.out _ HXM.out).1 (HI.out _ HXM.out).2 (by have := HXL.out; omega) (fun z hz => by
                  have h1 : z.1 ∈ M.ls := by rw [← HST.out.2.1]; exact List.mem_map_of_mem hz
                  obtain ⟨j, hj, e⟩ := List.getElem_of_mem h1
                  have h2 := HMM.out.lz j hj
                  have h3 := HCZ.out _ (gI_mem (sz := g.sz) (k := j) (by have := HMM.out.ll; omega))
                  rw [← e]; omega) bT HST.out.2.2
                exact h)
              rw [HST.out.2.1] at HDO
              have HWR : Hid (wrongW g M = (doesW M.ls x M.xs iv).1) := hid (by unfold wrongW; rw [HXX.out, HIW.out])
              have HST2 : Hid (stepW g M = ⟨x.te.toNat, (doesW M.ls x M.xs iv).2, rowsW M.ls x M.xs, inp.drop ic2⟩) := hid (by
                unfold stepW; rw [HXX.out, HIW.out, HDR.out])
              have HDL : Hid ((doesW M.ls x M.xs iv).2.length = na) := hid (by rw [doesW_len]; exact HXL.out)
              generalize hqw : doesW M.ls x M.xs iv = qw at *
              obtain ⟨qw, qx⟩ := qw
              dsimp only at *
              clear hqw
              rcases hcs with ⟨t2, rfl, hic2⟩ | ⟨t2, t3, t4, t5, hic2, bS, oS, rfl, cS⟩
              all_goals
                have HI2 := hid hic2
                clear hic2
                go_upto_region 22 with fail
                go_wp2_with fail
                clear t1 t2 p2
                try clear t3 t4 t5 cS
                (with_reducible refine HDO.out.mono ?_)
                clear HDO c5 p0 p1 p3 p4 p5 p6 p7 p8 p9
                rintro e10 w10 ⟨rfl, rows', hls', st10, hap10, hO10⟩
                have hbA : Below wB.heap.size wB w10 := HB9.out.trans hO10.low
                have hC10 := HC9.out.off hO10 (Nat.le_refl _)
                dsimp only at hls' st10
                by_cases hw : qw = 0
                rotate_left
                · have HL := hid (HLEN.out (fun _ => by unfold okW; rw [HNS.out, HWR.out, decide_eq_false hw]; rfl))
                  have HE := hid (HEND.out HL.out _ hC10 hbA)
                  have t6 : (qw != 0) = true := by rw [bne_iff_ne]; exact hw
                  clear hw hC10 hbA st10 hap10 hls' HLEN HSTEP HEND hO10 hb19 k9
                  go_wp2_with fail
                  go_meet
                  exact HE.out
                subst hw
                have HOK : Hid (okW g M = true) := hid (by unfold okW; rw [HNS.out, HWR.out]; rfl)
                have hte : 0 ≤ x.te := by
                  obtain ⟨-, -, hin, -⟩ := chk_in HC.out
                  have h1 := hin x HXM.out
                  unfold inE at h1
                  rw [decide_eq_true_eq] at h1
                  omega
                have HTE := hid hte
                have kA := KB.out.below hbA (by have := KB.out.lt; omega)
                obtain ⟨_, _, hE2, _, -, p1, -⟩ := (EB.out.below (hbA.mono (by have := hgw; have := KB.out.lt; omega))).get HIL.out (HXE.out HIL.out)
                injection hE2 with hE2; injection hE2 with hE2a hE2b; subst hE2a; subst hE2b
                have c5 := kA.cell 5
                have s0 := st10.blk.cell 0
                have hxr := st10.vars.rd
                have hql : qx.length ≤ 17592186044416 := by have := HDL.out; omega
                have hbs := st10.blk.lt
                have hbT : bT ≤ w10.heap.size := by
                  have := HLN.out.1
                  rcases hC10.form with ⟨-, e, -⟩ | ⟨_, _, _, h1, h2, _⟩
                  · rw [e] at this; simp at this
                  · omega
                have HAA := hid (And.intro hls' hap10)
                have HSA := hid st10
                have HCA := hid hC10
                have HBA := hid hbA
                clear hls' hap10 st10 hC10 hbA hO10 hte kA
                go_upto_region 24 with fail
                clear p1 c5
                go_wp2_with (
                  at_builtin
                  first
                    | (refine wpList_append_ints _ _ _ rfl rfl Tryz.underlying28 bT none 0 [] rfl (own_nil _ _) w10.heap.size V1 na qx qx rfl hxr rfl hql hbT ?_
                       intro A' c' w11 own11 hg11 ho11
                       have hb11 : Below w10.heap.size w10 w11 := below_grown hg11 (fun k hk => by simp [Value.ownBlock] at hk) (Nat.le_refl _)
                       have nA := new1 w11 (.cells #[.int .i64 x.te, .int .i64 ((c : Int) + 1), .slice A' qx.length c'] 78)
                       have kC := Blk.new w11 78 #[.int .i64 x.te, .int .i64 ((c : Int) + 1), .slice A' qx.length c']
                       have ownA := own11.below nA
                       have hb12 : Below w10.heap.size w10 (w11.alloc (.cells #[.int .i64 x.te, .int .i64 ((c : Int) + 1), .slice A' qx.length c'] 78)) := hb11.trans (nA.mono hb11.size)
                       have hC12 := HCA.out.below hb12
                       have stB := HSA.out.up hb12
                       have hbB := HBA.out.trans (hb12.mono HBA.out.size)
                       have hs12 := hb12.size
                       have hzl : zs.length + 1 ≤ 1000000 := by have := HLN.out.1; omega
                       clear hg11 ho11 own11 hb11 nA hb12)
                    | (refine wpList_append_come _ _ rfl rfl bT A cap zs ⟨x.te, (c : Int) + 1, qx, A', c'⟩ rfl hC12 w11.heap.size rfl kC ownA hql hzl (Nat.le_trans hbT hs12) ?_
                       intro A2 cap2 w12 hC13 hg13))
                have hrow : ∀ kk, (Value.slice A zs.length cap).ownBlock = some kk → bT ≤ kk ∧ ∃ cs, Blk (w11.alloc (.cells #[.int .i64 x.te, .int .i64 ((c : Int) + 1), .slice A' qx.length c'] 78)) kk 78 cs := fun kk hkk => by
                  rcases hC12.form with ⟨rfl, _⟩ | ⟨g', cs, rfl, h1, h2, h3⟩
                  · simp [Value.ownBlock] at hkk
                  · simp [Value.ownBlock] at hkk; subst hkk; exact ⟨h1, cs, h3⟩
                have hO13 := OnlyT.of_grown hg13 (fun kk hkk => (hrow kk hkk).2)
                have hgbT : wB.heap.size ≤ bT := by have := HAA.out.2.g; omega
                have hb13 := below_grown (B := wB.heap.size) hg13 (fun kk hkk => by have := (hrow kk hkk).1; omega) (by have := hbB.size; omega)
                have hst13 := stB.only hO13 (by decide) (by decide) (by decide)
                have hb14 := hbB.trans hb13
                go_roundg (gk - 1)
                case measure => have := HK.out.1; have := HCL.out; omega
                case rel =>
                  have hM1 : mAt g (mZero g inp) (c + 1) = stepW g M := by show stepW g (mAt g (mZero g inp) c) = _; rw [HME.out]
                  have hp1 : ((mAt g (mZero g inp) (c + 1)).p : Int) = x.te := by rw [hM1, HST2.out]; exact Int.toNat_of_nonneg HTE.out
                  have hx1 : (mAt g (mZero g inp) (c + 1)).xs = qx := by rw [hM1, HST2.out]
                  refine ⟨c + 1, by have := HK.out.1; have := HCL.out; omega, by have := HCL.out; omega, HSTEP.out HOK.out, A2, cap2, zs ++ [⟨x.te, (c : Int) + 1, qx, A', c'⟩], ic2, R, rc, rows', by rw [List.length_append, List.length_singleton], comes_snoc HZ.out ?_, by rw [hp1], ?_, HIC2.out, ?_, by go_num, ?_, ?_, HAA.out.2, hC13, hb14⟩
                  · rw [hp1, hx1]; rfl
                  · first | (rw [HI2.out]; done) | (rw [HI2.out]; go_num)
                  · rw [hM1, HST2.out]
                  · rw [hx1]; exact hst13
                  · rw [hM1, HST2.out]; exact HAA.out.1.symm
          case rest =>
            obtain ⟨A, cap, zs, rfl, hz, hC, hb⟩ := hcut
            have HB := hid (HBW.out.trans (hb.mono (by have := HBW.out.size; omega)))
            have HCC := hid (hC.less (b2 := w.heap.size) (by have := HBW.out.size; omega))
            have HZZ := hid hz
            clear hz hC hb
            go_wp2
            go_ret
            exact ⟨A, cap, zs, rfl, HZZ.out, HCC.out, HB.out⟩
end Go.Proofs.YtkncebcekhfnfaaGreat
