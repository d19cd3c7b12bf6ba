import Derived.Test.YtnmpgijiimglcaaGreatBSo28
namespace Go.Proofs.YtnmpgijiimglcaaGreat
open Go.RowKit
set_option maxRecDepth 100000
set_option maxHeartbeats 8000000
attribute [local go_sem ↓] Go.wp_at_zero Go.wp_at_succ
def RdR (w : World) (B : Nat) (A : Option Addr) (ls : List (List Int)) : Prop :=
 ∀ k, (h : k < ls.length) → ∃ b off Ak ck, A = some ⟨b, off, none⟩ ∧ b < B ∧ w.cell? ⟨b, off + k, none⟩ = some (.slice Ak ls[k].length ck) ∧ Rd w B Ak ls[k]
theorem RdR.up {w w' : World} {A : Option Addr} {ls : List (List Int)} (h : RdR w w.heap.size A ls) (hb : Below w.heap.size w w') : RdR w' w'.heap.size A ls := fun k hk => by
 obtain ⟨b, off, Ak, ck, h1, h2, h3, h4⟩ := h k hk
 exact ⟨b, off, Ak, ck, h1, Nat.lt_of_lt_of_le h2 hb.size, (hb.cell (p := ⟨b, _, none⟩) h2).trans h3, h4.up hb⟩
def oneW (g : Gr) (ls : List (List Int)) (xs : List Int) (input : Int) (p : Nat) : Int × Int × List Int :=
 if takenW g.es xs (idxE g.es g.es.length p) < 0 then (-1, 0, xs)
 else (takenW g.es xs (idxE g.es g.es.length p), (doesW ls (eAt g.es (takenW g.es xs (idxE g.es g.es.length p)).toNat) xs input).1, (doesW ls (eAt g.es (takenW g.es xs (idxE g.es g.es.length p)).toNat) xs input).2)
def OneRes (w : World) (p : Int × Int × List Int) (e : Ending) (w' : World) : Prop :=
 ∃ A c, e = .returned (.tuple #[p.1, p.2.1, .slice A p.2.2.length c, .int .i64 0]) ∧ Own w' w.heap.size A c p.2.2 ∧ Below w.heap.size w w'
theorem taken_mem (es : List Edg) (xs : List Int) : ∀ (ix : List Nat), takenW es xs ix < 0 ∨ ∃ i ∈ ix, takenW es xs ix = (i : Int) ∧ goesB xs (eAt es i) = true
 | [] => .inl (by unfold takenW; omega)
 | i :: r => by
  rw [takenW_cons]
  by_cases h : goesB xs (eAt es i) = true
  ·rw [if_pos h]; exact .inr ⟨i, by simp, rfl, h⟩
  ·rw [if_neg h]
   rcases taken_mem es xs r with h | ⟨j, hj, h⟩
   ·exact .inl h
   ·exact .inr ⟨j, by simp [hj], h⟩
theorem chk_parts {g : Gr} (h : chk g = 0) : 0 ≤ g.tm ∧ g.tm ≤ 64 ∧ g.all ≤ 64 ∧ g.es.length ≤ 8192 ∧ g.sz.length ≤ 16 ∧ (∀ s ∈ g.sz, 1 ≤ s ∧ s ≤ 1024) ∧ (∀ e ∈ g.es, rightE g.all g.sz.length e = true) := by
 unfold chk at h
 by_cases h1 : varsBad g = true
 ·rw [if_pos h1] at h; omega
 ·rw [if_neg h1] at h
  by_cases h2 : ptsBad g = true
  ·rw [if_pos h2] at h; omega
  ·rw [if_neg h2] at h
   by_cases h3 : formOk g = true
   ·unfold varsBad at h1
    unfold ptsBad at h2
    rw [decide_eq_true_eq] at h1 h2
    unfold formOk at h3
    simp only [Bool.and_eq_true, decide_eq_true_eq, List.all_eq_true] at h3
    obtain ⟨⟨⟨⟨h4, h5⟩, -⟩, h6⟩, -⟩ := h3
    refine ⟨by omega, by omega, by omega, by omega, h4, fun s hs => ?_, fun e he => ?_⟩
    ·have := h5 s hs
     unfold arrOk at this
     rwa [decide_eq_true_eq] at this
    ·have := h6 e he
     unfold edgeOk at this
     rw [Bool.and_eq_true] at this
     exact this.2
   ·rw [if_neg h3] at h; omega
theorem taken_idx (p : Nat) {es : List Edg} {i : Nat} (h : i ∈ idxE es es.length p) : i < es.length := idx_lt h
theorem eAt_mem {es : List Edg} {i : Nat} (h : i < es.length) : eAt es i ∈ es := by rw [← eAt_eq h]; exact List.getElem_mem h
theorem RdR.below {w w' : World} {B : Nat} {A : Option Addr} {ls : List (List Int)} (h : RdR w B A ls) (hb : Below B w w') : RdR w' B A ls := fun k hk => by
 obtain ⟨b, off, Ak, ck, h1, h2, h3, h4⟩ := h k hk
 exact ⟨b, off, Ak, ck, h1, h2, (hb.cell (p := ⟨b, _, none⟩) h2).trans h3, h4.below hb⟩
def IsIdx (ix : List Nat) (v : Value) (_ wb : World) : Prop := ∃ A c, v = .slice A ix.length c ∧ AtInt.Own wb 0 A c (ints ix)
theorem fact_idx {w0 W : World} {ix : List Nat} {v : Value} {lo hi : Nat} (h : Sp.fact w0 (Sp.any (IsIdx ix)) v lo hi W) : ∃ A c, v = .slice A ix.length c ∧ AtInt.Own W 0 A c (ints ix) := by
 obtain ⟨wa, wb, _, _, h3, _, _, A, c, e, own⟩ := h
 exact ⟨A, c, e, own.below h3⟩
theorem map_snoc {zs : List At64.R1} {ls : List (List Int)} {k : Nat} (h : zs.map (·.1) = ls.take k) (hk : k < ls.length) (A : Option Addr) (c : Nat) : (zs ++ [(ls[k], A, c)]).map (·.1) = ls.take (k + 1) := by
 rw [List.map_append, h, List.take_succ_eq_append_getElem hk]; rfl
theorem gI_mem {sz : List Int} {k : Nat} (h : k < sz.length) : gI sz (k : Int) ∈ sz := by
 unfold gI; simp [h]
theorem StAt.put_row {w w4 : World} {b0 gs vc rc c3 : Nat} {V R A3 : Option Addr} {xs : List Int} {zs : List At64.R1} {z : At64.R1} (h : StAt w b0 gs V R vc rc xs zs) (hb : Below (gs + 1) w w4) (hv : Own w4 b0 V vc xs) (h3 : At64.OwnR w4 (gs + 1) A3 c3 (zs ++ [z])) :
  StAt (w4.setCell ⟨gs, 1, none⟩ (.slice A3 (zs ++ [z]).length c3)) b0 gs V A3 vc c3 xs (zs ++ [z]) := by
 have hk : Blk w4 gs 109 #[.slice V xs.length vc, .slice R zs.length rc] := h.blk.below hb (by omega)
 exact ⟨hk.set_ 1 _, h.le, hv.far1 (fun g e => by have := h.vlt g e; omega), h.vlt, h3.setFar (by show gs < gs + 1; omega) _⟩
theorem r10one_ok (g : Gr) (V D E : Option Addr) (cv cd ce : Nat) (xs : List Int) (X : Option Addr) (xc : Nat) (ls : List (List Int)) (A0 : Option Addr) (c0 : Nat) (input : Int) (p : Nat) (w : World)
  (hD : RdD w w.heap.size D g.sz) (hE : RdE w w.heap.size E g.es) (hxs : Rd w w.heap.size X xs) (hls : RdR w w.heap.size A0 ls) (hI : I64s xs) (hi : ∀ e ∈ g.es, I64 e.an ∧ I64 e.bn)
  (hc : chk g = 0) (hp : (p : Int) < g.pts) (hxl : (xs.length : Int) = g.all) (hll : ls.length = g.sz.length) (hlz : ∀ k (h : k < ls.length), (ls[k].length : Int) = gI g.sz k) :
  Calls Tryz.prog 37 #[grV g V D E cv cd ce, .slice X xs.length xc, .slice A0 ls.length c0, input, (p : Int)] w (OneRes w (oneW g ls xs input p)) := by
 obtain ⟨ct0, ct1, ca, ces, csz, cz, cr⟩ := chk_parts hc
 have i1 : g.all = g.nv + g.tm := rfl
 have d2 : xs.length ≤ 64 := by omega
 have hl16 : ls.length ≤ 16 := by omega
 have b4 := hid (fun k (h : k < ls.length) => show ls[k].length ≤ 1024 from by
  have h1 := hlz k h
  have h2 := cz (gI g.sz k) (gI_mem (by omega))
  omega)
 have g6 : Hid (∀ i ∈ idxE g.es g.es.length p, i < g.es.length) := hid (fun i h => taken_idx p h)
 have b9 : Hid ((idxE g.es g.es.length p).length ≤ 8192) := hid (by
  have := idxI_len g.es g.es.length p
  unfold idxI at this
  rw [ints_len] at this
  omega)
 have HRV : Hid (∀ i ∈ idxE g.es g.es.length p, (eAt g.es i).av < xs.length ∧ (eAt g.es i).bv < xs.length) := hid (fun i h => by
  have h1 := cr _ (eAt_mem (taken_idx p h))
  rw [← hxl] at h1
  have ha := right_a h1
  have hb := right_b h1
  omega)
 have HRT : Hid (∀ i, i < g.es.length → rightE (xs.length : Int) (ls.length : Int) (eAt g.es i) = true) := hid (fun i h => by
  have h1 := cr _ (eAt_mem h)
  rw [← hxl, ← hll] at h1
  exact h1)
 have c9 := hid (fun i (h : i < g.es.length) => hi _ (eAt_mem h))
 have HII := hid hI
 have HLZ := hid hlz
 have d3 := hid (taken_mem g.es xs (idxE g.es g.es.length p))
 have HO : Hid (oneW g ls xs input p = if takenW g.es xs (idxE g.es g.es.length p) < 0 then (-1, 0, xs) else (takenW g.es xs (idxE g.es g.es.length p), (doesW ls (eAt g.es (takenW g.es xs (idxE g.es g.es.length p)).toNat) xs input).1, (doesW ls (eAt g.es (takenW g.es xs (idxE g.es g.es.length p)).toNat) xs input).2)) := hid rfl
 have HCK : Hid (∀ W, RdD W W.heap.size D g.sz → RdE W W.heap.size E g.es → Calls Tryz.prog 80 #[.agg #[.slice V g.nv cv, .int .i64 g.tm, .slice D g.sz.length cd, .int .i64 g.pts, .int .i64 g.ex, .slice E g.es.length ce]] W fun e w' => e = .returned (.int .i64 0) ∧ Below W.heap.size W w') := hid (fun W h1 h2 => by
  have := rgcheck_any g V D E cv cd ce W h1 h2 (by omega) (by omega) (by omega)
  rw [hc] at this
  exact this)
 have HAL : Hid (∀ W, Calls Tryz.prog 81 #[.agg #[.slice V g.nv cv, .int .i64 g.tm, .slice D g.sz.length cd, .int .i64 g.pts, .int .i64 g.ex, .slice E g.es.length ce]] W fun e w' => e = .returned (.int .i64 (xs.length : Int)) ∧ Below W.heap.size W w') := hid (fun W => by
  have := all_any g V D E cv cd ce W ct0 ct1 (by omega)
  rw [← hxl] at this
  exact this)
 have f8 : Hid (∀ W, RdE W W.heap.size E g.es → Calls Tryz.prog 83 #[.agg #[.slice V g.nv cv, .int .i64 g.tm, .slice D g.sz.length cd, .int .i64 g.pts, .int .i64 g.ex, .slice E g.es.length ce], (p : Int)] W fun e w2 => ∃ v, e = .returned v ∧ Ext W w2 ∧ IsIdx (idxE g.es g.es.length p) v W w2) := hid (fun W h => (rout_any g V D E cv cd ce p W h ces).mono fun e w2 ⟨A, c, he, own, hb⟩ => ⟨_, he, hb, A, c, by unfold idxI; rw [ints_len], own.less (Nat.zero_le _)⟩)
 have HTK : Hid (∀ gs V' vc r X' xc' W, RdE W W.heap.size E g.es → Blk W gs 109 #[.slice V' xs.length vc, r] → Rd W W.heap.size V' xs → Rd W W.heap.size X' (ints (idxE g.es g.es.length p)) →
   Calls Tryz.prog 82 #[.agg #[.slice V g.nv cv, .int .i64 g.tm, .slice D g.sz.length cd, .int .i64 g.pts, .int .i64 g.ex, .slice E g.es.length ce], .pointer (some ⟨gs, 0, none⟩), .slice X' (idxE g.es g.es.length p).length xc'] W fun e w' => e = .returned (.int .i64 (takenW g.es xs (idxE g.es g.es.length p))) ∧ Below W.heap.size W w') := hid (fun gs V' vc r X' xc' W h1 h2 h3 h4 => taken_ok g V D E cv cd ce gs V' vc r xs _ X' xc' W h1 ces h2 h3 d2 h4 b9.out g6.out HRV.out)
 have hp0 : (0 : Int) ≤ (p : Int) := by omega
 have hll' : (ls.length : Int) = (g.sz.length : Int) := by omega
 have n0 := new1 w (.cells #[.slice V g.nv cv, .int .i64 g.tm, .slice D g.sz.length cd, .int .i64 g.pts, .int .i64 g.ex, .slice E g.es.length ce] 64)
 have k0 := Blk.new w 64 #[.slice V g.nv cv, .int .i64 g.tm, .slice D g.sz.length cd, .int .i64 g.pts, .int .i64 g.ex, .slice E g.es.length ce]
 replace hD := hD.up n0
 replace hE := hE.up n0
 replace hxs := hxs.up n0
 replace hls := hls.up n0
 clear hc hi hI hlz cz cr i1 ca hxl ct0 ct1
 unfold grV
 go_enter Tryz.func37, Tryz.ntmps37
 obtain ⟨f0, f1, f2, f3, f4, f5, ff⟩ := blk6 k0
 go_wp2_with fail
 clear f0 f1 f2 f3 f4 f5 ff
 have hsz1 := n0.size
 generalize w.alloc (.cells #[.slice V g.nv cv, .int .i64 g.tm, .slice D g.sz.length cd, .int .i64 g.pts, .int .i64 g.ex, .slice E g.es.length ce] 64) = w1 at *
 (with_reducible refine (HCK.out w1 hD hE).mono ?_)
 rintro e1 w2 ⟨rfl, a8⟩
 have k2 := k0.later a8
 obtain ⟨f0, f1, f2, f3, f4, f5, ff⟩ := blk6 k2
 go_wp2_with fail
 (with_reducible refine (HAL.out w2).mono ?_)
 clear f0 f1 f2 f3 f4 f5 ff k2
 rintro e2 w3 ⟨rfl, hb3⟩
 have a3 := bup a8 hb3
 clear a8 hb3
 have k3 := k0.later a3
 obtain ⟨f0, f1, f2, f3, f4, f5, ff⟩ := blk6 k3
 have hx3 := hxs.up a3
 go_wp2_with (at_builtin; go_loud (refine wpList_append_ints _ _ _ rfl rfl Tryz.underlying22 w1.heap.size none 0 [] rfl (own_nil _ _) w3.heap.size X xc xs xs rfl hx3 rfl (by omega) a3.size ?_); intro A' c' w4 a1 hg4 ho4)
 clear f0 f1 f2 f3 f4 f5 ff k3 hx3 hxs
 have d9 : Below w1.heap.size w3 w4 := below_grown hg4 (fun k hk => by simp [Value.ownBlock] at hk) a3.size
 have b3 := a3.trans d9
 clear d9 a3 hg4 ho4
 have c8 : ∀ g, A' = some ⟨g, 0, none⟩ → g < w4.heap.size := fun g e => by
  rcases a1.form with ⟨h, _⟩ | ⟨g', h, _, h2⟩
  ·rw [h] at e; cases e
  ·rw [h] at e; injection e with e; injection e with e; omega
 have n5 := new1 w4 (.cells #[.slice A' xs.length c', .slice none 0 0] 109)
 have k5 := Blk.new w4 109 #[.slice A' xs.length c', .slice none 0 0]
 have hgs := b3.size
 have hs5 : (w4.alloc (.cells #[.slice A' xs.length c', .slice none 0 0] 109)).heap.size = w4.heap.size + 1 := by simp
 have st0 : StAt (w4.alloc (.cells #[.slice A' xs.length c', .slice none 0 0] 109)) w1.heap.size w4.heap.size A' none c' 0 xs [] := ⟨k5, hgs, a1.below n5, c8, At64.OwnR.nil _ _⟩
 have d6 : Below w1.heap.size w1 (w4.alloc (.cells #[.slice A' xs.length c', .slice none 0 0] 109)) := b3.trans (n5.mono hgs)
 clear a1 n5 k5 b3 c8
 generalize w4.heap.size = gs at *
 generalize w4.alloc (.cells #[.slice A' xs.length c', .slice none 0 0] 109) = w5 at *
 go_loopw [16] (fun t wr => ∃ (k : Nat) (R : Option Addr) (rc : Nat) (zs : List At64.R1), k ≤ ls.length ∧ t = .int .i64 k ∧ zs.map (·.1) = ls.take k ∧ StAt wr w1.heap.size gs A' R c' rc xs zs ∧ Below w1.heap.size w1 wr) (fun t _ => ls.length - (RowKit.intOf t).toNat)
 case atStart => exact ⟨0, none, 0, [], by omega, rfl, rfl, st0, d6⟩
 case round =>
  obtain ⟨k, R, rc, zs, hk, rfl, hz, st, hb⟩ := hrel
  have kr := k0.later hb
  have b5 := hls.below hb
  have hDr := hD.below hb
  have hEr := hE.below hb
  clear st0 d6
  by_cases hlt : k < ls.length
  ·have hlt' : (k : Int) < (ls.length : Int) := by omega
   have hltD : (k : Int) < (g.sz.length : Int) := by omega
   have HZ := hid (map_snoc hz hlt)
   have g5 := b4.out k hlt
   have hsz := HLZ.out k hlt
   have HZL := hid (show zs.length = k from by have := congrArg List.length hz; simp at this; omega)
   obtain ⟨b, off, Ak, ck, rfl, hB, a0, g2⟩ := b5 k hlt
   obtain ⟨b2, off2, s2, rfl, hB2, -, hc2⟩ := hDr.size (k := k) (by omega)
   obtain ⟨y, hy⟩ : ∃ y, ls[k] = y := ⟨_, rfl⟩
   rw [hy] at HZ g5 hsz a0 g2
   clear hy hz b5 hDr hEr
   have tne : ((y.length : Int) != gI g.sz (k : Int)) = false := by rw [bne_eq_false_iff_eq]; exact hsz
   have x2 := kr.cell 2
   have hlt1 := hlt
   clear kr
   go_wp2
   have l2 := later x2
   have lc := later a0
   have ld := later hc2
   clear x2 hc2
   refine wp_region_flow 11 (fun W => Below wr.heap.size wr W) (by kernel_rfl) (by kernel_rfl) (Below.refl _ _).drew ?_
   (repeat (first | refine fl_s ?_ | refine fl_t ?_))
   intro w6 d7
   clear l2 lc ld
   go_wp2
   have st6 := st.up d7
   have c1 : Below w1.heap.size w1 w6 := hb.trans (d7.mono hb.size)
   have a4 : w6.cell? ⟨b, off + k, none⟩ = _ := later a0 w6 d7
   have c2 := (g2.more (Nat.le_trans hb.size (Nat.le_refl _))).up d7
   clear a0 g2 hb d7 st
   have b7 := st6.blk.lt
   have hgl := st6.le
   obtain ⟨v2, w7, a9, b1, hg2, -⟩ := run_append_ints w6.drew (gs + 1) 22 22 Tryz.underlying22 (.slice none 0 0) 0 [] (World.ownsRow_nil _ _ _ _) w6.heap.size Ak ck y (c2.below (Below.refl _ _).drew) (by omega) b7
   have hrow2' : w7.ownsRow (gs + 1) 2 1 v2 y.length (i64s y) := by simpa using b1
   obtain ⟨-, A2, cap2, rfl, c5⟩ := own_slice hrow2'
   clear b1 hrow2'
   have b6 : Below w6.heap.size w6 w7 := (Below.refl _ w6).drew.trans (below_grown (B := w6.heap.size) hg2 (fun k hk => by simp [Value.ownBlock] at hk) (Nat.le_refl _))
   have n8 := new1 w7 (.cells #[.slice A2 y.length cap2] 22)
   have k8 := Blk.new w7 22 #[.slice A2 y.length cap2]
   have a2 := bup b6 n8
   have rows8 := st6.rows.below a2
   obtain ⟨A3, c3, w9, a5, rows9, g4⟩ := At64.run_append_row (w7.alloc (.cells #[.slice A2 y.length cap2] 22)) (gs + 1) 40 R rc zs (y, A2, cap2) rows8 w7.heap.size k8 (c5.below n8) (by have := HZL.out; omega) (by have := a2.size; omega)
   have a6 : ∀ k, (Value.slice R zs.length rc).ownBlock = some k → gs + 1 ≤ k := fun k hk => by
    rcases st6.rows.form with ⟨rfl, _⟩ | ⟨g', _, rfl, hg, _⟩
    ·simp [Value.ownBlock] at hk
    ·simp [Value.ownBlock] at hk; omega
   have c6 : Below (gs + 1) (w7.alloc (.cells #[.slice A2 y.length cap2] 22)) w9 := below_grown g4 a6 (by have := a2.size; omega)
   have hbA : Below (gs + 1) w6 w7 := b6.mono b7
   have g9 : Below (gs + 1) w6 (w7.alloc (.cells #[.slice A2 y.length cap2] 22)) := a2.mono b7
   have b8 : Below (gs + 1) w6 w9 := g9.trans c6
   have hv9 : Own w9 w1.heap.size A' c' xs := (st6.vars.below a2).grown g4 (by
    rcases st6.vars.form with ⟨h, _⟩ | ⟨g', h, _⟩
    ·rw [h]; exact .inl rfl
    ·have := st6.vlt g' h
     rw [h]
     exact .inr (fun e => by have := a6 g' (by rw [← e]; rfl); omega))
   have FB : ∀ W, AnyB3 (SO w6.drew w7 (w7.alloc (.cells #[.slice A2 y.length cap2] 22)) w9) W → Below (gs + 1) w6 W := fun W hW => by
    rcases SO.any hW with rfl | rfl | rfl | rfl
    ·exact (Below.refl _ _).drew
    ·exact hbA
    ·exact g9
    ·exact b8
   have d1 : ∀ W, AnyB3 (SO w6.drew w7 (w7.alloc (.cells #[.slice A2 y.length cap2] 22)) w9) W → W.cell? ⟨gs, 1, none⟩ = some (.slice R zs.length rc) := fun W hW => ((FB W hW).cell (p := ⟨gs, 1, none⟩) (by show gs < gs + 1; omega)).trans (st6.blk.cell 1)
   have dc : ∀ W, AnyB3 (SO w6.drew w7 (w7.alloc (.cells #[.slice A2 y.length cap2] 22)) w9) W → W.cell? ⟨b, off + k, none⟩ = some (.slice Ak y.length ck) := fun W hW => ((FB W hW).cell (p := ⟨b, off + k, none⟩) (by show b < gs + 1; omega)).trans a4
   have S0 : Hid (SO w6.drew w7 (w7.alloc (.cells #[.slice A2 y.length cap2] 22)) w9 false false false = fun W => W = w6.drew) := hid rfl
   have S1 : Hid (SO w6.drew w7 (w7.alloc (.cells #[.slice A2 y.length cap2] 22)) w9 true false false = fun W => W = w7) := hid rfl
   have S2 : Hid (SO w6.drew w7 (w7.alloc (.cells #[.slice A2 y.length cap2] 22)) w9 true true false = fun W => W = w7.alloc (.cells #[.slice A2 y.length cap2] 22)) := hid rfl
   have S3 : Hid (SO w6.drew w7 (w7.alloc (.cells #[.slice A2 y.length cap2] 22)) w9 true true true = fun W => W = w9) := hid rfl
   have HP := hid (st6.put_row b8 hv9 rows9)
   have hl1 : (zs ++ [(y, A2, cap2)]).length = zs.length + 1 := by simp
   rw [hl1] at HP a5
   have hbS : Below w1.heap.size w1 (w9.setCell ⟨gs, 1, none⟩ (.slice A3 (zs.length + 1) c3)) := (c1.trans (b8.mono (by omega))).setCell (p := ⟨gs, 1, none⟩) hgl _
   have HBS := hid hbS
   have HR2 := hid a9
   have HR3 := hid a5
   have g7 := (st6.blk.below b8 (by omega)).fr 1
   have HFZ := hid g7
   have HC9 := hid ((st6.blk.below b8 (by omega)).cell 1)
   generalize SO w6.drew w7 (w7.alloc (.cells #[.slice A2 y.length cap2] 22)) w9 = S at *
   clear hl1 g7 a9 a5 hbS hv9 b8 g9 hbA c6 a2 b6 rows9 rows8 k8 n8 c5 hg2 g4 a6 c2 a4 FB st6 c1
   refine wp_region_flowO 12 9 10 11 S (by kernel_rfl) (by kernel_rfl) (by kernel_rfl) (by kernel_rfl) (by decide) (by decide) (by decide) (by rw [S0.out]) ?_
   (repeat (refine' FlowO.take _ (by rfl) (by rfl) (by rfl) (by rfl) (fun W hW R hR => ?_) ?_; rotate_left; (go_simp; (try go_bits); with_reducible exact hR); simp only [Act.put, List.setIfInBounds_toArray, List.set_cons_zero, List.set_cons_succ]))
   refine FlowO.mark1 (.slice A2 y.length cap2) (by rfl) (by rfl) (by rfl) (by rfl) (fun W hW => ⟨w7, ?_, by rw [S1.out]⟩) ?_
   ·rw [S0.out] at hW
    subst hW
    exact exec_append _ _ 22 rfl rfl rfl HR2.out
   simp only [Act.put, List.setIfInBounds_toArray, List.set_cons_zero, List.set_cons_succ]
   refine FlowO.mark2 (.slice (some ⟨w7.heap.size, 0, none⟩) 1 1) (by rfl) (by rfl) (by rfl) (by rfl) (fun W hW => ⟨w7.alloc (.cells #[.slice A2 y.length cap2] 22), ?_, by rw [S2.out]⟩) ?_
   ·rw [S1.out] at hW
    subst hW
    go_simp
   simp only [Act.put, List.setIfInBounds_toArray, List.set_cons_zero, List.set_cons_succ]
   refine FlowO.mark3 (.slice A3 (zs.length + 1) c3) (by rfl) (by rfl) (by rfl) (by rfl) (fun W hW => ⟨w9, ?_, by rw [S3.out]⟩) ?_
   ·rw [S2.out] at hW
    subst hW
    exact exec_append _ _ 40 rfl rfl rfl HR3.out
   simp only [Act.put, List.setIfInBounds_toArray, List.set_cons_zero, List.set_cons_succ]
   intro W hW
   rw [S3.out] at hW
   subst hW
   have g7 := HFZ.out
   have hc9 : W.cell? ⟨gs, 1, none⟩ = some (.slice R zs.length rc) := HC9.out
   clear d1 dc
   go_wp2
   go_roundw
   case rel => exact ⟨k + 1, A3, c3, zs ++ [(y, A2, cap2)], by omega, by go_num, HZ.out _ _, HP.out, HBS.out⟩
   case measure => simp [RowKit.intOf]; omega
  ·obtain rfl : k = ls.length := by omega
   rw [List.take_length] at hz
   clear hlt hk b5 hDr
   go_wp2
   obtain ⟨f0, f1, f2, f3, f4, f5, ff⟩ := blk6 kr
   replace f0 := laterE f0
   replace f1 := laterE f1
   replace f2 := laterE f2
   replace f3 := laterE f3
   replace f4 := laterE f4
   replace f5 := laterE f5
   clear ff
   refine wp_region_flowE 5 [Sp.val (.agg #[.slice V g.nv cv, .int .i64 g.tm, .slice D g.sz.length cd, .int .i64 g.pts, .int .i64 g.ex, .slice E g.es.length ce]), Sp.val (.pointer (some ⟨gs, 0, none⟩)), Sp.val (.agg #[.slice V g.nv cv, .int .i64 g.tm, .slice D g.sz.length cd, .int .i64 g.pts, .int .i64 g.ex, .slice E g.es.length ce]), Sp.val (.int .i64 (p : Int)), Sp.any (IsIdx (idxE g.es g.es.length p))] (by kernel_rfl) (by kernel_rfl) ?_
   (refine fe_t (fun _ _ => ?_))
   (refine fe_t (fun _ _ => ?_))
   (refine fe_t (fun _ _ => ?_))
   (refine fe_t (fun _ _ => ?_))
   refine FlowE.call 83 #[.agg #[.slice V g.nv cv, .int .i64 g.tm, .slice D g.sz.length cd, .int .i64 g.pts, .int .i64 g.ex, .slice E g.es.length ce], (p : Int)] (by rfl) (fun W hW => by go_simp) (fun W hW => f8.out W ((hEr.more hb.size).up (Ext.trans (Below.refl _ _).drew hW))) (fun v4 lo4 hi4 => ?_)
   refine fe_p ?_
   refine FlowE.tail (fun W hW hf hd => ?_)
   replace hW : Below wr.heap.size wr W := Ext.trans (Below.refl _ _).drew hW
   obtain ⟨A4, c4, rfl, a1⟩ := fact_idx (show Sp.fact wr.drew (Sp.any (IsIdx (idxE g.es g.es.length p))) v4 lo4 hi4 W from hf 4)
   clear hf hd f0 f1 f2 f3 f4 f5 f8
   have st8 := st.up hW
   have hE8 := hEr.below (hW.mono hb.size)
   have a7 : Below w1.heap.size w1 W := hb.trans (hW.mono hb.size)
   clear hW hb hEr st kr
   go_wp2_with fail
   (with_reducible refine (HTK.out gs A' c' _ A4 c4 W (hE8.more a7.size) st8.blk st8.vars.rd a1.rd).mono ?_)
   clear HTK a1
   rintro e9 w9 ⟨rfl, g0⟩
   replace st8 := st8.up g0
   replace hE8 := hE8.below (g0.mono a7.size)
   replace a7 := a7.trans (g0.mono a7.size)
   clear g0
   have st9 := st8
   clear st8
   rcases d3.out with ht | ⟨i, hi, ht, -⟩
   ·have f9 : Hid (oneW g ls xs input p = (-1, 0, xs)) := hid (HO.out.trans (if_pos ht))
    generalize takenW g.es xs (idxE g.es g.es.length p) = t at *
    have y0 := st9.blk.cell 0
    go_wp2
    have l0 := later y0
    clear y0
    refine wp_region_flow 6 (fun W => Below w9.heap.size w9 W) (by kernel_rfl) (by kernel_rfl) (Below.refl _ _).drew ?_
    (repeat (first | refine fl_s ?_ | refine fl_t ?_))
    intro w10 f6
    clear l0
    go_wp2
    refine bodyPost_ret (v := .tuple #[.int .i64 (-1), .int .i64 0, .slice A' xs.length c', .int .i64 0]) (by simp [results, Tryz.results37, go_sem]) rfl ?_
    rw [f9.out]
    exact ⟨A', c', rfl, (st9.vars.below f6).less n0.size, n0.trans ((a7.trans (f6.mono a7.size)).mono n0.size)⟩
   ·have g1 := g6.out i hi
    obtain ⟨ia, ib⟩ := c9.out i g1
    have g3 := HRT.out i g1
    have f9 : Hid (oneW g ls xs input p = ((i : Int), (doesW ls (eAt g.es i) xs input).1, (doesW ls (eAt g.es i) xs input).2)) := hid (by
     rw [HO.out, ht, if_neg (by omega), Int.toNat_natCast])
    have d4 : zs.length = ls.length := by have := congrArg List.length hz; simpa using this
    have hzl : ∀ z ∈ zs, z.1.length ≤ 1024 := fun z h => by
     have h1 : z.1 ∈ ls := by rw [← hz]; exact List.mem_map_of_mem h
     obtain ⟨k, hk, e⟩ := List.getElem_of_mem h1
     rw [← e]; exact b4.out k hk
    clear HO
    generalize takenW g.es xs (idxE g.es g.es.length p) = t at *
    subst ht
    obtain ⟨x, hx⟩ : ∃ x, eAt g.es i = x := ⟨_, rfl⟩
    obtain ⟨b, off, rfl, hB, p0, p1, p2, p3, p4, p5, p6, p7, p8, p9⟩ := hE8.get g1 ((eAt_eq g1).trans hx)
    rw [hx] at f9 ia ib g3
    have h := does_any x input w1.heap.size gs A' R c' rc xs zs w9.drew (st9.up (Below.refl _ _).drew) (by rw [d4]; exact g3) HII.out ia ib d2 hzl
    unfold Edg.val at h
    rw [hz] at h
    have hil' : (i : Int) < (g.es.length : Int) := by omega
    have hi0 : (0 : Int) ≤ (i : Int) := by omega
    generalize doesW ls x xs input = q at *
    obtain ⟨er, ys⟩ := q
    have HD := hid h
    clear h hx hi g3 ia ib d3 g6 HRV HRT c9 b4 hzl hz
    have kg := (k0.below a7 k0.lt).cell 5
    have hgb := k0.lt
    obtain ⟨S, hS⟩ : ∃ S : Bool → World → Prop, S = fun b W => if b then (Blk W gs 109 #[.slice A' xs.length c', .slice R zs.length rc] ∧ Own W w1.heap.size A' c' ys ∧ ys.length = xs.length ∧ Below w1.heap.size w9 W) else W = w9.drew := ⟨_, rfl⟩
    have hS0 : S false w9.drew := by rw [hS]; rfl
    have FB : ∀ W, AnyB S W → Below w1.heap.size w9 W := by
     rintro W ⟨b, h⟩
     rw [hS] at h
     cases b
     ·obtain rfl : W = w9.drew := h
      exact (Below.refl _ _).drew
     ·exact h.2.2.2
    have d0 : ∀ W, AnyB S W → W.cell? ⟨gs, 0, none⟩ = some (.slice A' xs.length c') := by
     rintro W ⟨b, h⟩
     rw [hS] at h
     cases b
     ·obtain rfl : W = w9.drew := h
      exact st9.blk.cell 0
     ·exact h.1.cell 0
    have d5 : ∀ W, AnyB S W → W.cell? ⟨w.heap.size, 5, none⟩ = _ := fun W h => ((FB W h).cell (p := ⟨w.heap.size, 5, none⟩) hgb).trans kg
    have e0 : ∀ W, AnyB S W → W.cell? ⟨b, off + i * 10, none⟩ = _ := fun W h => ((FB W h).cell (p := ⟨b, _, none⟩) hB).trans p0
    have e1 : ∀ W, AnyB S W → W.cell? ⟨b, off + i * 10 + 1, none⟩ = _ := fun W h => ((FB W h).cell (p := ⟨b, _, none⟩) hB).trans p1
    have e2 : ∀ W, AnyB S W → W.cell? ⟨b, off + i * 10 + 2, none⟩ = _ := fun W h => ((FB W h).cell (p := ⟨b, _, none⟩) hB).trans p2
    have e3 : ∀ W, AnyB S W → W.cell? ⟨b, off + i * 10 + 3, none⟩ = _ := fun W h => ((FB W h).cell (p := ⟨b, _, none⟩) hB).trans p3
    have e4 : ∀ W, AnyB S W → W.cell? ⟨b, off + i * 10 + 4, none⟩ = _ := fun W h => ((FB W h).cell (p := ⟨b, _, none⟩) hB).trans p4
    have e5 : ∀ W, AnyB S W → W.cell? ⟨b, off + i * 10 + 5, none⟩ = _ := fun W h => ((FB W h).cell (p := ⟨b, _, none⟩) hB).trans p5
    have e6 : ∀ W, AnyB S W → W.cell? ⟨b, off + i * 10 + 6, none⟩ = _ := fun W h => ((FB W h).cell (p := ⟨b, _, none⟩) hB).trans p6
    have e7 : ∀ W, AnyB S W → W.cell? ⟨b, off + i * 10 + 7, none⟩ = _ := fun W h => ((FB W h).cell (p := ⟨b, _, none⟩) hB).trans p7
    have e8 : ∀ W, AnyB S W → W.cell? ⟨b, off + i * 10 + 8, none⟩ = _ := fun W h => ((FB W h).cell (p := ⟨b, _, none⟩) hB).trans p8
    have e9 : ∀ W, AnyB S W → W.cell? ⟨b, off + i * 10 + 9, none⟩ = _ := fun W h => ((FB W h).cell (p := ⟨b, _, none⟩) hB).trans p9
    have HS := hid hS
    have g8 := hid (n0.trans (a7.mono n0.size))
    have d8 := n0.size
    clear hS p0 p1 p2 p3 p4 p5 p6 p7 p8 p9 kg FB hE8 a7
    go_wp2
    refine wp_region_flowM 15 8 S (by kernel_rfl) (by kernel_rfl) (by decide) hS0 ?_
    (repeat (first | (refine FlowM.skip (by rfl) (by rfl) ?_; simp only [Act.put, List.setIfInBounds_toArray, List.set_cons_zero, List.set_cons_succ]) | (refine' FlowM.take _ (by rfl) (by rfl) (fun W hW R hR => ?_) ?_; rotate_left; (go_simp; (try go_bits); with_reducible exact hR); simp only [Act.put, List.setIfInBounds_toArray, List.set_cons_zero, List.set_cons_succ])))
    refine FlowM.callM 84 #[.pointer (some ⟨gs, 0, none⟩), .agg #[.int .i64 x.fr, .int .i64 x.te, .int .i64 x.kd, .int .i64 x.dst, .int .i64 x.arr, .int .i64 x.op, .int .i64 x.av, .int .i64 x.an, .int .i64 x.bv, .int .i64 x.bn], input] (.int .i64 er) (by rfl) (by rfl) (fun W hW => by have hW' : AnyB S W := ⟨false, hW⟩; clear hW; go_simp) (fun W hW => ?_) ?_
    ·rw [HS.out] at hW
     obtain rfl : W = w9.drew := hW
     refine HD.out.mono ?_
     rintro e W2 ⟨rfl, i0, f7, c7, a8⟩
     refine ⟨rfl, ?_⟩
     rw [HS.out]
     exact ⟨i0, f7, c7, (Below.refl _ w9).drew.trans a8⟩
    simp only [Act.put, List.setIfInBounds_toArray, List.set_cons_zero, List.set_cons_succ]
    (repeat (first | (refine FlowM.skip (by rfl) (by rfl) ?_; simp only [Act.put, List.setIfInBounds_toArray, List.set_cons_zero, List.set_cons_succ]) | (refine' FlowM.take _ (by rfl) (by rfl) (fun W hW R hR => ?_) ?_; rotate_left; (go_simp; (try go_bits); with_reducible exact hR); simp only [Act.put, List.setIfInBounds_toArray, List.set_cons_zero, List.set_cons_succ])))
    intro W hW
    rw [HS.out] at hW
    obtain ⟨i0, f7, c7, a8⟩ := hW
    replace f7 : Own W w1.heap.size A' c' ys := f7
    replace c7 : ys.length = xs.length := c7
    replace a8 : Below w1.heap.size w9 W := a8
    clear d0 d5 e0 e1 e2 e3 e4 e5 e6 e7 e8 e9 hS0 HS HD i0
    go_wp2
    refine bodyPost_ret (v := .tuple #[.int .i64 (i : Int), er, .slice A' xs.length c', .int .i64 0]) (by simp [results, Tryz.results37, go_sem]) rfl ?_
    rw [f9.out]
    exact ⟨A', c', by rw [c7], f7.less d8, g8.out.trans (a8.mono d8)⟩
end Go.Proofs.YtnmpgijiimglcaaGreat
