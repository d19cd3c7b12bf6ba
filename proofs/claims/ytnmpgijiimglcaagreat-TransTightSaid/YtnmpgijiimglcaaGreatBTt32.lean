import Derived.Test.YtnmpgijiimglcaaGreatBTt31
namespace Go.Proofs.YtnmpgijiimglcaaGreat
open Go.RowKit
set_option maxRecDepth 100000
set_option maxHeartbeats 8000000
section
attribute [local go_sem ↓] Go.wp_at_zero Go.wp_at_succ
def RdR (w : World) (B : Nat) (A : Option Addr) (ls : List (List Int)) : Prop :=
 ∀ k, (h : k < ls.length) → ∃ b off Ak ck, A = some ⟨b, off, none⟩ ∧ b < B ∧ w.cell? ⟨b, off + k, none⟩ = some (.slice Ak ls[k].length ck) ∧ Rd w B Ak ls[k]
theorem RdR.up {w w' : World} {A : Option Addr} {ls : List (List Int)} (h : RdR w w.heap.size A ls) (hb : Below w.heap.size w w') : RdR w' w'.heap.size A ls := fun k hk => by
 obtain ⟨b, off, Ak, ck, h1, h2, h3, h4⟩ := h k hk
 exact ⟨b, off, Ak, ck, h1, Nat.lt_of_lt_of_le h2 hb.size, (hb.cell (p := ⟨b, _, none⟩) h2).trans h3, h4.up hb⟩
def oneW (g : Gr) (ls : List (List Int)) (xs : List Int) (input : Int) (p : Nat) : Int × Int × List Int :=
 if takenW g.es xs (idxE g.es g.es.length p) < 0 then (-1, 0, xs)
 else (takenW g.es xs (idxE g.es g.es.length p), (doesW ls (eAt g.es (takenW g.es xs (idxE g.es g.es.length p)).toNat) xs input).1, (doesW ls (eAt g.es (takenW g.es xs (idxE g.es g.es.length p)).toNat) xs input).2)
def znl (w : World) (p : Int × Int × List Int) (e : Ending) (w' : World) : Prop :=
 ∃ A c, e = .returned (.tuple #[p.1, p.2.1, .slice A p.2.2.length c, .int .i64 0]) ∧ Own w' w.heap.size A c p.2.2 ∧ Below w.heap.size w w'
theorem zg3 (es : List Edg) (xs : List Int) : ∀ (ix : List Nat), takenW es xs ix < 0 ∨ ∃ i ∈ ix, takenW es xs ix = (i : Int) ∧ zdU xs (eAt es i) = true
 | [] => .inl (by unfold takenW; omega)
 | i :: r => by
  rw [zbA]
  by_cases h : zdU xs (eAt es i) = true
  ·rw [if_pos h]; exact .inr ⟨i, by simp, rfl, h⟩
  ·rw [if_neg h]
   rcases zg3 es xs r with h | ⟨j, hj, h⟩
   ·exact .inl h
   ·exact .inr ⟨j, by simp [hj], h⟩
theorem zkZ {g : Gr} (h : chk g = 0) : 0 ≤ g.tm ∧ g.tm ≤ 64 ∧ g.all ≤ 64 ∧ g.es.length ≤ 8192 ∧ g.sz.length ≤ 16 ∧ (∀ s ∈ g.sz, 1 ≤ s ∧ s ≤ 1024) ∧ (∀ e ∈ g.es, rightE g.all g.sz.length e = true) := by
 unfold chk at h
 by_cases h1 : zb8 g = true
 ·rw [if_pos h1] at h; omega
 ·rw [if_neg h1] at h
  by_cases h2 : zdw g = true
  ·rw [if_pos h2] at h; omega
  ·rw [if_neg h2] at h
   by_cases h3 : zbG g = true
   ·unfold zb8 at h1
    unfold zdw at h2
    rw [decide_eq_true_eq] at h1 h2
    unfold zbG at h3
    simp only [Bool.and_eq_true, decide_eq_true_eq, List.all_eq_true] at h3
    obtain ⟨⟨⟨⟨h4, h5⟩, -⟩, h6⟩, -⟩ := h3
    refine ⟨by omega, by omega, by omega, by omega, h4, fun s hs => ?_, fun e he => ?_⟩
    ·have := h5 s hs
     unfold zd1 at this
     rwa [decide_eq_true_eq] at this
    ·have := h6 e he
     unfold zbI at this
     rw [Bool.and_eq_true] at this
     exact this.2
   ·rw [if_neg h3] at h; omega
theorem zgx (p : Nat) {es : List Edg} {i : Nat} (h : i ∈ idxE es es.length p) : i < es.length := znw h
theorem zhW {es : List Edg} {i : Nat} (h : i < es.length) : eAt es i ∈ es := by rw [← zfx h]; exact List.getElem_mem h
theorem RdR.below {w w' : World} {B : Nat} {A : Option Addr} {ls : List (List Int)} (h : RdR w B A ls) (hb : Below B w w') : RdR w' B A ls := fun k hk => by
 obtain ⟨b, off, Ak, ck, h1, h2, h3, h4⟩ := h k hk
 exact ⟨b, off, Ak, ck, h1, h2, (hb.cell (p := ⟨b, _, none⟩) h2).trans h3, h4.below hb⟩
def zmm (ix : List Nat) (v : Value) (_ wb : World) : Prop := ∃ A c, v = .slice A ix.length c ∧ AtInt.Own wb 0 A c (ints ix)
theorem zms {w0 W : World} {ix : List Nat} {v : Value} {lo hi : Nat} (h : Sp.fact w0 (Sp.any (zmm ix)) v lo hi W) : ∃ A c, v = .slice A ix.length c ∧ AtInt.Own W 0 A c (ints ix) := by
 obtain ⟨wa, wb, _, _, h3, _, _, A, c, e, own⟩ := h
 exact ⟨A, c, e, own.below h3⟩
theorem zmd {zs : List At64.R1} {ls : List (List Int)} {k : Nat} (h : zs.map (·.1) = ls.take k) (hk : k < ls.length) (A : Option Addr) (c : Nat) : (zs ++ [(ls[k], A, c)]).map (·.1) = ls.take (k + 1) := by
 rw [List.map_append, h, List.take_succ_eq_append_getElem hk]; rfl
theorem zoL {sz : List Int} {k : Nat} (h : k < sz.length) : gI sz (k : Int) ∈ sz := by
 unfold gI; simp [h]
theorem StAt.put_row {w w4 : World} {b0 gs vc rc c3 : Nat} {V R A3 : Option Addr} {xs : List Int} {zs : List At64.R1} {z : At64.R1} (h : StAt w b0 gs V R vc rc xs zs) (hb : Below (gs + 1) w w4) (hv : Own w4 b0 V vc xs) (h3 : At64.OwnR w4 (gs + 1) A3 c3 (zs ++ [z])) :
  StAt (w4.setCell ⟨gs, 1, none⟩ (.slice A3 (zs ++ [z]).length c3)) b0 gs V A3 vc c3 xs (zs ++ [z]) := by
 have hk : Blk w4 gs 109 #[.slice V xs.length vc, .slice R zs.length rc] := h.blk.below hb (by omega)
 exact ⟨hk.set_ 1 _, h.le, hv.far1 (fun g e => by have := h.vlt g e; omega), h.vlt, h3.setFar (by show gs < gs + 1; omega) _⟩
theorem zk7 (g : Gr) (V D E : Option Addr) (cv cd ce : Nat) (xs : List Int) (X : Option Addr) (xc : Nat) (ls : List (List Int)) (A0 : Option Addr) (c0 : Nat) (input : Int) (p : Nat) (w : World)
  (hD : RdD w w.heap.size D g.sz) (hE : RdE w w.heap.size E g.es) (hxs : Rd w w.heap.size X xs) (hls : RdR w w.heap.size A0 ls) (hI : I64s xs) (hi : ∀ e ∈ g.es, I64 e.an ∧ I64 e.bn)
  (hc : chk g = 0) (hp : (p : Int) < g.pts) (hxl : (xs.length : Int) = g.all) (hll : ls.length = g.sz.length) (hlz : ∀ k (h : k < ls.length), (ls[k].length : Int) = gI g.sz k) :
  Calls Tryz.prog 37 #[grV g V D E cv cd ce, .slice X xs.length xc, .slice A0 ls.length c0, input, (p : Int)] w (znl w (oneW g ls xs input p)) := by
 obtain ⟨ct0, ct1, ca, ces, csz, cz, cr⟩ := zkZ hc
 have g5 : g.all = g.nv + g.tm := rfl
 have d7 : xs.length ≤ 64 := by omega
 have hl16 : ls.length ≤ 16 := by omega
 have b5 := hid (fun k (h : k < ls.length) => show ls[k].length ≤ 1024 from by
  have h1 := hlz k h
  have h2 := cz (gI g.sz k) (zoL (by omega))
  omega)
 have g9 : Hid (∀ i ∈ idxE g.es g.es.length p, i < g.es.length) := hid (fun i h => zgx p h)
 have f7 : Hid ((idxE g.es g.es.length p).length ≤ 8192) := hid (by
  have := zev g.es g.es.length p
  unfold idxI at this
  rw [zc3] at this
  omega)
 have HRV : Hid (∀ i ∈ idxE g.es g.es.length p, (eAt g.es i).av < xs.length ∧ (eAt g.es i).bv < xs.length) := hid (fun i h => by
  have h1 := cr _ (zhW (zgx p h))
  rw [← hxl] at h1
  have ha := zgi h1
  have hb := zfY h1
  omega)
 have HRT : Hid (∀ i, i < g.es.length → rightE (xs.length : Int) (ls.length : Int) (eAt g.es i) = true) := hid (fun i h => by
  have h1 := cr _ (zhW h)
  rw [← hxl, ← hll] at h1
  exact h1)
 have d2 := hid (fun i (h : i < g.es.length) => hi _ (zhW h))
 have HII := hid hI
 have HLZ := hid hlz
 have c8 := hid (zg3 g.es xs (idxE g.es g.es.length p))
 have HO : Hid (oneW g ls xs input p = if takenW g.es xs (idxE g.es g.es.length p) < 0 then (-1, 0, xs) else (takenW g.es xs (idxE g.es g.es.length p), (doesW ls (eAt g.es (takenW g.es xs (idxE g.es g.es.length p)).toNat) xs input).1, (doesW ls (eAt g.es (takenW g.es xs (idxE g.es g.es.length p)).toNat) xs input).2)) := hid rfl
 have HCK : Hid (∀ W, RdD W W.heap.size D g.sz → RdE W W.heap.size E g.es → Calls Tryz.prog 80 #[.agg #[.slice V g.nv cv, .int .i64 g.tm, .slice D g.sz.length cd, .int .i64 g.pts, .int .i64 g.ex, .slice E g.es.length ce]] W fun e w' => e = .returned (.int .i64 0) ∧ Below W.heap.size W w') := hid (fun W h1 h2 => by
  have := zhp g V D E cv cd ce W h1 h2 (by omega) (by omega) (by omega)
  rw [hc] at this
  exact this)
 have HAL : Hid (∀ W, Calls Tryz.prog 81 #[.agg #[.slice V g.nv cv, .int .i64 g.tm, .slice D g.sz.length cd, .int .i64 g.pts, .int .i64 g.ex, .slice E g.es.length ce]] W fun e w' => e = .returned (.int .i64 (xs.length : Int)) ∧ Below W.heap.size W w') := hid (fun W => by
  have := zjU g V D E cv cd ce W ct0 ct1 (by omega)
  rw [← hxl] at this
  exact this)
 have d4 : Hid (∀ W, RdE W W.heap.size E g.es → Calls Tryz.prog 83 #[.agg #[.slice V g.nv cv, .int .i64 g.tm, .slice D g.sz.length cd, .int .i64 g.pts, .int .i64 g.ex, .slice E g.es.length ce], (p : Int)] W fun e w2 => ∃ v, e = .returned v ∧ Ext W w2 ∧ zmm (idxE g.es g.es.length p) v W w2) := hid (fun W h => (zmP g V D E cv cd ce p W h ces).mono fun e w2 ⟨A, c, he, own, hb⟩ => ⟨_, he, hb, A, c, by unfold idxI; rw [zc3], own.less (Nat.zero_le _)⟩)
 have HTK : Hid (∀ gs V' vc r X' xc' W, RdE W W.heap.size E g.es → Blk W gs 109 #[.slice V' xs.length vc, r] → Rd W W.heap.size V' xs → Rd W W.heap.size X' (ints (idxE g.es g.es.length p)) →
   Calls Tryz.prog 82 #[.agg #[.slice V g.nv cv, .int .i64 g.tm, .slice D g.sz.length cd, .int .i64 g.pts, .int .i64 g.ex, .slice E g.es.length ce], .pointer (some ⟨gs, 0, none⟩), .slice X' (idxE g.es g.es.length p).length xc'] W fun e w' => e = .returned (.int .i64 (takenW g.es xs (idxE g.es g.es.length p))) ∧ Below W.heap.size W w') := hid (fun gs V' vc r X' xc' W h1 h2 h3 h4 => zmj g V D E cv cd ce gs V' vc r xs _ X' xc' W h1 ces h2 h3 d7 h4 f7.out g9.out HRV.out)
 have hp0 : (0 : Int) ≤ (p : Int) := by omega
 have hll' : (ls.length : Int) = (g.sz.length : Int) := by omega
 have n0 := new1 w (.cells #[.slice V g.nv cv, .int .i64 g.tm, .slice D g.sz.length cd, .int .i64 g.pts, .int .i64 g.ex, .slice E g.es.length ce] 64)
 have k0 := Blk.new w 64 #[.slice V g.nv cv, .int .i64 g.tm, .slice D g.sz.length cd, .int .i64 g.pts, .int .i64 g.ex, .slice E g.es.length ce]
 replace hD := hD.up n0
 replace hE := hE.up n0
 replace hxs := hxs.up n0
 replace hls := hls.up n0
 clear hc hi hI hlz cz cr g5 ca hxl ct0 ct1
 unfold grV
 go_enter Tryz.func37, Tryz.ntmps37
 obtain ⟨f0, f1, f2, f3, f4, f5, ff⟩ := blk6 k0
 go_wp2_with fail
 clear f0 f1 f2 f3 f4 f5 ff
 have hsz1 := n0.size
 generalize w.alloc (.cells #[.slice V g.nv cv, .int .i64 g.tm, .slice D g.sz.length cd, .int .i64 g.pts, .int .i64 g.ex, .slice E g.es.length ce] 64) = w1 at *
 (with_reducible refine (HCK.out w1 hD hE).mono ?_)
 rintro e1 w2 ⟨rfl, a8⟩
 have k2 := k0.later a8
 obtain ⟨f0, f1, f2, f3, f4, f5, ff⟩ := blk6 k2
 go_wp2_with fail
 (with_reducible refine (HAL.out w2).mono ?_)
 clear f0 f1 f2 f3 f4 f5 ff k2
 rintro e2 w3 ⟨rfl, hb3⟩
 have a3 := bup a8 hb3
 clear a8 hb3
 have k3 := k0.later a3
 obtain ⟨f0, f1, f2, f3, f4, f5, ff⟩ := blk6 k3
 have hx3 := hxs.up a3
 go_wp2_with (at_builtin; go_loud (refine wpList_append_ints _ _ _ rfl rfl Tryz.underlying22 w1.heap.size none 0 [] rfl (zca _ _) w3.heap.size X xc xs xs rfl hx3 rfl (by omega) a3.size ?_); intro A' c' w4 a1 hg4 ho4)
 clear f0 f1 f2 f3 f4 f5 ff k3 hx3 hxs
 have c7 : Below w1.heap.size w3 w4 := zat hg4 (fun k hk => by simp [Value.ownBlock] at hk) a3.size
 have b7 := a3.trans c7
 clear c7 a3 hg4 ho4
 have b9 : ∀ g, A' = some ⟨g, 0, none⟩ → g < w4.heap.size := fun g e => by
  rcases a1.form with ⟨h, _⟩ | ⟨g', h, _, h2⟩
  ·rw [h] at e; cases e
  ·rw [h] at e; injection e with e; injection e with e; omega
 have n5 := new1 w4 (.cells #[.slice A' xs.length c', .slice none 0 0] 109)
 have k5 := Blk.new w4 109 #[.slice A' xs.length c', .slice none 0 0]
 have hgs := b7.size
 have hs5 : (w4.alloc (.cells #[.slice A' xs.length c', .slice none 0 0] 109)).heap.size = w4.heap.size + 1 := by simp
 have st0 : StAt (w4.alloc (.cells #[.slice A' xs.length c', .slice none 0 0] 109)) w1.heap.size w4.heap.size A' none c' 0 xs [] := ⟨k5, hgs, a1.below n5, b9, At64.OwnR.nil _ _⟩
 have c2 : Below w1.heap.size w1 (w4.alloc (.cells #[.slice A' xs.length c', .slice none 0 0] 109)) := b7.trans (n5.mono hgs)
 clear a1 n5 k5 b7 b9
 generalize w4.heap.size = gs at *
 generalize w4.alloc (.cells #[.slice A' xs.length c', .slice none 0 0] 109) = w5 at *
 go_loopw [16] (fun t wr => ∃ (k : Nat) (R : Option Addr) (rc : Nat) (zs : List At64.R1), k ≤ ls.length ∧ t = .int .i64 k ∧ zs.map (·.1) = ls.take k ∧ StAt wr w1.heap.size gs A' R c' rc xs zs ∧ Below w1.heap.size w1 wr) (fun t _ => ls.length - (RowKit.intOf t).toNat)
 case atStart => exact ⟨0, none, 0, [], by omega, rfl, rfl, st0, c2⟩
 case round =>
  obtain ⟨k, R, rc, zs, hk, rfl, hz, st, hb⟩ := hrel
  have kr := k0.later hb
  have b3 := hls.below hb
  have hDr := hD.below hb
  have hEr := hE.below hb
  clear st0 c2
  by_cases hlt : k < ls.length
  ·have hlt' : (k : Int) < (ls.length : Int) := by omega
   have hltD : (k : Int) < (g.sz.length : Int) := by omega
   have HZ := hid (zmd hz hlt)
   have g8 := b5.out k hlt
   have hsz := HLZ.out k hlt
   have HZL := hid (show zs.length = k from by have := congrArg List.length hz; simp at this; omega)
   obtain ⟨b, off, Ak, ck, rfl, hB, a0, g2⟩ := b3 k hlt
   obtain ⟨b2, off2, s2, rfl, hB2, -, hc2⟩ := hDr.size (k := k) (by omega)
   obtain ⟨y, hy⟩ : ∃ y, ls[k] = y := ⟨_, rfl⟩
   rw [hy] at HZ g8 hsz a0 g2
   clear hy hz b3 hDr hEr
   have tne : ((y.length : Int) != gI g.sz (k : Int)) = false := by rw [bne_eq_false_iff_eq]; exact hsz
   have x2 := kr.cell 2
   have hlt1 := hlt
   clear kr
   go_wp2
   have l2 := later x2
   have lc := later a0
   have ld := later hc2
   clear x2 hc2
   refine zab 11 (fun W => Below wr.heap.size wr W) (by kernel_rfl) (by kernel_rfl) (Below.refl _ _).drew ?_
   refine fl_a ?_
   intro w6 d9
   clear l2 lc ld
   go_wp2
   have st6 := st.up d9
   have c5 : Below w1.heap.size w1 w6 := hb.trans (d9.mono hb.size)
   have a6 : w6.cell? ⟨b, off + k, none⟩ = _ := later a0 w6 d9
   have d3 := (g2.more (Nat.le_trans hb.size (Nat.le_refl _))).up d9
   clear a0 g2 hb d9 st
   have b4 := st6.blk.lt
   have hgl := st6.le
   obtain ⟨v2, w7, a9, b1, hg2, -⟩ := zbp w6.drew (gs + 1) 22 22 Tryz.underlying22 (.slice none 0 0) 0 [] (World.ownsRow_nil _ _ _ _) w6.heap.size Ak ck y (d3.below (Below.refl _ _).drew) (by omega) b4
   have hrow2' : w7.ownsRow (gs + 1) 2 1 v2 y.length (i64s y) := by simpa using b1
   obtain ⟨-, A2, cap2, rfl, f6⟩ := zdH hrow2'
   clear b1 hrow2'
   have b6 : Below w6.heap.size w6 w7 := (Below.refl _ w6).drew.trans (zat (B := w6.heap.size) hg2 (fun k hk => by simp [Value.ownBlock] at hk) (Nat.le_refl _))
   have n8 := new1 w7 (.cells #[.slice A2 y.length cap2] 22)
   have k8 := Blk.new w7 22 #[.slice A2 y.length cap2]
   have a2 := bup b6 n8
   have rows8 := st6.rows.below a2
   obtain ⟨A3, c3, w9, a4, rows9, i0⟩ := At64.run_append_row (w7.alloc (.cells #[.slice A2 y.length cap2] 22)) (gs + 1) 40 R rc zs (y, A2, cap2) rows8 w7.heap.size k8 (f6.below n8) (by have := HZL.out; omega) (by have := a2.size; omega)
   have a5 : ∀ k, (Value.slice R zs.length rc).ownBlock = some k → gs + 1 ≤ k := fun k hk => by
    rcases st6.rows.form with ⟨rfl, _⟩ | ⟨g', _, rfl, hg, _⟩
    ·simp [Value.ownBlock] at hk
    ·simp [Value.ownBlock] at hk; omega
   have f8 : Below (gs + 1) (w7.alloc (.cells #[.slice A2 y.length cap2] 22)) w9 := zat i0 a5 (by have := a2.size; omega)
   have hbA : Below (gs + 1) w6 w7 := b6.mono b4
   have g7 : Below (gs + 1) w6 (w7.alloc (.cells #[.slice A2 y.length cap2] 22)) := a2.mono b4
   have b8 : Below (gs + 1) w6 w9 := g7.trans f8
   have hv9 : Own w9 w1.heap.size A' c' xs := (st6.vars.below a2).grown i0 (by
    rcases st6.vars.form with ⟨h, _⟩ | ⟨g', h, _⟩
    ·rw [h]; exact .inl rfl
    ·have := st6.vlt g' h
     rw [h]
     exact .inr (fun e => by have := a5 g' (by rw [← e]; rfl); omega))
   have FB : ∀ W, zkA (SO w6.drew w7 (w7.alloc (.cells #[.slice A2 y.length cap2] 22)) w9) W → Below (gs + 1) w6 W := fun W hW => by
    rcases SO.any hW with rfl | rfl | rfl | rfl
    ·exact (Below.refl _ _).drew
    ·exact hbA
    ·exact g7
    ·exact b8
   have d1 : ∀ W, zkA (SO w6.drew w7 (w7.alloc (.cells #[.slice A2 y.length cap2] 22)) w9) W → W.cell? ⟨gs, 1, none⟩ = some (.slice R zs.length rc) := fun W hW => ((FB W hW).cell (p := ⟨gs, 1, none⟩) (by show gs < gs + 1; omega)).trans (st6.blk.cell 1)
   have dc : ∀ W, zkA (SO w6.drew w7 (w7.alloc (.cells #[.slice A2 y.length cap2] 22)) w9) W → W.cell? ⟨b, off + k, none⟩ = some (.slice Ak y.length ck) := fun W hW => ((FB W hW).cell (p := ⟨b, off + k, none⟩) (by show b < gs + 1; omega)).trans a6
   have S0 : Hid (SO w6.drew w7 (w7.alloc (.cells #[.slice A2 y.length cap2] 22)) w9 false false false = fun W => W = w6.drew) := hid rfl
   have S1 : Hid (SO w6.drew w7 (w7.alloc (.cells #[.slice A2 y.length cap2] 22)) w9 true false false = fun W => W = w7) := hid rfl
   have S2 : Hid (SO w6.drew w7 (w7.alloc (.cells #[.slice A2 y.length cap2] 22)) w9 true true false = fun W => W = w7.alloc (.cells #[.slice A2 y.length cap2] 22)) := hid rfl
   have S3 : Hid (SO w6.drew w7 (w7.alloc (.cells #[.slice A2 y.length cap2] 22)) w9 true true true = fun W => W = w9) := hid rfl
   have HP := hid (st6.put_row b8 hv9 rows9)
   have hl1 : (zs ++ [(y, A2, cap2)]).length = zs.length + 1 := by simp
   rw [hl1] at HP a4
   have hbS : Below w1.heap.size w1 (w9.setCell ⟨gs, 1, none⟩ (.slice A3 (zs.length + 1) c3)) := (c5.trans (b8.mono (by omega))).setCell (p := ⟨gs, 1, none⟩) hgl _
   have HBS := hid hbS
   have HR2 := hid a9
   have HR3 := hid a4
   have g6 := (st6.blk.below b8 (by omega)).fr 1
   have HFZ := hid g6
   have HC9 := hid ((st6.blk.below b8 (by omega)).cell 1)
   generalize SO w6.drew w7 (w7.alloc (.cells #[.slice A2 y.length cap2] 22)) w9 = S at *
   clear hl1 g6 a9 a4 hbS hv9 b8 g7 hbA f8 a2 b6 rows9 rows8 k8 n8 f6 hg2 i0 a5 d3 a6 FB st6 c5
   refine zez 12 9 10 11 S (by kernel_rfl) (by kernel_rfl) (by kernel_rfl) (by kernel_rfl) (by decide) (by decide) (by decide) (by rw [S0.out]) ?_
   (repeat (refine' zb1.take _ (by rfl) (by rfl) (by rfl) (by rfl) (fun W hW R hR => ?_) ?_; rotate_left; (go_simp; (try go_bits); with_reducible exact hR); simp only [Act.put, List.setIfInBounds_toArray, List.set_cons_zero, List.set_cons_succ]))
   refine zb1.mark1 (.slice A2 y.length cap2) (by rfl) (by rfl) (by rfl) (by rfl) (fun W hW => ⟨w7, ?_, by rw [S1.out]⟩) ?_
   ·rw [S0.out] at hW
    subst hW
    exact zdf _ _ 22 rfl rfl rfl HR2.out
   simp only [Act.put, List.setIfInBounds_toArray, List.set_cons_zero, List.set_cons_succ]
   refine zb1.mark2 (.slice (some ⟨w7.heap.size, 0, none⟩) 1 1) (by rfl) (by rfl) (by rfl) (by rfl) (fun W hW => ⟨w7.alloc (.cells #[.slice A2 y.length cap2] 22), ?_, by rw [S2.out]⟩) ?_
   ·rw [S1.out] at hW
    subst hW
    go_simp
   simp only [Act.put, List.setIfInBounds_toArray, List.set_cons_zero, List.set_cons_succ]
   refine zb1.mark3 (.slice A3 (zs.length + 1) c3) (by rfl) (by rfl) (by rfl) (by rfl) (fun W hW => ⟨w9, ?_, by rw [S3.out]⟩) ?_
   ·rw [S2.out] at hW
    subst hW
    exact zdf _ _ 40 rfl rfl rfl HR3.out
   simp only [Act.put, List.setIfInBounds_toArray, List.set_cons_zero, List.set_cons_succ]
   intro W hW
   rw [S3.out] at hW
   subst hW
   have g6 := HFZ.out
   have hc9 : W.cell? ⟨gs, 1, none⟩ = some (.slice R zs.length rc) := HC9.out
   clear d1 dc
   go_wp2
   go_roundw
   case rel => exact ⟨k + 1, A3, c3, zs ++ [(y, A2, cap2)], by omega, by go_num, HZ.out _ _, HP.out, HBS.out⟩
   case measure => simp [RowKit.intOf]; omega
  ·obtain rfl : k = ls.length := by omega
   rw [List.take_length] at hz
   clear hlt hk b3 hDr
   go_wp2
   obtain ⟨f0, f1, f2, f3, f4, f5, ff⟩ := blk6 kr
   replace f0 := zac f0
   replace f1 := zac f1
   replace f2 := zac f2
   replace f3 := zac f3
   replace f4 := zac f4
   replace f5 := zac f5
   clear ff
   refine zad 5 [Sp.val (.agg #[.slice V g.nv cv, .int .i64 g.tm, .slice D g.sz.length cd, .int .i64 g.pts, .int .i64 g.ex, .slice E g.es.length ce]), Sp.val (.pointer (some ⟨gs, 0, none⟩)), Sp.val (.agg #[.slice V g.nv cv, .int .i64 g.tm, .slice D g.sz.length cd, .int .i64 g.pts, .int .i64 g.ex, .slice E g.es.length ce]), Sp.val (.int .i64 (p : Int)), Sp.any (zmm (idxE g.es g.es.length p))] (by kernel_rfl) (by kernel_rfl) ?_
   (refine fe_t (fun _ _ => ?_))
   (refine fe_t (fun _ _ => ?_))
   (refine fe_t (fun _ _ => ?_))
   (refine fe_t (fun _ _ => ?_))
   refine zaf.call 83 #[.agg #[.slice V g.nv cv, .int .i64 g.tm, .slice D g.sz.length cd, .int .i64 g.pts, .int .i64 g.ex, .slice E g.es.length ce], (p : Int)] (by rfl) (fun W hW => by go_simp) (fun W hW => d4.out W ((hEr.more hb.size).up (Ext.trans (Below.refl _ _).drew hW))) (fun v4 lo4 hi4 => ?_)
   refine fe_p ?_
   refine zaf.tail (fun W hW hf hd => ?_)
   replace hW : Below wr.heap.size wr W := Ext.trans (Below.refl _ _).drew hW
   obtain ⟨A4, c4, rfl, a1⟩ := zms (show Sp.fact wr.drew (Sp.any (zmm (idxE g.es g.es.length p))) v4 lo4 hi4 W from hf 4)
   clear hf hd f0 f1 f2 f3 f4 f5 d4
   have st8 := st.up hW
   have hE8 := hEr.below (hW.mono hb.size)
   have a7 : Below w1.heap.size w1 W := hb.trans (hW.mono hb.size)
   clear hW hb hEr st kr
   go_wp2_with fail
   (with_reducible refine (HTK.out gs A' c' _ A4 c4 W (hE8.more a7.size) st8.blk st8.vars.rd a1.rd).mono ?_)
   clear HTK a1
   rintro e9 w9 ⟨rfl, g0⟩
   replace st8 := st8.up g0
   replace hE8 := hE8.below (g0.mono a7.size)
   replace a7 := a7.trans (g0.mono a7.size)
   clear g0
   have st9 := st8
   clear st8
   rcases c8.out with ht | ⟨i, hi, ht, -⟩
   ·have g1 : Hid (oneW g ls xs input p = (-1, 0, xs)) := hid (HO.out.trans (if_pos ht))
    generalize takenW g.es xs (idxE g.es g.es.length p) = t at *
    have y0 := st9.blk.cell 0
    go_wp2
    have l0 := later y0
    clear y0
    refine zab 6 (fun W => Below w9.heap.size w9 W) (by kernel_rfl) (by kernel_rfl) (Below.refl _ _).drew ?_
    refine fl_a ?_
    intro w10 d8
    clear l0
    go_wp2
    refine bodyPost_ret (v := .tuple #[.int .i64 (-1), .int .i64 0, .slice A' xs.length c', .int .i64 0]) (by simp [results, Tryz.results37, go_sem]) rfl ?_
    rw [g1.out]
    exact ⟨A', c', rfl, (st9.vars.below d8).less n0.size, n0.trans ((a7.trans (d8.mono a7.size)).mono n0.size)⟩
   ·have f9 := g9.out i hi
    obtain ⟨ia, ib⟩ := d2.out i f9
    have g3 := HRT.out i f9
    have g1 : Hid (oneW g ls xs input p = ((i : Int), (doesW ls (eAt g.es i) xs input).1, (doesW ls (eAt g.es i) xs input).2)) := hid (by
     rw [HO.out, ht, if_neg (by omega), Int.toNat_natCast])
    have c9 : zs.length = ls.length := by have := congrArg List.length hz; simpa using this
    have hzl : ∀ z ∈ zs, z.1.length ≤ 1024 := fun z h => by
     have h1 : z.1 ∈ ls := by rw [← hz]; exact List.mem_map_of_mem h
     obtain ⟨k, hk, e⟩ := List.getElem_of_mem h1
     rw [← e]; exact b5.out k hk
    clear HO
    generalize takenW g.es xs (idxE g.es g.es.length p) = t at *
    subst ht
    obtain ⟨x, hx⟩ : ∃ x, eAt g.es i = x := ⟨_, rfl⟩
    obtain ⟨b, off, rfl, hB, p0, p1, p2, p3, p4, p5, p6, p7, p8, p9⟩ := hE8.get f9 ((zfx f9).trans hx)
    rw [hx] at g1 ia ib g3
    have h := zlx x input w1.heap.size gs A' R c' rc xs zs w9.drew (st9.up (Below.refl _ _).drew) (by rw [c9]; exact g3) HII.out ia ib d7 hzl
    unfold Edg.val at h
    rw [hz] at h
    have hil' : (i : Int) < (g.es.length : Int) := by omega
    have hi0 : (0 : Int) ≤ (i : Int) := by omega
    generalize doesW ls x xs input = q at *
    obtain ⟨er, ys⟩ := q
    have HD := hid h
    clear h hx hi g3 ia ib c8 g9 HRV HRT d2 b5 hzl hz
    have kg := (k0.below a7 k0.lt).cell 5
    have hgb := k0.lt
    obtain ⟨S, hS⟩ : ∃ S : Bool → World → Prop, S = fun b W => if b then (Blk W gs 109 #[.slice A' xs.length c', .slice R zs.length rc] ∧ Own W w1.heap.size A' c' ys ∧ ys.length = xs.length ∧ Below w1.heap.size w9 W) else W = w9.drew := ⟨_, rfl⟩
    have hS0 : S false w9.drew := by rw [hS]; rfl
    have FB : ∀ W, AnyB S W → Below w1.heap.size w9 W := by
     rintro W ⟨b, h⟩
     rw [hS] at h
     cases b
     ·obtain rfl : W = w9.drew := h
      exact (Below.refl _ _).drew
     ·exact h.2.2.2
    have d0 : ∀ W, AnyB S W → W.cell? ⟨gs, 0, none⟩ = some (.slice A' xs.length c') := by
     rintro W ⟨b, h⟩
     rw [hS] at h
     cases b
     ·obtain rfl : W = w9.drew := h
      exact st9.blk.cell 0
     ·exact h.1.cell 0
    have d5 : ∀ W, AnyB S W → W.cell? ⟨w.heap.size, 5, none⟩ = _ := fun W h => ((FB W h).cell (p := ⟨w.heap.size, 5, none⟩) hgb).trans kg
    have e0 : ∀ W, AnyB S W → W.cell? ⟨b, off + i * 10, none⟩ = _ := fun W h => ((FB W h).cell (p := ⟨b, _, none⟩) hB).trans p0
    have e1 : ∀ W, AnyB S W → W.cell? ⟨b, off + i * 10 + 1, none⟩ = _ := fun W h => ((FB W h).cell (p := ⟨b, _, none⟩) hB).trans p1
    have e2 : ∀ W, AnyB S W → W.cell? ⟨b, off + i * 10 + 2, none⟩ = _ := fun W h => ((FB W h).cell (p := ⟨b, _, none⟩) hB).trans p2
    have e3 : ∀ W, AnyB S W → W.cell? ⟨b, off + i * 10 + 3, none⟩ = _ := fun W h => ((FB W h).cell (p := ⟨b, _, none⟩) hB).trans p3
    have e4 : ∀ W, AnyB S W → W.cell? ⟨b, off + i * 10 + 4, none⟩ = _ := fun W h => ((FB W h).cell (p := ⟨b, _, none⟩) hB).trans p4
    have e5 : ∀ W, AnyB S W → W.cell? ⟨b, off + i * 10 + 5, none⟩ = _ := fun W h => ((FB W h).cell (p := ⟨b, _, none⟩) hB).trans p5
    have e6 : ∀ W, AnyB S W → W.cell? ⟨b, off + i * 10 + 6, none⟩ = _ := fun W h => ((FB W h).cell (p := ⟨b, _, none⟩) hB).trans p6
    have e7 : ∀ W, AnyB S W → W.cell? ⟨b, off + i * 10 + 7, none⟩ = _ := fun W h => ((FB W h).cell (p := ⟨b, _, none⟩) hB).trans p7
    have e8 : ∀ W, AnyB S W → W.cell? ⟨b, off + i * 10 + 8, none⟩ = _ := fun W h => ((FB W h).cell (p := ⟨b, _, none⟩) hB).trans p8
    have e9 : ∀ W, AnyB S W → W.cell? ⟨b, off + i * 10 + 9, none⟩ = _ := fun W h => ((FB W h).cell (p := ⟨b, _, none⟩) hB).trans p9
    have HS := hid hS
    have g4 := hid (n0.trans (a7.mono n0.size))
    have c1 := n0.size
    clear hS p0 p1 p2 p3 p4 p5 p6 p7 p8 p9 kg FB hE8 a7
    go_wp2
    refine zbr 15 8 S (by kernel_rfl) (by kernel_rfl) (by decide) hS0 ?_
    (repeat (first | (refine za5.skip (by rfl) (by rfl) ?_; simp only [Act.put, List.setIfInBounds_toArray, List.set_cons_zero, List.set_cons_succ]) | (refine' za5.take _ (by rfl) (by rfl) (fun W hW R hR => ?_) ?_; rotate_left; (go_simp; (try go_bits); with_reducible exact hR); simp only [Act.put, List.setIfInBounds_toArray, List.set_cons_zero, List.set_cons_succ])))
    refine za5.callM 84 #[.pointer (some ⟨gs, 0, none⟩), .agg #[.int .i64 x.fr, .int .i64 x.te, .int .i64 x.kd, .int .i64 x.dst, .int .i64 x.arr, .int .i64 x.op, .int .i64 x.av, .int .i64 x.an, .int .i64 x.bv, .int .i64 x.bn], input] (.int .i64 er) (by rfl) (by rfl) (fun W hW => by have hW' : AnyB S W := ⟨false, hW⟩; clear hW; go_simp) (fun W hW => ?_) ?_
    ·rw [HS.out] at hW
     obtain rfl : W = w9.drew := hW
     refine HD.out.mono ?_
     rintro e W2 ⟨rfl, i1, c6, d6, a8⟩
     refine ⟨rfl, ?_⟩
     rw [HS.out]
     exact ⟨i1, c6, d6, (Below.refl _ w9).drew.trans a8⟩
    simp only [Act.put, List.setIfInBounds_toArray, List.set_cons_zero, List.set_cons_succ]
    (repeat (first | (refine za5.skip (by rfl) (by rfl) ?_; simp only [Act.put, List.setIfInBounds_toArray, List.set_cons_zero, List.set_cons_succ]) | (refine' za5.take _ (by rfl) (by rfl) (fun W hW R hR => ?_) ?_; rotate_left; (go_simp; (try go_bits); with_reducible exact hR); simp only [Act.put, List.setIfInBounds_toArray, List.set_cons_zero, List.set_cons_succ])))
    intro W hW
    rw [HS.out] at hW
    obtain ⟨i1, c6, d6, a8⟩ := hW
    replace c6 : Own W w1.heap.size A' c' ys := c6
    replace d6 : ys.length = xs.length := d6
    replace a8 : Below w1.heap.size w9 W := a8
    clear d0 d5 e0 e1 e2 e3 e4 e5 e6 e7 e8 e9 hS0 HS HD i1
    go_wp2
    refine bodyPost_ret (v := .tuple #[.int .i64 (i : Int), er, .slice A' xs.length c', .int .i64 0]) (by simp [results, Tryz.results37, go_sem]) rfl ?_
    rw [g1.out]
    exact ⟨A', c', by rw [d6], c6.less c1, g4.out.trans (a8.mono c1)⟩
end
section
def e01 (e : Edg) : Edg := { e with fr := 0, te := 1 }
def e01n (e : Edg) : Edg := { e with fr := 0, te := 1, op := notOp e.op }
def gr1 (n : Int) (sz : List Int) (e : Edg) : Gr := ⟨0, n, sz, 2, 1, if e.kd = 12 then [e01 e, e01n e] else [e01 e]⟩
theorem zlP {n na : Int} {e : Edg} (h : rightE n na e = true) (hk : e.kd = 12) : 1 ≤ e.op ∧ e.op ≤ 6 := by
 unfold rightE at h
 simp only [Bool.and_eq_true, decide_eq_true_eq] at h
 have := h.1.1.2
 rw [show wOp e.kd = true from decide_eq_true hk, cond_true, decide_eq_true_eq] at this
 exact this
theorem zkH {op : Int} (h : 1 ≤ op ∧ op ≤ 6) : 1 ≤ notOp op ∧ notOp op ≤ 6 := by
 have : op = 1 ∨ op = 2 ∨ op = 3 ∨ op = 4 ∨ op = 5 ∨ op = 6 := by omega
 rcases this with rfl | rfl | rfl | rfl | rfl | rfl <;> decide
theorem zjH {n na : Int} {e : Edg} (h : rightE n na e = true) (hk : e.kd = 12) : rightE n na (e01n e) = true := by
 have h1 := zkH (zlP h hk)
 unfold rightE at h ⊢
 unfold e01n
 dsimp only
 simp only [Bool.and_eq_true] at h ⊢
 refine ⟨⟨⟨h.1.1.1, ?_⟩, h.1.2⟩, h.2⟩
 rw [show wOp e.kd = true from decide_eq_true hk, cond_true]
 exact decide_eq_true h1
theorem zoM {n : Int} {sz : List Int} {e : Edg} (h0 : 0 ≤ n) (h1 : n ≤ 64) (hs : sz.length ≤ 16) (hz : ∀ s ∈ sz, 1 ≤ s ∧ s ≤ 1024) (hr : rightE n sz.length e = true) : chk (gr1 n sz e) = 0 := by
 have a0 : (gr1 n sz e).all = n := by unfold Gr.all gr1; dsimp only; omega
 have hv : zb8 (gr1 n sz e) = false := by
  unfold zb8
  rw [a0, decide_eq_false_iff_not]
  unfold gr1; dsimp only; omega
 have hl : (gr1 n sz e).es.length ≤ 2 := by unfold gr1; dsimp only; split <;> simp
 have hp : zdw (gr1 n sz e) = false := by
  unfold zdw
  rw [decide_eq_false_iff_not]
  rw [show (gr1 n sz e).pts = 2 from rfl]
  omega
 have ok1 : ∀ x : Edg, x.fr = 0 → x.te = 1 → rightE n sz.length x = true → zbI (gr1 n sz e) x = true := fun x hf ht hx => by
  unfold zbI inE
  rw [a0, hf, ht]
  rw [show (gr1 n sz e).pts = 2 from rfl, show (gr1 n sz e).ex = 1 from rfl, show (gr1 n sz e).sz = sz from rfl, hx]
  decide
 have hok : (gr1 n sz e).es.all (zbI (gr1 n sz e)) = true := by
  rw [List.all_eq_true]
  intro x hx
  by_cases hk : e.kd = 12
  ·rw [show (gr1 n sz e).es = [e01 e, e01n e] by unfold gr1; rw [if_pos hk]] at hx
   simp only [List.mem_cons, List.not_mem_nil, or_false] at hx
   rcases hx with rfl | rfl
   ·exact ok1 _ rfl rfl hr
   ·exact ok1 _ rfl rfl (zjH hr hk)
  ·rw [show (gr1 n sz e).es = [e01 e] by unfold gr1; rw [if_neg hk]] at hx
   simp only [List.mem_cons, List.not_mem_nil, or_false] at hx
   subst hx
   exact ok1 _ rfl rfl hr
 have hf : zcs (gr1 n sz e) 2 = true := by
  unfold zcs
  rw [show List.range 2 = [0, 1] from rfl]
  simp only [List.all_cons, List.all_nil, Bool.and_true, Bool.and_eq_true]
  by_cases hk : e.kd = 12
  ·rw [show (gr1 n sz e).es = [e01 e, e01n e] by unfold gr1; rw [if_pos hk]]
   refine ⟨?_, rfl⟩
   show zhu (e01 e) (e01n e) = true
   unfold zhu e01 e01n
   simp [hk]
  ·rw [show (gr1 n sz e).es = [e01 e] by unfold gr1; rw [if_neg hk]]
   refine ⟨?_, rfl⟩
   show decide ((e01 e).kd ≠ 12) = true
   exact decide_eq_true hk
 refine znk hv hp ?_
 unfold zbG
 rw [hok, show (gr1 n sz e).pts.toNat = 2 from rfl, hf, show (gr1 n sz e).sz = sz from rfl, decide_eq_true hs, show decide (0 ≤ (gr1 n sz e).ex ∧ (gr1 n sz e).ex < (gr1 n sz e).pts) = true from rfl]
 have : sz.all zd1 = true := by
  rw [List.all_eq_true]
  intro s hs
  exact decide_eq_true (hz s hs)
 rw [this]; rfl
theorem znV (ls : List (List Int)) (e : Edg) (xs : List Int) (input : Int) : doesW ls (e01 e) xs input = doesW ls e xs input := rfl
theorem ze7 {n : Int} {sz : List Int} {e : Edg} (ls : List (List Int)) (xs : List Int) (input : Int) (hk : e.kd ≠ 12) : oneW (gr1 n sz e) ls xs input 0 = (0, (doesW ls e xs input).1, (doesW ls e xs input).2) := by
 have h1 : (gr1 n sz e).es = [e01 e] := by unfold gr1; rw [if_neg hk]
 have h2 : takenW [e01 e] xs (idxE [e01 e] 1 (0 : Nat)) = 0 := by
  rw [show idxE [e01 e] 1 (0 : Nat) = [0] from rfl, zbA, if_pos]
  ·rfl
  ·show zdU xs (e01 e) = true
   unfold zdU
   rw [show decide ((e01 e).kd ≠ 12) = true from decide_eq_true hk]; rfl
 unfold oneW
 rw [h1, show [e01 e].length = 1 from rfl, h2, if_neg (by omega)]
 rfl
theorem one_holds {n : Int} {sz : List Int} {e : Edg} (ls : List (List Int)) (xs : List Int) (input : Int) (hk : e.kd = 12) (h : cmpB e.op (opdX xs e.av e.an) (opdX xs e.bv e.bn) = true) : oneW (gr1 n sz e) ls xs input 0 = (0, 0, xs) := by
 have h1 : (gr1 n sz e).es = [e01 e, e01n e] := by unfold gr1; rw [if_pos hk]
 have h2 : takenW [e01 e, e01n e] xs (idxE [e01 e, e01n e] 2 (0 : Nat)) = 0 := by
  rw [show idxE [e01 e, e01n e] 2 (0 : Nat) = [0, 1] from rfl, zbA, if_pos]
  ·rfl
  ·show zdU xs (e01 e) = true
   unfold zdU
   rw [show cmpB (e01 e).op (opdX xs (e01 e).av (e01 e).an) (opdX xs (e01 e).bv (e01 e).bn) = true from h, Bool.or_true]
 unfold oneW
 rw [h1, show [e01 e, e01n e].length = 2 from rfl, h2, if_neg (by omega)]
 show ((0 : Int), (doesW ls (e01 e) xs input).1, (doesW ls (e01 e) xs input).2) = _
 rw [znV]
 unfold doesW
 simp [hk]
theorem zgq {n : Int} {sz : List Int} {e : Edg} (ls : List (List Int)) (xs : List Int) (input : Int) (hk : e.kd = 12) (h : cmpB e.op (opdX xs e.av e.an) (opdX xs e.bv e.bn) = false) : (oneW (gr1 n sz e) ls xs input 0).1 ≠ 0 := by
 have h1 : (gr1 n sz e).es = [e01 e, e01n e] := by unfold gr1; rw [if_pos hk]
 have h3 : zdU xs (e01 e) = false := by
  unfold zdU
  rw [show cmpB (e01 e).op (opdX xs (e01 e).av (e01 e).an) (opdX xs (e01 e).bv (e01 e).bn) = false from h, Bool.or_false]
  exact decide_eq_false (by rw [show (e01 e).kd = e.kd from rfl, hk]; simp)
 have h2 : takenW [e01 e, e01n e] xs (idxE [e01 e, e01n e] 2 (0 : Nat)) ≠ 0 := by
  rw [show idxE [e01 e, e01n e] 2 (0 : Nat) = [0, 1] from rfl, zbA, if_neg (by rw [show eAt [e01 e, e01n e] 0 = e01 e from rfl, h3]; simp), zbA]
  split
  ·simp
  ·unfold takenW; omega
 unfold oneW
 rw [h1, show [e01 e, e01n e].length = 2 from rfl]
 split
 ·simp
 ·exact h2
theorem znB {n : Int} {e : Edg} {na : Int} (h : zbd n e = true) (ha : e.arr < na) (_hn : 0 ≤ na) : rightE n na e = true := by
 unfold zbd at h
 unfold rightE at h ⊢
 dsimp only at h
 simp only [Bool.and_eq_true] at h ⊢
 refine ⟨⟨⟨⟨h.1.1.1.1, ?_⟩, h.1.1.2⟩, h.1.2⟩, h.2⟩
 have h1 := h.1.1.1.2
 cases hw : wArr e.kd
 ·rw [hw, cond_false, decide_eq_true_eq] at h1
  rw [cond_false, decide_eq_true_eq]
  split at h1 <;> omega
 ·rw [hw, cond_true, decide_eq_true_eq] at h1
  rw [cond_true, decide_eq_true_eq]
  split at h1 <;> omega
end
end Go.Proofs.YtnmpgijiimglcaaGreat
