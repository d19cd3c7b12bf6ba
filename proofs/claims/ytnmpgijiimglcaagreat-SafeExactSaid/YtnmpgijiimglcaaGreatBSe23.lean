import Derived.Test.YtnmpgijiimglcaaGreatBSe22
import Derived.Test.YtnmpgijiimglcaaGreatBSe13
import Derived.Maps.Own
import Derived.Test.YtnmpgijiimglcaaGreatBSe21
import Derived.Test.YtnmpgijiimglcaaGreatBSe10
import Derived.Test.YtnmpgijiimglcaaGreatBSe06
import Derived.Test.YtnmpgijiimglcaaGreatBSe11
namespace Go.Proofs.YtnmpgijiimglcaaGreat
set_option maxRecDepth 100000
set_option maxHeartbeats 8000000
section
open Go.RowKit Go.Maps
attribute [local go_sem ↓] Go.wp_at_zero Go.wp_at_succ
theorem zb2 {H : Type} {P : Program} (w : World) {ops : Array Oper} {rest : List Oper} {o : Oper} {a : Act} {Q : Exit → Act → World → Prop}
  (hg : o.guard = none) (m x v : Operand) (t : TypeId) (hop : o.op = Op.insert t m x v)
  (k e : TypeId) (K : Keyed P k) (ht : P.underlying t = some (.map k e)) (R : Value → Option (DataW H × List MemPlace)) (b n : Nat) (D : DataW H)
  (hm : a.eval m = .map (some b)) (hown : w.ownsMap P k R b n D) (hn : n < maxLen) (key val : Value) (kl : Lit) (hx : a.eval x = key) (hv : a.eval v = val) (hkey : keyOf P k key = some kl)
  (d : DataW H) (ps : List MemPlace) (hval : R val = some (d, ps))
  (hK : ∀ w', w'.ownsMap P k R b (n + 1) (D.put kl d) → w.grownBy w' (some b) → wpList P ops Q rest (a.put o.dst undef) w') :
  wpList P ops Q (o :: rest) a w :=
 wpList_plain hg fun K' hK' => by
  obtain ⟨w', b9, r1, r2⟩ := hown.update K ht hn hkey hval
  unfold Oper.wp
  simp [execOp, hop, hm, hx, hv, b9, Result.andThen]
  exact hK' _ _ (hK w' r1 r2)
theorem zgr (n : Int) (A : Option Addr) (cap b base : Nat) (w : World) (own : Own w base A cap []) (hbase : base ≤ w.heap.size) :
  Calls Tryz.prog 227 #[.agg #[n, true, .slice A 0 cap], .map (some b)] w fun e w' => e = .returned (.agg #[n, true, .slice A 0 cap]) ∧ Own w' base A cap [] ∧ Below base w w' := by
 obtain ⟨p0, a1, b5⟩ := zak w #[n, true, .slice A 0 cap] 24
 go_enter Tryz.func227, Tryz.ntmps227
 have x0 := zaa p0
 go_wp2
 have hX : ∀ W, Below w.heap.size w W → Own W base A cap [] ∧ Below base w W := fun W hW => ⟨own.below hW, hW.mono hbase⟩
 refine bodyPost_ret (v := .agg #[n, true, .slice A 0 cap]) (by simp [results, Tryz.results227, go_sem]) rfl (And.intro rfl (hX _ ?_))
 exact zbc
def RD : Value → Option (DataW Unit × List MemPlace) := fun _ => some (.map [], [])
theorem zgC (o : O) (ok : check o = 0) (v : Nat) (hv : (v : Int) < o.n) (A : Option Addr) (cap : Nat) (w : World) (hx : Rd w w.heap.size A o.m) (hm : o.m.length ≤ 17592186044416) :
  Calls Tryz.prog 192 #[.agg #[o.n, o.e, .slice A o.m.length cap], (v : Int)] w (zhB w (forgetO o v) 0) := by
 have a5 : Tryz.prog.underlying 3 = some (.int .i64) := Tryz.underlying3
 obtain ⟨p0, p1, a1, b5⟩ := zal w #[o.n, o.e, .slice A o.m.length cap] #[.int .i64 0, false, .slice none 0 0] 24 24
 replace hx := hx.up a1
 have HK := hid ok
 have HC := hid (fun W h => zbF o A cap W h (by omega))
 rw [HK.out] at HC
 have HCL := hid (fun W (h : Rd W W.heap.size A o.m) => zgx o HK.out A cap W h hm)
 have okc : OkO o.n (closeO o) := OkO.close ⟨rfl, ok⟩
 have HF := hid (show forgetO o v = if (closeO o).e then closeO o else ⟨o.n, false, forgetM (2 * o.n).toNat v (closeO o).m⟩ from rfl)
 have t1 : decide ((v : Int) < 0) = false := by rw [decide_eq_false_iff_not]; omega
 have t2 : decide (o.n ≤ (v : Int)) = false := by rw [decide_eq_false_iff_not]; omega
 have hv0 : (v : Int) ≤ 64 := by have := okc.rng; omega
 have HV := hid hv
 generalize forgetO o v = F at *
 generalize closeO o = q at *
 clear ok hv b5
 have hmm := @run_makeMap Tryz.prog
 go_enter Tryz.func192, Tryz.ntmps192
 have x0 := zaa p0
 go_wp2_with fail
 clear x0
 generalize (w.alloc (Obj.cells #[o.n, o.e, .slice A o.m.length cap] 24)).alloc (Obj.cells #[.int .i64 0, false, .slice none 0 0] 24) = w0 at *
 (with_reducible refine (HC.out w0 hx).mono ?_)
 clear HC
 rintro e1 w1 ⟨rfl, a6⟩
 replace p0 := p0.later a6
 replace p1 := p1.later a6
 replace hx := hx.up a6
 replace a1 := bup a1 a6
 clear a6
 have x0 := zaa p0
 go_wp2_with fail
 clear x0
 have hp0 : w.heap.size < w1.heap.size := p0.lt
 have hp1 : w.heap.size + 1 < w1.heap.size := p1.lt
 (with_reducible refine (HCL.out w1 hx).mono ?_)
 clear HCL
 rintro e2 w2 ⟨A2, c2, rfl, a0, a8⟩
 replace p0 := p0.later a8
 replace p1 := p1.later a8
 rcases okc.form with rfl | ⟨N, cm, hN, hn, rfl, hc⟩
 ·unfold emptyO at *
  dsimp only [List.length_nil] at *
  obtain rfl : F = ⟨o.n, true, []⟩ := by rw [HF.out]; rfl
  have a3 := World.ownsMap_made w2 Tryz.prog 3 RD
  have b1 : ∀ g, A2 = some ⟨g, 0, none⟩ → g ≠ w2.heap.size := fun g hg => by
   rcases a0.form with ⟨h, _⟩ | ⟨g', h, _, h'⟩
   ·rw [h] at hg; cases hg
   ·rw [h] at hg; injection hg with hg; injection hg with hg; omega
  replace a0 := a0.below (new1 w2 (.map #[] 0))
  replace p1 := p1.later (new1 w2 (.map #[] 0))
  have b3 := bup a8 (new1 w2 (.map #[] 0))
  have b0 := b3.size
  go_wp2_with (first | (refine zb2 _ rfl _ _ _ 221 rfl 3 220 (int_keyed a5) Tryz.underlying221 RD w2.heap.size 0 (.map []) rfl a3 (by unfold maxLen; omega) _ _ (.int .i64 (v : Int)) rfl rfl (keyOf_int_mk a5 (WalkArith.wf_i64 (by omega))) (.map []) [] rfl ?_; intro w4 a7 b2))
  have a4 := a0.grown b2 (zh2 a0 b1)
  replace p1 := p1.stay b2 (by intro e; injection e with e; have := a8.size; omega)
  have b4 : Below w1.heap.size w1 w4 := b3.trans (zaW b2 (fun k e => by injection e with e; have := a8.size; omega) b0)
  have a9 := b4.size
  (with_reducible refine (zgr o.n A2 c2 w2.heap.size w1.heap.size w4 a4 a9).mono ?_)
  rintro e5 w5 ⟨rfl, a2, b7⟩
  replace p1 := p1.below b7 hp1
  have b6 := bup a1 (b4.trans b7)
  have y0 := zaa p1
  go_wp2
  have q9 := p1.set3 (v0 := .int .i64 o.n) (v1 := .bool true) (v2 := .slice A2 0 c2)
  have o9 := a2.far3 (g := w.heap.size + 1) (v0 := .int .i64 o.n) (v1 := .bool true) (v2 := .slice A2 0 c2) (zan a2 p1 (by decide))
  obtain ⟨z0, z1, z2, fz⟩ := zaa q9
  refine bodyPost_ret (v := .tuple #[.agg #[o.n, true, .slice A2 0 c2], .int .i64 0]) (by simp [results, Tryz.results192, go_sem, z0, z1, z2]) rfl ?_
  exact ⟨A2, c2, rfl, o9.less a1.size, b6.trans (zah (by omega) b6.size)⟩
 ·dsimp only at a0 ⊢
  obtain rfl : F = ⟨o.n, false, forgetM N v cm⟩ := by rw [HF.out]; dsimp only; rw [if_neg (by simp), show (2 * o.n).toNat = N by omega]
  have HFL := hid (zcy N v cm)
  have a3 := World.ownsMap_made w2 Tryz.prog 3 RD
  have b1 : ∀ g, A2 = some ⟨g, 0, none⟩ → g ≠ w2.heap.size := fun g hg => by
   rcases a0.form with ⟨h, _⟩ | ⟨g', h, _, h'⟩
   ·rw [h] at hg; cases hg
   ·rw [h] at hg; injection hg with hg; injection hg with hg; omega
  replace a0 := a0.below (new1 w2 (.map #[] 0))
  replace p1 := p1.later (new1 w2 (.map #[] 0))
  have b3 := bup a8 (new1 w2 (.map #[] 0))
  have b0 := b3.size
  go_wp2_with (first | (refine zb2 _ rfl _ _ _ 221 rfl 3 220 (int_keyed a5) Tryz.underlying221 RD w2.heap.size 0 (.map []) rfl a3 (by unfold maxLen; omega) _ _ (.int .i64 (v : Int)) rfl rfl (keyOf_int_mk a5 (WalkArith.wf_i64 (by omega))) (.map []) [] rfl ?_; intro w4 a7 b2))
  have a4 := a0.grown b2 (zh2 a0 b1)
  replace p1 := p1.stay b2 (by intro e; injection e with e; have := a8.size; omega)
  have b4 : Below w1.heap.size w1 w4 := b3.trans (zaW b2 (fun k e => by injection e with e; have := a8.size; omega) b0)
  have a9 := b4.size
  have b8 := hc.len
  obtain ⟨gA, rfl⟩ : ∃ g, A2 = some ⟨g, 0, none⟩ := by
   rcases a4.form with ⟨_, h, _⟩ | ⟨g, h, _⟩
   ·have : 1 * 1 ≤ N * N := Nat.mul_le_mul (by have := HV.out; omega) (by have := HV.out; omega)
    rw [h] at b8; simp at b8; omega
   ·exact ⟨g, h⟩
  clear b8
  have HX := hid ((callsIn_wide (n := 10)).1 (zft o.n cm N hN hn hc v HV.out gA c2 w1.heap.size w2.heap.size (0 + 1) (.map []) w4 a4 a9 a7))
  (with_reducible refine HX.out.mono ?_)
  clear HX
  rintro e5 w5 ⟨rfl, a2, b7⟩
  have own5' := a2
  generalize forgetM N v cm = fm at *
  replace p1 := p1.below b7 hp1
  have b6 := bup a1 (b4.trans b7)
  have y0 := zaa p1
  go_wp2
  have q9 := p1.set3 (v0 := .int .i64 o.n) (v1 := .bool false) (v2 := .slice (some ⟨gA, 0, none⟩) cm.length c2)
  have o9 := a2.far3 (g := w.heap.size + 1) (v0 := .int .i64 o.n) (v1 := .bool false) (v2 := .slice (some ⟨gA, 0, none⟩) cm.length c2) (zan a2 p1 (by decide))
  obtain ⟨z0, z1, z2, fz⟩ := zaa q9
  refine bodyPost_ret (v := .tuple #[.agg #[o.n, false, .slice (some ⟨gA, 0, none⟩) cm.length c2], .int .i64 0]) (by simp [results, Tryz.results192, go_sem, z0, z1, z2]) rfl ?_
  exact ⟨(some ⟨gA, 0, none⟩), c2, by dsimp only; rw [HFL.out], o9.less a1.size, b6.trans (zah (by omega) b6.size)⟩
theorem zbE (o : O) (ok : check o = 0) (v : Nat) (hv : (v : Int) < o.n) (A : Option Addr) (cap : Nat) (w : World) (hx : Rd w w.heap.size A o.m) (hm : o.m.length ≤ 17592186044416) :
  Calls Tryz.prog 132 #[.agg #[o.n, o.e, .slice A o.m.length cap], (v : Int)] w (zbh w (forgetO o v)) := by
 obtain ⟨p0, p1, a1, b5⟩ := zal w #[o.n, o.e, .slice A o.m.length cap] #[.int .i64 0, false, .slice none 0 0] 24 24
 have hx0 := hx.up a1
 have HC := hid (zgC o ok v hv A cap _ hx0 hm)
 have HSZ := hid b5
 clear b5
 generalize forgetO o v = r at *
 go_enter Tryz.func132, Tryz.ntmps132
 go_wp2_with fail
 generalize (w.alloc (Obj.cells #[o.n, o.e, .slice A o.m.length cap] 24)).alloc (Obj.cells #[.int .i64 0, false, .slice none 0 0] 24) = w0 at *
 (with_reducible refine HC.out.mono ?_)
 clear HC
 rintro e1 w1 ⟨A1, c1, rfl, own, a6⟩
 replace p1 := p1.later a6
 replace a1 := bup a1 a6
 have n3 := new1 w1 (.cells #[r.n, r.e, .slice A1 r.m.length c1] 24)
 replace p1 := p1.later n3
 replace own := own.below n3
 replace a1 := bup a1 n3
 have x0 := zaa p1
 go_wp2
 clear x0
 have q3 := p1.set3 (v0 := .int .i64 r.n) (v1 := .bool r.e) (v2 := .slice A1 r.m.length c1)
 have o3 := own.far3 (g := w.heap.size + 1) (v0 := .int .i64 r.n) (v1 := .bool r.e) (v2 := .slice A1 r.m.length c1) (zan own p1 (by decide))
 obtain ⟨z0, z1, z2, fz⟩ := zaa q3
 refine bodyPost_ret (v := .agg #[r.n, r.e, .slice A1 r.m.length c1]) (by simp [results, Tryz.results132, go_sem, z0, z1, z2]) rfl ⟨A1, c1, rfl, o3.less (show w.heap.size ≤ w0.heap.size by have := HSZ.out; omega), a1.trans (zah (by omega) a1.size)⟩
end
section
open Go.RowKit
attribute [local go_sem ↓] Go.wp_at_zero Go.wp_at_succ
theorem Rg.val_eq (r : Rg) : r.val = .agg #[r.lo, r.hi, r.hl, r.hh] := rfl
theorem zjr {w w' : World} {A A1 : Option Addr} {m m1 : List Int} {c1 : Nat} (h : (A1 = A ∧ m1 = m) ∨ Own w' w.heap.size A1 c1 m1) (hx : Rd w w.heap.size A m) (hb : Below w.heap.size w w') : Rd w' w'.heap.size A1 m1 := by
 rcases h with ⟨rfl, rfl⟩ | h
 ·exact hx.up hb
 ·exact h.rd
theorem zfa (o : O) (ok : check o = 0) (v : Nat) (hv : (v : Int) < o.n) (r : Rg) (hlo : I64 r.lo) (A : Option Addr) (cap : Nat) (w : World) (hx : Rd w w.heap.size A o.m) (hm : o.m.length ≤ 17592186044416) :
  Calls Tryz.prog 75 #[.agg #[o.n, o.e, .slice A o.m.length cap], (v : Int), r.val] w (zbh w (giveO o v r)) := by
 have okF : OkO o.n (forgetO o v) := OkO.forget ⟨rfl, ok⟩ v
 have okR : OkO o.n (rangedO (forgetO o v) v r) := okF.ranged hv r
 have hmF := OkO.small okF
 have hmR := OkO.small okR
 have HF := hid (fun W (h : Rd W W.heap.size A o.m) => zbE o ok v hv A cap W h hm)
 have HG := hid (show giveO o v r = closeO (rangedO (forgetO o v) v r) from rfl)
 generalize giveO o v r = G at *
 have HR := hid (fun A c W h => zbW o.n (forgetO o v) okF v hv r hlo A c W h hmF)
 generalize forgetO o v = F at *
 rw [Rg.val_eq] at HR
 have HCL := hid (fun A c W h => zaT (rangedO F v r) okR.ok A c W h hmR)
 rw [← HG.out] at HCL
 generalize rangedO F v r = Q at *
 rw [Rg.val_eq]
 clear HG
 obtain ⟨p0, p1, p2, a3, hsz⟩ := zaj w #[o.n, o.e, .slice A o.m.length cap] #[r.lo, r.hi, r.hl, r.hh] #[.int .i64 0, false, .slice none 0 0] 24 49 24
 replace hx := hx.up a3
 have HSZ := hid hsz
 clear hsz
 go_enter Tryz.func75, Tryz.ntmps75
 go_upto_region 1 with fail
 generalize ((w.alloc (Obj.cells #[o.n, o.e, .slice A o.m.length cap] 24)).alloc (Obj.cells #[r.lo, r.hi, r.hl, r.hh] 49)).alloc (Obj.cells #[.int .i64 0, false, .slice none 0 0] 24) = w1 at *
 have f0 := zab (show w1.cell? ⟨w.heap.size, 0, none⟩ = some (.int .i64 o.n) from p0.cell 0)
 have f1 := zab (show w1.cell? ⟨w.heap.size, 1, none⟩ = some (.bool o.e) from p0.cell 1)
 have f2 := zab (show w1.cell? ⟨w.heap.size, 2, none⟩ = some (.slice A o.m.length cap) from p0.cell 2)
 have j0 := zab (show w1.cell? ⟨w.heap.size + 1, 0, none⟩ = some (.int .i64 r.lo) from p1.cell 0)
 have j1 := zab (show w1.cell? ⟨w.heap.size + 1, 1, none⟩ = some (.int .i64 r.hi) from p1.cell 1)
 have j2 := zab (show w1.cell? ⟨w.heap.size + 1, 2, none⟩ = some (.bool r.hl) from p1.cell 2)
 have j3 := zab (show w1.cell? ⟨w.heap.size + 1, 3, none⟩ = some (.bool r.hh) from p1.cell 3)
 refine zac 5 [Sp.val (.agg #[o.n, o.e, .slice A o.m.length cap]), Sp.val (.int .i64 (v : Int)), Sp.any (zfJ F), Sp.val (.int .i64 (v : Int)), Sp.val (.agg #[r.lo, r.hi, r.hl, r.hh])] (by kernel_rfl) (by kernel_rfl) ?_
 (refine fe_t (fun _ _ => ?_))
 (refine fe_t (fun _ _ => ?_))
 refine zaf.call 132 #[.agg #[o.n, o.e, .slice A o.m.length cap], (v : Int)] (by rfl) (fun W hW => by go_simp) (fun W hW => (HF.out W (hx.up (Ext.trans (Below.refl _ _).drew hW))).mono fun _ _ ⟨A1, c1, he, ho, hb⟩ => ⟨_, he, hb, A1, c1, rfl, ho⟩) (fun v2 l2 h2 => ?_)
 refine fe_p ?_
 (refine fe_t (fun _ _ => ?_))
 (refine fe_t (fun _ _ => ?_))
 refine zaf.tail (fun W hW hf hd => ?_)
 replace hW : Below w1.heap.size w1 W := Ext.trans (Below.refl _ _).drew hW
 obtain ⟨A1, c1, rfl, a2, a5, -, -⟩ := zeH (show Sp.fact w1.drew (Sp.any (zfJ F)) v2 l2 h2 W from hf 2)
 replace a2 : Own W w.heap.size A1 c1 F.m := a2.less (by have := HSZ.out; have h5 : w1.heap.size ≤ l2 := a5; omega)
 clear hf hd f0 f1 f2 j0 j1 j2 j3 HF a5
 replace p0 := p0.later hW
 replace p1 := p1.later hW
 replace p2 := p2.later hW
 replace hx := hx.up hW
 replace a3 := bup a3 hW
 clear hx
 go_wp2_with fail
 (with_reducible refine (HR.out A1 c1 W a2.rd).mono ?_)
 rintro e_w2 w2 ⟨A2, c2, rfl, al2, a0⟩
 have a6 : Rd w2 w2.heap.size A2 Q.m := zjr al2 a2.rd a0
 clear a2 al2
 replace p0 := p0.later a0
 replace p1 := p1.later a0
 replace p2 := p2.later a0
 replace a3 := bup a3 a0
 go_wp2_with fail
 (with_reducible refine (HCL.out A2 c2 w2 a6).mono ?_)
 rintro e_w3 w3 ⟨A3, c3, rfl, a4, a1⟩
 have a8 := a3.size
 replace p0 := p0.later a1
 replace p1 := p1.later a1
 replace p2 := p2.later a1
 replace a6 := a6.up a1
 replace a3 := bup a3 a1
 have a7 := zaa p2
 go_wp2
 clear a7
 have o9 := a4.far3 (g := w.heap.size + 2) (v0 := .int .i64 G.n) (v1 := .bool G.e) (v2 := .slice A3 G.m.length c3) (zan a4 p2 (by decide))
 have hq2 : w.heap.size + 1 + 1 = w.heap.size + 2 := rfl
 have q9 := p2.set3 (v0 := .int .i64 G.n) (v1 := .bool G.e) (v2 := .slice A3 G.m.length c3)
 have hb9 := a3.trans (zah (W := w3) (g := w.heap.size + 1 + 1) (v0 := .int .i64 G.n) (v1 := .bool G.e) (v2 := .slice A3 G.m.length c3) (by omega) a3.size)
 obtain ⟨z0, z1, z2, fz⟩ := zaa q9
 refine bodyPost_ret (v := .agg #[G.n, G.e, .slice A3 G.m.length c3]) (by simp [results, Tryz.results75, go_sem, z0, z1, z2]) rfl ?_
 exact ⟨_, _, rfl, o9.less a8, hb9⟩
end
section
open Go.RowKit
theorem zav {W : World} {B g : Nat} {v0 v1 v2 v3 : Value} (hg : B ≤ g) (hB : B ≤ W.heap.size) : Below B W ((((W.setCell ⟨g, 0, none⟩ v0).setCell ⟨g, 1, none⟩ v1).setCell ⟨g, 2, none⟩ v2).setCell ⟨g, 3, none⟩ v3) := by
 have a0 := zaL (W := W) (i := 0) (v := v0) hg hB
 have s0 := Nat.le_trans hB a0.size
 have a1 := zaL (W := W.setCell ⟨g, 0, none⟩ v0) (i := 1) (v := v1) hg s0
 have s1 := Nat.le_trans s0 a1.size
 have a2 := zaL (W := (W.setCell ⟨g, 0, none⟩ v0).setCell ⟨g, 1, none⟩ v1) (i := 2) (v := v2) hg s1
 have s2 := Nat.le_trans s1 a2.size
 exact ((a0.trans a1).trans a2).trans (zaL hg s2)
theorem zbM {w W : World} {B g8 g9 : Nat} {t8 t9 : TypeId} {a0 a1 a2 a3 b0 b1 b2 b3 : Value} (k8 : Blk W g8 t8 #[a0, a1, a2, a3]) (k9 : Blk W g9 t9 #[b0, b1, b2, b3]) (hne : g8 ≠ g9) (hb : Below B w W) (hB : B ≤ w.heap.size) (h8 : B ≤ g8) (h9 : B ≤ g9) (v0 v1 v2 v3 u0 u1 u2 u3 : Value) :
  Blk ((((((((W.setCell ⟨g8, 0, none⟩ v0).setCell ⟨g8, 1, none⟩ v1).setCell ⟨g8, 2, none⟩ v2).setCell ⟨g8, 3, none⟩ v3).setCell ⟨g9, 0, none⟩ u0).setCell ⟨g9, 1, none⟩ u1).setCell ⟨g9, 2, none⟩ u2).setCell ⟨g9, 3, none⟩ u3) g8 t8 #[v0, v1, v2, v3] ∧
  Blk ((((((((W.setCell ⟨g8, 0, none⟩ v0).setCell ⟨g8, 1, none⟩ v1).setCell ⟨g8, 2, none⟩ v2).setCell ⟨g8, 3, none⟩ v3).setCell ⟨g9, 0, none⟩ u0).setCell ⟨g9, 1, none⟩ u1).setCell ⟨g9, 2, none⟩ u2).setCell ⟨g9, 3, none⟩ u3) g9 t9 #[u0, u1, u2, u3] ∧
  Below B w ((((((((W.setCell ⟨g8, 0, none⟩ v0).setCell ⟨g8, 1, none⟩ v1).setCell ⟨g8, 2, none⟩ v2).setCell ⟨g8, 3, none⟩ v3).setCell ⟨g9, 0, none⟩ u0).setCell ⟨g9, 1, none⟩ u1).setCell ⟨g9, 2, none⟩ u2).setCell ⟨g9, 3, none⟩ u3) ∧
  ∀ q t cs, Blk W q t cs → g8 ≠ q → g9 ≠ q → Blk ((((((((W.setCell ⟨g8, 0, none⟩ v0).setCell ⟨g8, 1, none⟩ v1).setCell ⟨g8, 2, none⟩ v2).setCell ⟨g8, 3, none⟩ v3).setCell ⟨g9, 0, none⟩ u0).setCell ⟨g9, 1, none⟩ u1).setCell ⟨g9, 2, none⟩ u2).setCell ⟨g9, 3, none⟩ u3) q t cs := by
 refine ⟨?_, ?_, ?_, fun q t cs h n8 n9 => ?_⟩
 ·exact ((((((((k8.set_ 0 v0).set_ 1 v1).set_ 2 v2).set_ 3 v3).far (p := ⟨g9, 0, none⟩) (fun e => hne e.symm) u0).far (p := ⟨g9, 1, none⟩) (fun e => hne e.symm) u1).far (p := ⟨g9, 2, none⟩) (fun e => hne e.symm) u2).far (p := ⟨g9, 3, none⟩) (fun e => hne e.symm) u3)
 ·exact ((((((((k9.far (p := ⟨g8, 0, none⟩) hne v0).far (p := ⟨g8, 1, none⟩) hne v1).far (p := ⟨g8, 2, none⟩) hne v2).far (p := ⟨g8, 3, none⟩) hne v3).set_ 0 u0).set_ 1 u1).set_ 2 u2).set_ 3 u3)
 ·have s8 := zav (W := W) (g := g8) (v0 := v0) (v1 := v1) (v2 := v2) (v3 := v3) h8 (Nat.le_trans hB hb.size)
  exact (hb.trans s8).trans (zav h9 (Nat.le_trans (Nat.le_trans hB hb.size) s8.size))
 ·exact ((((((((h.far (p := ⟨g8, 0, none⟩) n8 v0).far (p := ⟨g8, 1, none⟩) n8 v1).far (p := ⟨g8, 2, none⟩) n8 v2).far (p := ⟨g8, 3, none⟩) n8 v3).far (p := ⟨g9, 0, none⟩) n9 u0).far (p := ⟨g9, 1, none⟩) n9 u1).far (p := ⟨g9, 2, none⟩) n9 u2).far (p := ⟨g9, 3, none⟩) n9 u3)
end
section
open Go.RowKit
attribute [local go_sem ↓] Go.wp_at_zero Go.wp_at_succ
def loR (r : Rg) : Int := if r.hl then r.lo else -9223372036854775808
def hiR (r : Rg) : Int := if r.hh then r.hi else 9223372036854775807
theorem za5 (r : Rg) (w : World) : Calls Tryz.prog 105 #[r.val] w fun e w' => e = .returned (.tuple #[.int .i64 (loR r), .int .i64 (hiR r)]) ∧ Below w.heap.size w w' := by
 obtain ⟨lo, hi, hl, hh⟩ := r
 unfold Rg.val loR hiR
 dsimp only
 obtain ⟨p0, a0, -⟩ := zak w #[lo, hi, hl, hh] 49
 have x0 := zag p0
 cases hl <;> cases hh
 all_goals
  go_enter Tryz.func105, Tryz.ntmps105
  go_wp2
 ·refine bodyPost_ret (v := .tuple #[.int .i64 (-9223372036854775808), .int .i64 9223372036854775807]) (by simp [results, Tryz.results105, go_sem]) rfl ⟨by simp, a0⟩
 ·refine bodyPost_ret (v := .tuple #[.int .i64 (-9223372036854775808), hi]) (by simp [results, Tryz.results105, go_sem]) rfl ⟨by simp, a0⟩
 ·refine bodyPost_ret (v := .tuple #[lo, .int .i64 9223372036854775807]) (by simp [results, Tryz.results105, go_sem]) rfl ⟨by simp, a0⟩
 ·refine bodyPost_ret (v := .tuple #[lo, hi]) (by simp [results, Tryz.results105, go_sem]) rfl ⟨by simp, a0⟩
theorem zey (a b n : Int) (w : World) : Calls Tryz.prog 104 #[.agg #[a, b], n] w fun e w' => e = .returned (.bool (decide (a ≤ n) && decide (n ≤ b))) ∧ Below w.heap.size w w' := by
 obtain ⟨p0, a0, -⟩ := zak w #[a, b] 135
 obtain ⟨x0, x1, fx⟩ := zai p0
 cases t1 : decide (a ≤ n)
 ·go_enter Tryz.func104, Tryz.ntmps104
  go_wp2
  go_ret
  exact ⟨rfl, a0⟩
 ·go_enter Tryz.func104, Tryz.ntmps104
  go_wp2
  go_ret
  exact ⟨by simp, a0⟩
theorem za4 (r : Rg) (w : World) : Calls Tryz.prog 99 #[r.val] w fun e w' => e = .returned (.agg #[.int .i64 (loR r), .int .i64 (hiR r)]) ∧ Below w.heap.size w w' := by
 obtain ⟨lo, hi, hl, hh⟩ := r
 unfold Rg.val loR hiR
 dsimp only
 obtain ⟨p0, p1, p2, a0, -⟩ := zaj w #[lo, hi, hl, hh] #[.int .i64 0, .int .i64 0] #[.int .i64 (-9223372036854775808), .int .i64 9223372036854775807] 49 135 135
 have x0 := zag p0
 cases hl <;> cases hh
 all_goals
  go_enter Tryz.func99, Tryz.ntmps99
  go_wp2
 ·obtain ⟨-, q1, -, a1, -⟩ := zaj w #[lo, hi, false, false] #[.int .i64 (-9223372036854775808), .int .i64 9223372036854775807] #[.int .i64 (-9223372036854775808), .int .i64 9223372036854775807] 49 135 135
  obtain ⟨z0, z1, fz⟩ := zai q1
  refine bodyPost_ret (v := .agg #[.int .i64 (-9223372036854775808), .int .i64 9223372036854775807]) (by simp [results, Tryz.results99, go_sem, z0, z1]) rfl ⟨by simp, a1⟩
 ·obtain ⟨-, q1, -, a1, -⟩ := zaj w #[lo, hi, false, true] #[.int .i64 (-9223372036854775808), hi] #[.int .i64 (-9223372036854775808), hi] 49 135 135
  obtain ⟨z0, z1, fz⟩ := zai q1
  refine bodyPost_ret (v := .agg #[.int .i64 (-9223372036854775808), hi]) (by simp [results, Tryz.results99, go_sem, z0, z1]) rfl ⟨by simp, a1⟩
 ·obtain ⟨-, q1, -, a1, -⟩ := zaj w #[lo, hi, true, false] #[lo, .int .i64 9223372036854775807] #[lo, .int .i64 9223372036854775807] 49 135 135
  obtain ⟨z0, z1, fz⟩ := zai q1
  refine bodyPost_ret (v := .agg #[lo, .int .i64 9223372036854775807]) (by simp [results, Tryz.results99, go_sem, z0, z1]) rfl ⟨by simp, a1⟩
 ·obtain ⟨-, q1, -, a1, -⟩ := zaj w #[lo, hi, true, true] #[lo, hi] #[lo, hi] 49 135 135
  obtain ⟨z0, z1, fz⟩ := zai q1
  refine bodyPost_ret (v := .agg #[lo, hi]) (by simp [results, Tryz.results99, go_sem, z0, z1]) rfl ⟨by simp, a1⟩
end
section
open Go.RowKit
attribute [local go_sem ↓] Go.wp_at_zero Go.wp_at_succ
theorem zgf (n : Int) (hn : I64 n) (w : World) : Calls Tryz.prog 182 #[n] w fun e w' => e = .returned (.int .u64 (if n < 0 then -n else n)) ∧ w' = w := by
 unfold I64 at hn
 obtain ⟨n0, n1⟩ := hn
 by_cases h : n < 0
 ·rw [if_pos h]
  have t1 : decide (n < 0) = true := by rw [decide_eq_true_eq]; exact h
  have u0 : (n + 18446744073709551616 : Int) % 18446744073709551616 = n + 18446744073709551616 := by omega
  have u1 : n % 18446744073709551616 = n + 18446744073709551616 := by omega
  go_enter Tryz.func182, Tryz.ntmps182
  go_wp2
  have hw : IntKind.u64.wrap (-IntKind.u64.wrap n) = -n := by
   have e1 : IntKind.u64.wrap n = n + 18446744073709551616 := u1
   rw [e1]
   show (-(n + 18446744073709551616)) % 18446744073709551616 = -n
   omega
  rw [hw]
  go_ret
  exact ⟨rfl, rfl⟩
 ·rw [if_neg h]
  have t1 : decide (n < 0) = false := by rw [decide_eq_false_iff_not]; exact h
  have u1 : n % 18446744073709551616 = n := by omega
  go_enter Tryz.func182, Tryz.ntmps182
  go_wp2
  go_ret
  exact ⟨rfl, rfl⟩
end
end Go.Proofs.YtnmpgijiimglcaaGreat
