import Derived.Test.YtnmpgijiimglcaaGreatBTt22
import Derived.Test.YtnmpgijiimglcaaGreatBTt14
import Derived.Maps.Own
import Derived.Test.YtnmpgijiimglcaaGreatBTt21
import Derived.Test.YtnmpgijiimglcaaGreatBTt08
import Derived.Test.YtnmpgijiimglcaaGreatBTt04
import Derived.Test.YtnmpgijiimglcaaGreatBTt11
import Derived.Shelf.Bits.Mul64
namespace Go.Proofs.YtnmpgijiimglcaaGreat
set_option maxRecDepth 100000
set_option maxHeartbeats 8000000
section
open Go.RowKit Go.Maps
attribute [local go_sem ↓] Go.wp_at_zero Go.wp_at_succ
theorem zcc {H : Type} {P : Program} (w : World) {ops : Array Oper} {rest : List Oper} {o : Oper} {a : Act} {Q : Exit → Act → World → Prop}
  (hg : o.guard = none) (m x v : Operand) (t : TypeId) (hop : o.op = Op.insert t m x v)
  (k e : TypeId) (K : Keyed P k) (ht : P.underlying t = some (.map k e)) (R : Value → Option (DataW H × List MemPlace)) (b n : Nat) (D : DataW H)
  (hm : a.eval m = .map (some b)) (hown : w.ownsMap P k R b n D) (hn : n < maxLen) (key val : Value) (kl : Lit) (hx : a.eval x = key) (hv : a.eval v = val) (hkey : keyOf P k key = some kl)
  (d : DataW H) (ps : List MemPlace) (hval : R val = some (d, ps))
  (hK : ∀ w', w'.ownsMap P k R b (n + 1) (D.put kl d) → w.grownBy w' (some b) → wpList P ops Q rest (a.put o.dst undef) w') :
  wpList P ops Q (o :: rest) a w :=
 wpList_plain hg fun K' hK' => by
  obtain ⟨w', b9, r1, r2⟩ := hown.update K ht hn hkey hval
  unfold Oper.wp
  simp [execOp, hop, hm, hx, hv, b9, Result.andThen]
  exact hK' _ _ (hK w' r1 r2)
theorem zjd (n : Int) (A : Option Addr) (cap b base : Nat) (w : World) (own : Own w base A cap []) (hbase : base ≤ w.heap.size) :
  Calls Tryz.prog 227 #[.agg #[n, true, .slice A 0 cap], .map (some b)] w fun e w' => e = .returned (.agg #[n, true, .slice A 0 cap]) ∧ Own w' base A cap [] ∧ Below base w w' := by
 obtain ⟨p0, a1, b5⟩ := zaw w #[n, true, .slice A 0 cap] 24
 go_enter Tryz.func227, Tryz.ntmps227
 have x0 := zaa p0
 go_wp2
 have hX : ∀ W, Below w.heap.size w W → Own W base A cap [] ∧ Below base w W := fun W hW => ⟨own.below hW, hW.mono hbase⟩
 refine bodyPost_ret (v := .agg #[n, true, .slice A 0 cap]) (by simp [results, Tryz.results227, go_sem]) rfl (And.intro rfl (hX _ ?_))
 exact zbF
def RD : Value → Option (DataW Unit × List MemPlace) := fun _ => some (.map [], [])
theorem ziO (o : O) (ok : check o = 0) (v : Nat) (hv : (v : Int) < o.n) (A : Option Addr) (cap : Nat) (w : World) (hx : Rd w w.heap.size A o.m) (hm : o.m.length ≤ 17592186044416) :
  Calls Tryz.prog 192 #[.agg #[o.n, o.e, .slice A o.m.length cap], (v : Int)] w (zjW w (forgetO o v) 0) := by
 have a5 : Tryz.prog.underlying 3 = some (.int .i64) := Tryz.underlying3
 obtain ⟨p0, p1, a1, b5⟩ := zao w #[o.n, o.e, .slice A o.m.length cap] #[.int .i64 0, false, .slice none 0 0] 24 24
 replace hx := hx.up a1
 have HK := hid ok
 have HC := hid (fun W h => zbH o A cap W h (by omega))
 rw [HK.out] at HC
 have HCL := hid (fun W (h : Rd W W.heap.size A o.m) => zji o HK.out A cap W h hm)
 have okc : OkO o.n (closeO o) := OkO.close ⟨rfl, ok⟩
 have HF := hid (show forgetO o v = if (closeO o).e then closeO o else ⟨o.n, false, forgetM (2 * o.n).toNat v (closeO o).m⟩ from rfl)
 have t1 : decide ((v : Int) < 0) = false := by rw [decide_eq_false_iff_not]; omega
 have t2 : decide (o.n ≤ (v : Int)) = false := by rw [decide_eq_false_iff_not]; omega
 have hv0 : (v : Int) ≤ 64 := by have := okc.rng; omega
 have HV := hid hv
 generalize forgetO o v = F at *
 generalize closeO o = q at *
 clear ok hv b5
 have hmm := @run_makeMap Tryz.prog
 go_enter Tryz.func192, Tryz.ntmps192
 have x0 := zaa p0
 go_wp2_with fail
 clear x0
 generalize (w.alloc (Obj.cells #[o.n, o.e, .slice A o.m.length cap] 24)).alloc (Obj.cells #[.int .i64 0, false, .slice none 0 0] 24) = w0 at *
 (with_reducible refine (HC.out w0 hx).mono ?_)
 clear HC
 rintro e1 w1 ⟨rfl, a8⟩
 replace p0 := p0.later a8
 replace p1 := p1.later a8
 replace hx := hx.up a8
 replace a1 := bup a1 a8
 clear a8
 have x0 := zaa p0
 go_wp2_with fail
 clear x0
 have hp0 : w.heap.size < w1.heap.size := p0.lt
 have hp1 : w.heap.size + 1 < w1.heap.size := p1.lt
 (with_reducible refine (HCL.out w1 hx).mono ?_)
 clear HCL
 rintro e2 w2 ⟨A2, c2, rfl, a0, a7⟩
 replace p0 := p0.later a7
 replace p1 := p1.later a7
 rcases okc.form with rfl | ⟨N, cm, hN, hn, rfl, hc⟩
 ·unfold emptyO at *
  dsimp only [List.length_nil] at *
  obtain rfl : F = ⟨o.n, true, []⟩ := by rw [HF.out]; rfl
  have a3 := World.ownsMap_made w2 Tryz.prog 3 RD
  have b1 : ∀ g, A2 = some ⟨g, 0, none⟩ → g ≠ w2.heap.size := fun g hg => by
   rcases a0.form with ⟨h, _⟩ | ⟨g', h, _, h'⟩
   ·rw [h] at hg; cases hg
   ·rw [h] at hg; injection hg with hg; injection hg with hg; omega
  replace a0 := a0.below (new1 w2 (.map #[] 0))
  replace p1 := p1.later (new1 w2 (.map #[] 0))
  have b7 := bup a7 (new1 w2 (.map #[] 0))
  have b0 := b7.size
  go_wp2_with (first | (refine zcc _ rfl _ _ _ 221 rfl 3 220 (int_keyed a5) Tryz.underlying221 RD w2.heap.size 0 (.map []) rfl a3 (by unfold maxLen; omega) _ _ (.int .i64 (v : Int)) rfl rfl (keyOf_int_mk a5 (WalkArith.wf_i64 (by omega))) (.map []) [] rfl ?_; intro w4 a6 b2))
  have a4 := a0.grown b2 (zke a0 b1)
  replace p1 := p1.stay b2 (by intro e; injection e with e; have := a7.size; omega)
  have b4 : Below w1.heap.size w1 w4 := b7.trans (zat b2 (fun k e => by injection e with e; have := a7.size; omega) b0)
  have a9 := b4.size
  (with_reducible refine (zjd o.n A2 c2 w2.heap.size w1.heap.size w4 a4 a9).mono ?_)
  rintro e5 w5 ⟨rfl, a2, b3⟩
  replace p1 := p1.below b3 hp1
  have b6 := bup a1 (b4.trans b3)
  have y0 := zaa p1
  go_wp2
  have q9 := p1.set3 (v0 := .int .i64 o.n) (v1 := .bool true) (v2 := .slice A2 0 c2)
  have o9 := a2.far3 (g := w.heap.size + 1) (v0 := .int .i64 o.n) (v1 := .bool true) (v2 := .slice A2 0 c2) (zak a2 p1 (by decide))
  obtain ⟨z0, z1, z2, fz⟩ := zaa q9
  refine bodyPost_ret (v := .tuple #[.agg #[o.n, true, .slice A2 0 c2], .int .i64 0]) (by simp [results, Tryz.results192, go_sem, z0, z1, z2]) rfl ?_
  exact ⟨A2, c2, rfl, o9.less a1.size, b6.trans (zae (by omega) b6.size)⟩
 ·dsimp only at a0 ⊢
  obtain rfl : F = ⟨o.n, false, forgetM N v cm⟩ := by rw [HF.out]; dsimp only; rw [if_neg (by simp), show (2 * o.n).toNat = N by omega]
  have HFL := hid (zdc N v cm)
  have a3 := World.ownsMap_made w2 Tryz.prog 3 RD
  have b1 : ∀ g, A2 = some ⟨g, 0, none⟩ → g ≠ w2.heap.size := fun g hg => by
   rcases a0.form with ⟨h, _⟩ | ⟨g', h, _, h'⟩
   ·rw [h] at hg; cases hg
   ·rw [h] at hg; injection hg with hg; injection hg with hg; omega
  replace a0 := a0.below (new1 w2 (.map #[] 0))
  replace p1 := p1.later (new1 w2 (.map #[] 0))
  have b7 := bup a7 (new1 w2 (.map #[] 0))
  have b0 := b7.size
  go_wp2_with (first | (refine zcc _ rfl _ _ _ 221 rfl 3 220 (int_keyed a5) Tryz.underlying221 RD w2.heap.size 0 (.map []) rfl a3 (by unfold maxLen; omega) _ _ (.int .i64 (v : Int)) rfl rfl (keyOf_int_mk a5 (WalkArith.wf_i64 (by omega))) (.map []) [] rfl ?_; intro w4 a6 b2))
  have a4 := a0.grown b2 (zke a0 b1)
  replace p1 := p1.stay b2 (by intro e; injection e with e; have := a7.size; omega)
  have b4 : Below w1.heap.size w1 w4 := b7.trans (zat b2 (fun k e => by injection e with e; have := a7.size; omega) b0)
  have a9 := b4.size
  have b8 := hc.len
  obtain ⟨gA, rfl⟩ : ∃ g, A2 = some ⟨g, 0, none⟩ := by
   rcases a4.form with ⟨_, h, _⟩ | ⟨g, h, _⟩
   ·have : 1 * 1 ≤ N * N := Nat.mul_le_mul (by have := HV.out; omega) (by have := HV.out; omega)
    rw [h] at b8; simp at b8; omega
   ·exact ⟨g, h⟩
  clear b8
  have HX := hid ((callsIn_wide (n := 10)).1 (zhD o.n cm N hN hn hc v HV.out gA c2 w1.heap.size w2.heap.size (0 + 1) (.map []) w4 a4 a9 a6))
  (with_reducible refine HX.out.mono ?_)
  clear HX
  rintro e5 w5 ⟨rfl, a2, b3⟩
  have own5' := a2
  generalize forgetM N v cm = fm at *
  replace p1 := p1.below b3 hp1
  have b6 := bup a1 (b4.trans b3)
  have y0 := zaa p1
  go_wp2
  have q9 := p1.set3 (v0 := .int .i64 o.n) (v1 := .bool false) (v2 := .slice (some ⟨gA, 0, none⟩) cm.length c2)
  have o9 := a2.far3 (g := w.heap.size + 1) (v0 := .int .i64 o.n) (v1 := .bool false) (v2 := .slice (some ⟨gA, 0, none⟩) cm.length c2) (zak a2 p1 (by decide))
  obtain ⟨z0, z1, z2, fz⟩ := zaa q9
  refine bodyPost_ret (v := .tuple #[.agg #[o.n, false, .slice (some ⟨gA, 0, none⟩) cm.length c2], .int .i64 0]) (by simp [results, Tryz.results192, go_sem, z0, z1, z2]) rfl ?_
  exact ⟨(some ⟨gA, 0, none⟩), c2, by dsimp only; rw [HFL.out], o9.less a1.size, b6.trans (zae (by omega) b6.size)⟩
theorem zbY (o : O) (ok : check o = 0) (v : Nat) (hv : (v : Int) < o.n) (A : Option Addr) (cap : Nat) (w : World) (hx : Rd w w.heap.size A o.m) (hm : o.m.length ≤ 17592186044416) :
  Calls Tryz.prog 132 #[.agg #[o.n, o.e, .slice A o.m.length cap], (v : Int)] w (zaX w (forgetO o v)) := by
 obtain ⟨p0, p1, a1, b5⟩ := zao w #[o.n, o.e, .slice A o.m.length cap] #[.int .i64 0, false, .slice none 0 0] 24 24
 have hx0 := hx.up a1
 have HC := hid (ziO o ok v hv A cap _ hx0 hm)
 have HSZ := hid b5
 clear b5
 generalize forgetO o v = r at *
 go_enter Tryz.func132, Tryz.ntmps132
 go_wp2_with fail
 generalize (w.alloc (Obj.cells #[o.n, o.e, .slice A o.m.length cap] 24)).alloc (Obj.cells #[.int .i64 0, false, .slice none 0 0] 24) = w0 at *
 (with_reducible refine HC.out.mono ?_)
 clear HC
 rintro e1 w1 ⟨A1, c1, rfl, own, a8⟩
 replace p1 := p1.later a8
 replace a1 := bup a1 a8
 have n3 := new1 w1 (.cells #[r.n, r.e, .slice A1 r.m.length c1] 24)
 replace p1 := p1.later n3
 replace own := own.below n3
 replace a1 := bup a1 n3
 have x0 := zaa p1
 go_wp2
 clear x0
 have q3 := p1.set3 (v0 := .int .i64 r.n) (v1 := .bool r.e) (v2 := .slice A1 r.m.length c1)
 have o3 := own.far3 (g := w.heap.size + 1) (v0 := .int .i64 r.n) (v1 := .bool r.e) (v2 := .slice A1 r.m.length c1) (zak own p1 (by decide))
 obtain ⟨z0, z1, z2, fz⟩ := zaa q3
 refine bodyPost_ret (v := .agg #[r.n, r.e, .slice A1 r.m.length c1]) (by simp [results, Tryz.results132, go_sem, z0, z1, z2]) rfl ⟨A1, c1, rfl, o3.less (show w.heap.size ≤ w0.heap.size by have := HSZ.out; omega), a1.trans (zae (by omega) a1.size)⟩
end
section
open Go.RowKit
attribute [local go_sem ↓] Go.wp_at_zero Go.wp_at_succ
theorem Rg.val_eq (r : Rg) : r.val = .agg #[r.lo, r.hi, r.hl, r.hh] := rfl
theorem zlz {w w' : World} {A A1 : Option Addr} {m m1 : List Int} {c1 : Nat} (h : (A1 = A ∧ m1 = m) ∨ Own w' w.heap.size A1 c1 m1) (hx : Rd w w.heap.size A m) (hb : Below w.heap.size w w') : Rd w' w'.heap.size A1 m1 := by
 rcases h with ⟨rfl, rfl⟩ | h
 ·exact hx.up hb
 ·exact h.rd
theorem zgz (o : O) (ok : check o = 0) (v : Nat) (hv : (v : Int) < o.n) (r : Rg) (hlo : I64 r.lo) (A : Option Addr) (cap : Nat) (w : World) (hx : Rd w w.heap.size A o.m) (hm : o.m.length ≤ 17592186044416) :
  Calls Tryz.prog 75 #[.agg #[o.n, o.e, .slice A o.m.length cap], (v : Int), r.val] w (zaX w (giveO o v r)) := by
 have okF : OkO o.n (forgetO o v) := OkO.forget ⟨rfl, ok⟩ v
 have okR : OkO o.n (rangedO (forgetO o v) v r) := okF.ranged hv r
 have hmF := OkO.small okF
 have hmR := OkO.small okR
 have HF := hid (fun W (h : Rd W W.heap.size A o.m) => zbY o ok v hv A cap W h hm)
 have HG := hid (show giveO o v r = closeO (rangedO (forgetO o v) v r) from rfl)
 generalize giveO o v r = G at *
 have HR := hid (fun A c W h => zcm o.n (forgetO o v) okF v hv r hlo A c W h hmF)
 generalize forgetO o v = F at *
 rw [Rg.val_eq] at HR
 have HCL := hid (fun A c W h => zaN (rangedO F v r) okR.ok A c W h hmR)
 rw [← HG.out] at HCL
 generalize rangedO F v r = Q at *
 rw [Rg.val_eq]
 clear HG
 obtain ⟨p0, p1, p2, a3, hsz⟩ := zah w #[o.n, o.e, .slice A o.m.length cap] #[r.lo, r.hi, r.hl, r.hh] #[.int .i64 0, false, .slice none 0 0] 24 49 24
 replace hx := hx.up a3
 have HSZ := hid hsz
 clear hsz
 go_enter Tryz.func75, Tryz.ntmps75
 go_upto_region 1 with fail
 generalize ((w.alloc (Obj.cells #[o.n, o.e, .slice A o.m.length cap] 24)).alloc (Obj.cells #[r.lo, r.hi, r.hl, r.hh] 49)).alloc (Obj.cells #[.int .i64 0, false, .slice none 0 0] 24) = w1 at *
 have f0 := zac (show w1.cell? ⟨w.heap.size, 0, none⟩ = some (.int .i64 o.n) from p0.cell 0)
 have f1 := zac (show w1.cell? ⟨w.heap.size, 1, none⟩ = some (.bool o.e) from p0.cell 1)
 have f2 := zac (show w1.cell? ⟨w.heap.size, 2, none⟩ = some (.slice A o.m.length cap) from p0.cell 2)
 have j0 := zac (show w1.cell? ⟨w.heap.size + 1, 0, none⟩ = some (.int .i64 r.lo) from p1.cell 0)
 have j1 := zac (show w1.cell? ⟨w.heap.size + 1, 1, none⟩ = some (.int .i64 r.hi) from p1.cell 1)
 have j2 := zac (show w1.cell? ⟨w.heap.size + 1, 2, none⟩ = some (.bool r.hl) from p1.cell 2)
 have j3 := zac (show w1.cell? ⟨w.heap.size + 1, 3, none⟩ = some (.bool r.hh) from p1.cell 3)
 refine zad 5 [Sp.val (.agg #[o.n, o.e, .slice A o.m.length cap]), Sp.val (.int .i64 (v : Int)), Sp.any (zfM F), Sp.val (.int .i64 (v : Int)), Sp.val (.agg #[r.lo, r.hi, r.hl, r.hh])] (by kernel_rfl) (by kernel_rfl) ?_
 (refine fe_t (fun _ _ => ?_))
 (refine fe_t (fun _ _ => ?_))
 refine zaf.call 132 #[.agg #[o.n, o.e, .slice A o.m.length cap], (v : Int)] (by rfl) (fun W hW => by go_simp) (fun W hW => (HF.out W (hx.up (Ext.trans (Below.refl _ _).drew hW))).mono fun _ _ ⟨A1, c1, he, ho, hb⟩ => ⟨_, he, hb, A1, c1, rfl, ho⟩) (fun v2 l2 h2 => ?_)
 refine fe_p ?_
 (refine fe_t (fun _ _ => ?_))
 (refine fe_t (fun _ _ => ?_))
 refine zaf.tail (fun W hW hf hd => ?_)
 replace hW : Below w1.heap.size w1 W := Ext.trans (Below.refl _ _).drew hW
 obtain ⟨A1, c1, rfl, a2, a4, -, -⟩ := zej (show Sp.fact w1.drew (Sp.any (zfM F)) v2 l2 h2 W from hf 2)
 replace a2 : Own W w.heap.size A1 c1 F.m := a2.less (by have := HSZ.out; have h5 : w1.heap.size ≤ l2 := a4; omega)
 clear hf hd f0 f1 f2 j0 j1 j2 j3 HF a4
 replace p0 := p0.later hW
 replace p1 := p1.later hW
 replace p2 := p2.later hW
 replace hx := hx.up hW
 replace a3 := bup a3 hW
 clear hx
 go_wp2_with fail
 (with_reducible refine (HR.out A1 c1 W a2.rd).mono ?_)
 rintro e_w2 w2 ⟨A2, c2, rfl, al2, a0⟩
 have a6 : Rd w2 w2.heap.size A2 Q.m := zlz al2 a2.rd a0
 clear a2 al2
 replace p0 := p0.later a0
 replace p1 := p1.later a0
 replace p2 := p2.later a0
 replace a3 := bup a3 a0
 go_wp2_with fail
 (with_reducible refine (HCL.out A2 c2 w2 a6).mono ?_)
 rintro e_w3 w3 ⟨A3, c3, rfl, a5, a1⟩
 have a9 := a3.size
 replace p0 := p0.later a1
 replace p1 := p1.later a1
 replace p2 := p2.later a1
 replace a6 := a6.up a1
 replace a3 := bup a3 a1
 have a8 := zaa p2
 go_wp2
 clear a8
 have o9 := a5.far3 (g := w.heap.size + 2) (v0 := .int .i64 G.n) (v1 := .bool G.e) (v2 := .slice A3 G.m.length c3) (zak a5 p2 (by decide))
 have hq2 : w.heap.size + 1 + 1 = w.heap.size + 2 := rfl
 have q9 := p2.set3 (v0 := .int .i64 G.n) (v1 := .bool G.e) (v2 := .slice A3 G.m.length c3)
 have hb9 := a3.trans (zae (W := w3) (g := w.heap.size + 1 + 1) (v0 := .int .i64 G.n) (v1 := .bool G.e) (v2 := .slice A3 G.m.length c3) (by omega) a3.size)
 obtain ⟨z0, z1, z2, fz⟩ := zaa q9
 refine bodyPost_ret (v := .agg #[G.n, G.e, .slice A3 G.m.length c3]) (by simp [results, Tryz.results75, go_sem, z0, z1, z2]) rfl ?_
 exact ⟨_, _, rfl, o9.less a9, hb9⟩
end
section
open Go.RowKit
theorem zax {W : World} {B g : Nat} {v0 v1 v2 v3 : Value} (hg : B ≤ g) (hB : B ≤ W.heap.size) : Below B W ((((W.setCell ⟨g, 0, none⟩ v0).setCell ⟨g, 1, none⟩ v1).setCell ⟨g, 2, none⟩ v2).setCell ⟨g, 3, none⟩ v3) := by
 have a0 := zaG (W := W) (i := 0) (v := v0) hg hB
 have s0 := Nat.le_trans hB a0.size
 have a1 := zaG (W := W.setCell ⟨g, 0, none⟩ v0) (i := 1) (v := v1) hg s0
 have s1 := Nat.le_trans s0 a1.size
 have a2 := zaG (W := (W.setCell ⟨g, 0, none⟩ v0).setCell ⟨g, 1, none⟩ v1) (i := 2) (v := v2) hg s1
 have s2 := Nat.le_trans s1 a2.size
 exact ((a0.trans a1).trans a2).trans (zaG hg s2)
theorem zlO {w W : World} {B g8 g9 : Nat} {t8 t9 : TypeId} {a0 a1 a2 a3 b0 b1 b2 b3 : Value} (k8 : Blk W g8 t8 #[a0, a1, a2, a3]) (k9 : Blk W g9 t9 #[b0, b1, b2, b3]) (hne : g8 ≠ g9) (hb : Below B w W) (hB : B ≤ w.heap.size) (h8 : B ≤ g8) (h9 : B ≤ g9) (v0 v1 v2 v3 u0 u1 u2 u3 : Value) :
  Blk ((((((((W.setCell ⟨g8, 0, none⟩ v0).setCell ⟨g8, 1, none⟩ v1).setCell ⟨g8, 2, none⟩ v2).setCell ⟨g8, 3, none⟩ v3).setCell ⟨g9, 0, none⟩ u0).setCell ⟨g9, 1, none⟩ u1).setCell ⟨g9, 2, none⟩ u2).setCell ⟨g9, 3, none⟩ u3) g8 t8 #[v0, v1, v2, v3] ∧
  Blk ((((((((W.setCell ⟨g8, 0, none⟩ v0).setCell ⟨g8, 1, none⟩ v1).setCell ⟨g8, 2, none⟩ v2).setCell ⟨g8, 3, none⟩ v3).setCell ⟨g9, 0, none⟩ u0).setCell ⟨g9, 1, none⟩ u1).setCell ⟨g9, 2, none⟩ u2).setCell ⟨g9, 3, none⟩ u3) g9 t9 #[u0, u1, u2, u3] ∧
  Below B w ((((((((W.setCell ⟨g8, 0, none⟩ v0).setCell ⟨g8, 1, none⟩ v1).setCell ⟨g8, 2, none⟩ v2).setCell ⟨g8, 3, none⟩ v3).setCell ⟨g9, 0, none⟩ u0).setCell ⟨g9, 1, none⟩ u1).setCell ⟨g9, 2, none⟩ u2).setCell ⟨g9, 3, none⟩ u3) ∧
  ∀ q t cs, Blk W q t cs → g8 ≠ q → g9 ≠ q → Blk ((((((((W.setCell ⟨g8, 0, none⟩ v0).setCell ⟨g8, 1, none⟩ v1).setCell ⟨g8, 2, none⟩ v2).setCell ⟨g8, 3, none⟩ v3).setCell ⟨g9, 0, none⟩ u0).setCell ⟨g9, 1, none⟩ u1).setCell ⟨g9, 2, none⟩ u2).setCell ⟨g9, 3, none⟩ u3) q t cs := by
 refine ⟨?_, ?_, ?_, fun q t cs h n8 n9 => ?_⟩
 ·exact ((((((((k8.set_ 0 v0).set_ 1 v1).set_ 2 v2).set_ 3 v3).far (p := ⟨g9, 0, none⟩) (fun e => hne e.symm) u0).far (p := ⟨g9, 1, none⟩) (fun e => hne e.symm) u1).far (p := ⟨g9, 2, none⟩) (fun e => hne e.symm) u2).far (p := ⟨g9, 3, none⟩) (fun e => hne e.symm) u3)
 ·exact ((((((((k9.far (p := ⟨g8, 0, none⟩) hne v0).far (p := ⟨g8, 1, none⟩) hne v1).far (p := ⟨g8, 2, none⟩) hne v2).far (p := ⟨g8, 3, none⟩) hne v3).set_ 0 u0).set_ 1 u1).set_ 2 u2).set_ 3 u3)
 ·have s8 := zax (W := W) (g := g8) (v0 := v0) (v1 := v1) (v2 := v2) (v3 := v3) h8 (Nat.le_trans hB hb.size)
  exact (hb.trans s8).trans (zax h9 (Nat.le_trans (Nat.le_trans hB hb.size) s8.size))
 ·exact ((((((((h.far (p := ⟨g8, 0, none⟩) n8 v0).far (p := ⟨g8, 1, none⟩) n8 v1).far (p := ⟨g8, 2, none⟩) n8 v2).far (p := ⟨g8, 3, none⟩) n8 v3).far (p := ⟨g9, 0, none⟩) n9 u0).far (p := ⟨g9, 1, none⟩) n9 u1).far (p := ⟨g9, 2, none⟩) n9 u2).far (p := ⟨g9, 3, none⟩) n9 u3)
end
section

end
section

end
section
open Go.RowKit Go.Lib Go.Proofs
attribute [local go_sem ↓] Go.wp_at_zero Go.wp_at_succ
theorem zlH (x y : Nat) (hx : x < 18446744073709551616) (hy : y < 18446744073709551616) (w : World) :
  Calls Tryz.prog 181 #[.int .u64 x, .int .u64 y] w fun e w' => e = .returned (.tuple #[.int .u64 ((x * y / 18446744073709551616 : Nat) : Int), .int .u64 ((x * y % 18446744073709551616 : Nat) : Int)]) ∧ w' = w := by
 obtain ⟨bd, bt, bw, hhi⟩ := Lib.mul64_hi x y hx hy
 have ba := Lib.half_mul_le (a := x / 4294967296) (b := y / 4294967296) (by omega) (by omega)
 have bb := Lib.half_mul_le (a := x / 4294967296) (b := y % 4294967296) (by omega) (by omega)
 have bc := Lib.half_mul_le (a := x % 4294967296) (b := y / 4294967296) (by omega) (by omega)
 have ba' : x / 4294967296 * (y / 4294967296) < 18446744073709551616 := by omega
 have bb' : x / 4294967296 * (y % 4294967296) < 18446744073709551616 := by omega
 have bc' : x % 4294967296 * (y / 4294967296) < 18446744073709551616 := by omega
 have bh1 : x / 4294967296 * (y / 4294967296) + (x / 4294967296 * (y % 4294967296) + x % 4294967296 * (y % 4294967296) / 4294967296) / 4294967296 < 18446744073709551616 := by omega
 have bh : x / 4294967296 * (y / 4294967296) + (x / 4294967296 * (y % 4294967296) + x % 4294967296 * (y % 4294967296) / 4294967296) / 4294967296 + ((x / 4294967296 * (y % 4294967296) + x % 4294967296 * (y % 4294967296) / 4294967296) % 4294967296 + x % 4294967296 * (y / 4294967296)) / 4294967296 < 18446744073709551616 := by omega
 go_enter Tryz.func181, Tryz.ntmps181
 go_wp2
 simp only [Mul64.maskN x hx, Mul64.maskN y hy, Mul64.divN, Mul64.mulN, Mul64.addN, Mul64.wrapN _ bd, Mul64.wrapN _ bb', Mul64.wrapN _ bt, Mul64.maskN _ bt, Mul64.wrapN _ bc', Mul64.wrapN _ bw, Mul64.wrapN _ ba', Mul64.wrapN _ bh1, Mul64.wrapN _ bh, Mul64.wrapM (x * y)]
 rw [hhi]
 go_ret2
 exact ⟨rfl, rfl⟩
theorem zmh (a : Int) : (if a < 0 then -a else a) = ((a.natAbs : Nat) : Int) := by split <;> omega
theorem ziJ (a b : Int) : (mulW a b).2 = 0 ↔ a.natAbs * b.natAbs ≤ (if decide (a < 0) != decide (b < 0) then 9223372036854775808 else 9223372036854775807) := by
 have e : ((a.natAbs * b.natAbs : Nat) : Int) = if decide (a < 0) != decide (b < 0) then -(a * b) else a * b := by
  rw [Int.natCast_mul]
  by_cases ha : a < 0 <;> by_cases hb : b < 0
  ·rw [show (a.natAbs : Int) = -a by omega, show (b.natAbs : Int) = -b by omega]; simp [ha, hb]; exact Int.neg_mul_neg a b
  ·rw [show (a.natAbs : Int) = -a by omega, show (b.natAbs : Int) = b by omega]; simp [ha, hb]; exact Int.neg_mul a b
  ·rw [show (a.natAbs : Int) = a by omega, show (b.natAbs : Int) = -b by omega]; simp [ha, hb]; exact Int.mul_neg a b
  ·rw [show (a.natAbs : Int) = a by omega, show (b.natAbs : Int) = b by omega]; simp [ha, hb]
 unfold mulW
 have hf : (fit (a * b)).2 = 0 ↔ (-9223372036854775808 ≤ a * b ∧ a * b ≤ 9223372036854775807) := by
  by_cases h : -9223372036854775808 ≤ a * b ∧ a * b ≤ 9223372036854775807
  ·rw [zeG h]; simp [h]
  ·rw [zbB (by omega)]; simp [h]
 rw [hf]
 cases hs : (decide (a < 0) != decide (b < 0))
 ·rw [hs] at e; simp only [Bool.false_eq_true, if_false] at e ⊢; omega
 ·rw [hs] at e; simp only [if_true] at e ⊢; omega
end
section
open Go.RowKit
attribute [local go_sem ↓] Go.wp_at_zero Go.wp_at_succ
theorem zhY (n : Int) (hn : I64 n) (w : World) : Calls Tryz.prog 243 #[n] w fun e w' => e = .returned (.int .u64 (if n < 0 then -n else n)) ∧ w' = w := by
 unfold I64 at hn
 obtain ⟨n0, n1⟩ := hn
 by_cases h : n < 0
 ·rw [if_pos h]
  have t1 : decide (n < 0) = true := by rw [decide_eq_true_eq]; exact h
  have u0 : (n + 18446744073709551616 : Int) % 18446744073709551616 = n + 18446744073709551616 := by omega
  have u1 : n % 18446744073709551616 = n + 18446744073709551616 := by omega
  go_enter Tryz.func243, Tryz.ntmps243
  go_wp2
  have hw : IntKind.u64.wrap (-IntKind.u64.wrap n) = -n := by
   have e1 : IntKind.u64.wrap n = n + 18446744073709551616 := u1
   rw [e1]
   show (-(n + 18446744073709551616)) % 18446744073709551616 = -n
   omega
  rw [hw]
  go_ret
  exact ⟨rfl, rfl⟩
 ·rw [if_neg h]
  have t1 : decide (n < 0) = false := by rw [decide_eq_false_iff_not]; exact h
  have u1 : n % 18446744073709551616 = n := by omega
  go_enter Tryz.func243, Tryz.ntmps243
  go_wp2
  go_ret
  exact ⟨rfl, rfl⟩
theorem zmt {a b : Int} (h : (mulW a b).2 = 0) : (wrap64 (a * b), (0 : Int)) = mulW a b := by
 unfold mulW at *
 by_cases q : -9223372036854775808 ≤ a * b ∧ a * b ≤ 9223372036854775807
 ·exact (zcw q).symm
 ·rw [zbB (by omega)] at h; cases h
theorem zoj {a b : Int} (h : ¬ (mulW a b).2 = 0) : ((0 : Int), (1 : Int)) = mulW a b := by
 unfold mulW at *
 by_cases q : -9223372036854775808 ≤ a * b ∧ a * b ≤ 9223372036854775807
 ·rw [zeG q] at h; exact absurd rfl h
 ·exact (zbB (by omega)).symm
theorem zl1 (a b : Int) (w : World) (ia : I64 a) (ib : I64 b) : Calls Tryz.prog 230 #[a, b] w (zaE (mulW a b) w) := by
 have HF := hid (ziJ a b)
 have S1 := hid (fun W => zhY a ia W)
 have S2 := hid (fun W => zhY b ib W)
 rw [zmh] at S1 S2
 have hA : a.natAbs < 18446744073709551616 := by unfold I64 at ia; omega
 have hB : b.natAbs < 18446744073709551616 := by unfold I64 at ib; omega
 have S3 := hid (fun W => zlH a.natAbs b.natAbs hA hB W)
 clear ia ib hA hB
 generalize a.natAbs = A at *
 generalize b.natAbs = B at *
 have HY := hid (fun h => zmt (a := a) (b := b) h)
 have HN := hid (fun h => zoj (a := a) (b := b) h)
 generalize mulW a b = R at *
 obtain ⟨M, hM⟩ : ∃ M, M = A * B := ⟨_, rfl⟩
 rw [← hM] at S3 HF
 clear hM
 obtain ⟨h, hh⟩ : ∃ h, h = M / 18446744073709551616 := ⟨_, rfl⟩
 obtain ⟨l, hl⟩ : ∃ l, l = M % 18446744073709551616 := ⟨_, rfl⟩
 rw [← hh, ← hl] at S3
 have HH := hid (And.intro hh hl)
 have l1 : (l : Int) ≤ 18446744073709551615 := by omega
 clear hh hl
 go_enter Tryz.func230, Tryz.ntmps230
 go_wp2_with fail
 (with_reducible refine (S1.out w).mono ?_)
 rintro e1 w1 ⟨rfl, hw⟩; subst w1
 go_wp2_with fail
 (with_reducible refine (S2.out w).mono ?_)
 rintro e2 w2 ⟨rfl, hw⟩; subst w2
 go_wp2_with fail
 (with_reducible refine (S3.out w).mono ?_)
 rintro e3 w3 ⟨rfl, hw⟩; subst w3
 clear S1 S2 S3
 cases t1 : decide (a < 0) <;> cases t2 : decide (b < 0)
 all_goals
  have HT := hid (And.intro t1 t2)
  by_cases h0 : h = 0
  ·have t3 : ((h : Int) != 0) = false := by rw [h0]; rfl
   have HZ := hid h0
   clear h0
   by_cases q : R.2 = 0
   ·have e1 := HF.out.1 q
    rw [t1, t2] at e1
    have e2 := HH.out
    have e3 := HZ.out
    have t4 : decide ((9223372036854775807 : Int) < (l : Int)) = decide ((9223372036854775807 : Int) < (l : Int)) := rfl
    have HR := hid (HY.out q)
    simp at e1
    first
    | (
      have t5 : decide ((9223372036854775807 : Int) < (l : Int)) = false := by rw [decide_eq_false_iff_not]; omega
      clear e1 e2 e3 t4 q
      go_wp2
      go_ret2
      exact prok HR.out.symm)
    | (
      have t5 : decide ((9223372036854775808 : Int) < (l : Int)) = false := by rw [decide_eq_false_iff_not]; omega
      clear e1 e2 e3 t4 q
      go_wp2
      go_ret2
      exact prok HR.out.symm)
   ·have e1 := fun k => q (HF.out.2 k)
    rw [t1, t2] at e1
    have e2 := HH.out
    have e3 := HZ.out
    have HR := hid (HN.out q)
    simp at e1
    first
    | (
      have t5 : decide ((9223372036854775808 : Int) < (l : Int)) = true := by rw [decide_eq_true_eq]; omega
      have t6 : decide ((9223372036854775807 : Int) < (l : Int)) = true := by rw [decide_eq_true_eq]; omega
      clear e1 e2 e3 q
      go_wp2
      go_ret2
      exact prok HR.out.symm)
    | (
      have t5 : decide ((9223372036854775807 : Int) < (l : Int)) = true := by rw [decide_eq_true_eq]; omega
      clear e1 e2 e3 q
      go_wp2
      go_ret2
      exact prok HR.out.symm)
  ·have t3 : ((h : Int) != 0) = true := by simp; omega
   by_cases q : R.2 = 0
   ·exfalso
    have e1 := HF.out.1 q
    rw [t1, t2] at e1
    have e2 := HH.out
    simp at e1
    omega
   ·have HR := hid (HN.out q)
    clear h0 q
    go_wp2
    go_ret2
    exact prok HR.out.symm
end
section
open Go.RowKit
attribute [local go_sem ↓] Go.wp_at_zero Go.wp_at_succ
theorem zl0 (a b : Int) (w : World) (ha : I64 a) : Calls Tryz.prog 229 #[a, b] w (zaE (negW a) w) := by
 have HC := hid (zfN a w ha)
 generalize negW a = p at *
 clear ha
 go_enter Tryz.func229, Tryz.ntmps229
 go_wp2_with fail
 refine HC.out.mono ?_
 rintro e w' ⟨rfl, rfl⟩
 obtain ⟨p, q⟩ := p
 unfold zdl
 go_wp2
 go_ret2
 exact prok rfl
theorem zoH (c0 c1 c2 c3 c4 c5 c6 c7 c8 c9 c10 c11 c12 c13 c14 c15 c16 c17 : Value) (W : World) : (Instr.index 222 (.agg #[c0, c1, c2, c3, c4, c5, c6, c7, c8, c9, c10, c11, c12, c13, c14, c15, c16, c17]) (.int .i64 3)).run Tryz.prog W = .ok (.agg #[c6, c7]) W := by
 simp [Instr.index, run_underlying Tryz.underlying222, asIntOf, go_sem]
 try rfl
theorem zka (w : World) : Calls Tryz.prog 193 #[.int .i64 3] w fun e w' => e = .returned (.agg #[.func (.func 229) #[] #[], .nilFunc]) ∧ Below w.heap.size w w' := by
 go_enter Tryz.func193, Tryz.ntmps193
 go_wp2
 rw [zoH]
 go_wp2
 refine bodyPost_ret (v := .agg #[.func (.func 229) #[] #[], .nilFunc]) (by simp [results, Tryz.results193, go_sem]) rfl (And.intro rfl ?_)
 exact zdy
theorem zoo (c0 c1 c2 c3 c4 c5 c6 c7 c8 c9 c10 c11 c12 c13 c14 c15 c16 c17 : Value) (W : World) : (Instr.index 222 (.agg #[c0, c1, c2, c3, c4, c5, c6, c7, c8, c9, c10, c11, c12, c13, c14, c15, c16, c17]) (.int .i64 4)).run Tryz.prog W = .ok (.agg #[c8, c9]) W := by
 simp [Instr.index, run_underlying Tryz.underlying222, asIntOf, go_sem]
 try rfl
theorem zkl (w : World) : Calls Tryz.prog 193 #[.int .i64 4] w fun e w' => e = .returned (.agg #[.func (.func 101) #[] #[], .nilFunc]) ∧ Below w.heap.size w w' := by
 go_enter Tryz.func193, Tryz.ntmps193
 go_wp2
 rw [zoo]
 go_wp2
 refine bodyPost_ret (v := .agg #[.func (.func 101) #[] #[], .nilFunc]) (by simp [results, Tryz.results193, go_sem]) rfl (And.intro rfl ?_)
 exact zdy
theorem zo8 (c0 c1 c2 c3 c4 c5 c6 c7 c8 c9 c10 c11 c12 c13 c14 c15 c16 c17 : Value) (W : World) : (Instr.index 222 (.agg #[c0, c1, c2, c3, c4, c5, c6, c7, c8, c9, c10, c11, c12, c13, c14, c15, c16, c17]) (.int .i64 5)).run Tryz.prog W = .ok (.agg #[c10, c11]) W := by
 simp [Instr.index, run_underlying Tryz.underlying222, asIntOf, go_sem]
 try rfl
theorem zkr (w : World) : Calls Tryz.prog 193 #[.int .i64 5] w fun e w' => e = .returned (.agg #[.func (.func 102) #[] #[], .nilFunc]) ∧ Below w.heap.size w w' := by
 go_enter Tryz.func193, Tryz.ntmps193
 go_wp2
 rw [zo8]
 go_wp2
 refine bodyPost_ret (v := .agg #[.func (.func 102) #[] #[], .nilFunc]) (by simp [results, Tryz.results193, go_sem]) rfl (And.intro rfl ?_)
 exact zdy
theorem zo0 (c0 c1 c2 c3 c4 c5 c6 c7 c8 c9 c10 c11 c12 c13 c14 c15 c16 c17 : Value) (W : World) : (Instr.index 222 (.agg #[c0, c1, c2, c3, c4, c5, c6, c7, c8, c9, c10, c11, c12, c13, c14, c15, c16, c17]) (.int .i64 6)).run Tryz.prog W = .ok (.agg #[c12, c13]) W := by
 simp [Instr.index, run_underlying Tryz.underlying222, asIntOf, go_sem]
 try rfl
theorem zg0 (w : World) : Calls Tryz.prog 193 #[.int .i64 6] w fun e w' => e = .returned (.agg #[.func (.func 230) #[] #[], .func (.func 231) #[] #[]]) ∧ Below w.heap.size w w' := by
 go_enter Tryz.func193, Tryz.ntmps193
 go_wp2
 rw [zo0]
 go_wp2
 refine bodyPost_ret (v := .agg #[.func (.func 230) #[] #[], .func (.func 231) #[] #[]]) (by simp [results, Tryz.results193, go_sem]) rfl (And.intro rfl ?_)
 exact zdy
theorem zo5 (c0 c1 c2 c3 c4 c5 c6 c7 c8 c9 c10 c11 c12 c13 c14 c15 c16 c17 : Value) (W : World) : (Instr.index 222 (.agg #[c0, c1, c2, c3, c4, c5, c6, c7, c8, c9, c10, c11, c12, c13, c14, c15, c16, c17]) (.int .i64 7)).run Tryz.prog W = .ok (.agg #[c14, c15]) W := by
 simp [Instr.index, run_underlying Tryz.underlying222, asIntOf, go_sem]
 try rfl
theorem zgS (w : World) : Calls Tryz.prog 193 #[.int .i64 7] w fun e w' => e = .returned (.agg #[.func (.func 232) #[] #[], .func (.func 233) #[] #[]]) ∧ Below w.heap.size w w' := by
 go_enter Tryz.func193, Tryz.ntmps193
 go_wp2
 rw [zo5]
 go_wp2
 refine bodyPost_ret (v := .agg #[.func (.func 232) #[] #[], .func (.func 233) #[] #[]]) (by simp [results, Tryz.results193, go_sem]) rfl (And.intro rfl ?_)
 exact zdy
theorem zo7 (c0 c1 c2 c3 c4 c5 c6 c7 c8 c9 c10 c11 c12 c13 c14 c15 c16 c17 : Value) (W : World) : (Instr.index 222 (.agg #[c0, c1, c2, c3, c4, c5, c6, c7, c8, c9, c10, c11, c12, c13, c14, c15, c16, c17]) (.int .i64 8)).run Tryz.prog W = .ok (.agg #[c16, c17]) W := by
 simp [Instr.index, run_underlying Tryz.underlying222, asIntOf, go_sem]
 try rfl
theorem zgK (w : World) : Calls Tryz.prog 193 #[.int .i64 8] w fun e w' => e = .returned (.agg #[.func (.func 234) #[] #[], .func (.func 235) #[] #[]]) ∧ Below w.heap.size w w' := by
 go_enter Tryz.func193, Tryz.ntmps193
 go_wp2
 rw [zo7]
 go_wp2
 refine bodyPost_ret (v := .agg #[.func (.func 234) #[] #[], .func (.func 235) #[] #[]]) (by simp [results, Tryz.results193, go_sem]) rfl (And.intro rfl ?_)
 exact zdy
end
section
open Go.RowKit
attribute [local go_sem ↓] Go.wp_at_zero Go.wp_at_succ
theorem zoA (dst i : Nat) (k : Int) (g1 g2 : Nat) (w : World) (h1 : Blk w g1 3 #[(dst : Int)]) (h2 : Blk w g2 224 #[k, .int .i64 (-k)]) (hi : i ≤ 1000) :
  Calls Tryz.prog 238 #[(i : Int), .pointer (some ⟨g1, 0, none⟩), .pointer (some ⟨g2, 0, none⟩)] w fun e w' => e = .returned (.int .i64 (byK dst k i)) ∧ w' = w := by
 have x0 := h1.cell 0
 have y0 := h2.cell 0
 have y1 := h2.cell 1
 obtain ⟨q, hq⟩ : ∃ q : Nat, q = i / 2 := ⟨_, rfl⟩
 have e1 : (i : Int).tdiv 2 = (q : Int) := by rw [hq]; exact (Int.tdiv_eq_ediv_of_nonneg (by omega)).trans (by omega)
 have e2 : (i : Int) / 2 = (q : Int) := by rw [hq]; omega
 have hq2 : (q : Int) ≤ 1000 := by omega
 have e5 : ((i / 2 : Nat) : Int) = (q : Int) := by rw [hq]
 obtain ⟨r, hr⟩ : ∃ r : Nat, r = i % 2 := ⟨_, rfl⟩
 have HB : Hid (byK dst k i = if q = dst then (if r = 0 then k else -k) else 0) := hid (by unfold byK; rw [← hq, ← hr])
 have hr2 : r = 0 ∨ r = 1 := by omega
 have e3 : (i : Int).tmod 2 = (r : Int) := by rw [hr]; exact (Int.tmod_eq_emod_of_nonneg (by omega)).trans (by omega)
 have e4 : (i : Int) % 2 = (r : Int) := by rw [hr]; omega
 clear hq hr
 by_cases hd : q = dst
 ·subst hd
  have t1 : ((q : Int) == (q : Int)) = true := by simp
  rcases hr2 with rfl | rfl
  ·go_enter Tryz.func238, Tryz.ntmps238
   go_wp2
   go_ret
   exact ⟨by rw [HB.out]; simp, rfl⟩
  ·go_enter Tryz.func238, Tryz.ntmps238
   go_wp2
   go_ret
   exact ⟨by rw [HB.out]; simp, rfl⟩
 ·have t1 : ((q : Int) == (dst : Int)) = false := by rw [beq_eq_false_iff_ne]; omega
  go_enter Tryz.func238, Tryz.ntmps238
  have HD := hid hd
  clear hd
  go_wp2
  go_ret
  exact ⟨by rw [HB.out, if_neg HD.out]; rfl, rfl⟩
end
end Go.Proofs.YtnmpgijiimglcaaGreat
