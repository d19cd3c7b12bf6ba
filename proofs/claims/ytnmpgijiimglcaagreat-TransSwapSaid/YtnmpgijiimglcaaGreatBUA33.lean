/-
  order.Forget; trans.forgets, trans.gives.
  trans.gives, trans.Give: what they answer.
  dbm's numbers of 128 bits: of, less, compare.
  safe.Fits: what it answers.
-/
import Derived.Test.YtnmpgijiimglcaaGreatForget
import Derived.Test.YtnmpgijiimglcaaGreatBUA14
import Derived.Maps.Own
import Derived.Test.YtnmpgijiimglcaaGreatBUA21
import Derived.Test.YtnmpgijiimglcaaGreatBUA24
import Derived.Test.YtnmpgijiimglcaaGreatBUA16
import Derived.Test.YtnmpgijiimglcaaGreatBUA26
import Derived.Shelf.Spec.BitsCarry
import Derived.Lib.EndianBits
import Derived.Test.YtnmpgijiimglcaaGreatBUA30
namespace Go.Proofs.YtnmpgijiimglcaaGreat
section
open Go.RowKit Go.Maps
attribute [local go_sem ↓] Go.wp_at_zero Go.wp_at_succ

/-- An entry of a map's literal: as 'm[k] = v'. -/
theorem wpList_insert_own {H : Type} {P : Program} (w : World) {ops : Array Oper} {rest : List Oper} {o : Oper} {a : Act} {Q : Exit → Act → World → Prop}
    (hg : o.guard = none) (m x v : Operand) (t : TypeId) (hop : o.op = Op.insert t m x v)
    (k e : TypeId) (K : Keyed P k) (ht : P.underlying t = some (.map k e)) (R : Value → Option (DataW H × List MemPlace)) (b n : Nat) (D : DataW H)
    (hm : a.eval m = .map (some b)) (hown : w.ownsMap P k R b n D) (hn : n < maxLen) (key val : Value) (kl : Lit) (hx : a.eval x = key) (hv : a.eval v = val) (hkey : keyOf P k key = some kl)
    (d : DataW H) (ps : List MemPlace) (hval : R val = some (d, ps))
    (hK : ∀ w', w'.ownsMap P k R b (n + 1) (D.put kl d) → w.grownBy w' (some b) → wpList P ops Q rest (a.put o.dst undef) w') :
    wpList P ops Q (o :: rest) a w :=
  wpList_plain hg fun K' hK' => by
    obtain ⟨w', hrun, r1, r2⟩ := hown.update K ht hn hkey hval
    unfold Oper.wp
    simp [execOp, hop, hm, hx, hv, hrun, Result.andThen]
    exact hK' _ _ (hK w' r1 r2)
set_option maxRecDepth 8000 in
set_option maxHeartbeats 1000000 in
theorem oforgets_e (n : Int) (A : Option Addr) (cap b base : Nat) (w : World) (own : Own w base A cap []) (hbase : base ≤ w.heap.size) :
    Calls Tryz.prog 227 #[.agg #[.int .i64 n, .bool true, .slice A 0 cap], .map (some b)] w fun e w' => e = .returned (.agg #[.int .i64 n, .bool true, .slice A 0 cap]) ∧ Own w' base A cap [] ∧ Below base w w' := by
  obtain ⟨p0, hb0, hsz⟩ := new_one w #[.int .i64 n, .bool true, .slice A 0 cap] 24
  go_enter Tryz.func227, Tryz.ntmps227
  obtain ⟨x0, x1, x2, fx⟩ := octbox p0
  go_wp2
  have hX : ∀ W, Below w.heap.size w W → Own W base A cap [] ∧ Below base w W := fun W hW => ⟨own.below hW, hW.mono hbase⟩
  refine bodyPost_ret (v := .agg #[.int .i64 n, .bool true, .slice A 0 cap]) (by simp [results, Tryz.results227, go_sem]) rfl (And.intro rfl (hX _ ?_))
  repeat (first | exact Below.refl _ _ | refine Below.setCell ?_ (by simp; try omega) _ | refine Below.alloc ?_ (by simp; try omega) _)
def RD : Value → Option (DataW Unit × List MemPlace) := fun _ => some (.map [], [])
set_option maxRecDepth 8000 in
set_option maxHeartbeats 4000000 in
theorem oForget_ok (o : O) (ok : check o = 0) (v : Nat) (hv : (v : Int) < o.n) (A : Option Addr) (cap : Nat) (w : World) (hx : Rd w w.heap.size A o.m) (hm : o.m.length ≤ 17592186044416) :
    Calls Tryz.prog 192 #[.agg #[.int .i64 o.n, .bool o.e, .slice A o.m.length cap], .int .i64 (v : Int)] w (OctErr w (forgetO o v) 0) := by
  have ht26 : Tryz.prog.underlying 3 = some (.int .i64) := Tryz.underlying3
  obtain ⟨p0, p1, hb0, hsz⟩ := new_two w #[.int .i64 o.n, .bool o.e, .slice A o.m.length cap] #[.int .i64 0, .bool false, .slice none 0 0] 24 24
  replace hx := hx.up hb0
  have HK := hid ok
  have HC := hid (fun W h => check_any o A cap W h (by omega))
  rw [HK.out] at HC
  have HCL := hid (fun W (h : Rd W W.heap.size A o.m) => oclosed_ok o HK.out A cap W h hm)
  have okc : OkO o.n (closeO o) := OkO.close ⟨rfl, ok⟩
  have HF := hid (show forgetO o v = if (closeO o).e then closeO o else ⟨o.n, false, forgetM (2 * o.n).toNat v (closeO o).m⟩ from rfl)
  have t1 : decide ((v : Int) < 0) = false := by rw [decide_eq_false_iff_not]; omega
  have t2 : decide (o.n ≤ (v : Int)) = false := by rw [decide_eq_false_iff_not]; omega
  have hv0 : (v : Int) ≤ 64 := by have := okc.rng; omega
  have HV := hid hv
  generalize forgetO o v = F at *
  generalize closeO o = q at *
  clear ok hv hsz
  have hmm := @run_makeMap Tryz.prog
  go_enter Tryz.func192, Tryz.ntmps192
  obtain ⟨x0, x1, x2, fx⟩ := octbox p0
  go_wp2_with fail
  clear x0 x1 x2 fx
  generalize (w.alloc (Obj.cells #[.int .i64 o.n, .bool o.e, .slice A o.m.length cap] 24)).alloc (Obj.cells #[.int .i64 0, .bool false, .slice none 0 0] 24) = w0 at *
  (with_reducible refine (HC.out w0 hx).mono ?_)
  clear HC
  rintro e1 w1 ⟨rfl, hb1⟩
  replace p0 := p0.later hb1
  replace p1 := p1.later hb1
  replace hx := hx.up hb1
  replace hb0 := bup hb0 hb1
  clear hb1
  obtain ⟨x0, x1, x2, fx⟩ := octbox p0
  go_wp2_with fail
  clear x0 x1 x2 fx
  have hp0 : w.heap.size < w1.heap.size := p0.lt
  have hp1 : w.heap.size + 1 < w1.heap.size := p1.lt
  (with_reducible refine (HCL.out w1 hx).mono ?_)
  clear HCL
  rintro e2 w2 ⟨A2, c2, rfl, own2, hb2⟩
  replace p0 := p0.later hb2
  replace p1 := p1.later hb2
  rcases okc.form with rfl | ⟨N, cm, hN, hn, rfl, hc⟩
  · unfold emptyO at *
    dsimp only [List.length_nil] at *
    obtain rfl : F = ⟨o.n, true, []⟩ := by rw [HF.out]; rfl
    have hmade := World.ownsMap_made w2 Tryz.prog 3 RD
    have hlt2 : ∀ g, A2 = some ⟨g, 0, none⟩ → g ≠ w2.heap.size := fun g hg => by
      rcases own2.form with ⟨h, _⟩ | ⟨g', h, _, h'⟩
      · rw [h] at hg; cases hg
      · rw [h] at hg; injection hg with hg; injection hg with hg; omega
    replace own2 := own2.below (new1 w2 (.map #[] 0))
    replace p1 := p1.later (new1 w2 (.map #[] 0))
    have hb3 := bup hb2 (new1 w2 (.map #[] 0))
    have hw12 := hb3.size
    go_wp2_with (first | (refine wpList_insert_own _ rfl _ _ _ 221 rfl 3 220 (int_keyed ht26) Tryz.underlying221 RD w2.heap.size 0 (.map []) rfl hmade (by unfold maxLen; omega) _ _ (.int .i64 (v : Int)) rfl rfl (keyOf_int_mk ht26 (WalkArith.wf_i64 (by omega))) (.map []) [] rfl ?_; intro w4 hown4 hg4))
    have own4 := own2.grown hg4 (own_not own2 hlt2)
    replace p1 := p1.stay hg4 (by intro e; injection e with e; have := hb2.size; omega)
    have hb4 : Below w1.heap.size w1 w4 := hb3.trans (below_grown hg4 (fun k e => by injection e with e; have := hb2.size; omega) hw12)
    have hw14 := hb4.size
    (with_reducible refine (oforgets_e o.n A2 c2 w2.heap.size w1.heap.size w4 own4 hw14).mono ?_)
    rintro e5 w5 ⟨rfl, own5, hb5⟩
    replace p1 := p1.below hb5 hp1
    have hb9 := bup hb0 (hb4.trans hb5)
    obtain ⟨y0, y1, y2, fy⟩ := octbox p1
    go_wp2
    have q9 := p1.set3 (v0 := .int .i64 o.n) (v1 := .bool true) (v2 := .slice A2 0 c2)
    have o9 := own5.far3 (g := w.heap.size + 1) (v0 := .int .i64 o.n) (v1 := .bool true) (v2 := .slice A2 0 c2) (own_blk' own5 p1 (by decide))
    obtain ⟨z0, z1, z2, fz⟩ := octbox q9
    refine bodyPost_ret (v := .tuple #[.agg #[.int .i64 o.n, .bool true, .slice A2 0 c2], .int .i64 0]) (by simp [results, Tryz.results192, go_sem, z0, z1, z2]) rfl ?_
    exact ⟨A2, c2, rfl, o9.less hb0.size, hb9.trans (below3 (by omega) hb9.size)⟩
  · dsimp only at own2 ⊢
    obtain rfl : F = ⟨o.n, false, forgetM N v cm⟩ := by rw [HF.out]; dsimp only; rw [if_neg (by simp), show (2 * o.n).toNat = N by omega]
    have HFL := hid (forgetM_len N v cm)
    have hmade := World.ownsMap_made w2 Tryz.prog 3 RD
    have hlt2 : ∀ g, A2 = some ⟨g, 0, none⟩ → g ≠ w2.heap.size := fun g hg => by
      rcases own2.form with ⟨h, _⟩ | ⟨g', h, _, h'⟩
      · rw [h] at hg; cases hg
      · rw [h] at hg; injection hg with hg; injection hg with hg; omega
    replace own2 := own2.below (new1 w2 (.map #[] 0))
    replace p1 := p1.later (new1 w2 (.map #[] 0))
    have hb3 := bup hb2 (new1 w2 (.map #[] 0))
    have hw12 := hb3.size
    go_wp2_with (first | (refine wpList_insert_own _ rfl _ _ _ 221 rfl 3 220 (int_keyed ht26) Tryz.underlying221 RD w2.heap.size 0 (.map []) rfl hmade (by unfold maxLen; omega) _ _ (.int .i64 (v : Int)) rfl rfl (keyOf_int_mk ht26 (WalkArith.wf_i64 (by omega))) (.map []) [] rfl ?_; intro w4 hown4 hg4))
    have own4 := own2.grown hg4 (own_not own2 hlt2)
    replace p1 := p1.stay hg4 (by intro e; injection e with e; have := hb2.size; omega)
    have hb4 : Below w1.heap.size w1 w4 := hb3.trans (below_grown hg4 (fun k e => by injection e with e; have := hb2.size; omega) hw12)
    have hw14 := hb4.size
    have hcl := hc.len
    obtain ⟨gA, rfl⟩ : ∃ g, A2 = some ⟨g, 0, none⟩ := by
      rcases own4.form with ⟨_, h, _⟩ | ⟨g, h, _⟩
      · have : 1 * 1 ≤ N * N := Nat.mul_le_mul (by have := HV.out; omega) (by have := HV.out; omega)
        rw [h] at hcl; simp at hcl; omega
      · exact ⟨g, h⟩
    clear hcl
    have HX := hid ((callsIn_wide (n := 10)).1 (oforgets_in o.n cm N hN hn hc v HV.out gA c2 w1.heap.size w2.heap.size (0 + 1) (.map []) w4 own4 hw14 hown4))
    (with_reducible refine HX.out.mono ?_)
    clear HX
    rintro e5 w5 ⟨rfl, own5, hb5⟩
    have own5' := own5
    generalize forgetM N v cm = fm at *
    replace p1 := p1.below hb5 hp1
    have hb9 := bup hb0 (hb4.trans hb5)
    obtain ⟨y0, y1, y2, fy⟩ := octbox p1
    go_wp2
    have q9 := p1.set3 (v0 := .int .i64 o.n) (v1 := .bool false) (v2 := .slice (some ⟨gA, 0, none⟩) cm.length c2)
    have o9 := own5.far3 (g := w.heap.size + 1) (v0 := .int .i64 o.n) (v1 := .bool false) (v2 := .slice (some ⟨gA, 0, none⟩) cm.length c2) (own_blk' own5 p1 (by decide))
    obtain ⟨z0, z1, z2, fz⟩ := octbox q9
    refine bodyPost_ret (v := .tuple #[.agg #[.int .i64 o.n, .bool false, .slice (some ⟨gA, 0, none⟩) cm.length c2], .int .i64 0]) (by simp [results, Tryz.results192, go_sem, z0, z1, z2]) rfl ?_
    exact ⟨(some ⟨gA, 0, none⟩), c2, by dsimp only; rw [HFL.out], o9.less hb0.size, hb9.trans (below3 (by omega) hb9.size)⟩
set_option maxRecDepth 8000 in
set_option maxHeartbeats 1000000 in
theorem tforgets_ok (o : O) (ok : check o = 0) (v : Nat) (hv : (v : Int) < o.n) (A : Option Addr) (cap : Nat) (w : World) (hx : Rd w w.heap.size A o.m) (hm : o.m.length ≤ 17592186044416) :
    Calls Tryz.prog 132 #[.agg #[.int .i64 o.n, .bool o.e, .slice A o.m.length cap], .int .i64 (v : Int)] w (OctOwn w (forgetO o v)) := by
  obtain ⟨p0, p1, hb0, hsz⟩ := new_two w #[.int .i64 o.n, .bool o.e, .slice A o.m.length cap] #[.int .i64 0, .bool false, .slice none 0 0] 24 24
  have hx0 := hx.up hb0
  have HC := hid (oForget_ok o ok v hv A cap _ hx0 hm)
  have HSZ := hid hsz
  clear hsz
  generalize forgetO o v = r at *
  go_enter Tryz.func132, Tryz.ntmps132
  go_wp2_with fail
  generalize (w.alloc (Obj.cells #[.int .i64 o.n, .bool o.e, .slice A o.m.length cap] 24)).alloc (Obj.cells #[.int .i64 0, .bool false, .slice none 0 0] 24) = w0 at *
  (with_reducible refine HC.out.mono ?_)
  clear HC
  rintro e1 w1 ⟨A1, c1, rfl, own, hb1⟩
  replace p1 := p1.later hb1
  replace hb0 := bup hb0 hb1
  have n3 := new1 w1 (.cells #[.int .i64 r.n, .bool r.e, .slice A1 r.m.length c1] 24)
  replace p1 := p1.later n3
  replace own := own.below n3
  replace hb0 := bup hb0 n3
  obtain ⟨x0, x1, x2, fx⟩ := octbox p1
  go_wp2
  clear x0 x1 x2 fx
  have q3 := p1.set3 (v0 := .int .i64 r.n) (v1 := .bool r.e) (v2 := .slice A1 r.m.length c1)
  have o3 := own.far3 (g := w.heap.size + 1) (v0 := .int .i64 r.n) (v1 := .bool r.e) (v2 := .slice A1 r.m.length c1) (own_blk' own p1 (by decide))
  obtain ⟨z0, z1, z2, fz⟩ := octbox q3
  refine bodyPost_ret (v := .agg #[.int .i64 r.n, .bool r.e, .slice A1 r.m.length c1]) (by simp [results, Tryz.results132, go_sem, z0, z1, z2]) rfl ⟨A1, c1, rfl, o3.less (show w.heap.size ≤ w0.heap.size by have := HSZ.out; omega), hb0.trans (below3 (by omega) hb0.size)⟩
end
section
open Go.RowKit
attribute [local go_sem ↓] Go.wp_at_zero Go.wp_at_succ

theorem Rg.val_eq (r : Rg) : r.val = .agg #[.int .i64 r.lo, .int .i64 r.hi, .bool r.hl, .bool r.hh] := rfl
end
section
open Go.RowKit
attribute [local go_sem ↓] Go.wp_at_zero Go.wp_at_succ

theorem Blk.set2 {W : World} {g : Nat} {t : TypeId} {a0 a1 v0 v1 : Value} (h : Blk W g t #[a0, a1]) : Blk ((W.setCell ⟨g, 0, none⟩ v0).setCell ⟨g, 1, none⟩ v1) g t #[v0, v1] := by
  have := (h.set_ 0 v0).set_ 1 v1
  simpa using this
theorem below2 {W : World} {B g : Nat} {v0 v1 : Value} (hg : B ≤ g) (_hB : B ≤ W.heap.size) : Below B W ((W.setCell ⟨g, 0, none⟩ v0).setCell ⟨g, 1, none⟩ v1) :=
  ((Below.refl B W).setCell (by simpa using hg) _).setCell (by simpa using hg) _
theorem Blk.far2 {W : World} {g q : Nat} {t : TypeId} {cs : Array Value} {v0 v1 : Value} (h : Blk W q t cs) (hne : g ≠ q) : Blk ((W.setCell ⟨g, 0, none⟩ v0).setCell ⟨g, 1, none⟩ v1) q t cs := (h.far (by simpa using hne) _).far (by simpa using hne) _
end
section
open Go.RowKit
attribute [local go_sem ↓] Go.wp_at_zero Go.wp_at_succ

set_option maxRecDepth 8000 in
set_option maxHeartbeats 4000000 in
theorem safefits_3 (r s : Rg) (_ir : I64 (loR r) ∧ I64 (hiR r)) (_is_ : I64 (loR s) ∧ I64 (hiR s)) (w : World) :
    Calls Tryz.prog 46 #[.int .i64 3, r.val, s.val] w fun e w' => e = .returned (.bool (!(decide (hiR r < loR r) || decide (hiR s < loR s)) && decide (-9223372036854775808 < loR r))) ∧ Below w.heap.size w w' := by
  have H1 := hid (fun W => sends_ok r W)
  have H2 := hid (fun W => sends_ok s W)
  rw [Rg.val_eq] at H1 H2
  rw [Rg.val_eq, Rg.val_eq]
  generalize loR r = a at *
  generalize hiR r = b at *
  generalize loR s = c at *
  generalize hiR s = d at *
  obtain ⟨R, hR⟩ : ∃ R, R = (!(decide (b < a) || decide (d < c)) && decide (-9223372036854775808 < a)) := ⟨_, rfl⟩
  rw [← hR]
  have HR := hid hR
  clear hR
  obtain ⟨p0, p1, hb0, hsz⟩ := new_two w #[.int .i64 r.lo, .int .i64 r.hi, .bool r.hl, .bool r.hh] #[.int .i64 s.lo, .int .i64 s.hi, .bool s.hl, .bool s.hh] 49 49
  clear hsz
  go_enter Tryz.func46, Tryz.ntmps46
  go_upto_region 1 with fail
  generalize (w.alloc (Obj.cells #[.int .i64 r.lo, .int .i64 r.hi, .bool r.hl, .bool r.hh] 49)).alloc (Obj.cells #[.int .i64 s.lo, .int .i64 s.hi, .bool s.hl, .bool s.hh] 49) = w1 at *
  have f0 := laterE (show w1.cell? ⟨w.heap.size, 0, none⟩ = some (.int .i64 r.lo) from p0.cell 0)
  have f1 := laterE (show w1.cell? ⟨w.heap.size, 1, none⟩ = some (.int .i64 r.hi) from p0.cell 1)
  have f2 := laterE (show w1.cell? ⟨w.heap.size, 2, none⟩ = some (.bool r.hl) from p0.cell 2)
  have f3 := laterE (show w1.cell? ⟨w.heap.size, 3, none⟩ = some (.bool r.hh) from p0.cell 3)
  have j0 := laterE (show w1.cell? ⟨w.heap.size + 1, 0, none⟩ = some (.int .i64 s.lo) from p1.cell 0)
  have j1 := laterE (show w1.cell? ⟨w.heap.size + 1, 1, none⟩ = some (.int .i64 s.hi) from p1.cell 1)
  have j2 := laterE (show w1.cell? ⟨w.heap.size + 1, 2, none⟩ = some (.bool s.hl) from p1.cell 2)
  have j3 := laterE (show w1.cell? ⟨w.heap.size + 1, 3, none⟩ = some (.bool s.hh) from p1.cell 3)
  refine wp_region_flowE 6 [Sp.val (.agg #[.int .i64 r.lo, .int .i64 r.hi, .bool r.hl, .bool r.hh]), Sp.val (.agg #[.int .i64 a, .int .i64 b]), Sp.val (.agg #[.int .i64 s.lo, .int .i64 s.hi, .bool s.hl, .bool s.hh]), Sp.val (.agg #[.int .i64 c, .int .i64 d]), Sp.any (IsBox 135 #[.int .i64 0, .int .i64 0]), Sp.any (IsBox 135 #[.int .i64 0, .int .i64 0])] (by kernel_rfl) (by kernel_rfl) ?_
  (refine FlowE.take (by rfl) (fun W hW R hR => ?_) (fun _ _ => ?_); (go_simp; (try go_bits); with_reducible exact hR); simp only [Act.put, List.setIfInBounds_toArray, List.set_cons_zero, List.set_cons_succ])
  refine FlowE.callFV (by rfl) (fun W hW hf => ⟨99, #[.agg #[.int .i64 r.lo, .int .i64 r.hi, .bool r.hl, .bool r.hh]], by go_simp, H1.out W⟩) (fun _ _ => ?_)
  simp only [Act.put, List.setIfInBounds_toArray, List.set_cons_zero, List.set_cons_succ]
  (refine FlowE.take (by rfl) (fun W hW R hR => ?_) (fun _ _ => ?_); (go_simp; (try go_bits); with_reducible exact hR); simp only [Act.put, List.setIfInBounds_toArray, List.set_cons_zero, List.set_cons_succ])
  refine FlowE.callFV (by rfl) (fun W hW hf => ⟨99, #[.agg #[.int .i64 s.lo, .int .i64 s.hi, .bool s.hl, .bool s.hh]], by go_simp, H2.out W⟩) (fun _ _ => ?_)
  simp only [Act.put, List.setIfInBounds_toArray, List.set_cons_zero, List.set_cons_succ]
  refine FlowE.step (by rfl) (fun W hW K hK => ?_) (fun v4 l4 h4 => ?_)
  · go_simp
    exact hK _ _ (new1 _ _) ⟨rfl, Blk.new _ _ _, by simp⟩
  simp only [Act.put, List.setIfInBounds_toArray, List.set_cons_zero, List.set_cons_succ]
  refine FlowE.step (by rfl) (fun W hW K hK => ?_) (fun v5 l5 h5 => ?_)
  · go_simp
    exact hK _ _ (new1 _ _) ⟨rfl, Blk.new _ _ _, by simp⟩
  simp only [Act.put, List.setIfInBounds_toArray, List.set_cons_zero, List.set_cons_succ]
  refine FlowE.tail (fun W hW hf hd => ?_)
  replace hW : Below w1.heap.size w1 W := Ext.trans (Below.refl _ _).drew hW
  obtain ⟨g4, rfl, k4, lo4, e4, e4'⟩ := fact_box (show Sp.fact w1.drew (Sp.any (IsBox 135 #[.int .i64 0, .int .i64 0])) v4 l4 h4 W from hf 4)
  obtain ⟨g5, rfl, k5, lo5, e5, e5'⟩ := fact_box (show Sp.fact w1.drew (Sp.any (IsBox 135 #[.int .i64 0, .int .i64 0])) v5 l5 h5 W from hf 5)
  have dd : h4 ≤ l5 ∨ h5 ≤ l4 := hd 4 5 (by decide)
  have hne : g4 ≠ g5 := by omega
  clear hf hd f0 f1 f2 f3 j0 j1 j2 j3 H1 H2 e4 e4' e5 e5' dd p0 p1
  have hww := hb0.size
  replace hb0 := bup hb0 hW
  have q4 := (k4.set2 (v0 := .int .i64 a) (v1 := .int .i64 b)).far2 (g := g5) (v0 := .int .i64 c) (v1 := .int .i64 d) (Ne.symm hne)
  have q5 := (k5.far2 (g := g4) (v0 := .int .i64 a) (v1 := .int .i64 b) hne).set2 (v0 := .int .i64 c) (v1 := .int .i64 d)
  have hs4 : w1.heap.size ≤ g4 := lo4
  have hs5 : w1.heap.size ≤ g5 := lo5
  have hba := hb0.trans (below2 (W := W) (g := g4) (v0 := .int .i64 a) (v1 := .int .i64 b) (by omega) hb0.size)
  have hb9 := hba.trans (below2 (g := g5) (v0 := .int .i64 c) (v1 := .int .i64 d) (by omega) hba.size)
  clear hba hs4 hs5 lo4 lo5 hW
  obtain ⟨x0, x1, fx⟩ := opbox k4
  obtain ⟨y0, y1, fy⟩ := opbox k5
  cases t1 : decide (b < a) with
  | true =>
    have HE : Hid (R = false) := hid (by rw [HR.out, t1]; rfl)
    go_wp2; go_ret; exact ⟨by rw [HE.out]; rfl, hb9⟩
  | false =>
    cases t2 : decide (d < c) with
    | true =>
      have HE : Hid (R = false) := hid (by rw [HR.out, t1, t2]; rfl)
      go_wp2; go_ret; exact ⟨by rw [HE.out]; rfl, hb9⟩
    | false =>
      have HE : Hid (R = decide (-9223372036854775808 < a)) := hid (by rw [HR.out, t1, t2]; rfl)
      go_wp2; go_ret; exact ⟨by rw [HE.out]; rfl, hb9⟩

set_option maxRecDepth 8000 in
set_option maxHeartbeats 4000000 in
theorem safefits_o (kd : Int) (h3 : kd ≠ 3) (h4 : kd ≠ 4) (h5 : kd ≠ 5) (h6 : kd ≠ 6) (h7 : kd ≠ 7) (h8 : kd ≠ 8) (r s : Rg) (_ir : I64 (loR r) ∧ I64 (hiR r)) (_is_ : I64 (loR s) ∧ I64 (hiR s)) (w : World) :
    Calls Tryz.prog 46 #[.int .i64 kd, r.val, s.val] w fun e w' => e = .returned (.bool (!(decide (hiR r < loR r) || decide (hiR s < loR s)) && false)) ∧ Below w.heap.size w w' := by
  have t3' : (kd == 3) = false := by simp [h3]
  have t4' : (kd == 4) = false := by simp [h4]
  have t5' : (kd == 5) = false := by simp [h5]
  have t6' : (kd == 6) = false := by simp [h6]
  have t7' : (kd == 7) = false := by simp [h7]
  have t8' : (kd == 8) = false := by simp [h8]
  clear h3 h4 h5 h6 h7 h8
  have H1 := hid (fun W => sends_ok r W)
  have H2 := hid (fun W => sends_ok s W)
  rw [Rg.val_eq] at H1 H2
  rw [Rg.val_eq, Rg.val_eq]
  generalize loR r = a at *
  generalize hiR r = b at *
  generalize loR s = c at *
  generalize hiR s = d at *
  obtain ⟨R, hR⟩ : ∃ R, R = (!(decide (b < a) || decide (d < c)) && false) := ⟨_, rfl⟩
  rw [← hR]
  have HR := hid hR
  clear hR
  obtain ⟨p0, p1, hb0, hsz⟩ := new_two w #[.int .i64 r.lo, .int .i64 r.hi, .bool r.hl, .bool r.hh] #[.int .i64 s.lo, .int .i64 s.hi, .bool s.hl, .bool s.hh] 49 49
  clear hsz
  go_enter Tryz.func46, Tryz.ntmps46
  go_upto_region 1 with fail
  generalize (w.alloc (Obj.cells #[.int .i64 r.lo, .int .i64 r.hi, .bool r.hl, .bool r.hh] 49)).alloc (Obj.cells #[.int .i64 s.lo, .int .i64 s.hi, .bool s.hl, .bool s.hh] 49) = w1 at *
  have f0 := laterE (show w1.cell? ⟨w.heap.size, 0, none⟩ = some (.int .i64 r.lo) from p0.cell 0)
  have f1 := laterE (show w1.cell? ⟨w.heap.size, 1, none⟩ = some (.int .i64 r.hi) from p0.cell 1)
  have f2 := laterE (show w1.cell? ⟨w.heap.size, 2, none⟩ = some (.bool r.hl) from p0.cell 2)
  have f3 := laterE (show w1.cell? ⟨w.heap.size, 3, none⟩ = some (.bool r.hh) from p0.cell 3)
  have j0 := laterE (show w1.cell? ⟨w.heap.size + 1, 0, none⟩ = some (.int .i64 s.lo) from p1.cell 0)
  have j1 := laterE (show w1.cell? ⟨w.heap.size + 1, 1, none⟩ = some (.int .i64 s.hi) from p1.cell 1)
  have j2 := laterE (show w1.cell? ⟨w.heap.size + 1, 2, none⟩ = some (.bool s.hl) from p1.cell 2)
  have j3 := laterE (show w1.cell? ⟨w.heap.size + 1, 3, none⟩ = some (.bool s.hh) from p1.cell 3)
  refine wp_region_flowE 6 [Sp.val (.agg #[.int .i64 r.lo, .int .i64 r.hi, .bool r.hl, .bool r.hh]), Sp.val (.agg #[.int .i64 a, .int .i64 b]), Sp.val (.agg #[.int .i64 s.lo, .int .i64 s.hi, .bool s.hl, .bool s.hh]), Sp.val (.agg #[.int .i64 c, .int .i64 d]), Sp.any (IsBox 135 #[.int .i64 0, .int .i64 0]), Sp.any (IsBox 135 #[.int .i64 0, .int .i64 0])] (by kernel_rfl) (by kernel_rfl) ?_
  (refine FlowE.take (by rfl) (fun W hW R hR => ?_) (fun _ _ => ?_); (go_simp; (try go_bits); with_reducible exact hR); simp only [Act.put, List.setIfInBounds_toArray, List.set_cons_zero, List.set_cons_succ])
  refine FlowE.callFV (by rfl) (fun W hW hf => ⟨99, #[.agg #[.int .i64 r.lo, .int .i64 r.hi, .bool r.hl, .bool r.hh]], by go_simp, H1.out W⟩) (fun _ _ => ?_)
  simp only [Act.put, List.setIfInBounds_toArray, List.set_cons_zero, List.set_cons_succ]
  (refine FlowE.take (by rfl) (fun W hW R hR => ?_) (fun _ _ => ?_); (go_simp; (try go_bits); with_reducible exact hR); simp only [Act.put, List.setIfInBounds_toArray, List.set_cons_zero, List.set_cons_succ])
  refine FlowE.callFV (by rfl) (fun W hW hf => ⟨99, #[.agg #[.int .i64 s.lo, .int .i64 s.hi, .bool s.hl, .bool s.hh]], by go_simp, H2.out W⟩) (fun _ _ => ?_)
  simp only [Act.put, List.setIfInBounds_toArray, List.set_cons_zero, List.set_cons_succ]
  refine FlowE.step (by rfl) (fun W hW K hK => ?_) (fun v4 l4 h4 => ?_)
  · go_simp
    exact hK _ _ (new1 _ _) ⟨rfl, Blk.new _ _ _, by simp⟩
  simp only [Act.put, List.setIfInBounds_toArray, List.set_cons_zero, List.set_cons_succ]
  refine FlowE.step (by rfl) (fun W hW K hK => ?_) (fun v5 l5 h5 => ?_)
  · go_simp
    exact hK _ _ (new1 _ _) ⟨rfl, Blk.new _ _ _, by simp⟩
  simp only [Act.put, List.setIfInBounds_toArray, List.set_cons_zero, List.set_cons_succ]
  refine FlowE.tail (fun W hW hf hd => ?_)
  replace hW : Below w1.heap.size w1 W := Ext.trans (Below.refl _ _).drew hW
  obtain ⟨g4, rfl, k4, lo4, e4, e4'⟩ := fact_box (show Sp.fact w1.drew (Sp.any (IsBox 135 #[.int .i64 0, .int .i64 0])) v4 l4 h4 W from hf 4)
  obtain ⟨g5, rfl, k5, lo5, e5, e5'⟩ := fact_box (show Sp.fact w1.drew (Sp.any (IsBox 135 #[.int .i64 0, .int .i64 0])) v5 l5 h5 W from hf 5)
  have dd : h4 ≤ l5 ∨ h5 ≤ l4 := hd 4 5 (by decide)
  have hne : g4 ≠ g5 := by omega
  clear hf hd f0 f1 f2 f3 j0 j1 j2 j3 H1 H2 e4 e4' e5 e5' dd p0 p1
  have hww := hb0.size
  replace hb0 := bup hb0 hW
  have q4 := (k4.set2 (v0 := .int .i64 a) (v1 := .int .i64 b)).far2 (g := g5) (v0 := .int .i64 c) (v1 := .int .i64 d) (Ne.symm hne)
  have q5 := (k5.far2 (g := g4) (v0 := .int .i64 a) (v1 := .int .i64 b) hne).set2 (v0 := .int .i64 c) (v1 := .int .i64 d)
  have hs4 : w1.heap.size ≤ g4 := lo4
  have hs5 : w1.heap.size ≤ g5 := lo5
  have hba := hb0.trans (below2 (W := W) (g := g4) (v0 := .int .i64 a) (v1 := .int .i64 b) (by omega) hb0.size)
  have hb9 := hba.trans (below2 (g := g5) (v0 := .int .i64 c) (v1 := .int .i64 d) (by omega) hba.size)
  clear hba hs4 hs5 lo4 lo5 hW
  obtain ⟨x0, x1, fx⟩ := opbox k4
  obtain ⟨y0, y1, fy⟩ := opbox k5
  cases t1 : decide (b < a) with
  | true =>
    have HE : Hid (R = false) := hid (by rw [HR.out, t1]; rfl)
    go_wp2; go_ret; exact ⟨by rw [HE.out]; rfl, hb9⟩
  | false =>
    cases t2 : decide (d < c) with
    | true =>
      have HE : Hid (R = false) := hid (by rw [HR.out, t1, t2]; rfl)
      go_wp2; go_ret; exact ⟨by rw [HE.out]; rfl, hb9⟩
    | false =>
      have HE : Hid (R = false) := hid (by rw [HR.out, t1, t2]; rfl)
      go_wp2; go_ret; exact ⟨by rw [HE.out]; rfl, hb9⟩
end
end Go.Proofs.YtnmpgijiimglcaaGreat
