import Derived.Test.YtnmpgijiimglcaaGreatBTl44
import Derived.Test.YtnmpgijiimglcaaGreatBTl46
namespace Go.Proofs.YtnmpgijiimglcaaGreat
section
open Go.RowKit
set_option maxRecDepth 100000
set_option maxHeartbeats 8000000
attribute [local go_sem ↓] Go.wp_at_zero Go.wp_at_succ
theorem rpointsL (d : Nat) (hd : d ≤ 64) (xs : List Int) (hl : xs.length = d) (hn : ∀ k : Nat, NearV (gI xs (k : Int))) (gp cp : Nat) (X : Option Addr) (xc : Nat) (w : World) (hP : w.cell? ⟨gp, 0, none⟩ = some (.slice X xs.length xc)) (hgp : gp < w.heap.size) (hx : Rd w w.heap.size X xs) :
  Calls Tryz.prog 27 #[(d : Int), .slice (some ⟨gp, 0, none⟩) 1 cp] w fun e w' => ∃ A1 c1, e = .returned (.tuple #[.agg #[(d : Int), false, .slice A1 (ptO (d : Int) xs).m.length c1], .int .i64 0]) ∧ Own w' w.heap.size A1 c1 (ptO (d : Int) xs).m ∧ Below w.heap.size w w' :=
 rpoints_ok d hd xs hl hn gp cp X xc w hP hgp hx
theorem tedgeL (d : Nat) (ys : List Int) (hm : (ptO (d : Int) ys).m.length ≤ 17592186044416) (fr te kd dst arr op av an bv bn : Int) (ia : I64 an) (ib : I64 bn) (A : Option Addr) (cap : Nat) (w : World) (hx : Rd w w.heap.size A (ptO (d : Int) ys).m) (B : Nat) (hB : B ≤ w.heap.size) :
  Calls Tryz.prog 28 #[.agg #[(d : Int), false, .slice A (ptO (d : Int) ys).m.length cap], .agg #[fr, te, kd, dst, arr, op, av, an, bv, bn]] w (ErrSx w B (transAns (ptO (d : Int) ys) ⟨fr, te, kd, dst, arr, op, av, an, bv, bn⟩) (transErr (ptO (d : Int) ys) ⟨fr, te, kd, dst, arr, op, av, an, bv, bn⟩)) :=
 tEdge_all (ptO (d : Int) ys) fr te kd dst arr op av an bv bn ia ib A cap w hx hm B hB
theorem graphL (d : Nat) (fr te kd dst arr op av an bv bn : Int) (hr : rightT (d : Int) ⟨fr, te, kd, dst, arr, op, av, an, bv, bn⟩ = true) (w : World) :
  Calls Tryz.prog 38 #[(d : Int), .int .i64 0, .agg #[fr, te, kd, dst, arr, op, av, an, bv, bn]] w (GraphRes w (d : Int) 0 (gr1 (d : Int) [] ⟨fr, te, kd, dst, arr, op, av, an, bv, bn⟩).es) :=
 graph_ok (d : Int) 0 (by omega) fr te kd dst arr op av an bv bn (fun q => right_opT hr q) w
theorem oneL (d : Nat) (hd : d ≤ 64) (ys : List Int) (hl : ys.length = d) (hI : I64s ys) (e : Edg) (hr : rightT (d : Int) e = true) (ha : e.arr < 0) (ia : I64 e.an) (ib : I64 e.bn) (D E A X : Option Addr) (cd ce ca xc : Nat) (W : World) (hE : RdE W W.heap.size E (gr1 (d : Int) [] e).es) (hX : Rd W W.heap.size X ys) :
  Calls Tryz.prog 37 #[.agg #[.slice none 0 0, (d : Int), .slice D 0 cd, .int .i64 2, .int .i64 1, .slice E (gr1 (d : Int) [] e).es.length ce], .slice X ys.length xc, .slice A 0 ca, .int .i64 0, .int .i64 0] W (OneRes W (oneW (gr1 (d : Int) [] e) [] ys 0 0)) :=
 one_ok (ptO (d : Int) ys) e 0 (by omega) 1 (by omega) ys 0 [0] rfl (by show (0 : Int) ≤ (d : Int); omega) (by show (d : Int) ≤ 64; omega) hr (by omega) (by show (ys.length : Int) = (d : Int); omega) hI ia ib D E A X cd ce ca xc W (fun k h => absurd h (by simp)) hE hX (fun k h => absurd h (by simp))
theorem one_len (g : Gr) (ls : List (List Int)) (xs : List Int) (input : Int) (p : Nat) : (oneW g ls xs input p).2.2.length = xs.length := by
 unfold oneW
 split
 ·rfl
 ·exact does_len _ _ _ _
def IsGr0 (n : Int) (es : List Edg) (v : Value) (_ wb : World) : Prop := ∃ D cd E ce, v = .agg #[.slice none 0 0, n, .slice D 0 cd, .int .i64 2, .int .i64 1, .slice E es.length ce] ∧ RdE wb wb.heap.size E es
theorem fact_gr0 {w0 W : World} {n : Int} {es : List Edg} {v : Value} {lo hi : Nat} (h : Sp.fact w0 (Sp.any (IsGr0 n es)) v lo hi W) : ∃ D cd E ce, v = .agg #[.slice none 0 0, n, .slice D 0 cd, .int .i64 2, .int .i64 1, .slice E es.length ce] ∧ RdE W W.heap.size E es := by
 obtain ⟨wa, wb, e1, e2, e3, rfl, rfl, D, cd, E1, c1, rfl, own⟩ := h
 exact ⟨D, cd, E1, c1, rfl, own.up e3⟩
def IsOneS (B : Nat) (p : Int × Int × List Int) (v : Value) (_ wb : World) : Prop := B ≤ wb.heap.size ∧ ∃ A c, v = .tuple #[p.1, p.2.1, .slice A p.2.2.length c, .int .i64 0] ∧ Sx wb B A p.2.2
def IsSlS (B : Nat) (ys : List Int) (v : Value) (_ wb : World) : Prop := B ≤ wb.heap.size ∧ ∃ A c, v = .slice A ys.length c ∧ Sx wb B A ys
theorem fact_oneS {w0 W : World} {B : Nat} {p : Int × Int × List Int} {v : Value} {lo hi : Nat} (h : Sp.fact w0 (Sp.any (IsOneS B p)) v lo hi W) : B ≤ W.heap.size ∧ ∃ A c, v = .tuple #[p.1, p.2.1, .slice A p.2.2.length c, .int .i64 0] ∧ Sx W B A p.2.2 := by
 obtain ⟨wa, wb, e1, e2, e3, rfl, rfl, hB, A1, c1, rfl, own⟩ := h
 exact ⟨Nat.le_trans hB e3.size, A1, c1, rfl, own.later e3 hB⟩
theorem fact_slS {w0 W : World} {B : Nat} {ys : List Int} {v : Value} {lo hi : Nat} (h : Sp.fact w0 (Sp.any (IsSlS B ys)) v lo hi W) : B ≤ W.heap.size ∧ ∃ A c, v = .slice A ys.length c ∧ Sx W B A ys := by
 obtain ⟨wa, wb, e1, e2, e3, rfl, rfl, hB, A1, c1, rfl, own⟩ := h
 exact ⟨Nat.le_trans hB e3.size, A1, c1, rfl, own.later e3 hB⟩
theorem Blk.far10 {W : World} {g q : Nat} {t : TypeId} {cs : Array Value} {v0 v1 v2 v3 v4 v5 v6 v7 v8 v9 : Value} (h : Blk W q t cs) (hne : g ≠ q) : Blk ((((((((((W.setCell ⟨g, 0, none⟩ v0).setCell ⟨g, 1, none⟩ v1).setCell ⟨g, 2, none⟩ v2).setCell ⟨g, 3, none⟩ v3).setCell ⟨g, 4, none⟩ v4).setCell ⟨g, 5, none⟩ v5).setCell ⟨g, 6, none⟩ v6).setCell ⟨g, 7, none⟩ v7).setCell ⟨g, 8, none⟩ v8).setCell ⟨g, 9, none⟩ v9) q t cs :=
 (((((((((h.far (p := ⟨g, 0, none⟩) hne v0).far (p := ⟨g, 1, none⟩) hne v1).far (p := ⟨g, 2, none⟩) hne v2).far (p := ⟨g, 3, none⟩) hne v3).far (p := ⟨g, 4, none⟩) hne v4).far (p := ⟨g, 5, none⟩) hne v5).far (p := ⟨g, 6, none⟩) hne v6).far (p := ⟨g, 7, none⟩) hne v7).far (p := ⟨g, 8, none⟩) hne v8).far (p := ⟨g, 9, none⟩) hne v9
theorem Sx.far10 {W : World} {B g : Nat} {t : TypeId} {A : Option Addr} {m : List Int} {u0 u1 u2 u3 u4 u5 u6 u7 u8 u9 v0 v1 v2 v3 v4 v5 v6 v7 v8 v9 : Value} (h : Sx W B A m) (hg : B ≤ g) (hk : Blk W g t #[u0, u1, u2, u3, u4, u5, u6, u7, u8, u9]) (ht : t ≠ 2) : Sx ((((((((((W.setCell ⟨g, 0, none⟩ v0).setCell ⟨g, 1, none⟩ v1).setCell ⟨g, 2, none⟩ v2).setCell ⟨g, 3, none⟩ v3).setCell ⟨g, 4, none⟩ v4).setCell ⟨g, 5, none⟩ v5).setCell ⟨g, 6, none⟩ v6).setCell ⟨g, 7, none⟩ v7).setCell ⟨g, 8, none⟩ v8).setCell ⟨g, 9, none⟩ v9) B A m := by
 have h0 := h.far1 (v0 := v0) hg hk ht 0
 have k0 := hk.set_ 0 v0
 have h1 := h0.far1 (v0 := v1) hg k0 ht 1
 have k1 := k0.set_ 1 v1
 have h2 := h1.far1 (v0 := v2) hg k1 ht 2
 have k2 := k1.set_ 2 v2
 have h3 := h2.far1 (v0 := v3) hg k2 ht 3
 have k3 := k2.set_ 3 v3
 have h4 := h3.far1 (v0 := v4) hg k3 ht 4
 have k4 := k3.set_ 4 v4
 have h5 := h4.far1 (v0 := v5) hg k4 ht 5
 have k5 := k4.set_ 5 v5
 have h6 := h5.far1 (v0 := v6) hg k5 ht 6
 have k6 := k5.set_ 6 v6
 have h7 := h6.far1 (v0 := v7) hg k6 ht 7
 have k7 := k6.set_ 7 v7
 have h8 := h7.far1 (v0 := v8) hg k7 ht 8
 have k8 := k7.set_ 8 v8
 have h9 := h8.far1 (v0 := v9) hg k8 ht 9
 exact h9
theorem law_i64 {e : Edg} (ia : I64 e.an) (ib : I64 e.bn) : I64 (lineE e).an ∧ I64 (lineE e).bn := by
 unfold lineE
 split
 ·exact ⟨by show I64 0; unfold I64; omega, by show I64 0; unfold I64; omega⟩
 ·exact ⟨ia, ib⟩
theorem transLine_walk (xs : List Int) (es : List Edg) (hei : ∀ e ∈ es, I64 e.an ∧ I64 e.bn) (X L : Option Addr) (xc lc : Nat) (w : World) (hx : Rd w w.heap.size X xs) (hm : xs.length ≤ 17592186044416) (hl : RdE w w.heap.size L es) (hlm : es.length ≤ 17592186044416) :
  Calls Tryz.prog 8 #[.slice X xs.length xc, .slice L es.length lc] w fun e w' => e = .returned (.bool true) ∧ Below w.heap.size w w' := by
 have HEI := hid hei
 have HL := hid hl
 have HLM := hid hlm
 clear hei hl hlm
 go_enter Tryz.func8, Tryz.ntmps8
 go_wp2_with fail
 (with_reducible refine (known16_any w).mono ?_)
 rintro e1 w1 ⟨rfl, b4⟩
 replace hx := hx.up b4
 by_cases h4 : (4 : Int) < (xs.length : Int)
 ·go_wp2; go_ret; exact ⟨rfl, b4⟩
 by_cases h12 : (12 : Int) < (es.length : Int)
 ·go_wp2; go_ret; exact ⟨rfl, b4⟩
 go_wp2_with fail
 (with_reducible refine (near_ok xs X xc w1 hx hm).mono ?_)
 rintro e2 w2 ⟨b, rfl, b5, c4⟩
 replace hx := hx.up c4
 replace b4 := bup b4 c4
 clear c4 hm
 cases b
 ·go_wp2; go_ret; exact ⟨rfl, b4⟩
 have HNR := hid (b5.1 rfl)
 have HD := hid (show xs.length ≤ 4 by omega)
 have t4 : decide ((4 : Int) < (xs.length : Int)) = false := by rw [decide_eq_false_iff_not]; omega
 have t12 : decide ((12 : Int) < (es.length : Int)) = false := by rw [decide_eq_false_iff_not]; omega
 clear b5 h4 h12
 obtain ⟨d, hd⟩ : ∃ d, xs.length = d := ⟨_, rfl⟩
 have HXD := hid hd
 have e8 := hid hd
 clear hd
 go_wp2_with fail
 clear t4 t12
 obtain ⟨b1, b9, -⟩ := new_one w2 #[.slice X xs.length xc] 22
 have d3 := hid (rpointsL d (by have := HD.out; have := e8.out; omega) xs e8.out HNR.out w2.heap.size 1 X xc _ (b1.cell 0) b1.lt (hx.up b9))
 replace hx := hx.up b9
 replace b4 := bup b4 b9
 rw [e8.out] at d3 HD hx b4 ⊢
 clear b1 b9 e8
 generalize w2.alloc (Obj.cells #[.slice X d xc] 22) = w3 at *
 generalize w2.heap.size = g2 at *
 (with_reducible refine d3.out.mono ?_)
 clear d3
 rintro e4 w4 ⟨A1, c1, rfl, own, b7⟩
 have sx : Sx w4 w4.heap.size A1 (ptO (d : Int) xs).m := .inl own.rd
 have sy : Sx w4 w4.heap.size X xs := .inl (hx.up b7)
 replace b4 := bup b4 b7
 clear own hx b7
 obtain ⟨p6, p8, b5, -⟩ := new_two w4 #[.int .i64 (d : Int), false, .slice A1 (ptO (d : Int) xs).m.length c1] #[.int .i64 0, .int .i64 0, .int .i64 0, .int .i64 0] 24 58
 replace sx := sx.later b5 (Nat.le_refl _)
 replace sy := sy.later b5 (Nat.le_refl _)
 have hw6 := b4.size
 replace b4 := bup b4 b5
 clear b5
 go_wp2
 generalize (w4.alloc (Obj.cells #[.int .i64 (d : Int), false, .slice A1 (ptO (d : Int) xs).m.length c1] 24)).alloc (Obj.cells #[.int .i64 0, .int .i64 0, .int .i64 0, .int .i64 0] 58) = w5 at *
 generalize w4.heap.size = g6 at *
 refine wp_region_flow 4 (fun W => Below w5.heap.size w5 W) (by kernel_rfl) (by kernel_rfl) (Below.refl _ _).drew ?_
 (repeat (first | refine fl_s ?_ | refine fl_t ?_))
 intro w6 b6
 have n7 := new1 w6 (.cells #[.slice (some ⟨g6 + 1, 0, none⟩) 4 4, .slice (some ⟨g6 + 1, 0, none⟩) 4 4, .slice (some ⟨g6 + 1, 0, none⟩) 4 4, .slice (some ⟨g6 + 1, 0, none⟩) 4 4] 22)
 have c7 := bup b6 n7
 have b0 := Nat.le_of_lt p6.lt
 replace p6 := p6.later c7
 replace sx := sx.later c7 b0
 replace sy := sy.later c7 b0
 replace b4 := bup b4 c7
 clear b6 n7 c7 b0 p8
 go_wp2
 generalize w6.alloc (.cells #[.slice (some ⟨g6 + 1, 0, none⟩) 4 4, .slice (some ⟨g6 + 1, 0, none⟩) 4 4, .slice (some ⟨g6 + 1, 0, none⟩) 4 4, .slice (some ⟨g6 + 1, 0, none⟩) 4 4] 22) = w7 at *
 generalize w6.heap.size = g9 at *
 go_loopw [0, 10] (fun s t wr => ∃ (k : Nat) (ys : List Int) (Y : Option Addr) (yc : Nat) (A : Option Addr) (c : Nat), k ≤ es.length ∧ t = .int .i64 k ∧ s = .slice Y d yc ∧ Hid (ys.length = d) ∧ Hid (∀ k : Nat, NearV (gI ys (k : Int))) ∧ Sx wr g6 Y ys ∧ Blk wr g6 24 #[.int .i64 (d : Int), false, .slice A (ptO (d : Int) ys).m.length c] ∧ Sx wr g6 A (ptO (d : Int) ys).m ∧ Below w.heap.size w wr) (fun _ t _ => es.length - (RowKit.intOf t).toNat)
 case atStart => exact ⟨0, xs, X, xc, A1, c1, by omega, rfl, rfl, HXD, HNR, sy, p6, sx, b4⟩
 case round =>
  clear sx sy p6 b4
  obtain ⟨k, ys, Y, yc, A, c, hk, rfl, rfl, i2, i0, sy, p6, sx, hb⟩ := hrel
  by_cases hlt : k < es.length
  ·have hlti : (k : Int) < (es.length : Int) := by omega
   have hlr := HL.out.up hb
   obtain ⟨x, i1⟩ : ∃ x, es[k] = x := ⟨_, rfl⟩
   have d4 : x ∈ es := i1 ▸ List.getElem_mem hlt
   obtain ⟨b, off, rfl, hB, z0, z1, z2, z3, z4, z5, z6, z7, z8, z9⟩ := hlr.get hlt i1
   clear hlr i1
   obtain ⟨ia, ib⟩ := HEI.out x d4
   clear d4
   obtain ⟨fr, te, kd, dst, arr, op, av, an, bv, bn⟩ := x
   dsimp only at z0 z1 z2 z3 z4 z5 z6 z7 z8 z9 ia ib
   have b0 : g6 ≤ wr.heap.size := Nat.le_of_lt p6.lt
   have e6 := hid p6.lt
   have HT := hid (fun W (hB : g6 ≤ W.heap.size) (h : Rd W W.heap.size A (ptO (d : Int) ys).m) => tedgeL d ys (OkO.small (pt_ok (N := 2 * d) (n := (d : Int)) (by omega) (by have := HD.out; omega) (near_side i0.out))) fr te kd dst arr op av an bv bn ia ib A c W h g6 hB)
   have HR := hid (fun (hE : transErr (ptO (d : Int) ys) ⟨fr, te, kd, dst, arr, op, av, an, bv, bn⟩ = 0) => (err_right hE).2)
   have HI := hid (law_i64 (e := ⟨fr, te, kd, dst, arr, op, av, an, bv, bn⟩) ia ib)
   have b2 := hid (fun (hE : transErr (ptO (d : Int) ys) ⟨fr, te, kd, dst, arr, op, av, an, bv, bn⟩ = 0) hex k9 k10 k14 => line_law (n := (d : Int)) (xs := ys) (e := ⟨fr, te, kd, dst, arr, op, av, an, bv, bn⟩) (by omega) (by have := HD.out; omega) (by have := i2.out; omega) i0.out hE hex k9 k10 k14 ia ib)
   have d9 := hid (fun W => texact_any fr te kd dst arr op av an bv bn W)
   rw [exact_same ⟨fr, te, kd, dst, arr, op, av, an, bv, bn⟩] at d9
   generalize hE : transErr (ptO (d : Int) ys) ⟨fr, te, kd, dst, arr, op, av, an, bv, bn⟩ = E at *
   generalize hR : transAns (ptO (d : Int) ys) ⟨fr, te, kd, dst, arr, op, av, an, bv, bn⟩ = R at *
   generalize hX : exactE ⟨fr, te, kd, dst, arr, op, av, an, bv, bn⟩ = ex at *
   clear hE hR hX ia ib
   obtain ⟨p11, b5, -⟩ := new_one wr #[fr, te, kd, dst, arr, op, av, an, bv, bn] 44
   replace sy := sy.later b5 b0
   replace sx := sx.later b5 b0
   replace p6 := p6.later b5
   replace hb := bup hb b5
   clear b5
   obtain ⟨x0, x1, x2, fx⟩ := octbox p6
   obtain ⟨y0, y1, y2, y3, y4, y5, y6, y7, y8, y9, fy⟩ := edgbox p11
   go_wp2_with fail
   clear x0 x1 x2 fx y0 y1 y2 y3 y4 y5 y6 y7 y8 y9 fy z0 z1 z2 z3 z4 z5 z6 z7 z8 z9
   generalize wr.alloc (Obj.cells #[fr, te, kd, dst, arr, op, av, an, bv, bn] 44) = w1 at *
   generalize wr.heap.size = g11 at *
   have b0 : g6 ≤ w1.heap.size := Nat.le_of_lt p6.lt
   (with_reducible refine (HT.out w1 b0 (sx.rd b0)).mono ?_)
   clear HT
   rintro e2 w2 ⟨A2, c2, rfl, b3, c4⟩
   have n3 := new1 w2 (.cells #[.int .i64 R.n, .bool R.e, .slice A2 R.m.length c2] 24)
   have p12 := Blk.new w2 24 #[.int .i64 R.n, .bool R.e, .slice A2 R.m.length c2]
   have b9 := bup c4 n3
   replace b3 := b3.later n3 (Nat.le_trans b0 c4.size)
   replace sy := sy.later b9 b0
   replace p6 := p6.later b9
   have H11 := hid (And.intro p11.lt c4.size)
   replace p11 := p11.later b9
   replace hb := bup hb b9
   clear c4 n3 b9 b0 sx
   by_cases hE : E = 0
   rotate_left
   ·have t1 : (E != 0) = true := by simpa using hE
    clear b2 HR d9 HI
    go_wp2
    go_ret
    exact ⟨rfl, hb⟩
   subst hE
   obtain ⟨y0, y1, y2, y3, y4, y5, y6, y7, y8, y9, fy⟩ := edgbox p11
   go_wp2_with fail
   clear y0 y1 y2 y3 y4 y5 y6 y7 y8 y9 fy
   generalize w2.alloc (.cells #[.int .i64 R.n, .bool R.e, .slice A2 R.m.length c2] 24) = w3 at *
   have H12 := hid (show w1.heap.size ≤ w2.heap.size ∧ g11 < w1.heap.size from ⟨H11.out.2, H11.out.1⟩)
   generalize w2.heap.size = g12 at *
   (with_reducible refine (d9.out w3).mono ?_)
   clear d9
   rintro e4 w4 ⟨rfl, b7⟩
   have b0 : g6 ≤ w3.heap.size := Nat.le_of_lt p6.lt
   replace b3 := b3.later b7 b0
   replace sy := sy.later b7 b0
   replace p6 := p6.later b7
   replace p11 := p11.later b7
   replace p12 := p12.later b7
   replace hb := bup hb b7
   clear b7 b0
   cases ex
   ·clear b2 HR HI
    go_wp2
    go_ret
    exact ⟨rfl, hb⟩
   obtain ⟨y0, y1, y2, y3, y4, y5, y6, y7, y8, y9, fy⟩ := edgbox p11
   by_cases k9 : kd = 9
   ·have t9 : (kd == 9) = true := by simpa using k9
    clear b2 HR HI k9
    go_wp2
    go_ret
    exact ⟨rfl, hb⟩
   have t9 : (kd == 9) = false := by simpa using k9
   by_cases k10 : kd = 10
   ·have t10 : (kd == 10) = true := by simpa using k10
    clear b2 HR HI k9 k10
    go_wp2
    go_ret
    exact ⟨rfl, hb⟩
   have t10 : (kd == 10) = false := by simpa using k10
   by_cases k14 : kd = 14
   ·have t14 : (kd == 14) = true := by simpa using k14
    clear b2 HR HI k9 k10 k14
    go_wp2
    go_ret
    exact ⟨rfl, hb⟩
   have t14 : (kd == 14) = false := by simpa using k14
   replace b2 := hid (b2.out (by first | rfl | trivial) (by first | rfl | trivial) k9 k10 k14)
   have g7 := hid (line_right (HR.out (by first | rfl | trivial)))
   have g4 := hid (line_arr (HR.out (by first | rfl | trivial)) k10)
   clear HR k9 k10 k14
   by_cases ha : 3 < arr
   ·clear b2 g7 HI g4
    go_wp2
    go_ret
    exact ⟨rfl, hb⟩
   go_upto_if 94 with fail
   clear t9 t10 t14 ha
   go_cut [13] (fun s13 W => ∃ a0 a1 a2 a3 a4 a5 a6 a7 a8 a9, s13 = .int .i64 0 ∧ Hid (lineE ⟨fr, te, kd, dst, arr, op, av, an, bv, bn⟩ = ⟨a0, a1, a2, a3, a4, a5, a6, a7, a8, a9⟩) ∧ Blk W g11 44 #[.int .i64 a0, .int .i64 a1, .int .i64 a2, .int .i64 a3, .int .i64 a4, .int .i64 a5, .int .i64 a6, .int .i64 a7, .int .i64 a8, .int .i64 a9] ∧ Blk W g6 24 #[.int .i64 (d : Int), false, .slice A (ptO (d : Int) ys).m.length c] ∧ Blk W g12 24 #[.int .i64 R.n, .bool R.e, .slice A2 R.m.length c2] ∧ Sx W g6 A2 R.m ∧ Sx W g6 Y ys ∧ Below w.heap.size w W)
   case first =>
    by_cases k11 : kd = 11
    ·have t11 : (kd == 11) = true := by simpa using k11
     have HK := hid k11
     clear k11
     have q6 := p6.far10 (g := g11) (v0 := .int .i64 0) (v1 := .int .i64 0) (v2 := .int .i64 1) (v3 := .int .i64 (-1)) (v4 := .int .i64 (-1)) (v5 := .int .i64 0) (v6 := .int .i64 (-1)) (v7 := .int .i64 0) (v8 := .int .i64 (-1)) (v9 := .int .i64 0) (by have := e6.out; omega)
     have q12 := p12.far10 (g := g11) (v0 := .int .i64 0) (v1 := .int .i64 0) (v2 := .int .i64 1) (v3 := .int .i64 (-1)) (v4 := .int .i64 (-1)) (v5 := .int .i64 0) (v6 := .int .i64 (-1)) (v7 := .int .i64 0) (v8 := .int .i64 (-1)) (v9 := .int .i64 0) (by have := H12.out; omega)
     have s2 := b3.far10 (g := g11) (v0 := .int .i64 0) (v1 := .int .i64 0) (v2 := .int .i64 1) (v3 := .int .i64 (-1)) (v4 := .int .i64 (-1)) (v5 := .int .i64 0) (v6 := .int .i64 (-1)) (v7 := .int .i64 0) (v8 := .int .i64 (-1)) (v9 := .int .i64 0) (by have := e6.out; omega) p11 (by decide)
     have sy2 := sy.far10 (g := g11) (v0 := .int .i64 0) (v1 := .int .i64 0) (v2 := .int .i64 1) (v3 := .int .i64 (-1)) (v4 := .int .i64 (-1)) (v5 := .int .i64 0) (v6 := .int .i64 (-1)) (v7 := .int .i64 0) (v8 := .int .i64 (-1)) (v9 := .int .i64 0) (by have := e6.out; omega) p11 (by decide)
     have d8 := hb.trans (below10 (W := w4) (B := w.heap.size) (g := g11) (v0 := .int .i64 0) (v1 := .int .i64 0) (v2 := .int .i64 1) (v3 := .int .i64 (-1)) (v4 := .int .i64 (-1)) (v5 := .int .i64 0) (v6 := .int .i64 (-1)) (v7 := .int .i64 0) (v8 := .int .i64 (-1)) (v9 := .int .i64 0) (by have := e6.out; omega) hb.size)
     have q11 := p11.set10 (v0 := .int .i64 0) (v1 := .int .i64 0) (v2 := .int .i64 1) (v3 := .int .i64 (-1)) (v4 := .int .i64 (-1)) (v5 := .int .i64 0) (v6 := .int .i64 (-1)) (v7 := .int .i64 0) (v8 := .int .i64 (-1)) (v9 := .int .i64 0)
     have HQ := hid (And.intro q11 (And.intro q6 (And.intro q12 (And.intro s2 (And.intro sy2 d8)))))
     clear q6 q12 s2 sy2 d8 q11
     go_wp2_with fail
     go_meet
     obtain ⟨q11, q6, q12, s2, sy2, d8⟩ := HQ.out
     exact ⟨_, _, _, _, _, _, _, _, _, _, rfl, hid (by unfold lineE; rw [if_pos HK.out]; rfl), q11, q6, q12, s2, sy2, d8⟩
    ·have t11 : (kd == 11) = false := by simpa using k11
     have HK := hid k11
     clear k11
     go_wp2_with fail
     go_meet
     exact ⟨_, _, _, _, _, _, _, _, _, _, rfl, hid (by unfold lineE; rw [if_neg HK.out]), p11, p6, p12, b3, sy, hb⟩
   case rest =>
    clear p11 p6 p12 b3 sy hb y0 y1 y2 y3 y4 y5 y6 y7 y8 y9 fy
    obtain ⟨a0, a1, a2, a3, a4, a5, a6, a7, a8, a9, rfl, HLE, p11, p6, p12, b3, sy, hb⟩ := hcut
    have hle := HLE.out
    have c5 := b2.out
    have g1 := g7.out
    have i3 := g4.out
    have c0 := HI.out
    rw [hle] at c5 g1 i3 c0
    clear b2 g7 g4 HI hle HLE
    replace c5 := hid c5
    have HGR := hid (fun W => graphL d a0 a1 a2 a3 a4 a5 a6 a7 a8 a9 g1 W)
    have d2 := hid (oneL d (by have := HD.out; omega) ys i2.out (near_i64 i0.out) ⟨a0, a1, a2, a3, a4, a5, a6, a7, a8, a9⟩ g1 i3 c0.1 c0.2)
    have b8 := hid (one_len (gr1 (d : Int) [] ⟨a0, a1, a2, a3, a4, a5, a6, a7, a8, a9⟩) [] ys 0 0)
    rw [i2.out] at b8 d2
    generalize (gr1 (d : Int) [] ⟨a0, a1, a2, a3, a4, a5, a6, a7, a8, a9⟩).es = es' at *
    generalize oneW (gr1 (d : Int) [] ⟨a0, a1, a2, a3, a4, a5, a6, a7, a8, a9⟩) [] ys 0 0 = q at *
    obtain ⟨qi, qw, zs⟩ := q
    dsimp only at c5 b8
    clear g1 i3 c0
    obtain ⟨f0, f1, f2, f3, f4, f5, f6, f7, f8, f9, ff⟩ := edgbox p11
    replace f0 := laterE f0
    replace f1 := laterE f1
    replace f2 := laterE f2
    replace f3 := laterE f3
    replace f4 := laterE f4
    replace f5 := laterE f5
    replace f6 := laterE f6
    replace f7 := laterE f7
    replace f8 := laterE f8
    replace f9 := laterE f9
    clear ff p11
    have b0 : g6 ≤ wc.heap.size := Nat.le_of_lt p6.lt
    go_wp2
    refine wp_region_flowE 15 [Sp.val (.int .i64 (d : Int)), Sp.val (.agg #[.int .i64 a0, .int .i64 a1, .int .i64 a2, .int .i64 a3, .int .i64 a4, .int .i64 a5, .int .i64 a6, .int .i64 a7, .int .i64 a8, .int .i64 a9]), Sp.any (IsGr0 (d : Int) es'), Sp.val (.slice Y d yc), Sp.val (.slice (some ⟨g9, 0, none⟩) 4 4), Sp.val (.slice (some ⟨g9, 0, none⟩) 0 4), Sp.any (IsOneS g6 (qi, qw, zs)), Sp.any (IsOneS g6 (qi, qw, zs)), Sp.val (.int .i64 qi), Sp.val (.int .i64 qw), Sp.any (IsSlS g6 zs), Sp.val (.int .i64 0), Sp.val (.int .i64 qi), Sp.val (.int .i64 qw), Sp.any (IsSlS g6 zs)] (by kernel_rfl) (by kernel_rfl) ?_
    (refine fe_t (fun _ _ => ?_))
    (refine fe_t (fun _ _ => ?_))
    refine FlowE.callG (by rfl) (fun W hW hf => ?_) (fun v2 l2 h2 => ?_)
    ·refine ⟨38, #[.int .i64 (d : Int), .int .i64 0, .agg #[.int .i64 a0, .int .i64 a1, .int .i64 a2, .int .i64 a3, .int .i64 a4, .int .i64 a5, .int .i64 a6, .int .i64 a7, .int .i64 a8, .int .i64 a9]], by go_simp, (HGR.out W).mono ?_⟩
     rintro e' w' ⟨D, cd, Ea, ce, he, hD, hEr, g0⟩
     exact ⟨_, he, g0, D, cd, Ea, ce, rfl, hEr⟩
    refine fe_p ?_
    (refine fe_t (fun _ _ => ?_))
    (refine fe_t (fun _ _ => ?_))
    (refine fe_t (fun _ _ => ?_))
    refine FlowE.callG (by rfl) (fun W hW hf => ?_) (fun v6 l6 h6 => ?_)
    ·obtain ⟨D, cd, Ea, ce, rfl, hEr⟩ := fact_gr0 (show Sp.fact wc.drew (Sp.any (IsGr0 (d : Int) es')) v2 l2 h2 W from hf 2 (by kernel_rfl))
     have i4 : Below wc.heap.size wc W := Ext.trans (Below.refl _ _).drew hW
     refine ⟨37, #[.agg #[.slice none 0 0, .int .i64 (d : Int), .slice D 0 cd, .int .i64 2, .int .i64 1, .slice Ea es'.length ce], .slice Y d yc, .slice (some ⟨g9, 0, none⟩) 0 4, .int .i64 0, .int .i64 0], by go_simp, (d2.out D Ea (some ⟨g9, 0, none⟩) Y cd ce 4 yc W hEr ((sy.rd b0).up i4)).mono ?_⟩
     rintro e' w' ⟨A3, c3, he, ho, g0⟩
     exact ⟨_, he, g0, Nat.le_trans (Nat.le_trans b0 i4.size) g0.size, A3, c3, rfl, Sx.of_own ho (Nat.le_trans b0 i4.size)⟩
    refine fe_p ?_
    refine FlowE.takeR (by rfl) (fun W hW hf => ?_) (fun v7 l7 h7 => ?_)
    ·obtain ⟨hB3, A3, c3, rfl, c6⟩ := fact_oneS (show Sp.fact wc.drew (Sp.any (IsOneS g6 (qi, qw, zs))) v6 l6 h6 W from hf 6 (by kernel_rfl))
     exact ⟨_, fun R hR => by go_simp; exact hR, hB3, A3, c3, rfl, c6⟩
    refine fe_p ?_
    refine FlowE.takeF (by rfl) (fun W hW hf R hR => ?_) (fun _ _ => ?_)
    ·obtain ⟨hB3, A3, c3, rfl, c6⟩ := fact_oneS (show Sp.fact wc.drew (Sp.any (IsOneS g6 (qi, qw, zs))) v7 l7 h7 W from hf 7 (by kernel_rfl))
     go_simp
     exact hR
    refine fe_p ?_
    refine FlowE.takeF (by rfl) (fun W hW hf R hR => ?_) (fun _ _ => ?_)
    ·obtain ⟨hB3, A3, c3, rfl, c6⟩ := fact_oneS (show Sp.fact wc.drew (Sp.any (IsOneS g6 (qi, qw, zs))) v7 l7 h7 W from hf 7 (by kernel_rfl))
     go_simp
     exact hR
    refine fe_p ?_
    refine FlowE.takeR (by rfl) (fun W hW hf => ?_) (fun v10 l10 h10 => ?_)
    ·obtain ⟨hB3, A3, c3, rfl, c6⟩ := fact_oneS (show Sp.fact wc.drew (Sp.any (IsOneS g6 (qi, qw, zs))) v7 l7 h7 W from hf 7 (by kernel_rfl))
     exact ⟨_, fun R hR => by go_simp; exact hR, hB3, A3, c3, rfl, c6⟩
    refine fe_p ?_
    refine FlowE.takeF (by rfl) (fun W hW hf R hR => ?_) (fun _ _ => ?_)
    ·obtain ⟨hB3, A3, c3, rfl, c6⟩ := fact_oneS (show Sp.fact wc.drew (Sp.any (IsOneS g6 (qi, qw, zs))) v7 l7 h7 W from hf 7 (by kernel_rfl))
     go_simp
     exact hR
    refine fe_p ?_
    (refine fe_t (fun _ _ => ?_))
    (refine fe_t (fun _ _ => ?_))
    refine FlowE.takeR (by rfl) (fun W hW hf => ?_) (fun v14 l14 h14 => ?_)
    ·obtain ⟨hB3, A3, c3, rfl, c6⟩ := fact_slS (show Sp.fact wc.drew (Sp.any (IsSlS g6 zs)) v10 l10 h10 W from hf 10 (by kernel_rfl))
     exact ⟨_, fun R hR => by go_simp; exact hR, hB3, A3, c3, rfl, c6⟩
    refine fe_p ?_
    refine FlowE.tail (fun W hW hf hd => ?_)
    replace hW : Below wc.heap.size wc W := Ext.trans (Below.refl _ _).drew hW
    obtain ⟨hB3, A3, c3, rfl, sz⟩ := fact_slS (show Sp.fact wc.drew (Sp.any (IsSlS g6 zs)) v14 l14 h14 W from hf 14)
    clear hf hd f0 f1 f2 f3 f4 f5 f6 f7 f8 f9 d2 HGR
    replace p6 := p6.later hW
    replace p12 := p12.later hW
    replace b3 := b3.later hW b0
    replace hb := bup hb hW
    clear hW sy b0
    by_cases hqw : qw = 0
    rotate_left
    ·have t1 : (qw != 0) = true := by simpa using hqw
     clear c5
     go_wp2
     go_ret
     exact ⟨rfl, hb⟩
    subst hqw
    have g3 := sz.rd hB3
    go_wp2_with fail
    (with_reducible refine (near_ok zs A3 c3 W g3 (by rw [b8.out]; have := HD.out; omega)).mono ?_)
    rintro e5 w5 ⟨b, rfl, g8, d0⟩
    replace p6 := p6.later d0
    replace p12 := p12.later d0
    replace b3 := b3.later d0 hB3
    replace sz := sz.later d0 hB3
    replace hB3 := Nat.le_trans hB3 d0.size
    replace g3 := sz.rd hB3
    replace hb := bup hb d0
    clear d0
    cases b
    ·clear c5 g8
     go_wp2
     go_ret
     exact ⟨rfl, hb⟩
    have e0 := hid (g8.1 rfl)
    clear g8
    obtain ⟨d7, d6⟩ := c5.out (by first | rfl | trivial) e0.out
    replace d7 := hid d7
    replace d6 := hid d6
    clear c5
    obtain ⟨u0, u1, u2, fu⟩ := octbox p12
    by_cases hqi : qi = 0
    rotate_left
    ·have t1 : (qi != 0) = true := by simpa using hqi
     have he := d7.out hqi
     rw [he] at u1
     clear d7 d6 hqi he
     go_wp2
     go_ret
     exact ⟨rfl, hb⟩
    subst hqi
    obtain ⟨hR, -⟩ := d6.out (by first | rfl | trivial)
    subst hR
    clear d7 d6 u0 u1 u2 fu
    replace p12 : Blk w5 g12 24 #[.int .i64 (d : Int), false, .slice A2 (ptO (d : Int) zs).m.length c2] := p12
    go_wp2_with fail
    obtain ⟨b1, b6, -⟩ := new_one w5 #[.slice A3 zs.length c3] 22
    have d3 := hid (rpointsL d (by have := HD.out; omega) zs b8.out e0.out w5.heap.size 1 A3 c3 _ (b1.cell 0) b1.lt (g3.up b6))
    replace p6 := p6.later b6
    replace p12 := p12.later b6
    replace b3 := b3.later b6 hB3
    replace sz := sz.later b6 hB3
    replace hB3 := Nat.le_trans hB3 b6.size
    replace hb := bup hb b6
    clear b1 b6 g3
    generalize w5.alloc (Obj.cells #[.slice A3 zs.length c3] 22) = w6 at *
    generalize w5.heap.size = g5 at *
    (with_reducible refine d3.out.mono ?_)
    clear d3
    rintro e7 w7' ⟨A9, c9, rfl, d5, c7⟩
    have n8 := new1 w7' (.cells #[.int .i64 (d : Int), false, .slice A9 (ptO (d : Int) zs).m.length c9] 24)
    have p18 := Blk.new w7' 24 #[.int .i64 (d : Int), false, .slice A9 (ptO (d : Int) zs).m.length c9]
    have c8 := bup c7 n8
    have hr9 := d5.rd.up n8
    replace p6 := p6.later c8
    replace p12 := p12.later c8
    replace b3 := b3.later c8 hB3
    replace sz := sz.later c8 hB3
    replace hB3 := Nat.le_trans hB3 c8.size
    replace hb := bup hb c8
    clear d5 c7 n8 c8
    obtain ⟨u0, u1, u2, fu⟩ := octbox p12
    obtain ⟨v0, v1, v2, fv⟩ := octbox p18
    go_wp2_with fail
    clear u0 u1 u2 fu v0 v1 v2 fv
    generalize w7'.alloc (.cells #[.int .i64 (d : Int), false, .slice A9 (ptO (d : Int) zs).m.length c9] 24) = w8 at *
    have hsm : (ptO (d : Int) zs).m.length ≤ 17592186044416 := OkO.small (pt_ok (N := 2 * d) (n := (d : Int)) (by omega) (by have := HD.out; omega) (near_side e0.out))
    have HO := hid (oct_any (ptO (d : Int) zs) (ptO (d : Int) zs) A2 A9 c2 c9 w8 (b3.rd hB3) hr9 hsm)
    rw [eqO_same] at HO
    have HO2 := hid (show Calls Tryz.prog 23 #[.agg #[.int .i64 (d : Int), false, .slice A2 (ptO (d : Int) zs).m.length c2], .agg #[.int .i64 (d : Int), false, .slice A9 (ptO (d : Int) zs).m.length c9]] w8 (fun e w' => e = .returned (.bool true) ∧ Below w8.heap.size w8 w') from HO.out)
    clear HO p18 hr9 hsm
    (with_reducible refine HO2.out.mono ?_)
    clear HO2
    rintro e9 w9 ⟨rfl, d1⟩
    replace p6 := p6.later d1
    replace p12 := p12.later d1
    replace b3 := b3.later d1 hB3
    replace sz := sz.later d1 hB3
    replace hB3 := Nat.le_trans hB3 d1.size
    replace hb := bup hb d1
    clear d1
    have r6 := p6.set3 (v0 := .int .i64 (d : Int)) (v1 := .bool false) (v2 := .slice A2 (ptO (d : Int) zs).m.length c2)
    have rs := b3.far3 (g := g6) (v0 := .int .i64 (d : Int)) (v1 := .bool false) (v2 := .slice A2 (ptO (d : Int) zs).m.length c2) (Nat.le_refl _) p6 (by decide)
    have rz := sz.far3 (g := g6) (v0 := .int .i64 (d : Int)) (v1 := .bool false) (v2 := .slice A2 (ptO (d : Int) zs).m.length c2) (Nat.le_refl _) p6 (by decide)
    have rb := hb.trans (below3 (W := w9) (g := g6) (v0 := .int .i64 (d : Int)) (v1 := .bool false) (v2 := .slice A2 (ptO (d : Int) zs).m.length c2) hw6 hb.size)
    obtain ⟨x0, x1, x2, fx⟩ := octbox p6
    obtain ⟨u0, u1, u2, fu⟩ := octbox p12
    have HRR := hid (And.intro r6 (And.intro rs (And.intro rz rb)))
    have hzl : Hid (zs.length = d) := b8
    clear r6 rs rz rb
    have hlm := HLM.out
    go_wp2
    go_roundw
    case rel =>
     obtain ⟨r6, rs, rz, rb⟩ := HRR.out
     exact ⟨k + 1, zs, A3, c3, A2, c2, by omega, by go_num, by rw [hzl.out], hzl, e0, rz, r6, rs, rb⟩
    case measure => simp [RowKit.intOf]; omega
  ·obtain rfl : k = es.length := by omega
   go_wp2
   go_ret
   exact ⟨rfl, hb⟩
theorem transLine_walkE (xs : List Int) (es : List Edg) (X L : Option Addr) (xc lc : Nat) (w : World) (hx : Rd w w.heap.size X xs) (hl : RdE w w.heap.size L es) (hm : xs.length ≤ 17592186044416) (he : es.length ≤ 17592186044416 ∧ ∀ e ∈ es, EdgI e) :
  Calls Tryz.prog 8 #[.slice X xs.length xc, .slice L es.length lc] w fun e w' => e = .returned (.bool true) ∧ Below w.heap.size w w' :=
 transLine_walk xs es (fun e h => ⟨(he.2 e h).2.2.2.2.2.2.2.1, (he.2 e h).2.2.2.2.2.2.2.2.2⟩) X L xc lc w hx hm hl he.1
end
section
set_option maxRecDepth 100000
set_option maxHeartbeats 8000000
open Go.ChangeShapes Go.WideShapes Go.ChangeAt Go.RowKit Go.Joins
section
variable {H : Type} {enc : TypeId × Value → H} {W : World} {base : Nat} {held : Bool}
theorem open_edges {r : Reach} {b0 : Nat} {spare : Nat → Bool} {v : Value} {d : DataW H} {p : List MemPlace} (hv : Value.okWide Tryz.prog W r b0 57 v) (h : DataW.Trod enc Tryz.prog W base spare held 57 v d p) :
  ∃ (A : Option Addr) (c : Nat) (l : List Edg), v = .slice A l.length c ∧ RdE W W.heap.size A l ∧ ((∀ n ∈ d.weights Tryz.prog 57, n ≤ reachBytes) → l.length ≤ 17592186044416 ∧ ∀ e ∈ l, EdgI e) := by
 obtain ⟨a, len, cap, rfl⟩ := okWide_slice Tryz.underlying57 hv
 obtain ⟨fuel, hf⟩ := h
 obtain ⟨A, c, l, he, hr, hw⟩ := open_rows (α := Edg) Tryz.underlying57 (by rw [cells_edge]; omega) Edg.cells EdgI (fun _ => by rw [cells_edge]; rfl) (fun h => by obtain ⟨z, hz, hi⟩ := read_edge h; exact ⟨z, hz, fun _ => hi⟩) hf
 simp [Value.cells] at he
 obtain ⟨rfl, rfl, rfl⟩ := he
 rw [cells_edge] at hr
 refine ⟨_, _, l, rfl, fun k hk => hr k hk, fun hn => ?_⟩
 obtain ⟨h1, h2⟩ := hw hn
 rw [bytes_edge] at h1
 have := reachBytes_lt
 exact ⟨by omega, h2⟩
end
end
end Go.Proofs.YtnmpgijiimglcaaGreat
