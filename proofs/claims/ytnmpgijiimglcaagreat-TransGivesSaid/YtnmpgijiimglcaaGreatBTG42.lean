/-
  gnomonref16.atMost: what it answers, in place.
  gnomonref15: what the document's ranges tell of a closed octagon.
  gnomonref16.unlike: what it answers.
  gnomonref14.Forget: what it answers.
  The library's iterator over a map's keys at this program: the table of numbers.
-/
import Derived.Test.YtnmpgijiimglcaaGreatRRanged
import Derived.Test.YtnmpgijiimglcaaGreatBTG06
import Derived.Test.YtnmpgijiimglcaaGreatBTG25
import Derived.Test.YtnmpgijiimglcaaGreatBTG04
import Derived.Test.YtnmpgijiimglcaaGreatUnlikeV
import Derived.Test.YtnmpgijiimglcaaGreatBTG02
import Derived.Test.YtnmpgijiimglcaaGreatBTG14
import Derived.Test.YtnmpgijiimglcaaGreatRDrop
import Derived.Test.YtnmpgijiimglcaaGreatRef13
import Derived.Shelf.SlIterI.Stops
import Derived.Test.YtnmpgijiimglcaaGreatRows
namespace Go.Proofs.YtnmpgijiimglcaaGreat
section
open Go.RowKit
attribute [local go_sem ↓] Go.wp_at_zero Go.wp_at_succ
end
section
open Go.RowKit
attribute [local go_sem ↓] Go.wp_at_zero Go.wp_at_succ
end
section
open Go.RowKit
attribute [local go_sem ↓] Go.wp_at_zero Go.wp_at_succ

theorem row_ge {w : World} {base cap : Nat} {A : Option Addr} {xs : List Int} (h : Own w base A cap xs) : ∀ k, rowB A = some k → base ≤ k := by
  rcases h.form with ⟨rfl, _⟩ | ⟨g, rfl, hg, _⟩
  · exact fun k e => by cases e
  · intro k e
    simp only [rowB, Option.map_some, Option.some.injEq] at e
    omega
end
section
open Go.RowKit
attribute [local go_sem ↓] Go.wp_at_zero Go.wp_at_succ

theorem bool_infoF : (Tryz.prog.info? 4).map (fun i => (i.zero, i.size, i.bytes)) = some (some (.bool false), 1, 1) := by kernel_rfl

set_option maxHeartbeats 400000 in
/-- The empty octagon comes back as it came. -/
theorem rdrop_e (n : Int) (A D : Option Addr) (cap L cD : Nat) (w : World) :
    Calls Tryz.prog 141 #[.agg #[.int .i64 n, .bool true, .slice A 0 cap], .slice D L cD] w (fun e' w' => e' = .returned (.agg #[.int .i64 n, .bool true, .slice A 0 cap]) ∧ Below w.heap.size w w') := by
  obtain ⟨p0, p1, hb0, hsz⟩ := new_two w #[.int .i64 n, .bool true, .slice A 0 cap] #[.int .i64 0, .bool false, .slice none 0 0] 24 24
  clear hsz
  obtain ⟨x0, x1, x2, fx⟩ := octbox p0
  obtain ⟨y0, y1, y2, fy⟩ := octbox p1
  go_enter Tryz.func141, Tryz.ntmps141
  go_wp2
  clear x0 x1 x2 fx y0 y1 y2 fy
  obtain ⟨-, q9, hb9, -⟩ := new_two w #[.int .i64 n, .bool true, .slice A 0 cap] #[.int .i64 n, .bool true, .slice A 0 cap] 24 24
  obtain ⟨z0, z1, z2, fz⟩ := octbox q9
  refine bodyPost_ret (v := .agg #[.int .i64 n, .bool true, .slice A 0 cap]) (by simp [results, Tryz.results141, go_sem, z0, z1, z2]) rfl ?_
  exact ⟨rfl, hb9⟩

set_option maxRecDepth 8000 in
set_option maxHeartbeats 4000000 in
theorem rforget_ok (o : O) (ok : check o = 0) (v : Nat) (hv : (v : Int) < o.n) (A : Option Addr) (cap : Nat) (w : World) (hx : Rd w w.heap.size A o.m) (hm : o.m.length ≤ 17592186044416) :
    Calls Tryz.prog 69 #[.agg #[.int .i64 o.n, .bool o.e, .slice A o.m.length cap], .int .i64 (v : Int)] w (OctOwn w (forgetO o v)) := by
  have okc : OkO o.n (closeO o) := OkO.close ⟨rfl, ok⟩
  have hn64 : o.n ≤ 64 := (check_ok ok).2.1
  have HOF := hid (fun W (h : Rd W W.heap.size A o.m) => r13_any o A cap W h hm ok)
  have HR := hid (show forgetO o v = if (closeO o).e then closeO o else ⟨o.n, false, forgetM (2 * o.n).toNat v (closeO o).m⟩ from rfl)
  generalize forgetO o v = R at *
  have hcf := okc.form
  clear ok okc
  generalize closeO o = C at *
  obtain ⟨n, e, m⟩ := o
  dsimp only at *
  obtain ⟨L, rfl⟩ : ∃ L : Nat, n = (L : Int) := ⟨n.toNat, by omega⟩
  have HCF := hid hcf
  clear hcf
  have hvL : v < L := by omega
  have hmk := run_make_row' (P := Tryz.prog) 160 4 (.bool false) 1 Tryz.underlying160 bool_infoF rfl .i64 .i64 L (by omega) (by omega)
  obtain ⟨p0, p2, hb0, hsz⟩ := new_two w #[.int .i64 (L : Int), .bool e, .slice A m.length cap] #[.int .i64 0, .bool false, .slice none 0 0] 24 24
  replace hx := hx.up hb0
  clear hsz
  go_enter Tryz.func69, Tryz.ntmps69
  obtain ⟨p0_0, p0_1, p0_2, p0_f⟩ := octbox p0
  go_wp2_with fail
  clear p0_0 p0_1 p0_2 p0_f
  generalize (w.alloc (Obj.cells #[.int .i64 (L : Int), .bool e, .slice A m.length cap] 24)).alloc (Obj.cells #[.int .i64 0, .bool false, .slice none 0 0] 24) = w1 at *
  (with_reducible refine (HOF.out w1 hx).mono ?_)
  rintro e_w2 w2 ⟨Ac, cc, sf, rfl, own, hb_w2⟩
  replace own := own.less hb0.size
  clear hx HOF
  replace p0 := p0.later hb_w2
  replace p2 := p2.later hb_w2
  replace hb0 := bup hb0 hb_w2
  clear hb_w2
  rcases HCF.out with rfl | ⟨N, cm, hN, hn, rfl, hc⟩
  · clear HCF
    (try unfold emptyO at *)
    dsimp only at *
    replace HR : Hid (R = emptyO (L : Int)) := hid (by rw [HR.out]; rfl)
    obtain ⟨p5, hbn, -⟩ := new_one w2 #[.int .i64 (L : Int), .bool true, .slice Ac 0 cc] 24
    replace p0 := p0.later hbn
    replace p2 := p2.later hbn
    replace own := own.below hbn
    replace hb0 := bup hb0 hbn
    have km : (madeCells #[Value.bool false] L)[v]? = some (Value.bool false) := by simp [madeCells, hvL, Nat.mod_one]
    have ks : (madeCells #[Value.bool false] L).size = L := size_madeCells _ _
    have K := World.rowIs_alloc (w2.alloc (Obj.cells #[.int .i64 (L : Int), .bool true, .slice Ac 0 cc] 24)) ((madeCells #[Value.bool false] L).setIfInBounds v (Value.bool true)) 4 (fun u => .bool (decide (u = v))) (fun u hu => by
      rw [Array.getElem?_setIfInBounds]
      have hu' : u < L := by rw [Array.size_setIfInBounds, ks] at hu; exact hu
      by_cases e : v = u
      · subst e; rw [if_pos rfl, if_pos (by rw [ks]; exact hu')]; simp
      · rw [if_neg e]
        have : decide (u = v) = false := decide_eq_false (fun h => e h.symm)
        rw [this]; simp [madeCells, hu', Nat.mod_one])
    rw [Array.size_setIfInBounds, ks] at K
    have hbk := new1 (w2.alloc (Obj.cells #[.int .i64 (L : Int), .bool true, .slice Ac 0 cc] 24)) (.cells ((madeCells #[Value.bool false] L).setIfInBounds v (Value.bool true)) 4)
    obtain ⟨p0_0, p0_1, p0_2, p0_f⟩ := octbox p0
    go_wp2_with fail
    clear p0_0 p0_1 p0_2 p0_f
    clear hmk km ks
    replace p0 := p0.later hbk
    replace p2 := p2.later hbk
    replace p5 := p5.later hbk
    replace own := own.below hbk
    replace hb0 := bup hb0 hbk
    replace K := fun u hu => K.cell (i := u) hu
    simp only [World.size_alloc] at K
    generalize (w2.alloc (Obj.cells #[.int .i64 (L : Int), .bool true, .slice Ac 0 cc] 24)).alloc (.cells ((madeCells #[Value.bool false] L).setIfInBounds v (Value.bool true)) 4) = w3 at *
    clear hbn hbk
    (with_reducible refine (rdrop_e (L : Int) Ac (some ⟨w2.heap.size + 1, 0, none⟩) cc L L w3).mono ?_)
    rintro e_w4 w4 ⟨rfl, hb_w4⟩
    replace p0 := p0.later hb_w4
    replace p2 := p2.later hb_w4
    replace p5 := p5.later hb_w4
    replace own := own.below hb_w4
    replace hb0 := bup hb0 hb_w4
    obtain ⟨p2_0, p2_1, p2_2, p2_f⟩ := octbox p2
    go_wp2
    clear p2_0 p2_1 p2_2 p2_f
    rw [HR.out]
    have o9 := own.far3 (g := w.heap.size + 1) (v0 := .int .i64 (L : Int)) (v1 := .bool true) (v2 := .slice Ac 0 cc) (own_blk' own p2 (by decide))
    have q9 := p2.set3 (v0 := .int .i64 (L : Int)) (v1 := .bool true) (v2 := .slice Ac 0 cc)
    have hb9 := hb0.trans (below3 (W := w4) (g := w.heap.size + 1) (v0 := .int .i64 (L : Int)) (v1 := .bool true) (v2 := .slice Ac 0 cc) (by omega) hb0.size)
    obtain ⟨z0, z1, z2, fz⟩ := octbox q9
    refine bodyPost_ret (v := .agg #[.int .i64 (L : Int), .bool true, .slice Ac 0 cc]) (by simp [results, Tryz.results69, go_sem, z0, z1, z2]) rfl ?_
    exact ⟨_, _, rfl, o9, hb9⟩
  · clear HCF
    (try unfold emptyO at *)
    dsimp only at *
    replace HR : Hid (R = ⟨(L : Int), false, forgetM N v cm⟩) := hid (by rw [HR.out, if_neg (by simp), show (2 * (L : Int)).toNat = N by omega])
    obtain ⟨gA, rfl, hA1, hA2⟩ : ∃ gA, Ac = some ⟨gA, 0, none⟩ ∧ w.heap.size ≤ gA ∧ gA < w2.heap.size := by
      rcases own.form with ⟨_, h⟩ | ⟨g, h, h1, h2⟩
      · exfalso
        have h5 := hc.len
        rw [h.1] at h5
        have h6 : 0 < N * N := Nat.mul_pos (by omega) (by omega)
        simp at h5; omega
      · exact ⟨g, h, h1, h2⟩
    obtain ⟨p5, hbn, -⟩ := new_one w2 #[.int .i64 (L : Int), .bool false, .slice (some ⟨gA, 0, none⟩) cm.length cc] 24
    replace p0 := p0.later hbn
    replace p2 := p2.later hbn
    replace own := own.below hbn
    replace hb0 := bup hb0 hbn
    have km : (madeCells #[Value.bool false] L)[v]? = some (Value.bool false) := by simp [madeCells, hvL, Nat.mod_one]
    have ks : (madeCells #[Value.bool false] L).size = L := size_madeCells _ _
    have K := World.rowIs_alloc (w2.alloc (Obj.cells #[.int .i64 (L : Int), .bool false, .slice (some ⟨gA, 0, none⟩) cm.length cc] 24)) ((madeCells #[Value.bool false] L).setIfInBounds v (Value.bool true)) 4 (fun u => .bool (decide (u = v))) (fun u hu => by
      rw [Array.getElem?_setIfInBounds]
      have hu' : u < L := by rw [Array.size_setIfInBounds, ks] at hu; exact hu
      by_cases e : v = u
      · subst e; rw [if_pos rfl, if_pos (by rw [ks]; exact hu')]; simp
      · rw [if_neg e]
        have : decide (u = v) = false := decide_eq_false (fun h => e h.symm)
        rw [this]; simp [madeCells, hu', Nat.mod_one])
    rw [Array.size_setIfInBounds, ks] at K
    have hbk := new1 (w2.alloc (Obj.cells #[.int .i64 (L : Int), .bool false, .slice (some ⟨gA, 0, none⟩) cm.length cc] 24)) (.cells ((madeCells #[Value.bool false] L).setIfInBounds v (Value.bool true)) 4)
    obtain ⟨p0_0, p0_1, p0_2, p0_f⟩ := octbox p0
    go_wp2_with fail
    clear p0_0 p0_1 p0_2 p0_f
    clear hmk km ks
    replace p0 := p0.later hbk
    replace p2 := p2.later hbk
    replace p5 := p5.later hbk
    replace own := own.below hbk
    replace hb0 := bup hb0 hbk
    replace K := fun u hu => K.cell (i := u) hu
    simp only [World.size_alloc] at K
    generalize (w2.alloc (Obj.cells #[.int .i64 (L : Int), .bool false, .slice (some ⟨gA, 0, none⟩) cm.length cc] 24)).alloc (.cells ((madeCells #[Value.bool false] L).setIfInBounds v (Value.bool true)) 4) = w3 at *
    clear hbn hbk
    have hbs := hb0.size
    have HX := hid (rdrop_ok (L : Int) cm N hN hn hc v hv gA cc w.heap.size (w2.heap.size + 1) L L rfl w3 own hbs K (by omega))
    (with_reducible refine HX.out.mono ?_)
    clear HX
    rintro e2 w9 ⟨rfl, own2, hg⟩
    replace p2 := p2.kept hg (row_ne own p2 (by decide))
    replace hb0 := hb0.trans (below_grown hg (row_ge own) hb0.size)
    clear own hg p0 p5 K
    have own := own2
    clear own2
    obtain ⟨p2_0, p2_1, p2_2, p2_f⟩ := octbox p2
    go_wp2
    clear p2_0 p2_1 p2_2 p2_f
    rw [HR.out]
    have o9 := own.far3 (g := w.heap.size + 1) (v0 := .int .i64 (L : Int)) (v1 := .bool false) (v2 := .slice (some ⟨gA, 0, none⟩) cm.length cc) (own_blk' own p2 (by decide))
    have q9 := p2.set3 (v0 := .int .i64 (L : Int)) (v1 := .bool false) (v2 := .slice (some ⟨gA, 0, none⟩) cm.length cc)
    have hb9 := hb0.trans (below3 (W := w9) (g := w.heap.size + 1) (v0 := .int .i64 (L : Int)) (v1 := .bool false) (v2 := .slice (some ⟨gA, 0, none⟩) cm.length cc) (by omega) hb0.size)
    obtain ⟨z0, z1, z2, fz⟩ := octbox q9
    refine bodyPost_ret (v := .agg #[.int .i64 (L : Int), .bool false, .slice (some ⟨gA, 0, none⟩) cm.length cc]) (by simp [results, Tryz.results69, go_sem, z0, z1, z2]) rfl ?_
    refine ⟨some ⟨gA, 0, none⟩, cc, ?_, o9, hb9⟩
    (try dsimp only)
    rw [show (forgetM N v cm).length = cm.length by unfold forgetM; simp]
end
section
open Go.Shelf
end
end Go.Proofs.YtnmpgijiimglcaaGreat
