/-
  gnomonlaw16.TransSwap.
-/
import Derived.Test.YtnmpgijiimglcaaGreatBTS35
import Derived.Test.YtnmpgijiimglcaaGreatBTS46
import Derived.Test.YtnmpgijiimglcaaGreatRPoints
namespace Go.Proofs.YtnmpgijiimglcaaGreat
open Go.RowKit
attribute [local go_sem ↓] Go.wp_at_zero Go.wp_at_succ

def rowS (x y z : Int) : Nat → List Int
  | 0 => [x, y, z]
  | 1 => [x, y, x]
  | 2 => [y, y, x]
  | _ => [y, x, x]
theorem rowS_len (x y z : Int) (k : Nat) : (rowS x y z k).length = 3 := by unfold rowS; split <;> rfl
theorem swap_step (x y z : Int) {k : Nat} (hk : k < 3) : ∃ d s : Nat, d < 3 ∧ s < 3 ∧ s ≠ d ∧ (#[.int .i64 2, .int .i64 0, .int .i64 1] : Array Value)[k]? = some (.int .i64 (d : Int)) ∧ (#[.int .i64 0, .int .i64 1, .int .i64 2] : Array Value)[k]? = some (.int .i64 (s : Int)) ∧ rowS x y z (k + 1) = (rowS x y z k).set d (gI (rowS x y z k) (s : Int)) := by
  have : k = 0 ∨ k = 1 ∨ k = 2 := by omega
  rcases this with rfl | rfl | rfl
  · exact ⟨2, 0, by omega, by omega, by omega, rfl, rfl, rfl⟩
  · exact ⟨0, 1, by omega, by omega, by omega, rfl, rfl, rfl⟩
  · exact ⟨1, 2, by omega, by omega, by omega, rfl, rfl, rfl⟩
theorem near_three {x y z : Int} : (∀ k : Nat, NearV (gI [x, y, z] (k : Int))) ↔ NearV x ∧ NearV y ∧ NearV z := by
  constructor
  · intro h; exact ⟨h 0, h 1, h 2⟩
  · rintro ⟨h0, h1, h2⟩ k
    match k with
    | 0 => exact h0
    | 1 => exact h1
    | 2 => exact h2
    | k + 3 => exact near_out _ _ (by simp)
theorem near_row {x y z : Int} (h : NearV x ∧ NearV y ∧ NearV z) (k : Nat) : ∀ j : Nat, NearV (gI (rowS x y z k) (j : Int)) := by
  obtain ⟨h0, h1, h2⟩ := h
  unfold rowS
  split <;> exact near_three.2 ⟨by assumption, by assumption, by assumption⟩
theorem rd_three {W : World} {g : Nat} {x y z : Int} (h : Blk W g 2 #[.int .i64 x, .int .i64 y, .int .i64 z]) : Rd W W.heap.size (some ⟨g, 0, none⟩) [x, y, z] := fun k hk => by
  refine ⟨g, 0, rfl, h.lt, ?_⟩
  have : k = 0 ∨ k = 1 ∨ k = 2 := by simp at hk; omega
  rcases this with rfl | rfl | rfl
  · exact h.cell 0
  · exact h.cell 1
  · exact h.cell 2

theorem rpoints3 (xs : List Int) (hl : xs.length = 3) (hn : ∀ k : Nat, NearV (gI xs (k : Int))) (gp cp : Nat) (X : Option Addr) (xc : Nat) (w : World) (hP : w.cell? ⟨gp, 0, none⟩ = some (.slice X 3 xc)) (hgp : gp < w.heap.size) (hx : Rd w w.heap.size X xs) :
    Calls Tryz.prog 27 #[.int .i64 3, .slice (some ⟨gp, 0, none⟩) 1 cp] w fun e w' => ∃ A1 c1, e = .returned (.tuple #[.agg #[.int .i64 3, .bool false, .slice A1 (ptO 3 xs).m.length c1], .int .i64 0]) ∧ Own w' w.heap.size A1 c1 (ptO 3 xs).m ∧ Below w.heap.size w w' :=
  rpoints_ok 3 (by omega) xs hl hn gp cp X xc w (by rw [hl]; exact hP) hgp hx
theorem tcopy3 (xs : List Int) (hl : xs.length = 3) (hn : ∀ k : Nat, NearV (gI xs (k : Int))) (d s : Nat) (hd : d < 3) (hs : s < 3) (hne : s ≠ d) (A : Option Addr) (cap : Nat) (w : World) (hx : Rd w w.heap.size A (ptO 3 xs).m) (B : Nat) (hB : B ≤ w.heap.size) :
    Calls Tryz.prog 28 #[.agg #[.int .i64 3, .bool false, .slice A (ptO 3 xs).m.length cap], .agg #[.int .i64 0, .int .i64 0, .int .i64 2, .int .i64 (d : Int), .int .i64 (-1), .int .i64 0, .int .i64 (s : Int), .int .i64 0, .int .i64 (-1), .int .i64 0]] w fun e w' => ∃ A1 c1, e = .returned (.tuple #[.agg #[.int .i64 3, .bool false, .slice A1 (ptO 3 (xs.set d (gI xs (s : Int)))).m.length c1], .int .i64 0]) ∧ Sx w' B A1 (ptO 3 (xs.set d (gI xs (s : Int)))).m ∧ Below w.heap.size w w' :=
  tcopy_pt xs hl hn d s hd hs hne A cap w hx B hB
theorem swap_cells {u : World} {b o : Nat} {x : Value} {c d : Obj} (h : (u.alloc c).cell? ⟨b, o, none⟩ = some x) (hb : b < u.heap.size) : (u.alloc d).cell? ⟨b, o, none⟩ = some x := by
  have e : ∀ c : Obj, (u.alloc c).cell? ⟨b, o, none⟩ = u.cell? ⟨b, o, none⟩ := fun c => (new1 u c).cell (p := ⟨b, o, none⟩) hb
  exact (e d).trans ((e c).symm.trans h)
theorem far_cell3s {W : World} {g b o : Nat} {v0 v1 v2 c : Value} (h : W.cell? ⟨b, o, none⟩ = some c) (hne : g ≠ b) : (((W.setCell ⟨g, 0, none⟩ v0).setCell ⟨g, 1, none⟩ v1).setCell ⟨g, 2, none⟩ v2).cell? ⟨b, o, none⟩ = some c := by
  have e : ∀ (X : World) (k : Nat) (u : Value), (X.setCell ⟨g, k, none⟩ u).cell? ⟨b, o, none⟩ = X.cell? ⟨b, o, none⟩ := fun X k u => World.cell?_setCell_other X _ _ _ (by intro e; injection e with e; exact hne e)
  rw [e, e, e]; exact h

set_option maxRecDepth 8000 in
set_option maxHeartbeats 8000000 in
theorem transSwap_walk (x y z : Int) (_ : I64 x) (_ : I64 y) (_ : I64 z) (w : World) :
    Calls Tryz.prog 4 #[.int .i64 x, .int .i64 y, .int .i64 z] w fun e w' => e = .returned (.bool true) ∧ Below w.heap.size w w' := by
  go_enter Tryz.func4, Tryz.ntmps4
  go_wp2_with fail
  (with_reducible refine (known16_any w).mono ?_)
  rintro e1 w1 ⟨rfl, hb0⟩
  go_wp2_with fail
  have HN := hid (show Calls Tryz.prog 26 #[.slice (some ⟨w1.heap.size, 0, none⟩) 3 3] (w1.alloc (Obj.cells #[.int .i64 x, .int .i64 y, .int .i64 z] 2)) (NearRes [x, y, z] (w1.alloc (Obj.cells #[.int .i64 x, .int .i64 y, .int .i64 z] 2))) from near_ok [x, y, z] (some ⟨w1.heap.size, 0, none⟩) 3 _ (rd_three (Blk.new _ _ _)) (by simp))
  replace hb0 := bup hb0 (new1 w1 (Obj.cells #[.int .i64 x, .int .i64 y, .int .i64 z] 2))
  generalize w1.alloc (Obj.cells #[.int .i64 x, .int .i64 y, .int .i64 z] 2) = w2 at *
  generalize w1.heap.size = g1 at *
  (with_reducible refine HN.out.mono ?_)
  rintro e3 w3 ⟨b, rfl, hb, hb3⟩
  replace hb0 := bup hb0 hb3
  clear hb3 HN
  cases b with
  | false => go_wp2; go_ret; exact ⟨rfl, hb0⟩
  | true =>
    have HNR := hid (near_three.1 (hb.1 rfl))
    clear hb
    go_wp2_with fail
    obtain ⟨b1, b2, hbn, -⟩ := new_two w3 #[.int .i64 x, .int .i64 y, .int .i64 z] #[.slice (some ⟨w3.heap.size, 0, none⟩) 3 3] 2 22
    have HPT := hid (rpoints3 [x, y, z] rfl (near_three.2 HNR.out) (w3.heap.size + 1) 1 (some ⟨w3.heap.size, 0, none⟩) 3 _ (b2.cell 0) b2.lt (rd_three b1))
    replace hb0 := bup hb0 hbn
    clear b1 b2 hbn
    generalize (w3.alloc (Obj.cells #[.int .i64 x, .int .i64 y, .int .i64 z] 2)).alloc (Obj.cells #[.slice (some ⟨w3.heap.size, 0, none⟩) 3 3] 22) = w4 at *
    generalize w3.heap.size = g3 at *
    (with_reducible refine HPT.out.mono ?_)
    rintro e5 w5 ⟨A1, c1, rfl, own, hb5⟩
    replace hb0 := bup hb0 hb5
    clear HPT hb5
    have sx : Sx w5 w5.heap.size A1 (ptO 3 [x, y, z]).m := .inl own.rd
    obtain ⟨p7, p9, p10, hbn, -⟩ := new_three w5 #[.int .i64 3, .bool false, .slice A1 (ptO 3 [x, y, z]).m.length c1] #[.int .i64 2, .int .i64 0, .int .i64 1] #[.int .i64 0, .int .i64 1, .int .i64 2] 24 41 41
    replace sx := sx.later hbn (Nat.le_refl _)
    have hw7 := hb0.size
    replace hb0 := bup hb0 hbn
    clear hbn own
    have HROW0 : Hid ([x, y, z] = rowS x y z 0) := hid rfl
    go_wp2
    generalize ((w5.alloc (Obj.cells #[.int .i64 3, .bool false, .slice A1 (ptO 3 [x, y, z]).m.length c1] 24)).alloc (Obj.cells #[.int .i64 2, .int .i64 0, .int .i64 1] 41)).alloc (Obj.cells #[.int .i64 0, .int .i64 1, .int .i64 2] 41) = w6 at *
    generalize w5.heap.size = g7 at *
    rw [HROW0.out] at sx p7
    go_loopw [11] (fun t wr => ∃ (k : Nat) (A : Option Addr) (c : Nat), k ≤ 3 ∧ t = .int .i64 k ∧ Blk wr g7 24 #[.int .i64 3, .bool false, .slice A (ptO 3 (rowS x y z k)).m.length c] ∧ Sx wr g7 A (ptO 3 (rowS x y z k)).m ∧ Blk wr (g7 + 1) 41 #[.int .i64 2, .int .i64 0, .int .i64 1] ∧ Blk wr (g7 + 1 + 1) 41 #[.int .i64 0, .int .i64 1, .int .i64 2] ∧ Below w.heap.size w wr) (fun t _ => 3 - (Go.RowKit.intOf t).toNat)
    case atStart => exact ⟨0, A1, c1, by omega, rfl, p7, sx, p9, p10, hb0⟩
    case round =>
      clear sx p7 p9 p10 hb0 HROW0
      obtain ⟨k, A, c, hk, rfl, p7, sx, p9, p10, hb0⟩ := hrel
      by_cases hlt : k < 3
      · have hlti : (k : Int) < 3 := by omega
        obtain ⟨d, s, hd, hs, hne, c9, c10, hrow⟩ := swap_step x y z hlt
        have HT := hid (fun W (hB : g7 ≤ W.heap.size) (h : Rd W W.heap.size A (ptO 3 (rowS x y z k)).m) => tcopy3 (rowS x y z k) (rowS_len x y z k) (near_row HNR.out k) d s hd hs hne A c W h g7 hB)
        rw [← hrow] at HT
        clear hrow hd hs hne
        obtain ⟨M', hM'⟩ : ∃ M', M' = (ptO 3 (rowS x y z (k + 1))).m := ⟨_, rfl⟩
        have HM' := hid hM'
        rw [← hM'] at HT
        clear hM'
        generalize (ptO 3 (rowS x y z k)).m = M at *
        have q9 := (p9.cell k).trans c9
        have q10 := (p10.cell k).trans c10
        go_wp2_with fail
        go_cut [12, 13] (fun s12 s13 W => ∃ (g : Nat) (A2 : Option Addr) (c2 : Nat), s12 = .pointer (some ⟨g, 0, none⟩) ∧ s13 = .int .i64 0 ∧ Blk W g 24 #[.int .i64 3, .bool false, .slice A2 M'.length c2] ∧ Sx W g7 A2 M' ∧ Below wr.heap.size wr W)
        case first =>
          have hxd : Rd wr.drew wr.drew.heap.size A M := sx.rd (Nat.le_of_lt p7.lt)
          have hg7 : g7 ≤ wr.heap.size := Nat.le_of_lt p7.lt
          have hle1 : g7 ≤ wr.drew.heap.size := hg7
          have hle2 : ∀ o, g7 ≤ (wr.alloc o).drew.heap.size := fun o => Nat.le_trans hg7 (new1 wr o).size
          have HLT := hid (show g7 + 1 + 1 < wr.heap.size ∧ wr.drew.heap.size = wr.heap.size from ⟨p10.lt, rfl⟩)
          obtain ⟨p7_0, p7_1, p7_2, p7_f⟩ := octbox p7
          go_region_held3 (fun W => W.cell? ⟨g7, 0, none⟩ = some (.int .i64 3) ∧ W.cell? ⟨g7, 1, none⟩ = some (.bool false) ∧ W.cell? ⟨g7, 2, none⟩ = some (.slice A M.length c) ∧ W.cell? ⟨g7 + 1, k, none⟩ = some (.int .i64 (d : Int)) ∧ W.cell? ⟨g7 + 1 + 1, k, none⟩ = some (.int .i64 (s : Int))) (first | go_keep | (refine ⟨?_, ?_, ?_, ?_, ?_⟩ <;> (refine cell_later ‹Below _ _ _› ?_; first | assumption | go_keep)) | (have hlt := HLT.out; go_split_ands; refine ⟨?_, ?_, ?_, ?_, ?_⟩ <;> (refine far_cell3s (by assumption) ?_; first | omega | (simp only [World.size_alloc] at *; omega))) | (have hlt := HLT.out; go_split_ands; refine ⟨?_, ?_, ?_, ?_, ?_⟩ <;> (refine swap_cells (by assumption) ?_; omega)))
            (first | (go_at_call 28; (with_reducible refine (HT.out _ (by first | exact hle1 | exact hle2 _) (by first | exact hxd | exact hxd.up (new1 _ _))).mono ?_); rintro e9 u1 ⟨A2, c2, rfl, sx2, hu1⟩; have hu1s := hu1.size; (try simp only [World.size_alloc] at hu1s); try (have HZ := hid ((show Blk (wr.alloc (Obj.cells #[.int .i64 0, .bool false, .slice none 0 0] 24)).drew wr.heap.size 24 #[.int .i64 0, .bool false, .slice none 0 0] from Blk.new wr 24 #[.int .i64 0, .bool false, .slice none 0 0]).later hu1))) | (obtain ⟨zz0, zz1, zz2, fz⟩ := octbox HZ.out; clear HZ; go_simp))
          all_goals (go_wp2_with fail; go_meet)
          · exact ⟨_, _, _, rfl, rfl, Blk.new _ _ _, sx2.later (new1 _ _) (Nat.le_trans hg7 hu1s), bup (Ext.trans (Below.refl _ _).drew hu1) (new1 _ _)⟩
          · have bz := (show Blk (wr.alloc (Obj.cells #[.int .i64 0, .bool false, .slice none 0 0] 24)).drew wr.heap.size 24 #[.int .i64 0, .bool false, .slice none 0 0] from Blk.new wr 24 #[.int .i64 0, .bool false, .slice none 0 0]).later hu1
            have hA : Below wr.heap.size wr u1 := bup (new1 wr _).drew hu1
            have hB9 := below3 (W := u1) (g := wr.heap.size) (v0 := .int .i64 3) (v1 := .bool false) (v2 := .slice A2 M'.length c2) (Nat.le_refl _) hA.size
            have s9 := sx2.far3 (g := wr.heap.size) (v0 := .int .i64 3) (v1 := .bool false) (v2 := .slice A2 M'.length c2) hg7 bz (by decide)
            exact ⟨_, _, _, rfl, rfl, bz.set3, s9, hA.trans hB9⟩
        case rest =>
          obtain ⟨g, A2, c2, rfl, rfl, b12, sx2, hbc⟩ := hcut
          replace p7 := p7.later hbc
          replace p9 := p9.later hbc
          replace p10 := p10.later hbc
          replace hb0 := bup hb0 hbc
          clear hbc sx HT q9 q10 c9 c10
          have r7 := p7.set3 (v0 := .int .i64 3) (v1 := .bool false) (v2 := .slice A2 M'.length c2)
          have r9 := p9.far3 (g := g7) (v0 := .int .i64 3) (v1 := .bool false) (v2 := .slice A2 M'.length c2) (by omega)
          have r10 := p10.far3 (g := g7) (v0 := .int .i64 3) (v1 := .bool false) (v2 := .slice A2 M'.length c2) (by omega)
          have rs := sx2.far3 (g := g7) (v0 := .int .i64 3) (v1 := .bool false) (v2 := .slice A2 M'.length c2) (Nat.le_refl _) p7 (by decide)
          have rb := hb0.trans (below3 (W := wc) (g := g7) (v0 := .int .i64 3) (v1 := .bool false) (v2 := .slice A2 M'.length c2) hw7 hb0.size)
          obtain ⟨x0, x1, x2, fx⟩ := octbox p7
          obtain ⟨y0, y1, y2, fy⟩ := octbox b12
          have HR := hid (And.intro r7 (And.intro r9 (And.intro r10 (And.intro rs rb))))
          clear r7 r9 r10 rs rb
          go_wp2
          go_roundw
          case rel =>
            obtain ⟨r7, r9, r10, rs, rb⟩ := HR.out
            exact ⟨k + 1, A2, c2, by omega, by go_num, by rw [← HM'.out]; exact r7, by rw [← HM'.out]; exact rs, r9, r10, rb⟩
          case measure => simp [Go.RowKit.intOf]; omega
      · obtain rfl : k = 3 := by omega
        rw [show rowS x y z 3 = [y, x, x] from rfl] at p7 sx
        have HNY : Hid (∀ k : Nat, NearV (gI [y, x, x] (k : Int))) := hid (near_three.2 ⟨HNR.out.2.1, HNR.out.1, HNR.out.1⟩)
        have hr7 := sx.rd (Nat.le_of_lt p7.lt)
        clear sx p9 p10
        go_wp2_with fail
        obtain ⟨b1, b2, hbn, -⟩ := new_two wr #[.int .i64 y, .int .i64 x, .int .i64 x] #[.slice (some ⟨wr.heap.size, 0, none⟩) 3 3] 2 22
        have HPT := hid (rpoints3 [y, x, x] rfl HNY.out (wr.heap.size + 1) 1 (some ⟨wr.heap.size, 0, none⟩) 3 _ (b2.cell 0) b2.lt (rd_three b1))
        replace hb0 := bup hb0 hbn
        replace p7 := p7.later hbn
        replace hr7 := hr7.up hbn
        clear b1 b2 hbn
        generalize (wr.alloc (Obj.cells #[.int .i64 y, .int .i64 x, .int .i64 x] 2)).alloc (Obj.cells #[.slice (some ⟨wr.heap.size, 0, none⟩) 3 3] 22) = w8 at *
        generalize wr.heap.size = g8 at *
        (with_reducible refine HPT.out.mono ?_)
        rintro e9 w9 ⟨A9, c9, rfl, own9, hb9⟩
        replace hb0 := bup hb0 hb9
        replace p7 := p7.later hb9
        replace hr7 := hr7.up hb9
        clear HPT hb9
        have hr9 := own9.rd
        obtain ⟨p14, hbn, -⟩ := new_one w9 #[.int .i64 3, .bool false, .slice A9 (ptO 3 [y, x, x]).m.length c9] 24
        replace hb0 := bup hb0 hbn
        replace p7 := p7.later hbn
        replace hr7 := hr7.up hbn
        replace hr9 := hr9.up hbn
        clear hbn own9
        obtain ⟨x0, x1, x2, fx⟩ := octbox p7
        go_wp2_with fail
        clear x0 x1 x2 fx
        have hsm : (ptO 3 [y, x, x]).m.length ≤ 17592186044416 := OkO.small (pt_ok (N := 6) (n := 3) (by omega) (by omega) (near_side HNY.out))
        have HO := hid (oct_any (ptO 3 [y, x, x]) (ptO 3 [y, x, x]) A A9 c c9 _ hr7 hr9 hsm)
        rw [eqO_same] at HO
        have HO2 := hid (show Calls Tryz.prog 23 #[.agg #[.int .i64 3, .bool false, .slice A (ptO 3 [y, x, x]).m.length c], .agg #[.int .i64 3, .bool false, .slice A9 (ptO 3 [y, x, x]).m.length c9]] (w9.alloc (Obj.cells #[.int .i64 3, .bool false, .slice A9 (ptO 3 [y, x, x]).m.length c9] 24)) (fun e w' => e = .returned (.bool true) ∧ Below (w9.alloc (Obj.cells #[.int .i64 3, .bool false, .slice A9 (ptO 3 [y, x, x]).m.length c9] 24)).heap.size (w9.alloc (Obj.cells #[.int .i64 3, .bool false, .slice A9 (ptO 3 [y, x, x]).m.length c9] 24)) w') from HO.out)
        (with_reducible refine HO2.out.mono ?_)
        rintro e10 w10 ⟨rfl, hb10⟩
        go_wp2
        go_ret
        exact ⟨rfl, bup hb0 hb10⟩
end Go.Proofs.YtnmpgijiimglcaaGreat
