/-
  gnomonref21.Shaped: are octagons those of a graph's points? (Printed by gen_rshaped.py, out of XFits.)
  gnomonref10.Fuel: the error of a script and a number of steps.
  gnomonref12.half, gnomonref12.Diff of numbers that are near.
  gnomonref14.Drop at one variable, gnomonref14.Forget.
  The octagon of one point behind exact edges: the point's, where it takes the edge; empty, where it doesn't. Plain.
  gnomonref12.Points at one point whose numbers are near: what it answers.
  gnomonref12.Has: whether an octagon that may be has a point of numbers that are not great.
  gnomonref12.half, gnomonref12.Diff of whatever numbers: what is above 2^62, or below -2^62, is told by a sign alone.
  gnomonref12.Has: whether an octagon that may be has a point of any numbers.
  gnomonref27.Run tells what seenW says.
  Packs as data; when they are packs of n variables; pack.Check: what it answers.
  gnomonhelp.Ints, gnomonhelp.Lists at equal lists: true.
  The plain law of a row of widenings: no cell goes down, none is below what came, each changes at most as often as there are steps, and once more.
  gnomonlaw22.WidenRow: the law's own walk.
  gnomonlaw27.known answers true.
-/
import Derived.Test.YtkncebcekhfnfaaGreatBWT31
import Derived.Test.YtkncebcekhfnfaaGreatBWT35
import Derived.Test.YtkncebcekhfnfaaGreatBWT33
import Derived.Test.YtkncebcekhfnfaaGreatBWT06
import Derived.Test.YtkncebcekhfnfaaGreatBWT15
import Derived.Test.YtkncebcekhfnfaaGreatBWT02
import Derived.Test.YtkncebcekhfnfaaGreatBWT01
import Derived.Test.YtkncebcekhfnfaaGreatBWT10
import Derived.Test.YtkncebcekhfnfaaGreatBWT13
import Derived.Test.YtkncebcekhfnfaaGreatBWT03
import Derived.Test.YtkncebcekhfnfaaGreatBWT24
import Derived.Test.YtkncebcekhfnfaaGreatBWT37
import Derived.Test.YtkncebcekhfnfaaGreatBWT12
import Derived.Test.YtkncebcekhfnfaaGreatBWT18
import Derived.Deep.DeepCutAuto
import Derived.Test.YtkncebcekhfnfaaGreatBWT14
namespace Go.Proofs.YtkncebcekhfnfaaGreat
section

end
section

end
section

end
section
open Go.RowKit
attribute [local go_sem ↓] Go.wp_at_zero Go.wp_at_succ

theorem range_ext {L : Nat} {f g : Nat → Int} (h : ∀ p, p < L → f p = g p) : (List.range L).map f = (List.range L).map g := List.map_congr_left fun p hp => h p (List.mem_range.1 hp)
end
section

end
section
open Go.RowKit
attribute [local go_sem ↓] Go.wp_at_zero Go.wp_at_succ

/-- An octagon of one's own, and no error. -/
def PtRes (w : World) (o : O) (e : Ending) (w' : World) : Prop := ∃ A1 c1, e = .returned (.tuple #[.agg #[.int .i64 o.n, .bool o.e, .slice A1 o.m.length c1], .int .i64 0]) ∧ Own w' w.heap.size A1 c1 o.m ∧ Below w.heap.size w w'
end
section

end
section

end
section

end
section

end
section

end
section
open Go.RowKit
attribute [local go_sem ↓] Go.wp_at_zero Go.wp_at_succ

def SomeT (w : World) (e : Ending) (w' : World) : Prop := e = .returned (.bool true) ∧ Below w.heap.size w w'
set_option maxHeartbeats 2000000 in
theorem ints_same (xs : List Int) (A A' : Option Addr) (c c' : Nat) (w : World) (hx : Rd w w.heap.size A xs) (hy : Rd w w.heap.size A' xs) (hm : xs.length ≤ 17592186044416) :
    Calls Tryz.prog 13 #[.slice A xs.length c, .slice A' xs.length c'] w (SomeT w) := by
  go_enter Tryz.func13, Tryz.ntmps13
  go_wp2
  go_loopw [5] (fun i wr => ∃ k : Nat, k ≤ xs.length ∧ i = .int .i64 k ∧ Below w.heap.size w wr) (fun i _ => xs.length - (Go.RowKit.intOf i).toNat)
  case atStart => exact ⟨0, by omega, rfl, Below.refl _ _⟩
  case round =>
    obtain ⟨k, hk, rfl, hb⟩ := hrel
    by_cases hlt : k < xs.length
    · have hlt' : (k : Int) < (xs.length : Int) := by omega
      obtain ⟨b1, o1, rfl, hB1, d1⟩ := (hx.up hb) k hlt
      obtain ⟨b2, o2, rfl, hB2, d2⟩ := (hy.up hb) k hlt
      have f1 := later d1
      have f2 := later d2
      clear d1 d2
      generalize gI xs k = v at *
      go_upto_region 6 with fail
      refine wp_region_flow 8 (fun W => Below wr.heap.size wr W) (by kernel_rfl) (by kernel_rfl) (Below.refl _ _).drew ?_
      (repeat (first | (refine Flow.skip (by rfl) ?_; simp only [Act.put, List.setIfInBounds_toArray, List.set_cons_zero, List.set_cons_succ]) | (refine' Flow.take _ (by rfl) (fun W hW R hR => ?_) ?_; rotate_left; (go_simp; (try go_bits); with_reducible exact hR); simp only [Act.put, List.setIfInBounds_toArray, List.set_cons_zero, List.set_cons_succ])))
      intro w4 hb4
      clear f1 f2
      go_wp2
      go_roundw
      case rel => exact ⟨k + 1, by omega, by go_num, bup hb hb4⟩
      case measure => simp [Go.RowKit.intOf]; omega
    · obtain rfl : k = xs.length := by omega
      go_wp2
      go_ret
      exact ⟨rfl, hb⟩
end
section

end
section
open Go.RowKit
attribute [local go_sem ↓] Go.wp_at_zero Go.wp_at_succ

theorem int_info : (Tryz.prog.info? 3).map (fun i => (i.zero, i.size, i.bytes)) = some (some (.int .i64 0), 1, 8) := by kernel_rfl
/-- A row of octagons, as it came in. -/
def RowRd (w : World) (A : Option Addr) (len : Nat) : Prop :=
  ∀ k : Nat, k < len → ∃ b off n e A' c' m, A = some ⟨b, off, none⟩ ∧ b < w.heap.size ∧ w.cell? ⟨b, off + k * 3, none⟩ = some (.int .i64 n) ∧ w.cell? ⟨b, off + k * 3 + 1, none⟩ = some (.bool e) ∧ w.cell? ⟨b, off + k * 3 + 2, none⟩ = some (.slice A' m.length c') ∧
    Rd w w.heap.size A' m ∧ m.length ≤ 17592186044416 ∧ ∀ i : Nat, gI m i ≤ 9223372036854775807
end
section
open Go.RowKit
attribute [local go_sem ↓] Go.wp_at_zero Go.wp_at_succ

def edgOne : Edg := ⟨0, 1, 2, 0, -1, 0, -1, 1, -1, 0⟩
/-- x = 1, as a graph. -/
def grOne : Gr := ⟨1, 0, [], 2, 1, [edgOne]⟩
def atO (n : Int) : O := ⟨1, false, [0, 2 * n, -2 * n, 0]⟩
def OneGr (w : World) (e : Ending) (w' : World) : Prop := ∃ V E, e = .returned (grV grOne V none E 1 0 1) ∧ RdE w' w'.heap.size E [edgOne] ∧ Below w.heap.size w w'
theorem rdE_one {w : World} {g : Nat} (h : Blk w g 65 (ecs edgOne)) : RdE w w.heap.size (some ⟨g, 0, none⟩) [edgOne] := fun k hk => by
  obtain rfl : k = 0 := by simpa using hk
  refine ⟨g, 0, rfl, h.lt, fun r hr => ?_⟩
  have e : 0 + 0 * 10 + r = r := by omega
  rw [e, h.cell r]
  simp [ecs, Edg.cells]
theorem rd_four {w : World} {g : Nat} {t : TypeId} {a b c d : Int} (h : Blk w g t #[.int .i64 a, .int .i64 b, .int .i64 c, .int .i64 d]) : Rd w w.heap.size (some ⟨g, 0, none⟩) [a, b, c, d] := fun k hk => by
  refine ⟨g, 0, rfl, h.lt, ?_⟩
  rw [Nat.zero_add, h.cell k]
  have hk : k < 4 := by simpa using hk
  match k, hk with
  | 0, _ => rfl
  | 1, _ => rfl
  | 2, _ => rfl
  | 3, _ => rfl
set_option maxHeartbeats 4000000 in
theorem one27_ok (w : World) : Calls Tryz.prog 19 #[] w (OneGr w) := by
  go_enter Tryz.func19, Tryz.ntmps19
  go_wp2
  have n0 := new1 w (.cells #[.slice (some ⟨w.heap.size + 1, 0, none⟩) 1 1, .int .i64 0, .slice none 0 0, .int .i64 2, .int .i64 1, .slice (some ⟨w.heap.size + 1 + 1, 0, none⟩) 1 1] 26)
  have n1 := new1 (w.alloc (.cells #[.slice (some ⟨w.heap.size + 1, 0, none⟩) 1 1, .int .i64 0, .slice none 0 0, .int .i64 2, .int .i64 1, .slice (some ⟨w.heap.size + 1 + 1, 0, none⟩) 1 1] 26)) (.cells #[.string { data := #[120] }] 9)
  have n2 := new1 ((w.alloc (.cells #[.slice (some ⟨w.heap.size + 1, 0, none⟩) 1 1, .int .i64 0, .slice none 0 0, .int .i64 2, .int .i64 1, .slice (some ⟨w.heap.size + 1 + 1, 0, none⟩) 1 1] 26)).alloc (.cells #[.string { data := #[120] }] 9)) (.cells #[.int .i64 0, .int .i64 1, .int .i64 2, .int .i64 0, .int .i64 (-1), .int .i64 0, .int .i64 (-1), .int .i64 1, .int .i64 (-1), .int .i64 0] 65)
  have k0 := ((Blk.new w 26 #[.slice (some ⟨w.heap.size + 1, 0, none⟩) 1 1, .int .i64 0, .slice none 0 0, .int .i64 2, .int .i64 1, .slice (some ⟨w.heap.size + 1 + 1, 0, none⟩) 1 1]).later n1).later n2
  have k2 := Blk.new ((w.alloc (.cells #[.slice (some ⟨w.heap.size + 1, 0, none⟩) 1 1, .int .i64 0, .slice none 0 0, .int .i64 2, .int .i64 1, .slice (some ⟨w.heap.size + 1 + 1, 0, none⟩) 1 1] 26)).alloc (.cells #[.string { data := #[120] }] 9)) 65 #[.int .i64 0, .int .i64 1, .int .i64 2, .int .i64 0, .int .i64 (-1), .int .i64 0, .int .i64 (-1), .int .i64 1, .int .i64 (-1), .int .i64 0]
  rw [show ((w.alloc (.cells #[.slice (some ⟨w.heap.size + 1, 0, none⟩) 1 1, .int .i64 0, .slice none 0 0, .int .i64 2, .int .i64 1, .slice (some ⟨w.heap.size + 1 + 1, 0, none⟩) 1 1] 26)).alloc (.cells #[.string { data := #[120] }] 9)).heap.size = w.heap.size + 1 + 1 by simp] at k2
  have hb := bup (bup n0 n1) n2
  have hE := rdE_one (show Blk _ _ 65 (ecs edgOne) from k2)
  obtain ⟨f0, f1, f2, f3, f4, f5, ff⟩ := blk6 k0
  refine bodyPost_ret (v := .agg #[.slice (some ⟨w.heap.size + 1, 0, none⟩) 1 1, .int .i64 0, .slice none 0 0, .int .i64 2, .int .i64 1, .slice (some ⟨w.heap.size + 1 + 1, 0, none⟩) 1 1]) (by simp [results, Tryz.results19, go_sem, f0, f1, f2, f3, f4, f5]) rfl ?_
  exact ⟨_, _, rfl, hE, hb⟩
def AtRes (n : Int) (w : World) (e : Ending) (w' : World) : Prop := ∃ A, e = .returned (.agg #[.int .i64 1, .bool false, .slice A 4 4]) ∧ Rd w' w'.heap.size A (atO n).m ∧ Below w.heap.size w w'
theorem at_end {w : World} {n a b : Int} (ha : a = 2 * n) (hb : b = -2 * n) :
    bodyPost Tryz.prog Tryz.f20 (AtRes n w) Exit.ret { tmps := #[.int .i64 n, undef, .pointer (some ⟨w.heap.size, 0, none⟩), .int .i64 n, .int .i64 a, .int .i64 n, .int .i64 b, .slice (some ⟨w.heap.size + 1, 0, none⟩) 4 4, .agg #[.int .i64 1, .bool false, .slice (some ⟨w.heap.size + 1, 0, none⟩) 4 4]], defers := [] } ((w.alloc (.cells #[.int .i64 1, .bool false, .slice (some ⟨w.heap.size + 1, 0, none⟩) 4 4] 53)).alloc (.cells #[.int .i64 0, .int .i64 a, .int .i64 b, .int .i64 0] 2)) := by
  subst ha hb
  have n0 := new1 w (.cells #[.int .i64 1, .bool false, .slice (some ⟨w.heap.size + 1, 0, none⟩) 4 4] 53)
  have n1 := new1 (w.alloc (.cells #[.int .i64 1, .bool false, .slice (some ⟨w.heap.size + 1, 0, none⟩) 4 4] 53)) (.cells #[.int .i64 0, .int .i64 (2 * n), .int .i64 (-2 * n), .int .i64 0] 2)
  have k0 := (Blk.new w 53 #[.int .i64 1, .bool false, .slice (some ⟨w.heap.size + 1, 0, none⟩) 4 4]).later n1
  have k1 := Blk.new (w.alloc (.cells #[.int .i64 1, .bool false, .slice (some ⟨w.heap.size + 1, 0, none⟩) 4 4] 53)) 2 #[.int .i64 0, .int .i64 (2 * n), .int .i64 (-2 * n), .int .i64 0]
  rw [show (w.alloc (.cells #[.int .i64 1, .bool false, .slice (some ⟨w.heap.size + 1, 0, none⟩) 4 4] 53)).heap.size = w.heap.size + 1 by simp] at k1
  have hr := rd_four k1
  obtain ⟨x0, x1, x2, fx⟩ := octbox k0
  exact bodyPost_ret (v := .agg #[.int .i64 1, .bool false, .slice (some ⟨w.heap.size + 1, 0, none⟩) 4 4]) (by simp [results, Tryz.results20, go_sem, x0, x1, x2]) rfl ⟨_, rfl, hr, bup n0 n1⟩
set_option maxHeartbeats 4000000 in
theorem at27_ok (n : Int) (hn : n = 0 ∨ n = 1 ∨ n = 2) (w : World) : Calls Tryz.prog 20 #[.int .i64 n] w (AtRes n w) := by
  go_enter Tryz.func20, Tryz.ntmps20
  rcases hn with rfl | rfl | rfl
  all_goals
    go_wp2
    exact at_end rfl rfl
theorem rowz_two {w : World} {g : Nat} {A B : Option Addr} {m n : Int} (h : Blk w g 53 #[.int .i64 1, .bool false, .slice A 4 4, .int .i64 1, .bool false, .slice B 4 4]) (hA : Rd w w.heap.size A (atO m).m) (hB : Rd w w.heap.size B (atO n).m) : RowZ w (some ⟨g, 0, none⟩) [(atO m, A, 4), (atO n, B, 4)] :=
  ⟨fun k hk => by
    have hk : k < 2 := by simpa using hk
    match k, hk with
    | 0, _ => exact ⟨g, 0, rfl, h.lt, h.cell 0, h.cell 1, h.cell 2⟩
    | 1, _ => exact ⟨g, 0, rfl, h.lt, h.cell 3, h.cell 4, h.cell 5⟩,
  fun k hk => by
    have hk : k < 2 := by simpa using hk
    match k, hk with
    | 0, _ => exact hA
    | 1, _ => exact hB,
  fun k hk => by
    have hk : k < 2 := by simpa using hk
    match k, hk with
    | 0, _ => show (4 : Nat) ≤ _; omega
    | 1, _ => show (4 : Nat) ≤ _; omega⟩
theorem grOne_i64 : ∀ e ∈ grOne.es, I64 e.an ∧ I64 e.bn := fun e he => by
  have : e = edgOne := by simpa [grOne] using he
  subst this
  unfold edgOne I64; constructor <;> (dsimp only; omega)
theorem nilI_i64 : I64s [] := fun i => by simp [gI]
theorem one_run1 : runE grOne [atO 0, atO 1] 0 5 = 0 ∧ seenW grOne [atO 0, atO 1] [] 5 = ⟨true, 0, 0, [1, 1]⟩ := ⟨by kernel_rfl, by kernel_rfl⟩
theorem one_run2 : runE grOne [atO 0, atO 2] 0 5 = 0 ∧ seenW grOne [atO 0, atO 2] [] 5 = ⟨false, 1, 1, [1, 1]⟩ := ⟨by kernel_rfl, by kernel_rfl⟩
theorem wrun_at {n : Int} {s : Sn} (hr : runE grOne [atO 0, atO n] 0 5 = 0 ∧ seenW grOne [atO 0, atO n] [] 5 = s) (V E : Option Addr) (A1 A2 : Option Addr) (g : Nat) (w : World) (hE : RdE w w.heap.size E [edgOne]) (h : Blk w g 53 #[.int .i64 1, .bool false, .slice A1 4 4, .int .i64 1, .bool false, .slice A2 4 4]) (hA : Rd w w.heap.size A1 (atO 0).m) (hB : Rd w w.heap.size A2 (atO n).m) :
    Calls Tryz.prog 11 #[.agg #[.slice V 1 1, .int .i64 0, .slice none 0 0, .int .i64 2, .int .i64 1, .slice E 1 1], .slice (some ⟨g, 0, none⟩) 2 2, .slice none 0 0, .int .i64 5] w
      fun e w' => ∃ gv, e = .returned (.tuple #[.agg (seenV s gv), .int .i64 0]) ∧ Blk w' gv 3 (intA s.vis) ∧ Below w.heap.size w w' := by
  have hW := wrun_ok grOne V none E 1 0 1 (some ⟨g, 0, none⟩) 2 [(atO 0, A1, 4), (atO n, A2, 4)] [] none 0 5 w (fun k hk => absurd hk (by simp [grOne])) hE (rowz_two h hA hB) (fun k hk => absurd hk (by simp)) (by simp) (by simp [grOne]) (by simp [grOne]) (by simp [grOne]) (by simp) grOne_i64 nilI_i64 (by simp)
  refine Calls.mono hW ?_
  rintro e w' ⟨gv, he, h1, hb⟩
  have e1 : runE grOne [atO 0, atO n] ([] : List Int).length 5 = 0 := hr.1
  refine ⟨gv, ?_, ?_, hb⟩
  · rw [he]
    show Ending.returned (Value.tuple #[Value.agg (if runE grOne [atO 0, atO n] ([] : List Int).length 5 = 0 then seenV (seenW grOne [atO 0, atO n] [] 5) gv else #[.bool false, .int .i64 0, .int .i64 0, .slice none 0 0]), .int .i64 (runE grOne [atO 0, atO n] ([] : List Int).length 5)]) = _
    rw [e1, if_pos rfl, hr.2]
  · rw [← hr.2]; exact h1 e1
theorem rdI_of {w : World} {g : Nat} {xs : List Int} (h : Blk w g 3 (intA xs)) : Rd w w.heap.size (some ⟨g, 0, none⟩) xs := fun k hk => by
  refine ⟨g, 0, rfl, h.lt, ?_⟩
  rw [Nat.zero_add, h.cell k, intA_get hk]
set_option maxRecDepth 8000 in
set_option maxHeartbeats 8000000 in
theorem known27_ok (w : World) : Calls Tryz.prog 6 #[] w (SomeT w) := by
  go_enter Tryz.func6, Tryz.ntmps6
  go_wp2_with fail
  (with_reducible refine (one27_ok w).mono ?_)
  rintro e1 w1 ⟨V1, E1, rfl, hE1, hb1⟩
  unfold grV grOne
  go_wp2_with fail
  (with_reducible refine (at27_ok 0 (by omega) w1).mono ?_)
  rintro e2 w2 ⟨A1, rfl, hA1, hb2⟩
  replace hE1 := hE1.up hb2
  replace hb1 := bup hb1 hb2
  clear hb2
  go_wp2_with fail
  (with_reducible refine (at27_ok 1 (by omega) w2).mono ?_)
  rintro e3 w3 ⟨A2, rfl, hA2, hb2⟩
  replace hE1 := hE1.up hb2
  replace hA1 := hA1.up hb2
  replace hb1 := bup hb1 hb2
  clear hb2
  have n4 := new1 w3 (.cells #[.int .i64 1, .bool false, .slice A1 4 4, .int .i64 1, .bool false, .slice A2 4 4] 53)
  have k4 := Blk.new w3 53 #[.int .i64 1, .bool false, .slice A1 4 4, .int .i64 1, .bool false, .slice A2 4 4]
  have HW := hid (wrun_at one_run1 V1 E1 A1 A2 w3.heap.size _ (hE1.up n4) k4 (hA1.up n4) (hA2.up n4))
  replace hb1 := bup hb1 n4
  clear hE1 hA1 hA2 n4 k4
  go_wp2_with fail
  (with_reducible refine HW.out.mono ?_)
  clear HW
  rintro e5 w5 ⟨gv, rfl, hv, hb5⟩
  have hr1 := rdI_of hv
  replace hb1 := bup hb1 hb5
  clear hb5 hv
  have hsv : seenV ⟨true, 0, 0, [1, 1]⟩ gv = #[.bool true, .int .i64 0, .int .i64 0, .slice (some ⟨gv, 0, none⟩) 2 2] := rfl
  rw [hsv]
  clear hsv
  have n6 := new1 w5 (.cells #[.bool true, .int .i64 0, .int .i64 0, .slice (some ⟨gv, 0, none⟩) 2 2] 36)
  have k6 := Blk.new w5 36 #[.bool true, .int .i64 0, .int .i64 0, .slice (some ⟨gv, 0, none⟩) 2 2]
  replace hr1 := hr1.up n6
  replace hb1 := bup hb1 n6
  clear n6
  go_upto_region 2 with fail
  generalize w5.alloc (.cells #[.bool true, .int .i64 0, .int .i64 0, .slice (some ⟨gv, 0, none⟩) 2 2] 36) = w6 at *
  generalize w5.heap.size = g1 at *
  go_wp2_with fail
  (with_reducible refine (one27_ok w6).mono ?_)
  rintro e1 w1 ⟨V1, E1, rfl, hE1, hb6⟩
  replace hr1 := hr1.up hb6
  replace k6 := k6.later hb6
  replace hb1 := bup hb1 hb6
  clear hb6
  unfold grV grOne
  go_wp2_with fail
  (with_reducible refine (at27_ok 0 (by omega) w1).mono ?_)
  rintro e2 w2 ⟨A1, rfl, hA1, hb2⟩
  replace hr1 := hr1.up hb2
  replace k6 := k6.later hb2
  replace hE1 := hE1.up hb2
  replace hb1 := bup hb1 hb2
  clear hb2
  go_wp2_with fail
  (with_reducible refine (at27_ok 2 (by omega) w2).mono ?_)
  rintro e3 w3 ⟨A2, rfl, hA2, hb2⟩
  replace hr1 := hr1.up hb2
  replace k6 := k6.later hb2
  replace hE1 := hE1.up hb2
  replace hA1 := hA1.up hb2
  replace hb1 := bup hb1 hb2
  clear hb2
  have n4 := new1 w3 (.cells #[.int .i64 1, .bool false, .slice A1 4 4, .int .i64 1, .bool false, .slice A2 4 4] 53)
  have k4 := Blk.new w3 53 #[.int .i64 1, .bool false, .slice A1 4 4, .int .i64 1, .bool false, .slice A2 4 4]
  have HW := hid (wrun_at one_run2 V1 E1 A1 A2 w3.heap.size _ (hE1.up n4) k4 (hA1.up n4) (hA2.up n4))
  replace hr1 := hr1.up n4
  replace k6 := k6.later n4
  replace hb1 := bup hb1 n4
  clear hE1 hA1 hA2 n4 k4
  go_wp2_with fail
  (with_reducible refine HW.out.mono ?_)
  clear HW
  rintro e7 w7 ⟨gv2, rfl, hv2, hb7⟩
  replace hr1 := hr1.up hb7
  replace k6 := k6.later hb7
  replace hb1 := bup hb1 hb7
  have hsv : seenV ⟨false, 1, 1, [1, 1]⟩ gv2 = #[.bool false, .int .i64 1, .int .i64 1, .slice (some ⟨gv2, 0, none⟩) 2 2] := rfl
  rw [hsv]
  clear hsv hb7 hv2
  have n8 := new1 w7 (.cells #[.bool false, .int .i64 1, .int .i64 1, .slice (some ⟨gv2, 0, none⟩) 2 2] 36)
  have k8 := Blk.new w7 36 #[.bool false, .int .i64 1, .int .i64 1, .slice (some ⟨gv2, 0, none⟩) 2 2]
  replace hr1 := hr1.up n8
  replace k6 := k6.later n8
  replace hb1 := bup hb1 n8
  clear n8
  go_upto_region 3 with fail
  generalize w7.alloc (.cells #[.bool false, .int .i64 1, .int .i64 1, .slice (some ⟨gv2, 0, none⟩) 2 2] 36) = w8 at *
  generalize w7.heap.size = g2 at *
  have n9 := new1 w8 (.cells #[.int .i64 1, .int .i64 1] 3)
  have k9 := Blk.new w8 3 #[.int .i64 1, .int .i64 1]
  have HI := hid (show Calls Tryz.prog 13 #[.slice (some ⟨gv, 0, none⟩) 2 2, .slice (some ⟨w8.heap.size, 0, none⟩) 2 2] (w8.alloc (.cells #[.int .i64 1, .int .i64 1] 3)) (SomeT (w8.alloc (.cells #[.int .i64 1, .int .i64 1] 3))) from ints_same [1, 1] (some ⟨gv, 0, none⟩) (some ⟨w8.heap.size, 0, none⟩) 2 2 (w8.alloc (.cells #[.int .i64 1, .int .i64 1] 3)) (hr1.up n9) (rdI_of (xs := [1, 1]) k9) (by simp))
  have K8 := hid (k8.later n9)
  have HB := hid (bup hb1 n9)
  obtain ⟨x0, x1, x2, x3, -⟩ := blk4 k6
  clear k6 k8 k9 n9 hr1 hb1
  go_wp2_with fail
  (with_reducible refine HI.out.mono ?_)
  clear HI x0 x1 x2 x3
  rintro e10 w10 ⟨rfl, hb10⟩
  obtain ⟨x0, x1, x2, x3, -⟩ := blk4 (K8.out.later hb10)
  have HB2 := hid (bup HB.out hb10)
  clear hb10
  go_wp2
  go_ret
  exact ⟨rfl, HB2.out⟩
end
end Go.Proofs.YtkncebcekhfnfaaGreat
