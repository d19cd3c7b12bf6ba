/-
  Copies of slices and octagons: slices.Clone, widen.copied, gnomonref12.Copy, gnomonhelp.CopyOct.
  widen.cells: the cells of two octagons put together by a function that only reckons.
-/
import Derived.Test.YtnmpgijiimglcaaGreatBTA02
import Derived.Deep.DeepCutAuto
namespace Go.Proofs.YtnmpgijiimglcaaGreat
section
open Go.RowKit
attribute [local go_sem ↓] Go.wp_at_zero Go.wp_at_succ

set_option maxHeartbeats 400000 in
theorem clone_any (m : List Int) (A : Option Addr) (cap : Nat) (w : World) (hr : Rd w w.heap.size A m) (hm : m.length ≤ 17592186044416) :
    Calls Tryz.prog 164 #[.slice A m.length cap] w fun e w' => ∃ A' cap', e = .returned (.slice A' m.length cap') ∧ Own w' w.heap.size A' cap' m ∧ Below w.heap.size w w' := by
  have q := fun w => Lib.run_eql_slice_nil (P := Tryz.prog) w 22 2 A m.length cap 0 0 Tryz.underlying22
  go_enter Tryz.func164, Tryz.ntmps164
  go_wp2_with (at_builtin; go_loud (refine wpList_append_ints _ _ _ rfl rfl Tryz.underlying22 w.heap.size (some ⟨w.heap.size, 0, none⟩) 0 [] rfl (own_empty w (Nat.le_refl _)) w.heap.size A cap m m rfl (hr.below ((Below.refl _ _).alloc (Nat.le_refl _) _)) rfl hm (by simp) ?_); intro A1 c1 w1 hown1 hg1 _; have hb1 := below_grown (B := w.heap.size) hg1 (by simp [Value.ownBlock]) (by simp); clear hg1)
  · go_ret
    have hA : A = none := by simpa using (‹A.isNone = true› : _)
    subst hA
    obtain rfl : m = [] := hr.nil
    exact ⟨none, 0, rfl, own_nil _ _, Below.refl _ _⟩
  · go_ret
    exact ⟨A1, c1, rfl, hown1, ((Below.refl _ _).alloc (Nat.le_refl _) _).trans hb1⟩

set_option maxHeartbeats 1000000 in
theorem rcopy_any (n : Int) (e : Bool) (m : List Int) (A : Option Addr) (cap : Nat) (w : World) (hr : Rd w w.heap.size A m) (hm : m.length ≤ 17592186044416) :
    Calls Tryz.prog 143 #[.agg #[.int .i64 n, .bool e, .slice A m.length cap]] w fun e' w' => ∃ A' cap', e' = .returned (.agg #[.int .i64 n, .bool e, .slice A' m.length cap']) ∧ Own w' w.heap.size A' cap' m ∧ Below w.heap.size w w' := by
  go_enter Tryz.func143, Tryz.ntmps143
  go_wp2
  have hb0 : Below w.heap.size w ((w.alloc (Obj.cells #[.int .i64 n, .bool e, .slice A m.length cap] 24)).alloc (Obj.cells #[.int .i64 0, .bool false, .slice none 0 0] 24)) := ((Below.refl _ _).alloc (Nat.le_refl _) _).alloc (by simp) _
  have hr0 := (hr.below hb0).more (B' := w.heap.size + 2) (by omega)
  obtain ⟨b0, b1⟩ := blk_two (w := w) (Below.refl _ ((w.alloc (Obj.cells #[.int .i64 n, .bool e, .slice A m.length cap] 24)).alloc (Obj.cells #[.int .i64 0, .bool false, .slice none 0 0] 24)))
  have hsz : ((w.alloc (Obj.cells #[.int .i64 n, .bool e, .slice A m.length cap] 24)).alloc (Obj.cells #[.int .i64 0, .bool false, .slice none 0 0] 24)).heap.size = w.heap.size + 2 := by simp
  generalize (w.alloc (Obj.cells #[.int .i64 n, .bool e, .slice A m.length cap] 24)).alloc (Obj.cells #[.int .i64 0, .bool false, .slice none 0 0] 24) = w0 at *
  obtain ⟨x0, x1, x2, fx⟩ := octbox b0
  obtain ⟨y0, y1, y2, fy⟩ := octbox b1
  have hszd : w0.drew.heap.size = w.heap.size + 2 := hsz
  go_region_held3 (fun W => W.cell? ⟨w.heap.size, 0, none⟩ = some (.int .i64 n) ∧ W.cell? ⟨w.heap.size, 1, none⟩ = some (.bool e) ∧ W.cell? ⟨w.heap.size, 2, none⟩ = some (.slice A m.length cap)) (first | go_keep | (refine ⟨?_, ?_, ?_⟩ <;> (refine cell_later (Below.mono ‹Below _ _ _› (by omega)) ?_; first | assumption | go_keep)))
    ((refine wp_append_ints _ _ _ (by rfl) (by rfl) Tryz.underlying22 (w.heap.size + 2) none 0 [] (by rfl) (own_nil _ _) (w.heap.size + 2) A cap m m (by rfl) (show Rd w0.drew (w.heap.size + 2) A m from hr0) rfl hm (show w.heap.size + 2 ≤ w0.drew.heap.size from Nat.le_of_eq hsz.symm) ?_; intro A1 c1 w1 hown1 hg1 _; have hb1 := below_grown (B := w.heap.size + 2) hg1 (by simp [Value.ownBlock]) (by omega); obtain ⟨z0, z1, z2, fz⟩ := octbox (Blk.later (w := w0.drew) b1 (hb1.mono (by omega))); clear hg1))
  go_wp2
  refine bodyPost_ret (v := .agg #[.int .i64 n, .bool e, .slice A1 m.length c1]) (by simp [results, Tryz.results143, go_sem, z0, z1, z2]) rfl ⟨A1, c1, rfl, ?_, ?_⟩
  · exact (((hown1.setFar (by simp) _).setFar (by simp) _).setFar (by simp) _).less (by have : w0.drew.heap.size = w0.heap.size := rfl; omega)
  · exact ((((hb0.trans ((Below.refl w.heap.size w0).drew.trans (hb1.mono (show w.heap.size ≤ w.heap.size + 2 by omega)))).setCell (by simp) _).setCell (by simp) _).setCell (by simp) _)
end
section
open Go.RowKit
attribute [local go_sem ↓] Go.wp_at_zero Go.wp_at_succ

def single (n k : Int) : Bool := (k / (2 * n)) == xor1 (k % (2 * n))
def cellsF (F : Int → Int → Bool → Int) (n : Int) (xs ys : List Int) : List Int := (List.range xs.length).map fun (k : Nat) => F (gI xs k) (gI ys k) (single n k)
end
end Go.Proofs.YtnmpgijiimglcaaGreat
