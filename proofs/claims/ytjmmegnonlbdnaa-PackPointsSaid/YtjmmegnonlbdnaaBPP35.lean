/-
  gnomonhelp.Ints, gnomonhelp.Lists at equal lists: true.
  gnomonlaw23.known answers true.
-/
import Derived.Test.YtjmmegnonlbdnaaPacks
import Derived.Test.YtjmmegnonlbdnaaBPP20
import Derived.Test.YtjmmegnonlbdnaaPackOf2
namespace Go.Proofs.Ytjmmegnonlbdnaa
section
open Go.RowKit
attribute [local go_sem ↓] Go.wp_at_zero Go.wp_at_succ

def SomeT (w : World) (e : Ending) (w' : World) : Prop := e = .returned (.bool true) ∧ Below w.heap.size w w'
set_option maxHeartbeats 2000000 in
theorem ints_same (xs : List Int) (A A' : Option Addr) (c c' : Nat) (w : World) (hx : Rd w w.heap.size A xs) (hy : Rd w w.heap.size A' xs) (hm : xs.length ≤ 17592186044416) :
    Calls Try.prog 32 #[.slice A xs.length c, .slice A' xs.length c'] w (SomeT w) := by
  go_enter Try.func32, Try.ntmps32
  go_wp2
  go_loopw [5] (fun i wr => ∃ k : Nat, k ≤ xs.length ∧ i = .int .i64 k ∧ Below w.heap.size w wr) (fun i _ => xs.length - (intOf i).toNat)
  case atStart => exact ⟨0, by omega, rfl, Below.refl _ _⟩
  case round =>
    obtain ⟨k, hk, rfl, hb⟩ := hrel
    by_cases hlt : k < xs.length
    · have hlt' : (k : Int) < (xs.length : Int) := by omega
      obtain ⟨b1, o1, rfl, hB1, d1⟩ := (hx.up hb) k hlt
      obtain ⟨b2, o2, rfl, hB2, d2⟩ := (hy.up hb) k hlt
      have f1 := later d1
      have f2 := later d2
      clear d1 d2
      generalize gI xs k = v at *
      go_upto_region 6 with fail
      refine wp_region_flow 8 (fun W => Below wr.heap.size wr W) (by kernel_rfl) (by kernel_rfl) (Below.refl _ _).drew ?_
      (repeat (first | (refine Flow.skip (by rfl) ?_; simp only [Act.put, List.setIfInBounds_toArray, List.set_cons_zero, List.set_cons_succ]) | (refine' Flow.take _ (by rfl) (fun W hW R hR => ?_) ?_; rotate_left; (go_simp; (try go_bits); with_reducible exact hR); simp only [Act.put, List.setIfInBounds_toArray, List.set_cons_zero, List.set_cons_succ])))
      intro w4 hb4
      clear f1 f2
      go_wp2
      go_roundw
      case rel => exact ⟨k + 1, by omega, by go_num, bup hb hb4⟩
      case measure => simp [intOf]; omega
    · obtain rfl : k = xs.length := by omega
      go_wp2
      go_ret
      exact ⟨rfl, hb⟩
set_option maxHeartbeats 2000000 in
theorem lists_same (ps : List (List Int)) (A A' : Option Addr) (c c' : Nat) (w : World) (hx : RdL w w.heap.size A ps) (hy : RdL w w.heap.size A' ps) (hm : ps.length ≤ 17592186044416) :
    Calls Try.prog 9 #[.slice A ps.length c, .slice A' ps.length c'] w (SomeT w) := by
  go_enter Try.func9, Try.ntmps9
  go_wp2
  go_loopw [5] (fun i wr => ∃ k : Nat, k ≤ ps.length ∧ i = .int .i64 k ∧ Below w.heap.size w wr) (fun i _ => ps.length - (intOf i).toNat)
  case atStart => exact ⟨0, by omega, rfl, Below.refl _ _⟩
  case round =>
    obtain ⟨k, hk, rfl, hb⟩ := hrel
    by_cases hlt : k < ps.length
    · have hlt' : (k : Int) < (ps.length : Int) := by omega
      obtain ⟨b1, o1, A1, c1, rfl, hB1, d1, r1, l1⟩ := (hx.up hb) k hlt
      obtain ⟨b2, o2, A2, c2, rfl, hB2, d2, r2, l2⟩ := (hy.up hb) k hlt
      have f1 := later d1
      have f2 := later d2
      have HI : Hid (∀ W, Below wr.heap.size wr W → Calls Try.prog 32 #[.slice A1 (rowL ps k).length c1, .slice A2 (rowL ps k).length c2] W (SomeT W)) := hid fun W hW => ints_same (rowL ps k) A1 A2 c1 c2 W (r1.up hW) (r2.up hW) l1
      clear d1 d2 r1 r2 l1 l2
      generalize (rowL ps k).length = L at *
      go_upto_region 6 with fail
      refine wp_region_flow 8 (fun W => Below wr.heap.size wr W) (by kernel_rfl) (by kernel_rfl) (Below.refl _ _).drew ?_
      (repeat (first | (refine Flow.skip (by rfl) ?_; simp only [Act.put, List.setIfInBounds_toArray, List.set_cons_zero, List.set_cons_succ]) | (refine' Flow.take _ (by rfl) (fun W hW R hR => ?_) ?_; rotate_left; (go_simp; (try go_bits); with_reducible exact hR); simp only [Act.put, List.setIfInBounds_toArray, List.set_cons_zero, List.set_cons_succ])))
      intro w4 hb4
      clear f1 f2
      go_wp2_with fail
      refine (HI.out w4 hb4).mono ?_
      rintro e5 w5 ⟨rfl, hb5⟩
      go_wp2
      go_roundw
      case rel => exact ⟨k + 1, by omega, by go_num, bup (bup hb hb4) hb5⟩
      case measure => simp [intOf]; omega
    · obtain rfl : k = ps.length := by omega
      go_wp2
      go_ret
      exact ⟨rfl, hb⟩
end
section
open Go.RowKit
attribute [local go_sem ↓] Go.wp_at_zero Go.wp_at_succ

def e23 : Edg := ⟨0, 1, 2, 0, -1, 0, 1, 0, -1, 0⟩
def g23 : Gr := ⟨3, 0, [], 2, 1, [e23]⟩
theorem chk23 : chk g23 = 0 := by decide +kernel
theorem packs23 : packsR (rootsOf g23.es g23.es.length) 3 = [[0, 1], [2]] := by decide +kernel
set_option maxRecDepth 8000 in
set_option maxHeartbeats 4000000 in
theorem known23_any (w : World) : Calls Try.prog 6 #[] w (SomeT w) := by
  go_enter Try.func6, Try.ntmps6
  go_wp2_with fail
  have n0 : Below w.heap.size w (((w.alloc (.cells #[.string ⟨#[120]⟩, .string ⟨#[121]⟩, .string ⟨#[122]⟩] 9)).alloc (.cells #[.int .i64 0, .int .i64 1, .int .i64 2, .int .i64 0, .int .i64 (-1), .int .i64 0, .int .i64 1, .int .i64 0, .int .i64 (-1), .int .i64 0] 56)).alloc (.cells #[.slice (some ⟨w.heap.size, 0, none⟩) 3 3, .int .i64 0, .slice none 0 0, .int .i64 2, .int .i64 1, .slice (some ⟨w.heap.size + 1, 0, none⟩) 1 1] 26)) := (((Below.refl _ _).alloc (Nat.le_refl _) _).alloc (by simp) _).alloc (by simp; omega) _
  have k1 : Blk (((w.alloc (.cells #[.string ⟨#[120]⟩, .string ⟨#[121]⟩, .string ⟨#[122]⟩] 9)).alloc (.cells #[.int .i64 0, .int .i64 1, .int .i64 2, .int .i64 0, .int .i64 (-1), .int .i64 0, .int .i64 1, .int .i64 0, .int .i64 (-1), .int .i64 0] 56)).alloc (.cells #[.slice (some ⟨w.heap.size, 0, none⟩) 3 3, .int .i64 0, .slice none 0 0, .int .i64 2, .int .i64 1, .slice (some ⟨w.heap.size + 1, 0, none⟩) 1 1] 26)) (w.heap.size + 1) 56 (ecs e23) := by
    have := (Blk.new (w.alloc (.cells #[.string ⟨#[120]⟩, .string ⟨#[121]⟩, .string ⟨#[122]⟩] 9)) 56 (ecs e23)).alloc (.cells #[.slice (some ⟨w.heap.size, 0, none⟩) 3 3, .int .i64 0, .slice none 0 0, .int .i64 2, .int .i64 1, .slice (some ⟨w.heap.size + 1, 0, none⟩) 1 1] 26)
    rw [World.size_alloc] at this
    exact this
  generalize (((w.alloc (.cells #[.string ⟨#[120]⟩, .string ⟨#[121]⟩, .string ⟨#[122]⟩] 9)).alloc (.cells #[.int .i64 0, .int .i64 1, .int .i64 2, .int .i64 0, .int .i64 (-1), .int .i64 0, .int .i64 1, .int .i64 0, .int .i64 (-1), .int .i64 0] 56)).alloc (.cells #[.slice (some ⟨w.heap.size, 0, none⟩) 3 3, .int .i64 0, .slice none 0 0, .int .i64 2, .int .i64 1, .slice (some ⟨w.heap.size + 1, 0, none⟩) 1 1] 26)) = w1 at *
  have hE : RdE w1 w1.heap.size (some ⟨w.heap.size + 1, 0, none⟩) g23.es := fun k hk => by
    obtain rfl : k = 0 := by have : g23.es.length = 1 := rfl; omega
    refine ⟨w.heap.size + 1, 0, rfl, k1.lt, fun r hr => ?_⟩
    rw [show 0 + 0 * 10 + r = r by omega, k1.cell r]
    simp [ecs, Edg.cells, g23]
  have hD : RdD w1 w1.heap.size none g23.sz := fun k hk => by simp [g23] at hk
  have HP := hid (packof_any g23 (some ⟨w.heap.size, 0, none⟩) none (some ⟨w.heap.size + 1, 0, none⟩) 3 0 1 w1 hD hE (by simp [g23]) (by simp [g23]) (by simp [g23]) chk23 3 rfl)
  rw [packs23] at HP
  refine HP.out.mono ?_
  clear HP hE hD k1
  rintro e2 w2 ⟨G, cap, rfl, hr2, hb2⟩
  replace n0 := bup n0 hb2
  clear hb2
  go_wp2_with fail
  have m0 : Below w2.heap.size w2 (((w2.alloc (.cells #[.int .i64 0, .int .i64 1] 3)).alloc (.cells #[.int .i64 2] 3)).alloc (.cells #[.slice (some ⟨w2.heap.size, 0, none⟩) 2 2, .slice (some ⟨w2.heap.size + 1, 0, none⟩) 1 1] 48)) := (((Below.refl _ _).alloc (Nat.le_refl _) _).alloc (by simp) _).alloc (by simp; omega) _
  have q0 : Blk (((w2.alloc (.cells #[.int .i64 0, .int .i64 1] 3)).alloc (.cells #[.int .i64 2] 3)).alloc (.cells #[.slice (some ⟨w2.heap.size, 0, none⟩) 2 2, .slice (some ⟨w2.heap.size + 1, 0, none⟩) 1 1] 48)) w2.heap.size 3 #[.int .i64 0, .int .i64 1] := ((Blk.new w2 3 #[.int .i64 0, .int .i64 1]).alloc _).alloc _
  have q1 : Blk (((w2.alloc (.cells #[.int .i64 0, .int .i64 1] 3)).alloc (.cells #[.int .i64 2] 3)).alloc (.cells #[.slice (some ⟨w2.heap.size, 0, none⟩) 2 2, .slice (some ⟨w2.heap.size + 1, 0, none⟩) 1 1] 48)) (w2.heap.size + 1) 3 #[.int .i64 2] := by
    have := (Blk.new (w2.alloc (.cells #[.int .i64 0, .int .i64 1] 3)) 3 #[.int .i64 2]).alloc (.cells #[.slice (some ⟨w2.heap.size, 0, none⟩) 2 2, .slice (some ⟨w2.heap.size + 1, 0, none⟩) 1 1] 48)
    rw [World.size_alloc] at this
    exact this
  have q2 : Blk (((w2.alloc (.cells #[.int .i64 0, .int .i64 1] 3)).alloc (.cells #[.int .i64 2] 3)).alloc (.cells #[.slice (some ⟨w2.heap.size, 0, none⟩) 2 2, .slice (some ⟨w2.heap.size + 1, 0, none⟩) 1 1] 48)) (w2.heap.size + 1 + 1) 48 #[.slice (some ⟨w2.heap.size, 0, none⟩) 2 2, .slice (some ⟨w2.heap.size + 1, 0, none⟩) 1 1] := by
    have := Blk.new ((w2.alloc (.cells #[.int .i64 0, .int .i64 1] 3)).alloc (.cells #[.int .i64 2] 3)) 48 #[.slice (some ⟨w2.heap.size, 0, none⟩) 2 2, .slice (some ⟨w2.heap.size + 1, 0, none⟩) 1 1]
    rw [World.size_alloc, World.size_alloc] at this
    exact this
  have hy : RdL (((w2.alloc (.cells #[.int .i64 0, .int .i64 1] 3)).alloc (.cells #[.int .i64 2] 3)).alloc (.cells #[.slice (some ⟨w2.heap.size, 0, none⟩) 2 2, .slice (some ⟨w2.heap.size + 1, 0, none⟩) 1 1] 48)) ((((w2.alloc (.cells #[.int .i64 0, .int .i64 1] 3)).alloc (.cells #[.int .i64 2] 3)).alloc (.cells #[.slice (some ⟨w2.heap.size, 0, none⟩) 2 2, .slice (some ⟨w2.heap.size + 1, 0, none⟩) 1 1] 48))).heap.size (some ⟨w2.heap.size + 1 + 1, 0, none⟩) [[0, 1], [2]] := by
    intro i hi
    have h2 : i = 0 ∨ i = 1 := by simp at hi; omega
    rcases h2 with rfl | rfl
    · refine ⟨_, 0, some ⟨w2.heap.size, 0, none⟩, 2, rfl, q2.lt, q2.cell 0, fun k hk => ?_, by simp [rowL]⟩
      have h3 : k = 0 ∨ k = 1 := by simp [rowL] at hk; omega
      rcases h3 with rfl | rfl
      · exact ⟨_, 0, rfl, q0.lt, q0.cell 0⟩
      · exact ⟨_, 0, rfl, q0.lt, q0.cell 1⟩
    · refine ⟨_, 0, some ⟨w2.heap.size + 1, 0, none⟩, 1, rfl, q2.lt, q2.cell 1, fun k hk => ?_, by simp [rowL]⟩
      have h3 : k = 0 := by simp [rowL] at hk; omega
      subst h3
      exact ⟨_, 0, rfl, q1.lt, q1.cell 0⟩
  replace hr2 := hr2.up m0
  replace n0 := bup n0 m0
  generalize (((w2.alloc (.cells #[.int .i64 0, .int .i64 1] 3)).alloc (.cells #[.int .i64 2] 3)).alloc (.cells #[.slice (some ⟨w2.heap.size, 0, none⟩) 2 2, .slice (some ⟨w2.heap.size + 1, 0, none⟩) 1 1] 48)) = w3 at *
  have HL := hid (lists_same [[0, 1], [2]] _ _ cap 2 w3 hr2 hy (by simp))
  refine HL.out.mono ?_
  clear HL q0 q1 q2 hy hr2 m0
  rintro e4 w4 ⟨rfl, hb4⟩
  have HPC := hid (pcheck_any 1 [] none 0 w4 (fun i hi => by simp at hi) (by simp))
  rw [show packErr 1 [] = 230 from rfl] at HPC
  go_wp2_with fail
  refine HPC.out.mono ?_
  rintro e5 w5 ⟨rfl, hb5⟩
  go_wp2
  go_ret
  exact ⟨rfl, bup (bup n0 hb4) hb5⟩
end
end Go.Proofs.Ytjmmegnonlbdnaa
