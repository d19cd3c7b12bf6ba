/-
  The octagon of one point behind exact edges: the point's, where it takes the edge; empty, where it doesn't. Plain.
  trans.Edge of a copy, where one point is known.
  gnomonlaw16.near: are these numbers near?
  The document's Bound of octagons that may be: what it answers, and which block alone it changes.
  gnomonref16.bound: a variable bounded by a range, in place.
  gnomonref14.Drop at one variable, gnomonref14.Forget.
-/
import Derived.Test.YtnmpgijiimglcaaGreatBTS42
import Derived.Test.YtnmpgijiimglcaaGreatTEdgeO
import Derived.Test.YtnmpgijiimglcaaGreatBTS45
import Derived.Test.YtnmpgijiimglcaaGreatBTS23
import Derived.Test.YtnmpgijiimglcaaGreatRTop
import Derived.Test.YtnmpgijiimglcaaGreatLawWX
import Derived.Test.YtnmpgijiimglcaaGreatBTS13
namespace Go.Proofs.YtnmpgijiimglcaaGreat
section
open Go.RowKit

def ptO (n : Int) (y : List Int) : O := ⟨n, false, ptM (2 * n).toNat y⟩
/-- A finite way. -/
theorem Tight.way {N : Nat} {m : List Int} (h : Tight N m) {a b c : Nat} (ha : a < N) (hb : b < N) (hc : c < N) (h1 : G N m a b ≠ 9223372036854775807) (h2 : G N m b c ≠ 9223372036854775807) : G N m a c ≠ 9223372036854775807 :=
  (leS_1 (h.tri a c b ha hc hb) h1 h2).2
theorem ptM_exact {N : Nat} (y : List Int) : ExactM N (ptM N y) y := fun _ _ ha hb => .inr (ptM_G y ha hb)
theorem apart_fin {y : List Int} (hy : SmallX y) (a b : Nat) : apartX y a b ≠ 9223372036854775807 := by have := apart_small hy a b; omega
section
variable {n : Int} {N : Nat} {x : List Int} (hN : (N : Int) = 2 * n) (hn : N ≤ 128)
include hN hn
theorem pt_close (hy : SmallX x) : closeO (ptO n x) = ptO n x := by
  unfold ptO
  rw [show (2 * n).toNat = N by omega]
  refine close_pt hN hn hy (ptM_cells (by omega) hy) (ptM_exact x) fun ys _ _ hf a b ha hb => hf a b ha hb ?_
  rw [ptM_G x ha hb]
  exact apart_fin hy a b
theorem pt_ok (hy : SmallX x) : OkO n (ptO n x) := by
  unfold ptO
  rw [show (2 * n).toNat = N by omega]
  exact OkO.of_cells hN hn (ptM_cells (by omega) hy)
theorem pt_forget (hy : SmallX x) (d : Nat) : forgetO (ptO n x) d = ⟨n, false, forgetM N d (ptM N x)⟩ := by
  unfold forgetO
  rw [pt_close hN hn hy]
  unfold ptO
  rw [if_neg (by simp)]
  dsimp only
  rw [show (2 * n).toNat = N by omega]
theorem forget_exact (hy : SmallX x) (d : Nat) (u : Int) : ExactM N (forgetM N d (ptM N x)) (x.set d u) := fun a b ha hb => by
  rw [forgetM_G (ptM_len _ _) ha hb]
  split
  · exact .inl rfl
  · rename_i q
    right
    rw [ptM_G x ha hb]
    by_cases e : a = b
    · subst e; unfold apartX; omega
    · unfold apartX
      rw [sideX_far _ _ _ (fun k => q ⟨e, .inl k⟩), sideX_far _ _ _ (fun k => q ⟨e, .inr k⟩)]
omit hn in
theorem bound_exact {m y : List Int} (hy : SmallX y) (hl : m.length = N * N) (h : ExactM N m y) {i j : Nat} (hi : i < N) (hj : j < N) {c : Int} (hc : near c = apartX y i j) : ExactM N (boundM N i j c m) y := fun a b ha hb => by
  rw [boundM_G (by omega) hl hi hj c ha hb]
  have k := h i j hi hj
  have hs := apart_small hy i j
  split
  · rename_i e
    right
    rcases e with ⟨rfl, rfl⟩ | ⟨rfl, rfl⟩
    · omega
    · rw [apartX_nx]; omega
  · exact h a b ha hb
omit hn in
theorem bound_hit {m y : List Int} (hy : SmallX y) (hl : m.length = N * N) (h : ExactM N m y) {i j : Nat} (hi : i < N) (hj : j < N) {c : Int} (hc : near c = apartX y i j) : G N (boundM N i j c m) i j = apartX y i j ∧ G N (boundM N i j c m) (nx j) (nx i) = apartX y i j := by
  have k := h i j hi hj
  have hs := apart_small hy i j
  rw [boundM_G (by omega) hl hi hj c hi hj, boundM_G (by omega) hl hi hj c (nxl (by omega) hj) (nxl (by omega) hi), if_pos (.inl ⟨rfl, rfl⟩), if_pos (.inr ⟨rfl, rfl⟩)]
  omega
omit hn in
theorem bound_fin {m : List Int} (hl : m.length = N * N) {i j : Nat} (hi : i < N) (hj : j < N) {c : Int} (hm : ∀ a b : Nat, a < N → b < N → G N m a b ≤ 9223372036854775807) {a b : Nat} (ha : a < N) (hb : b < N) (h : G N m a b ≠ 9223372036854775807) : G N (boundM N i j c m) a b ≠ 9223372036854775807 ∨ ((a = i ∧ b = j) ∨ (a = nx j ∧ b = nx i)) := by
  rw [boundM_G (by omega) hl hi hj c ha hb]
  split
  · exact .inr ‹_›
  · exact .inl h
/-- A variable bound to another one's side. -/
theorem pt_link (hy : SmallX x) (hl : (x.length : Int) = n) {d j : Nat} (hd : (d : Int) < n) (hj : (j : Int) < 2 * n) (hne : j / 2 ≠ d) {k : Int} (hk : SmallX (x.set d (sideX x j + k))) : linkO (ptO n x) (2 * d) j k = ptO n (x.set d (sideX x j + k)) := by
  have hN2 : N % 2 = 0 := by omega
  have hNN : (2 * n).toNat = N := by omega
  have e1 : apartX (x.set d (sideX x j + k)) (2 * d) j = k := by unfold apartX; rw [sideX_new _ _ _ (by omega), sideX_far _ _ _ hne]; omega
  have e2 : apartX (x.set d (sideX x j + k)) j (2 * d) = -k := by unfold apartX at *; omega
  have s1 := apart_small hk (2 * d) j
  rw [e1] at s1
  have n1 : near k = k := by unfold near; rw [if_neg (by omega), if_neg (by omega)]
  have n2 : near (-k) = -k := by unfold near; rw [if_neg (by omega), if_neg (by omega)]
  generalize hyy : x.set d (sideX x j + k) = y at *
  have x1 : ExactM N (forgetM N d (ptM N x)) y := by rw [← hyy]; exact forget_exact hN hn hy d _
  have c1 := forgetM_cells (v := d) hN2 (ptM_cells hN2 hy)
  have l1 := c1.len
  have hi : 2 * d < N := by omega
  have hj' : j < N := by omega
  have x2 := bound_exact hN hk l1 x1 hi hj' (c := k) (by rw [n1, e1])
  have h2 := bound_hit hN hk l1 x1 hi hj' (c := k) (by rw [n1, e1])
  have c2 := boundM_cells hN2 c1 hi hj' (by omega) k
  have x3 := bound_exact hN hk c2.len x2 hj' hi (c := -k) (by rw [n2, e2])
  have h3 := bound_hit hN hk c2.len x2 hj' hi (c := -k) (by rw [n2, e2])
  have c3 := boundM_cells hN2 c2 hj' hi (by omega) (-k)
  unfold linkO
  rw [show 2 * d / 2 = d by omega, pt_forget hN hn hy d]
  have w1 : withO ⟨n, false, forgetM N d (ptM N x)⟩ (2 * d) j k = ⟨n, false, boundM N (2 * d) j k (forgetM N d (ptM N x))⟩ := by
    unfold withO; rw [if_neg (by simp), if_neg (by omega)]; dsimp only; rw [hNN]
  have w2 : withO ⟨n, false, boundM N (2 * d) j k (forgetM N d (ptM N x))⟩ j (2 * d) (-k) = ⟨n, false, boundM N j (2 * d) (-k) (boundM N (2 * d) j k (forgetM N d (ptM N x)))⟩ := by
    unfold withO; rw [if_neg (by simp), if_neg (by omega)]; dsimp only; rw [hNN]
  rw [w1, w2, close_pt hN hn hk c3 x3]
  · unfold ptO; rw [hNN]
  · intro ys ht hx hf
    have tops : ∀ (m : List Int), Cells N m → ∀ a b : Nat, a < N → b < N → G N m a b ≤ 9223372036854775807 := fun m hm a b ha hb => bnd_top (hm.b ha hb)
    have far : ∀ a b : Nat, a < N → b < N → a / 2 ≠ d → b / 2 ≠ d → G N ys a b ≠ 9223372036854775807 := fun a b ha hb q1 q2 => by
      refine hf a b ha hb ?_
      have g1 : G N (forgetM N d (ptM N x)) a b ≠ 9223372036854775807 := by
        rw [forgetM_G (ptM_len _ _) ha hb, if_neg (by omega), ptM_G x ha hb]
        exact apart_fin hy a b
      rcases bound_fin hN l1 hi hj' (c := k) (tops _ c1) ha hb g1 with g2 | g2
      · rcases bound_fin hN c2.len hj' hi (c := -k) (tops _ c2) ha hb g2 with g3 | g3
        · exact g3
        · exfalso; rcases g3 with g3 | g3
          · apply q2; rw [g3.2]; omega
          · apply q1; rw [g3.1, nx_half]; omega
      · exfalso; rcases g2 with g3 | g3
        · apply q1; rw [g3.1]; omega
        · apply q2; rw [g3.2, nx_half]; omega
    have hnj := nxl hN2 hj'
    have hnd : nx (2 * d) = 2 * d + 1 := by unfold nx; rw [if_pos (by omega)]
    have f1 : G N ys j (2 * d) ≠ 9223372036854775807 := hf _ _ hj' hi (by rw [h3.1]; exact apart_fin hk _ _)
    have f2 : G N ys (nx (2 * d)) (nx j) ≠ 9223372036854775807 := hf _ _ (nxl hN2 hi) hnj (by rw [h3.2]; exact apart_fin hk _ _)
    have f3 : G N ys (2 * d) j ≠ 9223372036854775807 := hf _ _ hi hj' (by
      rw [boundM_G hN2 c2.len hj' hi _ hi hj']
      split
      · rw [n2]; rcases bnd (c2.b hj' hi) with q | q <;> omega
      · rw [h2.1]; exact apart_fin hk _ _)
    have f4 : G N ys (nx j) (nx (2 * d)) ≠ 9223372036854775807 := by
      have := ht.cells.sym (2 * d) j hi hj'
      rw [← this]; exact f3
    -- each side has a finite way to a side of another variable, and back
    have reach : ∀ a, a < N → ∃ r, r < N ∧ r / 2 ≠ d ∧ G N ys a r ≠ 9223372036854775807 ∧ G N ys r a ≠ 9223372036854775807 := fun a ha => by
      by_cases q : a / 2 = d
      · by_cases q2 : a = 2 * d
        · subst q2; exact ⟨j, hj', hne, f3, f1⟩
        · have : a = nx (2 * d) := by rw [hnd]; omega
          subst this; exact ⟨nx j, hnj, by rw [nx_half]; exact hne, f2, f4⟩
      · exact ⟨a, ha, q, by rw [ht.cells.d ha]; omega, by rw [ht.cells.d ha]; omega⟩
    intro a b ha hb
    obtain ⟨r, hr, r1, r2, _⟩ := reach a ha
    obtain ⟨s, hs, s1, _, s3⟩ := reach b hb
    exact ht.way ha hs hb (ht.way ha hr hs r2 (far r s hr hs r1 s1)) s3
end
end
section
open Go.RowKit

theorem near_side {xs : List Int} (hn : ∀ k : Nat, NearV (gI xs (k : Int))) : SmallX xs := fun a => by
  have := hn (a / 2)
  unfold NearV at this
  unfold sideX
  split <;> omega
theorem near_set {xs : List Int} (hn : ∀ k : Nat, NearV (gI xs (k : Int))) (d s : Nat) : ∀ k : Nat, NearV (gI (xs.set d (gI xs (s : Int))) (k : Int)) := fun k => by
  have e : gI (xs.set d (gI xs (s : Int))) (k : Int) = gI xs (s : Int) ∨ gI (xs.set d (gI xs (s : Int))) (k : Int) = gI xs (k : Int) := by
    unfold gI
    simp only [Int.toNat_natCast, List.getD_eq_getElem?_getD, List.getElem?_set]
    by_cases h : d = k
    · subst h
      by_cases h2 : d < xs.length
      · left; simp [h2]
      · right; simp [h2]
    · right; simp [h]
  rcases e with e | e <;> rw [e] <;> exact hn _
theorem side_two (xs : List Int) (s : Nat) : sideX xs (2 * s) = gI xs (s : Int) := by
  unfold sideX
  rw [if_pos (by omega), show 2 * s / 2 = s by omega]
theorem right_copy {d s : Nat} (hd : d < 3) (hs : s < 3) : rightT 3 ⟨0, 0, 2, (d : Int), -1, 0, (s : Int), 0, -1, 0⟩ = true := by
  have h1 : d = 0 ∨ d = 1 ∨ d = 2 := by omega
  have h2 : s = 0 ∨ s = 1 ∨ s = 2 := by omega
  rcases h1 with rfl | rfl | rfl <;> rcases h2 with rfl | rfl | rfl <;> decide
theorem edge_copy {o : O} {d s : Nat} (hne : s ≠ d) : edgeO o ⟨0, 0, 2, (d : Int), -1, 0, (s : Int), 0, -1, 0⟩ = linkO o (2 * d) (2 * s) 0 := by
  unfold edgeO
  dsimp only
  rw [if_neg (by omega), if_neg (by omega), if_neg (by omega), if_pos rfl, if_neg (by omega), if_neg (by omega)]
  simp
theorem tcopy_pt (xs : List Int) (hl : xs.length = 3) (hn : ∀ k : Nat, NearV (gI xs (k : Int))) (d s : Nat) (hd : d < 3) (hs : s < 3) (hne : s ≠ d) (A : Option Addr) (cap : Nat) (w : World) (hx : Rd w w.heap.size A (ptO 3 xs).m) (B : Nat) (hB : B ≤ w.heap.size) :
    Calls Tryz.prog 28 #[.agg #[.int .i64 3, .bool false, .slice A (ptO 3 xs).m.length cap], .agg #[.int .i64 0, .int .i64 0, .int .i64 2, .int .i64 (d : Int), .int .i64 (-1), .int .i64 0, .int .i64 (s : Int), .int .i64 0, .int .i64 (-1), .int .i64 0]] w (ErrSx w B (ptO 3 (xs.set d (gI xs (s : Int)))) 0) := by
  have hsx := near_side hn
  have ok : OkO 3 (ptO 3 xs) := pt_ok (N := 6) (by omega) (by omega) hsx
  have hk := ok.ok
  have hc : closeO (ptO 3 xs) = ptO 3 xs := pt_close (N := 6) (by omega) (by omega) hsx
  have hm := OkO.small ok
  have e0 : transErr (ptO 3 xs) ⟨0, 0, 2, (d : Int), -1, 0, (s : Int), 0, -1, 0⟩ = 0 := by
    unfold transErr
    rw [if_neg (by simpa using hk)]
    exact if_pos (right_copy hd hs)
  have e1 : transAns (ptO 3 xs) ⟨0, 0, 2, (d : Int), -1, 0, (s : Int), 0, -1, 0⟩ = ptO 3 (xs.set d (gI xs (s : Int))) := by
    unfold transAns
    rw [if_pos e0]
    unfold transO
    rw [hc, if_neg (by unfold ptO; simp), edge_copy hne]
    have h := pt_link (N := 6) (n := 3) (x := xs) (by omega) (by omega) hsx (by omega) (d := d) (j := 2 * s) (by omega) (by omega) (by omega) (k := 0) (by rw [side_two, Int.add_zero]; exact near_side (near_set hn d s))
    rw [h, side_two, Int.add_zero]
  have h := tEdge_any (ptO 3 xs) 0 0 2 (d : Int) (-1) 0 (s : Int) 0 (-1) 0 A cap w hx hm B hB (fun _ N cm Ac cc W _ _ _ hcl hBW hsxW hmc => by
    rw [hc] at hcl
    rw [edge_copy hne]
    have hko : check ⟨(ptO 3 xs).n, false, cm⟩ = 0 := by rw [← hcl]; exact hk
    refine tedge_2v (ptO 3 xs).n cm 0 0 (d : Int) (-1) 0 0 (-1) 0 (by unfold I64; omega) (by unfold I64; omega) s (by omega) (by omega) Ac cc W B hBW hsxW _ fun W2 hB2 hx2 => ?_
    have h2 := tequals_ok ⟨(ptO 3 xs).n, false, cm⟩ hko d (2 * s) (show (d : Int) < 3 by omega) (show ((2 * s : Nat) : Int) < 2 * 3 by omega) Ac cc W2 (hx2.rd hB2) hmc
    rw [Int.natCast_mul] at h2
    exact h2.mono fun _ _ h => h.sx hB2)
  rw [e0, e1] at h
  exact h
end
section
open Go.RowKit
attribute [local go_sem ↓] Go.wp_at_zero Go.wp_at_succ

def NearRes (xs : List Int) (w : World) (e : Ending) (w' : World) : Prop := ∃ b, e = .returned (.bool b) ∧ (b = true ↔ ∀ k : Nat, NearV (gI xs (k : Int))) ∧ Below w.heap.size w w'
theorem near_out (xs : List Int) (k : Nat) (h : xs.length ≤ k) : NearV (gI xs (k : Int)) := by
  have : gI xs (k : Int) = 0 := by unfold gI; simp [List.getD_eq_getElem?_getD, h]
  rw [this]; unfold NearV; omega
set_option maxRecDepth 8000 in
set_option maxHeartbeats 2000000 in
theorem near_ok (xs : List Int) (X : Option Addr) (xc : Nat) (w : World) (hx : Rd w w.heap.size X xs) (hm : xs.length ≤ 17592186044416) : Calls Tryz.prog 26 #[.slice X xs.length xc] w (NearRes xs w) := by
  go_enter Tryz.func26, Tryz.ntmps26
  go_wp2
  go_loopw [3] (fun t wq => wq = w ∧ ∃ i : Nat, i ≤ xs.length ∧ t = .int .i64 i ∧ ∀ k, k < i → NearV (gI xs (k : Int))) (fun t _ => xs.length - (intOf t).toNat)
  case atStart => exact ⟨rfl, 0, by omega, rfl, fun k h => by omega⟩
  case round =>
    obtain ⟨rfl, i, hi, rfl, hnr⟩ := hrel
    have HN := hid hnr
    clear hnr
    by_cases hlt : i < xs.length
    · have hlti : (i : Int) < (xs.length : Int) := by omega
      obtain ⟨g1, o1, rfl, hg1, ci⟩ := hx i hlt
      obtain ⟨v, hv⟩ : ∃ v, v = gI xs (i : Int) := ⟨_, rfl⟩
      rw [← hv] at ci
      have HV := hid hv
      clear hv
      by_cases h1 : 1099511627776 < v
      · have HF : Hid (¬ ∀ k : Nat, NearV (gI xs (k : Int))) := hid (fun h => by have := h i; rw [← HV.out] at this; unfold NearV at this; omega)
        have t1 : decide (1099511627776 < v) = true := by rw [decide_eq_true_eq]; exact h1
        clear h1
        go_wp2
        go_ret
        exact ⟨false, rfl, ⟨fun h => by simp at h, fun h => absurd h HF.out⟩, Below.refl _ _⟩
      · have t1 : decide (1099511627776 < v) = false := by rw [decide_eq_false_iff_not]; exact h1
        by_cases h2 : v < -1099511627776
        · have HF : Hid (¬ ∀ k : Nat, NearV (gI xs (k : Int))) := hid (fun h => by have := h i; rw [← HV.out] at this; unfold NearV at this; omega)
          have t2 : decide (v < -1099511627776) = true := by rw [decide_eq_true_eq]; exact h2
          clear h1 h2
          go_wp2
          go_ret
          exact ⟨false, rfl, ⟨fun h => by simp at h, fun h => absurd h HF.out⟩, Below.refl _ _⟩
        · have t2 : decide (v < -1099511627776) = false := by rw [decide_eq_false_iff_not]; exact h2
          have HG : Hid (NearV (gI xs (i : Int))) := hid (by rw [← HV.out]; unfold NearV; omega)
          clear h1 h2
          go_wp2
          go_roundw
          case rel => exact ⟨by first | rfl | trivial, i + 1, by omega, by go_num, fun k h => if e : k = i then e ▸ HG.out else HN.out k (by omega)⟩
          case measure => simp [intOf]; omega
    · obtain rfl : i = xs.length := by omega
      go_wp2
      go_ret
      exact ⟨true, rfl, ⟨fun _ k => if h : k < xs.length then HN.out k h else near_out xs k (by omega), fun _ => rfl⟩, Below.refl _ _⟩
end
section
open Go.RowKit
attribute [local go_sem ↓] Go.wp_at_zero Go.wp_at_succ

theorem grown3 {W : World} {g : Nat} {v0 v1 v2 : Value} : W.grownBy (((W.setCell ⟨g, 0, none⟩ v0).setCell ⟨g, 1, none⟩ v1).setCell ⟨g, 2, none⟩ v2) (some g) :=
  ((grown_setCell W ⟨g, 0, none⟩ v0).trans (grown_setCell _ ⟨g, 1, none⟩ v1)).trans (grown_setCell _ ⟨g, 2, none⟩ v2)
/-- What stood is kept, but for the row that came in. -/
def rowB (A : Option Addr) : Option Nat := A.map (·.block)
theorem Blk.kept {w w' : World} {g : Nat} {t : TypeId} {cs : Array Value} {row : Option Nat} (h : Blk w g t cs) (hg : w.grownBy w' row) (hr : row ≠ some g) : Blk w' g t cs :=
  (hg.block g h.lt (fun e => hr e.symm)).trans h
/-- The frame of a walk that changes one row in place: the row is now A1. -/
def Fr (w W : World) (A A1 : Option Addr) : Prop := (A1 = A ∨ ∀ k, rowB A1 = some k → w.heap.size ≤ k) ∧ w.grownBy W (rowB A)
section
variable {w W W' : World} {A A1 A2 : Option Addr} {g base c : Nat} {v0 v1 v2 : Value} {m : List Int}
theorem Fr.refl (w : World) (A : Option Addr) : Fr w w A A := ⟨.inl rfl, World.grownBy.refl _ _⟩
theorem Fr.size (h : Fr w W A A1) : w.heap.size ≤ W.heap.size := h.2.size
theorem Fr.below (h : Fr w W A A1) (hb : Below W.heap.size W W') : Fr w W' A A1 := ⟨h.1, h.2.trans (grown_of_below hb _)⟩
theorem Fr.call (h : Fr w W A A1) (ha : A2 = A1 ∨ ∀ k, rowB A2 = some k → W.heap.size ≤ k) (hg : W.grownBy W' (rowB A1)) : Fr w W' A A2 := by
  refine ⟨?_, h.2.andThen hg (fun j e => ?_)⟩
  · rcases ha with rfl | ha
    · exact h.1
    · exact .inr (fun k e => Nat.le_trans h.size (ha k e))
  · rcases h.1 with rfl | h1
    · exact .inr e
    · exact .inl (h1 j e)
theorem Fr.set3 (h : Fr w W A A1) (hg : w.heap.size ≤ g) : Fr w (((W.setCell ⟨g, 0, none⟩ v0).setCell ⟨g, 1, none⟩ v1).setCell ⟨g, 2, none⟩ v2) A A1 :=
  ⟨h.1, h.2.andThen grown3 (fun j e => .inl (by injection e with e; omega))⟩
theorem Fr.made (h : Fr w W A A1) (hb : Below W.heap.size W W') (hn : Own W' W.heap.size A2 c m) : Fr w W' A A2 := by
  refine ⟨.inr (fun k e => ?_), h.2.trans (grown_of_below hb _)⟩
  rcases hn.form with ⟨rfl, _⟩ | ⟨g, rfl, h1, _⟩
  · cases e
  · simp only [rowB, Option.map_some, Option.some.injEq] at e
    have := h.size
    omega
end
end
section
open Go.RowKit
attribute [local go_sem ↓] Go.wp_at_zero Go.wp_at_succ
end
section
open Go.RowKit
attribute [local go_sem ↓] Go.wp_at_zero Go.wp_at_succ

theorem range_ext {L : Nat} {f g : Nat → Int} (h : ∀ p, p < L → f p = g p) : (List.range L).map f = (List.range L).map g := List.map_congr_left fun p hp => h p (List.mem_range.1 hp)
end
end Go.Proofs.YtnmpgijiimglcaaGreat
