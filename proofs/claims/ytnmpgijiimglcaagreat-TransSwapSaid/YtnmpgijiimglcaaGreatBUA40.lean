/-
  The octagon of one point behind exact edges: the point's, where it takes the edge; empty, where it doesn't. Plain.
  Two cells whose sum is below 0 close to nothing; comparisons at the octagon of one point. Plain.
  trans.equals, trans.shift (another variable; too far): what they answer.
-/
import Derived.Test.YtnmpgijiimglcaaGreatBUA27
import Derived.Test.YtnmpgijiimglcaaGreatBUA33
import Derived.Test.YtnmpgijiimglcaaGreatBUA21
namespace Go.Proofs.YtnmpgijiimglcaaGreat
section
open Go.RowKit

def ptO (n : Int) (y : List Int) : O := ⟨n, false, ptM (2 * n).toNat y⟩
/-- A finite way. -/
theorem Tight.way {N : Nat} {m : List Int} (h : Tight N m) {a b c : Nat} (ha : a < N) (hb : b < N) (hc : c < N) (h1 : G N m a b ≠ 9223372036854775807) (h2 : G N m b c ≠ 9223372036854775807) : G N m a c ≠ 9223372036854775807 :=
  (leS_1 (h.tri a c b ha hc hb) h1 h2).2
theorem ptM_exact {N : Nat} (y : List Int) : ExactM N (ptM N y) y := fun _ _ ha hb => .inr (ptM_G y ha hb)
theorem apart_fin {y : List Int} (hy : SmallX y) (a b : Nat) : apartX y a b ≠ 9223372036854775807 := by have := apart_small hy a b; omega
section
variable {n : Int} {N : Nat} {x : List Int} (hN : (N : Int) = 2 * n) (hn : N ≤ 128)
include hN hn
theorem pt_close (hy : SmallX x) : closeO (ptO n x) = ptO n x := by
  unfold ptO
  rw [show (2 * n).toNat = N by omega]
  refine close_pt hN hn hy (ptM_cells (by omega) hy) (ptM_exact x) fun ys _ _ hf a b ha hb => hf a b ha hb ?_
  rw [ptM_G x ha hb]
  exact apart_fin hy a b
theorem pt_ok (hy : SmallX x) : OkO n (ptO n x) := by
  unfold ptO
  rw [show (2 * n).toNat = N by omega]
  exact OkO.of_cells hN hn (ptM_cells (by omega) hy)
theorem pt_forget (hy : SmallX x) (d : Nat) : forgetO (ptO n x) d = ⟨n, false, forgetM N d (ptM N x)⟩ := by
  unfold forgetO
  rw [pt_close hN hn hy]
  unfold ptO
  rw [if_neg (by simp)]
  dsimp only
  rw [show (2 * n).toNat = N by omega]
omit hN hn in
theorem forget_exact (_hy : SmallX x) (d : Nat) (u : Int) : ExactM N (forgetM N d (ptM N x)) (x.set d u) := fun a b ha hb => by
  rw [forgetM_G (ptM_len _ _) ha hb]
  split
  · exact .inl rfl
  · rename_i q
    right
    rw [ptM_G x ha hb]
    by_cases e : a = b
    · subst e; unfold apartX; omega
    · unfold apartX
      rw [sideX_far _ _ _ (fun k => q ⟨e, .inl k⟩), sideX_far _ _ _ (fun k => q ⟨e, .inr k⟩)]
omit hn in
theorem bound_exact {m y : List Int} (hy : SmallX y) (hl : m.length = N * N) (h : ExactM N m y) {i j : Nat} (hi : i < N) (hj : j < N) {c : Int} (hc : near c = apartX y i j) : ExactM N (boundM N i j c m) y := fun a b ha hb => by
  rw [boundM_G (by omega) hl hi hj c ha hb]
  have k := h i j hi hj
  have hs := apart_small hy i j
  split
  · rename_i e
    right
    rcases e with ⟨rfl, rfl⟩ | ⟨rfl, rfl⟩
    · omega
    · rw [apartX_nx]; omega
  · exact h a b ha hb
omit hn in
theorem bound_hit {m y : List Int} (hy : SmallX y) (hl : m.length = N * N) (h : ExactM N m y) {i j : Nat} (hi : i < N) (hj : j < N) {c : Int} (hc : near c = apartX y i j) : G N (boundM N i j c m) i j = apartX y i j ∧ G N (boundM N i j c m) (nx j) (nx i) = apartX y i j := by
  have k := h i j hi hj
  have hs := apart_small hy i j
  rw [boundM_G (by omega) hl hi hj c hi hj, boundM_G (by omega) hl hi hj c (nxl (by omega) hj) (nxl (by omega) hi), if_pos (.inl ⟨rfl, rfl⟩), if_pos (.inr ⟨rfl, rfl⟩)]
  omega
omit hn in
theorem bound_fin {m : List Int} (hl : m.length = N * N) {i j : Nat} (hi : i < N) (hj : j < N) {c : Int} (_hm : ∀ a b : Nat, a < N → b < N → G N m a b ≤ 9223372036854775807) {a b : Nat} (ha : a < N) (hb : b < N) (h : G N m a b ≠ 9223372036854775807) : G N (boundM N i j c m) a b ≠ 9223372036854775807 ∨ ((a = i ∧ b = j) ∨ (a = nx j ∧ b = nx i)) := by
  rw [boundM_G (by omega) hl hi hj c ha hb]
  split
  · exact .inr ‹_›
  · exact .inl h
/-- A variable bound to another one's side. -/
theorem pt_link (hy : SmallX x) (hl : (x.length : Int) = n) {d j : Nat} (hd : (d : Int) < n) (hj : (j : Int) < 2 * n) (hne : j / 2 ≠ d) {k : Int} (hk : SmallX (x.set d (sideX x j + k))) : linkO (ptO n x) (2 * d) j k = ptO n (x.set d (sideX x j + k)) := by
  have hN2 : N % 2 = 0 := by omega
  have hNN : (2 * n).toNat = N := by omega
  have e1 : apartX (x.set d (sideX x j + k)) (2 * d) j = k := by unfold apartX; rw [sideX_new _ _ _ (by omega), sideX_far _ _ _ hne]; omega
  have e2 : apartX (x.set d (sideX x j + k)) j (2 * d) = -k := by unfold apartX at *; omega
  have s1 := apart_small hk (2 * d) j
  rw [e1] at s1
  have n1 : near k = k := by unfold near; rw [if_neg (by omega), if_neg (by omega)]
  have n2 : near (-k) = -k := by unfold near; rw [if_neg (by omega), if_neg (by omega)]
  generalize hyy : x.set d (sideX x j + k) = y at *
  have x1 : ExactM N (forgetM N d (ptM N x)) y := by rw [← hyy]; exact forget_exact hy d _
  have c1 := forgetM_cells (v := d) hN2 (ptM_cells hN2 hy)
  have l1 := c1.len
  have hi : 2 * d < N := by omega
  have hj' : j < N := by omega
  have x2 := bound_exact hN hk l1 x1 hi hj' (c := k) (by rw [n1, e1])
  have h2 := bound_hit hN hk l1 x1 hi hj' (c := k) (by rw [n1, e1])
  have c2 := boundM_cells hN2 c1 hi hj' (by omega) k
  have x3 := bound_exact hN hk c2.len x2 hj' hi (c := -k) (by rw [n2, e2])
  have h3 := bound_hit hN hk c2.len x2 hj' hi (c := -k) (by rw [n2, e2])
  have c3 := boundM_cells hN2 c2 hj' hi (by omega) (-k)
  unfold linkO
  rw [show 2 * d / 2 = d by omega, pt_forget hN hn hy d]
  have w1 : withO ⟨n, false, forgetM N d (ptM N x)⟩ (2 * d) j k = ⟨n, false, boundM N (2 * d) j k (forgetM N d (ptM N x))⟩ := by
    unfold withO; rw [if_neg (by simp), if_neg (by omega)]; dsimp only; rw [hNN]
  have w2 : withO ⟨n, false, boundM N (2 * d) j k (forgetM N d (ptM N x))⟩ j (2 * d) (-k) = ⟨n, false, boundM N j (2 * d) (-k) (boundM N (2 * d) j k (forgetM N d (ptM N x)))⟩ := by
    unfold withO; rw [if_neg (by simp), if_neg (by omega)]; dsimp only; rw [hNN]
  rw [w1, w2, close_pt hN hn hk c3 x3]
  · unfold ptO; rw [hNN]
  · intro ys ht hx hf
    have tops : ∀ (m : List Int), Cells N m → ∀ a b : Nat, a < N → b < N → G N m a b ≤ 9223372036854775807 := fun m hm a b ha hb => bnd_top (hm.b ha hb)
    have far : ∀ a b : Nat, a < N → b < N → a / 2 ≠ d → b / 2 ≠ d → G N ys a b ≠ 9223372036854775807 := fun a b ha hb q1 q2 => by
      refine hf a b ha hb ?_
      have g1 : G N (forgetM N d (ptM N x)) a b ≠ 9223372036854775807 := by
        rw [forgetM_G (ptM_len _ _) ha hb, if_neg (by omega), ptM_G x ha hb]
        exact apart_fin hy a b
      rcases bound_fin hN l1 hi hj' (c := k) (tops _ c1) ha hb g1 with g2 | g2
      · rcases bound_fin hN c2.len hj' hi (c := -k) (tops _ c2) ha hb g2 with g3 | g3
        · exact g3
        · exfalso; rcases g3 with g3 | g3
          · apply q2; rw [g3.2]; omega
          · apply q1; rw [g3.1, nx_half]; omega
      · exfalso; rcases g2 with g3 | g3
        · apply q1; rw [g3.1]; omega
        · apply q2; rw [g3.2, nx_half]; omega
    have hnj := nxl hN2 hj'
    have hnd : nx (2 * d) = 2 * d + 1 := by unfold nx; rw [if_pos (by omega)]
    have f1 : G N ys j (2 * d) ≠ 9223372036854775807 := hf _ _ hj' hi (by rw [h3.1]; exact apart_fin hk _ _)
    have f2 : G N ys (nx (2 * d)) (nx j) ≠ 9223372036854775807 := hf _ _ (nxl hN2 hi) hnj (by rw [h3.2]; exact apart_fin hk _ _)
    have f3 : G N ys (2 * d) j ≠ 9223372036854775807 := hf _ _ hi hj' (by
      rw [boundM_G hN2 c2.len hj' hi _ hi hj']
      split
      · rw [n2]; rcases bnd (c2.b hj' hi) with q | q <;> omega
      · rw [h2.1]; exact apart_fin hk _ _)
    have f4 : G N ys (nx j) (nx (2 * d)) ≠ 9223372036854775807 := by
      have := ht.cells.sym (2 * d) j hi hj'
      rw [← this]; exact f3
    -- each side has a finite way to a side of another variable, and back
    have reach : ∀ a, a < N → ∃ r, r < N ∧ r / 2 ≠ d ∧ G N ys a r ≠ 9223372036854775807 ∧ G N ys r a ≠ 9223372036854775807 := fun a ha => by
      by_cases q : a / 2 = d
      · by_cases q2 : a = 2 * d
        · subst q2; exact ⟨j, hj', hne, f3, f1⟩
        · have : a = nx (2 * d) := by rw [hnd]; omega
          subst this; exact ⟨nx j, hnj, by rw [nx_half]; exact hne, f2, f4⟩
      · exact ⟨a, ha, q, by rw [ht.cells.d ha]; omega, by rw [ht.cells.d ha]; omega⟩
    intro a b ha hb
    obtain ⟨r, hr, r1, r2, _⟩ := reach a ha
    obtain ⟨s, hs, s1, _, s3⟩ := reach b hb
    exact ht.way ha hs hb (ht.way ha hr hs r2 (far r s hr hs r1 s1)) s3
end
end
section
open Go.RowKit

theorem near_leM {a b : Int} (h : a ≤ b) : near a ≤ near b := by
  unfold near
  split <;> split <;> (try split) <;> (try split) <;> omega
theorem near_most (a : Int) : near a ≤ 9223372036854775807 := by
  unfold near
  split
  · omega
  · split <;> omega
theorem plus_le {a b c d : Int} (h : a ≤ b) (k : c ≤ d) : plus a c ≤ plus b d := by
  have h1 := near_leM h
  have h2 := near_leM k
  have h3 := near_most b
  have h4 := near_most d
  unfold plus
  by_cases e : near b = 9223372036854775807 ∨ near d = 9223372036854775807
  · rw [if_pos e]
    split
    · exact Int.le_refl _
    · exact near_most _
  · rw [if_neg e, if_neg (by omega)]
    exact near_leM (by omega)
theorem low_through {f : Nat → List Int → List Int} (h : ∀ i x, Low (f i x) x) (x : List Int) (j : Nat) : ∀ t, j < t → Low (rep f t x) (f j (rep f j x))
  | t + 1, ht => by
    by_cases e : j = t
    · subst e; exact Low.refl _
    · exact (h t _).trans (low_through h x j t (by omega))
/-- A negative way there and back is found. -/
theorem closeM_neg {N : Nat} {m : List Int} (hl : m.length = N * N) (hb : AllB m) {i j : Nat} (hi : i < N) (hj : j < N) (h : plus (G N m i j) (G N m j i) < 0) : closeM N m = none := by
  have lrow : ∀ k i t x, Low (pRow N k i t x) x := fun k i t x => Low.rep (fun j x => pStep_low N k i j x) t x
  have lmat : ∀ k t x, Low (pMat N k t x) x := fun k t x => Low.rep (fun i x => lrow k i N x) t x
  have t1 : Low (paths N N m) (pMat N j N (paths N j m)) := low_through (f := fun k => pMat N k N) (fun k x => lmat k N x) m j N hj
  have t2 : Low (pMat N j N (paths N j m)) (pRow N j i N (pMat N j i (paths N j m))) := low_through (f := fun i => pRow N j i N) (fun i x => lrow j i N x) _ i N hi
  have t3 : Low (pRow N j i N (pMat N j i (paths N j m))) (pStep N j i i (pRow N j i i (pMat N j i (paths N j m)))) := low_through (f := fun q => pStep N j i q) (fun q x => pStep_low N j i q x) _ i N hi
  have t0 : Low (pRow N j i i (pMat N j i (paths N j m))) m := (lrow j i i _).trans ((lmat j i _).trans (paths_low N j m))
  generalize hz : pRow N j i i (pMat N j i (paths N j m)) = z at *
  have lz := t0.len.trans hl
  have bz := t0.all hb
  have e1 : G N (pStep N j i i z) i i ≤ plus (G N z i j) (G N z j i) := by
    unfold pStep
    rw [G_set lz hi hi _ hi, if_pos ⟨rfl, rfl⟩]
    exact Int.min_le_right _ _
  have e2 : plus (G N z i j) (G N z j i) ≤ plus (G N m i j) (G N m j i) := plus_le (t0.le hb (i * N + j)) (t0.le hb (j * N + i))
  have bs := (pStep_low N j i i z).all bz
  have t := (t1.trans (t2.trans t3))
  have e3 := t.le bs (i * N + i)
  have lm := mirrors_low N N (paths N N m)
  have e4 := lm.le (t.all bs) (i * N + i)
  have hneg : negs N (mirrors N N (paths N N m)) N = true := by
    have hd : decide (gI (mirrors N N (paths N N m)) ((i * N + i : Nat) : Int) < 0) = true := by
      rw [decide_eq_true_eq]
      unfold G at *; omega
    have key : ∀ t, i < t → negs N (mirrors N N (paths N N m)) t = true := by
      intro t
      induction t with
      | zero => intro h; omega
      | succ t ih =>
        intro h
        unfold negs
        by_cases e : i = t
        · subst e; rw [hd]; simp
        · rw [ih (by omega)]; rfl
    exact key N hi
  unfold closeM
  rw [if_pos hneg]

/-- An octagon that closing finds empty. -/
def BadO (n : Int) (o : O) : Prop := o = emptyO n ∨ ∃ (N : Nat) (m : List Int) (i j : Nat), (N : Int) = 2 * n ∧ N ≤ 128 ∧ o = ⟨n, false, m⟩ ∧ Cells N m ∧ i < N ∧ j < N ∧ plus (G N m i j) (G N m j i) < 0
theorem BadO.close {n : Int} {o : O} (h : BadO n o) : closeO o = emptyO n := by
  rcases h with rfl | ⟨N, m, i, j, hN, hn, rfl, hc, hi, hj, hs⟩
  · exact closeO_e rfl
  · refine closeO_none ?_
    rw [show (2 * n).toNat = N by omega]
    exact closeM_neg hc.len (cells_all hN hn hc) hi hj hs
theorem BadO.with_ {n : Int} {o : O} (h : BadO n o) {i j : Nat} (hi : (i : Int) < 2 * n) (hj : (j : Int) < 2 * n) (c : Int) : BadO n (withO o i j c) := by
  rcases h with rfl | ⟨N, m, a, b, hN, hn, rfl, hc, ha, hb, hs⟩
  · exact .inl rfl
  · unfold withO
    rw [if_neg (by simp)]
    split
    · split
      · exact .inl rfl
      · exact .inr ⟨N, m, a, b, hN, hn, rfl, hc, ha, hb, hs⟩
    · rename_i q
      dsimp only
      rw [show (2 * n).toNat = N by omega]
      refine .inr ⟨N, _, a, b, hN, hn, rfl, boundM_cells (by omega) hc (by omega) (by omega) q c, ha, hb, Int.lt_of_le_of_lt (plus_le ?_ ?_) hs⟩
      · rw [boundM_G (by omega) hc.len (by omega) (by omega) c ha hb]
        split
        · rename_i e
          rcases e with ⟨rfl, rfl⟩ | ⟨rfl, rfl⟩
          · exact Int.min_le_left _ _
          · rw [← hc.sym i j (by omega) (by omega)]; exact Int.min_le_left _ _
        · exact Int.le_refl _
      · rw [boundM_G (by omega) hc.len (by omega) (by omega) c hb ha]
        split
        · rename_i e
          rcases e with ⟨rfl, rfl⟩ | ⟨rfl, rfl⟩
          · exact Int.min_le_left _ _
          · rw [← hc.sym i j (by omega) (by omega)]; exact Int.min_le_left _ _
        · exact Int.le_refl _
theorem BadO.hi_ {n : Int} {o : O} (h : BadO n o) {v : Nat} (hv : (v : Int) < n) (r : Rg) : BadO n (hiO o v r) := by
  unfold hiO
  split
  · exact h.with_ (by omega) (by omega) _
  · exact h
theorem BadO.ranged {n : Int} {o : O} (h : BadO n o) {v : Nat} (hv : (v : Int) < n) (r : Rg) : BadO n (rangedO o v r) := by
  unfold rangedO
  split
  · exact (h.hi_ hv r).with_ (by omega) (by omega) _
  · exact h.hi_ hv r
theorem BadO.n_ {n : Int} {o : O} (h : BadO n o) : o.n = n := by rcases h with rfl | ⟨N, m, i, j, hN, hn, rfl, _⟩ <;> rfl
theorem BadO.atMost {n : Int} {o : O} (h : BadO n o) {av an bv bn : Int} {s : Bool} (ha : av < n) (hb : bv < n) (hab : 0 ≤ av ∨ 0 ≤ bv) : BadO n (atMostO o av an bv bn s) := by
  unfold atMostO
  rw [h.n_]
  split
  · split
    · split
      · split
        · exact .inl rfl
        · exact h
      · exact h.with_ (by omega) (by omega) _
    · split
      · exact .inl rfl
      · exact h.ranged (by omega) _
  · split
    · exact .inl rfl
    · exact h.ranged (by omega) _
section
variable {n : Int} {N : Nat} {x : List Int} (hN : (N : Int) = 2 * n) (hn : N ≤ 128)
include hN hn
end
end
section
open Go.RowKit
attribute [local go_sem ↓] Go.wp_at_zero Go.wp_at_succ

set_option maxRecDepth 8000 in
set_option maxHeartbeats 2000000 in
theorem tequals_ok (o : O) (ok : check o = 0) (d j : Nat) (hd : (d : Int) < o.n) (hj : (j : Int) < 2 * o.n) (A : Option Addr) (cap : Nat) (w : World) (hx : Rd w w.heap.size A o.m) (hm : o.m.length ≤ 17592186044416) :
    Calls Tryz.prog 134 #[.agg #[.int .i64 o.n, .bool o.e, .slice A o.m.length cap], .int .i64 (d : Int), .int .i64 (j : Int)] w (OctOwn w (linkO o (2 * d) j 0)) := by
  have okF : OkO o.n (forgetO o d) := OkO.forget ⟨rfl, ok⟩ d
  have okP : OkO o.n (withO (forgetO o d) (2 * d) j 0) := okF.with_ (by omega) hj _
  have okQ : OkO o.n (withO (withO (forgetO o d) (2 * d) j 0) j (2 * d) 0) := okP.with_ hj (by omega) _
  have hmF := OkO.small okF
  have hmP := OkO.small okP
  have hmQ := OkO.small okQ
  have HF := hid (fun W (h : Rd W W.heap.size A o.m) => tforgets_ok o ok d hd A cap W h hm)
  have HG := hid (show linkO o (2 * d) j 0 = closeO (withO (withO (forgetO o d) (2 * d) j 0) j (2 * d) 0) by unfold linkO; rw [show 2 * d / 2 = d by omega]; try rfl)
  generalize linkO o (2 * d) j 0 = G at *
  have HL1 := hid (fun A c W h => limits_ok o.n (forgetO o d) okF (2 * d) j (by omega) hj 0 A c W h hmF)
  generalize forgetO o d = F at *
  have HL2 := hid (fun A c W h => limits_ok o.n (withO F (2 * d) j 0) okP j (2 * d) hj (by omega) 0 A c W h hmP)
  generalize withO F (2 * d) j 0 = P at *
  have HCL := hid (fun A c W h => tclosed_ok (withO P j (2 * d) 0) okQ.ok A c W h hmQ)
  rw [← HG.out] at HCL
  generalize withO P j (2 * d) 0 = Q at *
  have HP := hid (fun W => (plus_ok d (by have := okF.rng; omega) W : Calls Tryz.prog 135 #[.int .i64 (d : Int)] W (IntRes ((2 * d : Nat) : Int) W)))
  have e2 : ((2 * d : Nat) : Int) = 2 * (d : Int) := by simp
  rw [e2] at HP HL1 HL2
  clear HG okF okP okQ
  obtain ⟨p0, p1, hb0, hsz⟩ := new_two w #[.int .i64 o.n, .bool o.e, .slice A o.m.length cap] #[.int .i64 0, .bool false, .slice none 0 0] 24 24
  replace hx := hx.up hb0
  have HSZ := hid hsz
  clear hsz
  obtain ⟨p0_0, p0_1, p0_2, p0_f⟩ := octbox p0
  go_enter Tryz.func134, Tryz.ntmps134
  go_wp2_with fail
  clear p0_0 p0_1 p0_2 p0_f
  generalize (w.alloc (Obj.cells #[.int .i64 o.n, .bool o.e, .slice A o.m.length cap] 24)).alloc (Obj.cells #[.int .i64 0, .bool false, .slice none 0 0] 24) = w1 at *
  (with_reducible refine (HF.out w1 hx).mono ?_)
  rintro e_w2 w2 ⟨A1, c1, rfl, own1, hb_w2⟩
  replace p0 := p0.later hb_w2
  replace p1 := p1.later hb_w2
  replace hx := hx.up hb_w2
  replace hb0 := bup hb0 hb_w2
  clear hx
  go_wp2_with fail
  (with_reducible refine (HP.out w2).mono ?_)
  rintro e_w3 w3 ⟨rfl, rfl⟩
  go_wp2_with fail
  (with_reducible refine (HL1.out A1 c1 w2 own1.rd).mono ?_)
  rintro e_w4 w4 ⟨A2, c2, rfl, own2, hb_w4⟩
  replace p0 := p0.later hb_w4
  replace p1 := p1.later hb_w4
  replace hb0 := bup hb0 hb_w4
  clear own1
  have hg2 : w.heap.size + 2 ≤ w4.heap.size := by have := hb0.size; have := p1.lt; omega
  have hw2 := hb0.size
  have rd2 := own2.rd
  clear own2
  obtain ⟨p2, hbn, -⟩ := new_one w4 #[.int .i64 P.n, .bool P.e, .slice A2 P.m.length c2] 24
  replace p0 := p0.later hbn
  replace p1 := p1.later hbn
  replace rd2 := rd2.up hbn
  replace hb0 := bup hb0 hbn
  go_upto_region 2 with fail
  generalize w4.alloc (Obj.cells #[.int .i64 P.n, .bool P.e, .slice A2 P.m.length c2] 24) = w5 at *
  have f0 := laterE (show w5.cell? ⟨w4.heap.size, 0, none⟩ = some (.int .i64 P.n) from p2.cell 0)
  have f1 := laterE (show w5.cell? ⟨w4.heap.size, 1, none⟩ = some (.bool P.e) from p2.cell 1)
  have f2 := laterE (show w5.cell? ⟨w4.heap.size, 2, none⟩ = some (.slice A2 P.m.length c2) from p2.cell 2)
  refine wp_region_flowE 4 [Sp.val (.agg #[.int .i64 P.n, .bool P.e, .slice A2 P.m.length c2]), Sp.val (.int .i64 (j : Int)), Sp.val (.int .i64 (d : Int)), Sp.val (.int .i64 (2 * (d : Int)))] (by kernel_rfl) (by kernel_rfl) ?_
  (refine FlowE.take (by rfl) (fun W hW R hR => ?_) (fun _ _ => ?_); (go_simp; (try go_bits); with_reducible exact hR); simp only [Act.put, List.setIfInBounds_toArray, List.set_cons_zero, List.set_cons_succ])
  (refine FlowE.take (by rfl) (fun W hW R hR => ?_) (fun _ _ => ?_); (go_simp; (try go_bits); with_reducible exact hR); simp only [Act.put, List.setIfInBounds_toArray, List.set_cons_zero, List.set_cons_succ])
  (refine FlowE.take (by rfl) (fun W hW R hR => ?_) (fun _ _ => ?_); (go_simp; (try go_bits); with_reducible exact hR); simp only [Act.put, List.setIfInBounds_toArray, List.set_cons_zero, List.set_cons_succ])
  refine FlowE.callFV (by rfl) (fun W hW hf => ⟨135, #[.int .i64 (d : Int)], by go_simp, (HP.out W).mono fun e w2 ⟨he, hw⟩ => ⟨he, hw ▸ Ext.refl W⟩⟩) (fun _ _ => ?_)
  simp only [Act.put, List.setIfInBounds_toArray, List.set_cons_zero, List.set_cons_succ]
  refine FlowE.tail (fun W hW hf hd => ?_)
  replace hW : Below w5.heap.size w5 W := Ext.trans (Below.refl _ _).drew hW
  clear hf hd f0 f1 f2
  replace p0 := p0.later hW
  replace p1 := p1.later hW
  replace p2 := p2.later hW
  replace rd2 := rd2.up hW
  replace hb0 := bup hb0 hW
  go_wp2_with fail
  (with_reducible refine (HL2.out A2 c2 W rd2).mono ?_)
  rintro e_w6 w6 ⟨A3, c3, rfl, own3, hb_w6⟩
  have rd3 := own3.rd
  clear own3
  replace p0 := p0.later hb_w6
  replace p1 := p1.later hb_w6
  replace p2 := p2.later hb_w6
  replace rd2 := rd2.up hb_w6
  replace hb0 := bup hb0 hb_w6
  clear rd2
  go_wp2_with fail
  have hle3 := hb0.size
  (with_reducible refine (HCL.out A3 c3 w6 rd3).mono ?_)
  rintro e_w7 w7 ⟨A4, c4, rfl, own4, hb_w7⟩
  replace p0 := p0.later hb_w7
  replace p1 := p1.later hb_w7
  replace p2 := p2.later hb_w7
  replace rd3 := rd3.up hb_w7
  replace hb0 := bup hb0 hb_w7
  obtain ⟨p1_0, p1_1, p1_2, p1_f⟩ := octbox p1
  go_wp2
  clear p1_0 p1_1 p1_2 p1_f
  have o9 := own4.far3 (g := w.heap.size + 1) (v0 := .int .i64 G.n) (v1 := .bool G.e) (v2 := .slice A4 G.m.length c4) (own_blk' own4 p1 (by decide))
  have q9 := p1.set3 (v0 := .int .i64 G.n) (v1 := .bool G.e) (v2 := .slice A4 G.m.length c4)
  have hb9 := hb0.trans (below3 (W := w7) (g := w.heap.size + 1) (v0 := .int .i64 G.n) (v1 := .bool G.e) (v2 := .slice A4 G.m.length c4) (by omega) hb0.size)
  obtain ⟨z0, z1, z2, fz⟩ := octbox q9
  refine bodyPost_ret (v := .agg #[.int .i64 G.n, .bool G.e, .slice A4 G.m.length c4]) (by simp [results, Tryz.results134, go_sem, z0, z1, z2]) rfl ?_
  exact ⟨_, _, rfl, o9.less hle3, hb9⟩

set_option maxRecDepth 8000 in
set_option maxHeartbeats 2000000 in
theorem tshift_big (o : O) (ok : check o = 0) (d : Nat) (hd : (d : Int) < o.n) (y k : Int) (hk : k < -2305843009213693952 ∨ 2305843009213693952 < k) (A : Option Addr) (cap : Nat) (w : World) (hx : Rd w w.heap.size A o.m) (hm : o.m.length ≤ 17592186044416) :
    Calls Tryz.prog 197 #[.agg #[.int .i64 o.n, .bool o.e, .slice A o.m.length cap], .int .i64 (d : Int), .int .i64 y, .int .i64 k] w (OctOwn w (forgetO o d)) := by
  have HF := hid (fun W (h : Rd W W.heap.size A o.m) => tforgets_ok o ok d hd A cap W h hm)
  generalize forgetO o d = F at *
  have HH := hid hk
  clear hk
  obtain ⟨p0, p3, p1, hb0, hsz⟩ := new_three w #[.int .i64 o.n, .bool o.e, .slice A o.m.length cap] #[.int .i64 (d : Int)] #[.int .i64 0, .bool false, .slice none 0 0] 24 3 24
  replace hx := hx.up hb0
  clear hsz
  have pd := p3.cell 0
  obtain ⟨p0_0, p0_1, p0_2, p0_f⟩ := octbox p0
  by_cases t1 : 2305843009213693952 < k
  · have t3 : decide (2305843009213693952 < k) = true := decide_eq_true t1
    clear t1
    go_enter Tryz.func197, Tryz.ntmps197
    go_wp2_with fail
    clear pd
    clear p0_0 p0_1 p0_2 p0_f
    generalize ((w.alloc (Obj.cells #[.int .i64 o.n, .bool o.e, .slice A o.m.length cap] 24)).alloc (Obj.cells #[.int .i64 (d : Int)] 3)).alloc (Obj.cells #[.int .i64 0, .bool false, .slice none 0 0] 24) = w1 at *
    have hle := hb0.size
    (with_reducible refine (HF.out w1 hx).mono ?_)
    rintro e_w2 w2 ⟨A1, c1, rfl, own1, hb_w2⟩
    replace p0 := p0.later hb_w2
    replace p3 := p3.later hb_w2
    replace p1 := p1.later hb_w2
    replace hx := hx.up hb_w2
    replace hb0 := bup hb0 hb_w2
    obtain ⟨p1_0, p1_1, p1_2, p1_f⟩ := octbox p1
    go_wp2
    clear p1_0 p1_1 p1_2 p1_f
    have o9 := own1.far3 (g := w.heap.size + 2) (v0 := .int .i64 F.n) (v1 := .bool F.e) (v2 := .slice A1 F.m.length c1) (own_blk' own1 p1 (by decide))
    have q9 := p1.set3 (v0 := .int .i64 F.n) (v1 := .bool F.e) (v2 := .slice A1 F.m.length c1)
    have hb9 := hb0.trans (below3 (W := w2) (g := w.heap.size + 1 + 1) (v0 := .int .i64 F.n) (v1 := .bool F.e) (v2 := .slice A1 F.m.length c1) (by omega) hb0.size)
    obtain ⟨z0, z1, z2, fz⟩ := octbox q9
    refine bodyPost_ret (v := .agg #[.int .i64 F.n, .bool F.e, .slice A1 F.m.length c1]) (by simp [results, Tryz.results197, go_sem, z0, z1, z2]) rfl ?_
    exact ⟨_, _, rfl, o9.less hle, hb9⟩
  · have t3 : decide (2305843009213693952 < k) = false := decide_eq_false t1
    have t4 : decide (k < -2305843009213693952) = true := by rw [decide_eq_true_eq]; have := HH.out; omega
    clear t1
    go_enter Tryz.func197, Tryz.ntmps197
    go_wp2_with fail
    clear pd
    clear p0_0 p0_1 p0_2 p0_f
    generalize ((w.alloc (Obj.cells #[.int .i64 o.n, .bool o.e, .slice A o.m.length cap] 24)).alloc (Obj.cells #[.int .i64 (d : Int)] 3)).alloc (Obj.cells #[.int .i64 0, .bool false, .slice none 0 0] 24) = w1 at *
    have hle := hb0.size
    (with_reducible refine (HF.out w1 hx).mono ?_)
    rintro e_w2 w2 ⟨A1, c1, rfl, own1, hb_w2⟩
    replace p0 := p0.later hb_w2
    replace p3 := p3.later hb_w2
    replace p1 := p1.later hb_w2
    replace hx := hx.up hb_w2
    replace hb0 := bup hb0 hb_w2
    obtain ⟨p1_0, p1_1, p1_2, p1_f⟩ := octbox p1
    go_wp2
    clear p1_0 p1_1 p1_2 p1_f
    have o9 := own1.far3 (g := w.heap.size + 2) (v0 := .int .i64 F.n) (v1 := .bool F.e) (v2 := .slice A1 F.m.length c1) (own_blk' own1 p1 (by decide))
    have q9 := p1.set3 (v0 := .int .i64 F.n) (v1 := .bool F.e) (v2 := .slice A1 F.m.length c1)
    have hb9 := hb0.trans (below3 (W := w2) (g := w.heap.size + 1 + 1) (v0 := .int .i64 F.n) (v1 := .bool F.e) (v2 := .slice A1 F.m.length c1) (by omega) hb0.size)
    obtain ⟨z0, z1, z2, fz⟩ := octbox q9
    refine bodyPost_ret (v := .agg #[.int .i64 F.n, .bool F.e, .slice A1 F.m.length c1]) (by simp [results, Tryz.results197, go_sem, z0, z1, z2]) rfl ?_
    exact ⟨_, _, rfl, o9.less hle, hb9⟩
end
end Go.Proofs.YtnmpgijiimglcaaGreat
