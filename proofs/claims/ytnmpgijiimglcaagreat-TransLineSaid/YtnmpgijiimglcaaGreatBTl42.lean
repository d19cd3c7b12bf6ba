import Derived.Test.YtnmpgijiimglcaaGreatBTl32
import Derived.Test.YtnmpgijiimglcaaGreatBTl26
import Derived.Test.YtnmpgijiimglcaaGreatBTl41
import Derived.Test.YtnmpgijiimglcaaGreatBTl22
namespace Go.Proofs.YtnmpgijiimglcaaGreat
section
open Go.RowKit
set_option maxRecDepth 100000
set_option maxHeartbeats 8000000
theorem does_behind {ls : List (List Int)} {e : Edg} {xs : List Int} {input : Int} (h : (doesW ls e xs input).1 = 0) (h12 : e.kd = 12 → cmpB e.op (opdX xs e.av e.an) (opdX xs e.bv e.bn) = true) : Behind e xs (doesW ls e xs input).2 := by
 have h14 : e.kd ≠ 14 := fun q => by
  unfold doesW at h
  rw [if_neg (by omega), if_neg (by omega), if_neg (by omega), if_neg (by omega), if_neg (by omega), if_pos q] at h
  cases h
 refine ⟨h14, h12, ?_⟩
 unfold doesW at h ⊢
 by_cases k2 : e.kd = 2
 ·rw [if_pos k2, if_neg (by omega), if_pos k2]
 rw [if_neg k2] at h ⊢
 by_cases k9 : e.kd = 9
 ·rw [if_pos k9, if_pos (.inl k9)]; exact ⟨_, rfl⟩
 rw [if_neg k9] at h ⊢
 by_cases k3 : 3 ≤ e.kd ∧ e.kd ≤ 8
 ·rw [if_pos k3] at h ⊢
  rw [if_neg (by omega), if_neg k2, if_pos k3]
  by_cases w : (kindW e.kd (opdX xs e.av e.an) (opdX xs e.bv e.bn)).2 = 0
  ·rw [if_pos w]; exact ⟨w, rfl⟩
  ·rw [if_neg w] at h; exact absurd h w
 rw [if_neg k3] at h ⊢
 by_cases k10 : e.kd = 10
 ·rw [if_pos k10] at h ⊢
  rw [if_pos (.inr k10)]
  split at h
  ·rename_i q; rw [if_pos q]; exact ⟨_, rfl⟩
  ·cases h
 rw [if_neg k10] at h ⊢
 rw [if_neg (by omega), if_neg k2, if_neg k3]
 repeat' split
 all_goals rfl
end
section
open Go.RowKit
set_option maxRecDepth 100000
set_option maxHeartbeats 8000000
def ptO (n : Int) (y : List Int) : O := ⟨n, false, ptM (2 * n).toNat y⟩
theorem Tight.way {N : Nat} {m : List Int} (h : Tight N m) {a b c : Nat} (ha : a < N) (hb : b < N) (hc : c < N) (h1 : G N m a b ≠ 9223372036854775807) (h2 : G N m b c ≠ 9223372036854775807) : G N m a c ≠ 9223372036854775807 :=
  (leS_1 (h.tri a c b ha hc hb) h1 h2).2
theorem ptM_exact {N : Nat} (y : List Int) : ExactM N (ptM N y) y := fun _ _ ha hb => .inr (ptM_G y ha hb)
theorem apart_fin {y : List Int} (hy : SmallX y) (a b : Nat) : apartX y a b ≠ 9223372036854775807 := by have := apart_small hy a b; omega
section
variable {n : Int} {N : Nat} {x : List Int} (hN : (N : Int) = 2 * n) (hn : N ≤ 128)
include hN hn
theorem pt_close (hy : SmallX x) : closeO (ptO n x) = ptO n x := by
  unfold ptO
  rw [show (2 * n).toNat = N by omega]
  refine close_pt hN hn hy (ptM_cells (by omega) hy) (ptM_exact x) fun ys _ _ hf a b ha hb => hf a b ha hb ?_
  rw [ptM_G x ha hb]
  exact apart_fin hy a b
theorem pt_ok (hy : SmallX x) : OkO n (ptO n x) := by
  unfold ptO
  rw [show (2 * n).toNat = N by omega]
  exact OkO.of_cells hN hn (ptM_cells (by omega) hy)
theorem pt_forget (hy : SmallX x) (d : Nat) : forgetO (ptO n x) d = ⟨n, false, forgetM N d (ptM N x)⟩ := by
  unfold forgetO
  rw [pt_close hN hn hy]
  unfold ptO
  rw [if_neg (by simp)]
  dsimp only
  rw [show (2 * n).toNat = N by omega]
omit hN hn in
theorem forget_exact (_hy : SmallX x) (d : Nat) (u : Int) : ExactM N (forgetM N d (ptM N x)) (x.set d u) := fun a b ha hb => by
  rw [forgetM_G (ptM_len _ _) ha hb]
  split
  · exact .inl rfl
  · rename_i q
    right
    rw [ptM_G x ha hb]
    by_cases e : a = b
    · subst e; unfold apartX; omega
    · unfold apartX
      rw [sideX_far _ _ _ (fun k => q ⟨e, .inl k⟩), sideX_far _ _ _ (fun k => q ⟨e, .inr k⟩)]
omit hn in
theorem bound_exact {m y : List Int} (hy : SmallX y) (hl : m.length = N * N) (h : ExactM N m y) {i j : Nat} (hi : i < N) (hj : j < N) {c : Int} (hc : near c = apartX y i j) : ExactM N (boundM N i j c m) y := fun a b ha hb => by
  rw [boundM_G (by omega) hl hi hj c ha hb]
  have k := h i j hi hj
  have hs := apart_small hy i j
  split
  · rename_i e
    right
    rcases e with ⟨rfl, rfl⟩ | ⟨rfl, rfl⟩
    · omega
    · rw [apartX_nx]; omega
  · exact h a b ha hb
omit hn in
theorem bound_hit {m y : List Int} (hy : SmallX y) (hl : m.length = N * N) (h : ExactM N m y) {i j : Nat} (hi : i < N) (hj : j < N) {c : Int} (hc : near c = apartX y i j) : G N (boundM N i j c m) i j = apartX y i j ∧ G N (boundM N i j c m) (nx j) (nx i) = apartX y i j := by
  have k := h i j hi hj
  have hs := apart_small hy i j
  rw [boundM_G (by omega) hl hi hj c hi hj, boundM_G (by omega) hl hi hj c (nxl (by omega) hj) (nxl (by omega) hi), if_pos (.inl ⟨rfl, rfl⟩), if_pos (.inr ⟨rfl, rfl⟩)]
  omega
omit hn in
theorem bound_fin {m : List Int} (hl : m.length = N * N) {i j : Nat} (hi : i < N) (hj : j < N) {c : Int} (_hm : ∀ a b : Nat, a < N → b < N → G N m a b ≤ 9223372036854775807) {a b : Nat} (ha : a < N) (hb : b < N) (h : G N m a b ≠ 9223372036854775807) : G N (boundM N i j c m) a b ≠ 9223372036854775807 ∨ ((a = i ∧ b = j) ∨ (a = nx j ∧ b = nx i)) := by
  rw [boundM_G (by omega) hl hi hj c ha hb]
  split
  · exact .inr ‹_›
  · exact .inl h
theorem pt_link (hy : SmallX x) (hl : (x.length : Int) = n) {d j : Nat} (hd : (d : Int) < n) (hj : (j : Int) < 2 * n) (hne : j / 2 ≠ d) {k : Int} (hk : SmallX (x.set d (sideX x j + k))) : linkO (ptO n x) (2 * d) j k = ptO n (x.set d (sideX x j + k)) := by
  have hN2 : N % 2 = 0 := by omega
  have hNN : (2 * n).toNat = N := by omega
  have e1 : apartX (x.set d (sideX x j + k)) (2 * d) j = k := by unfold apartX; rw [sideX_new _ _ _ (by omega), sideX_far _ _ _ hne]; omega
  have e2 : apartX (x.set d (sideX x j + k)) j (2 * d) = -k := by unfold apartX at *; omega
  have s1 := apart_small hk (2 * d) j
  rw [e1] at s1
  have n1 : near k = k := by unfold near; rw [if_neg (by omega), if_neg (by omega)]
  have n2 : near (-k) = -k := by unfold near; rw [if_neg (by omega), if_neg (by omega)]
  generalize hyy : x.set d (sideX x j + k) = y at *
  have x1 : ExactM N (forgetM N d (ptM N x)) y := by rw [← hyy]; exact forget_exact hy d _
  have c1 := forgetM_cells (v := d) hN2 (ptM_cells hN2 hy)
  have l1 := c1.len
  have hi : 2 * d < N := by omega
  have a0 : j < N := by omega
  have x2 := bound_exact hN hk l1 x1 hi a0 (c := k) (by rw [n1, e1])
  have h2 := bound_hit hN hk l1 x1 hi a0 (c := k) (by rw [n1, e1])
  have c2 := boundM_cells hN2 c1 hi a0 (by omega) k
  have x3 := bound_exact hN hk c2.len x2 a0 hi (c := -k) (by rw [n2, e2])
  have h3 := bound_hit hN hk c2.len x2 a0 hi (c := -k) (by rw [n2, e2])
  have c3 := boundM_cells hN2 c2 a0 hi (by omega) (-k)
  unfold linkO
  rw [show 2 * d / 2 = d by omega, pt_forget hN hn hy d]
  have w1 : withO ⟨n, false, forgetM N d (ptM N x)⟩ (2 * d) j k = ⟨n, false, boundM N (2 * d) j k (forgetM N d (ptM N x))⟩ := by
    unfold withO; rw [if_neg (by simp), if_neg (by omega)]; dsimp only; rw [hNN]
  have w2 : withO ⟨n, false, boundM N (2 * d) j k (forgetM N d (ptM N x))⟩ j (2 * d) (-k) = ⟨n, false, boundM N j (2 * d) (-k) (boundM N (2 * d) j k (forgetM N d (ptM N x)))⟩ := by
    unfold withO; rw [if_neg (by simp), if_neg (by omega)]; dsimp only; rw [hNN]
  rw [w1, w2, close_pt hN hn hk c3 x3]
  · unfold ptO; rw [hNN]
  · intro ys ht hx hf
    have tops : ∀ (m : List Int), Cells N m → ∀ a b : Nat, a < N → b < N → G N m a b ≤ 9223372036854775807 := fun m hm a b ha hb => bnd_top (hm.b ha hb)
    have far : ∀ a b : Nat, a < N → b < N → a / 2 ≠ d → b / 2 ≠ d → G N ys a b ≠ 9223372036854775807 := fun a b ha hb q1 q2 => by
      refine hf a b ha hb ?_
      have g1 : G N (forgetM N d (ptM N x)) a b ≠ 9223372036854775807 := by
        rw [forgetM_G (ptM_len _ _) ha hb, if_neg (by omega), ptM_G x ha hb]
        exact apart_fin hy a b
      rcases bound_fin hN l1 hi a0 (c := k) (tops _ c1) ha hb g1 with g2 | g2
      · rcases bound_fin hN c2.len a0 hi (c := -k) (tops _ c2) ha hb g2 with g3 | g3
        · exact g3
        · exfalso; rcases g3 with g3 | g3
          · apply q2; rw [g3.2]; omega
          · apply q1; rw [g3.1, nx_half]; omega
      · exfalso; rcases g2 with g3 | g3
        · apply q1; rw [g3.1]; omega
        · apply q2; rw [g3.2, nx_half]; omega
    have hnj := nxl hN2 a0
    have a1 : nx (2 * d) = 2 * d + 1 := by unfold nx; rw [if_pos (by omega)]
    have f1 : G N ys j (2 * d) ≠ 9223372036854775807 := hf _ _ a0 hi (by rw [h3.1]; exact apart_fin hk _ _)
    have f2 : G N ys (nx (2 * d)) (nx j) ≠ 9223372036854775807 := hf _ _ (nxl hN2 hi) hnj (by rw [h3.2]; exact apart_fin hk _ _)
    have f3 : G N ys (2 * d) j ≠ 9223372036854775807 := hf _ _ hi a0 (by
      rw [boundM_G hN2 c2.len a0 hi _ hi a0]
      split
      · rw [n2]; rcases bnd (c2.b a0 hi) with q | q <;> omega
      · rw [h2.1]; exact apart_fin hk _ _)
    have f4 : G N ys (nx j) (nx (2 * d)) ≠ 9223372036854775807 := by
      have := ht.cells.sym (2 * d) j hi a0
      rw [← this]; exact f3
    have reach : ∀ a, a < N → ∃ r, r < N ∧ r / 2 ≠ d ∧ G N ys a r ≠ 9223372036854775807 ∧ G N ys r a ≠ 9223372036854775807 := fun a ha => by
      by_cases q : a / 2 = d
      · by_cases q2 : a = 2 * d
        · subst q2; exact ⟨j, a0, hne, f3, f1⟩
        · have : a = nx (2 * d) := by rw [a1]; omega
          subst this; exact ⟨nx j, hnj, by rw [nx_half]; exact hne, f2, f4⟩
      · exact ⟨a, ha, q, by rw [ht.cells.d ha]; omega, by rw [ht.cells.d ha]; omega⟩
    intro a b ha hb
    obtain ⟨r, hr, r1, r2, _⟩ := reach a ha
    obtain ⟨s, hs, s1, _, s3⟩ := reach b hb
    exact ht.way ha hs hb (ht.way ha hr hs r2 (far r s hr hs r1 s1)) s3
theorem pt_give (hy : SmallX x) (hl : (x.length : Int) = n) {d : Nat} (hd : (d : Int) < n) {u : Int} (hk : SmallX (x.set d u)) : giveO (ptO n x) d (oneR u) = ptO n (x.set d u) := by
  have hN2 : N % 2 = 0 := by omega
  have hNN : (2 * n).toNat = N := by omega
  have hi : 2 * d < N := by omega
  have hj : 2 * d + 1 < N := by omega
  have e0 : sideX (x.set d u) (2 * d) = u := sideX_new _ _ _ (by omega)
  have e1 : apartX (x.set d u) (2 * d) (2 * d + 1) = 2 * u := by have := sideX_odd (x.set d u) d; have := sideX_even (x.set d u) d; unfold apartX; omega
  have e2 : apartX (x.set d u) (2 * d + 1) (2 * d) = -(2 * u) := by unfold apartX at *; omega
  have s1 := hk (2 * d)
  rw [e0] at s1
  have n1 : near (twiceB u) = 2 * u := by unfold twiceB near; rw [if_neg (by omega), if_neg (by omega), if_neg (by omega), if_neg (by omega)]
  have n2 : near (twiceB (negB u)) = -(2 * u) := by unfold negB twiceB near; rw [if_neg (by omega), if_neg (by omega), if_neg (by omega), if_neg (by omega), if_neg (by omega)]; omega
  generalize hyy : x.set d u = y at *
  have x1 : ExactM N (forgetM N d (ptM N x)) y := by rw [← hyy]; exact forget_exact hy d _
  have c1 := forgetM_cells (v := d) hN2 (ptM_cells hN2 hy)
  have x2 := bound_exact hN hk c1.len x1 hi hj (c := twiceB u) (by rw [n1, e1])
  have h2 := bound_hit hN hk c1.len x1 hi hj (c := twiceB u) (by rw [n1, e1])
  have c2 := boundM_cells hN2 c1 hi hj (by omega) (twiceB u)
  have x3 := bound_exact hN hk c2.len x2 hj hi (c := twiceB (negB u)) (by rw [n2, e2])
  have h3 := bound_hit hN hk c2.len x2 hj hi (c := twiceB (negB u)) (by rw [n2, e2])
  have c3 := boundM_cells hN2 c2 hj hi (by omega) (twiceB (negB u))
  unfold giveO
  rw [pt_forget hN hn hy d]
  have w1 : hiO ⟨n, false, forgetM N d (ptM N x)⟩ d (oneR u) = ⟨n, false, boundM N (2 * d) (2 * d + 1) (twiceB u) (forgetM N d (ptM N x))⟩ := by
    unfold hiO oneR withO; rw [if_pos rfl, if_neg (by simp), if_neg (by omega)]; dsimp only; rw [hNN]
  have w2 : rangedO ⟨n, false, forgetM N d (ptM N x)⟩ d (oneR u) = ⟨n, false, boundM N (2 * d + 1) (2 * d) (twiceB (negB u)) (boundM N (2 * d) (2 * d + 1) (twiceB u) (forgetM N d (ptM N x)))⟩ := by
    unfold rangedO; rw [if_pos (show (oneR u).hl = true from rfl), w1]; unfold withO; rw [if_neg (by simp), if_neg (by omega)]; dsimp only [oneR]; rw [hNN]
  rw [w2, close_pt hN hn hk c3 x3]
  · unfold ptO; rw [hNN]
  · intro ys ht hx hf
    have tops : ∀ (m : List Int), Cells N m → ∀ a b : Nat, a < N → b < N → G N m a b ≤ 9223372036854775807 := fun m hm a b ha hb => bnd_top (hm.b ha hb)
    have a1 : nx (2 * d) = 2 * d + 1 := by unfold nx; rw [if_pos (by omega)]
    have a2 : nx (2 * d + 1) = 2 * d := by rw [← a1, nx_nx]
    have far : ∀ a b : Nat, a < N → b < N → a / 2 ≠ d → b / 2 ≠ d → G N ys a b ≠ 9223372036854775807 := fun a b ha hb q1 q2 => by
      refine hf a b ha hb ?_
      have g1 : G N (forgetM N d (ptM N x)) a b ≠ 9223372036854775807 := by
        rw [forgetM_G (ptM_len _ _) ha hb, if_neg (by omega), ptM_G x ha hb]
        exact apart_fin hy a b
      rcases bound_fin hN c1.len hi hj (c := twiceB u) (tops _ c1) ha hb g1 with g2 | g2
      · rcases bound_fin hN c2.len hj hi (c := twiceB (negB u)) (tops _ c2) ha hb g2 with g3 | g3
        · exact g3
        · exfalso; rcases g3 with g3 | g3
          · apply q2; rw [g3.2]; omega
          · apply q1; rw [g3.1, a1]; omega
      · exfalso; rcases g2 with g3 | g3
        · apply q1; rw [g3.1]; omega
        · apply q2; rw [g3.2, a1]; omega
    have f1 : G N ys (2 * d + 1) (2 * d) ≠ 9223372036854775807 := hf _ _ hj hi (by rw [h3.1]; exact apart_fin hk _ _)
    have f2 : G N ys (2 * d) (2 * d + 1) ≠ 9223372036854775807 := hf _ _ hi hj (by
      rw [boundM_G hN2 c2.len hj hi _ hi hj, if_neg (by rintro (⟨q, _⟩ | ⟨q, _⟩) <;> (try rw [a1] at q) <;> omega), h2.1]
      exact apart_fin hk _ _)
    have un : ∀ a, a < N → G N ys a (nx a) ≠ 9223372036854775807 := fun a ha => by
      by_cases q : a / 2 = d
      · by_cases q2 : a = 2 * d
        · subst q2; rw [a1]; exact f2
        · have : a = 2 * d + 1 := by omega
          subst this; rw [a2]; exact f1
      · exact far a (nx a) ha (nxl hN2 ha) q (by rw [nx_half]; exact q)
    intro a b ha hb
    by_cases eab : a = b
    · subst eab; rw [ht.cells.d ha]; omega
    · have h1 := ht.str a b ha hb eab
      have p1 := (hx a (nx a) ha (nxl hN2 ha)).resolve_left (un a ha)
      have u2 := un (nx b) (nxl hN2 hb)
      rw [nx_nx] at u2
      have p2 := (hx (nx b) b (nxl hN2 hb) hb).resolve_left u2
      rw [p1, p2] at h1
      have q1 := plus_exact (.inr rfl : apartX y a (nx a) = 9223372036854775807 ∨ apartX y a (nx a) = apartX y a (nx a)) (.inr rfl : apartX y (nx b) b = 9223372036854775807 ∨ apartX y (nx b) b = apartX y (nx b) b) (by have := apart_small hk a (nx a); omega) (by have := apart_small hk (nx b) b; omega) (by have := apart_small hk a (nx a); have := apart_small hk (nx b) b; omega)
      have s2 := apart_small hk a (nx a)
      have s3 := apart_small hk (nx b) b
      have fin : plus (apartX y a (nx a)) (apartX y (nx b) b) = apartX y a (nx a) + apartX y (nx b) b := by
        have nn : ∀ z : Int, -4611686018427387904 ≤ z ∧ z ≤ 4611686018427387904 → near z = z := fun z hz => by unfold near; rw [if_neg (by omega), if_neg (by omega)]
        rw [plus_fin (by rw [nn _ (by omega)]; omega) (by rw [nn _ (by omega)]; omega), nn (apartX y a (nx a)) (by omega), nn (apartX y (nx b) b) (by omega), nn _ (by omega)]
      rw [fin] at h1
      unfold half at h1
      have nn : near (apartX y a (nx a) + apartX y (nx b) b) = apartX y a (nx a) + apartX y (nx b) b := by unfold near; rw [if_neg (by omega), if_neg (by omega)]
      rw [nn, if_neg (by omega)] at h1
      omega
theorem pt_shift (hy : SmallX x) (hl : (x.length : Int) = n) {d : Nat} (hd : (d : Int) < n) {k : Int} (hk : SmallX (x.set d (gI x (d : Int) + k))) : closeO ⟨n, false, shiftM N d k (ptM N x)⟩ = ptO n (x.set d (gI x (d : Int) + k)) := by
  have hNN : (2 * n).toNat = N := by omega
  have e : shiftM N d k (ptM N x) = ptM N (x.set d (gI x (d : Int) + k)) := by
    refine G_ext (by rw [shiftM_len, ptM_len]) (ptM_len _ _) fun a b ha hb => ?_
    rw [shiftM_G (ptM_len _ _) ha hb, ptM_G x ha hb, ptM_G _ ha hb]
    have e2 : apartX (x.set d (gI x (d : Int) + k)) a b = apartX x a b + (byK d k a - byK d k b) := by
      unfold apartX; rw [sideX_by k (by omega), sideX_by k (by omega)]; omega
    by_cases q : a = b
    · subst q; rw [if_neg (fun q => q.1 rfl)]; unfold apartX; omega
    · rw [if_pos ⟨q, apart_fin hy a b⟩, e2]
      have s1 := apart_small hy a b
      have s2 := apart_small hk a b
      rw [e2] at s2
      have nn : ∀ z : Int, -4611686018427387904 ≤ z ∧ z ≤ 4611686018427387904 → near z = z := fun z hz => by unfold near; rw [if_neg (by omega), if_neg (by omega)]
      rw [plus_fin (by rw [nn _ (by omega)]; omega) (by rw [nn _ (by omega)]; omega), nn (apartX x a b) (by omega), nn (byK d k a - byK d k b) (by omega), nn _ (by omega)]
  rw [e]
  have := pt_close hN hn hk
  unfold ptO at this ⊢
  rw [hNN] at this ⊢
  exact this
theorem pt_turns (hy : SmallX x) (hl : (x.length : Int) = n) {d : Nat} (hd : (d : Int) < n) : turnsO (ptO n x) d = ptO n (x.set d (-gI x (d : Int))) := by
  have hNN : (2 * n).toNat = N := by omega
  have es : ∀ a, sideX (x.set d (-gI x (d : Int))) a = sideX x (otherV d a) := fun a => by
    unfold otherV
    by_cases e : a / 2 = d
    · rw [if_pos e, sideX_nx]
      subst e
      unfold sideX
      rw [gI_at _ _ _ (by omega)]
      split <;> omega
    · rw [if_neg e, sideX_far _ _ _ e]
  have hk : SmallX (x.set d (-gI x (d : Int))) := fun a => by rw [es]; exact hy _
  have e : turnM N d (ptM N x) = ptM N (x.set d (-gI x (d : Int))) := by
    refine G_ext (by rw [turnM_len, ptM_len]) (ptM_len _ _) fun a b ha hb => ?_
    rw [turnM_G (ptM_len _ _) ha hb, ptM_G x (otherV_lt (by omega) ha) (otherV_lt (by omega) hb), ptM_G _ ha hb]
    unfold apartX
    rw [es, es]
  unfold turnsO ptO
  dsimp only
  rw [hNN, e]
  have := pt_close hN hn hk
  unfold ptO at this
  rw [hNN] at this
  exact this
theorem pt_with (hy : SmallX x) {i j : Nat} (hi : (i : Int) < 2 * n) (hj : (j : Int) < 2 * n) {c : Int} (hc : Lets (near c) (apartX x i j)) : withO (ptO n x) i j c = ptO n x := by
  have hNN : (2 * n).toNat = N := by omega
  unfold withO
  have e0 : (ptO n x).e = false := rfl
  rw [e0, if_neg (by simp)]
  by_cases q : i = j
  · subst q
    rw [if_pos rfl]
    have e : apartX x i i = 0 := by unfold apartX; omega
    rw [e] at hc
    rw [if_neg (by unfold Lets near at hc; repeat' split at hc
                   all_goals omega)]
  · rw [if_neg q]
    unfold ptO
    dsimp only
    rw [hNN]
    congr 1
    refine G_ext (by rw [boundM_len, ptM_len]) (ptM_len _ _) fun a b ha hb => ?_
    rw [boundM_G (by omega) (ptM_len _ _) (by omega) (by omega) c ha hb, ptM_G x (by omega) (by omega), ptM_G x ha hb]
    have hs := apart_small hy i j
    split
    · rename_i e
      have hm : min (apartX x i j) (near c) = apartX x i j := by unfold Lets at hc; omega
      rw [hm]
      rcases e with ⟨rfl, rfl⟩ | ⟨rfl, rfl⟩
      · rfl
      · rw [apartX_nx]
    · rfl
theorem pt_ranged (hy : SmallX x) {v : Nat} (hv : (v : Int) < n) {r : Rg} (hr : InR r (gI x (v : Int))) : rangedO (ptO n x) v r = ptO n x := by
  have e1 : apartX x (2 * v) (2 * v + 1) = 2 * gI x (v : Int) := by unfold apartX; rw [sideX_even, sideX_odd]; omega
  have e2 : apartX x (2 * v + 1) (2 * v) = 2 * -gI x (v : Int) := by unfold apartX; rw [sideX_even, sideX_odd]; omega
  have h1 : hiO (ptO n x) v r = ptO n x := by
    unfold hiO
    split
    · rename_i q
      exact pt_with hN hn hy (by omega) (by omega) (by rw [e1]; exact lets_twice (hr.2 q))
    · rfl
  unfold rangedO
  rw [h1]
  split
  · rename_i q
    exact pt_with hN hn hy (by omega) (by omega) (by rw [e2]; exact lets_twice_neg (hr.1 q))
  · rfl
end
end
end Go.Proofs.YtnmpgijiimglcaaGreat
