import Derived.Test.YtnmpgijiimglcaaGreatBTl37
import Derived.Test.YtnmpgijiimglcaaGreatBTl04
import Derived.Test.YtnmpgijiimglcaaGreatBTl42
import Derived.Test.YtnmpgijiimglcaaGreatBTl45
import Derived.Test.YtnmpgijiimglcaaGreatBTl41
import Derived.Test.YtnmpgijiimglcaaGreatBTl43
import Derived.Test.YtnmpgijiimglcaaGreatBTl17
import Derived.Test.YtnmpgijiimglcaaGreatBTl22
import Derived.Test.YtnmpgijiimglcaaGreatBTl08
import Derived.Test.YtnmpgijiimglcaaGreatBTl01
import Derived.ProofKit
import Derived.SizedLaws
import Derived.Lib.SmallJoins
import Derived.Test.YtnmpgijiimglcaaGreatBTl10
import Derived.Test.YtnmpgijiimglcaaGreatBTl24
namespace Go.Proofs.YtnmpgijiimglcaaGreat
section

end
section
open Go.RowKit
set_option maxRecDepth 100000
set_option maxHeartbeats 8000000
attribute [local go_sem ↓] Go.wp_at_zero Go.wp_at_succ
theorem right_opT {n : Int} {e : Edg} (hr : rightT n e = true) (k12 : e.kd = 12) : 1 ≤ e.op ∧ e.op ≤ 6 := by
 unfold rightT rightE wOp at hr
 simp only [Bool.and_eq_true] at hr
 have := hr.1.1.2
 rw [decide_eq_true k12] at this
 simpa using this
theorem one_ok (o : O) (e : Edg) (na : Nat) (hna : na ≤ 16) (sz : Int) (hsz : 1 ≤ sz ∧ sz ≤ 1024) (xs : List Int) (input : Int) (ks : List Int) (hks : (ks.length : Int) = sz) (n0 : 0 ≤ o.n) (n1 : o.n ≤ 64) (hr : rightT o.n e = true) (harr : e.arr < na) (hxl : (xs.length : Int) = o.n) (hI : I64s xs) (ia : I64 e.an) (ib : I64 e.bn)
  (D E A X : Option Addr) (cd ce ca xc : Nat) (W : World) (hD : RdD W W.heap.size D (List.replicate na sz)) (hE : RdE W W.heap.size E (gr1 o.n [] e).es) (hX : Rd W W.heap.size X xs) (hA : RdR W W.heap.size A (List.replicate na ks)) :
  Calls Tryz.prog 37 #[.agg #[.slice none 0 0, o.n, .slice D na cd, .int .i64 2, .int .i64 1, .slice E (gr1 o.n [] e).es.length ce], .slice X xs.length xc, .slice A na ca, input, .int .i64 0] W (OneRes W (oneW (gr1 o.n (List.replicate na sz) e) (List.replicate na ks) xs input 0)) := by
 have hrr := right_T (na := ((List.replicate na sz).length : Nat)) hr (by simp; exact harr) (by omega)
 have hc := gr1_ok (e := e) (sz := List.replicate na sz) n0 n1 (by simp; exact hna) (fun s h => by rw [List.eq_of_mem_replicate h]; omega) hrr
 have := r10one_ok (gr1 o.n (List.replicate na sz) e) none D E 0 cd ce xs X xc (List.replicate na ks) A ca input 0 W hD hE hX hA hI (fun x hx => by
   have hx' : x = e01 e ∨ x = e01n e := by
    unfold gr1 at hx
    dsimp only at hx
    split at hx
    ·simpa using hx
    ·left; simpa using hx
   rcases hx' with rfl | rfl <;> exact ⟨ia, ib⟩) hc (by show ((0 : Nat) : Int) < 2; omega) (by
   rw [show (gr1 o.n (List.replicate na sz) e).all = o.n by unfold Gr.all gr1; dsimp only; omega]; exact hxl) (by show (List.replicate na ks).length = (List.replicate na sz).length; simp) (fun k h => by
   have h4 : k < na := by simpa using h
   rw [List.getElem_replicate]
   show ((ks.length : Nat) : Int) = gI (List.replicate na sz) (k : Int)
   unfold gI
   simp [h4]
   omega)
 unfold grV at this
 rw [List.length_replicate] at this
 rw [show (gr1 o.n (List.replicate na sz) e).sz.length = na from List.length_replicate] at this
 exact this
end
section
open Go.RowKit
set_option maxRecDepth 100000
set_option maxHeartbeats 8000000
attribute [local go_sem ↓] Go.wp_at_zero Go.wp_at_succ
def NearRes (xs : List Int) (w : World) (e : Ending) (w' : World) : Prop := ∃ b, e = .returned (.bool b) ∧ (b = true ↔ ∀ k : Nat, NearV (gI xs (k : Int))) ∧ Below w.heap.size w w'
theorem near_out (xs : List Int) (k : Nat) (h : xs.length ≤ k) : NearV (gI xs (k : Int)) := by
 have : gI xs (k : Int) = 0 := by unfold gI; simp [List.getD_eq_getElem?_getD, h]
 rw [this]; unfold NearV; omega
theorem near_ok (xs : List Int) (X : Option Addr) (xc : Nat) (w : World) (hx : Rd w w.heap.size X xs) (hm : xs.length ≤ 17592186044416) : Calls Tryz.prog 26 #[.slice X xs.length xc] w (NearRes xs w) := by
 go_enter Tryz.func26, Tryz.ntmps26
 go_wp2
 go_loopw [3] (fun t wq => wq = w ∧ ∃ i : Nat, i ≤ xs.length ∧ t = .int .i64 i ∧ ∀ k, k < i → NearV (gI xs (k : Int))) (fun t _ => xs.length - (RowKit.intOf t).toNat)
 case atStart => exact ⟨rfl, 0, by omega, rfl, fun k h => by omega⟩
 case round =>
  obtain ⟨rfl, i, hi, rfl, hnr⟩ := hrel
  have HN := hid hnr
  clear hnr
  by_cases hlt : i < xs.length
  ·have hlti : (i : Int) < (xs.length : Int) := by omega
   obtain ⟨g1, o1, rfl, hg1, ci⟩ := hx i hlt
   obtain ⟨v, hv⟩ : ∃ v, v = gI xs (i : Int) := ⟨_, rfl⟩
   rw [← hv] at ci
   have HV := hid hv
   clear hv
   by_cases h1 : 1099511627776 < v
   ·have HF : Hid (¬ ∀ k : Nat, NearV (gI xs (k : Int))) := hid (fun h => by have := h i; rw [← HV.out] at this; unfold NearV at this; omega)
    have t1 : decide (1099511627776 < v) = true := by rw [decide_eq_true_eq]; exact h1
    clear h1
    go_wp2
    go_ret
    exact ⟨false, rfl, ⟨fun h => by simp at h, fun h => absurd h HF.out⟩, Below.refl _ _⟩
   ·have t1 : decide (1099511627776 < v) = false := by rw [decide_eq_false_iff_not]; exact h1
    by_cases h2 : v < -1099511627776
    ·have HF : Hid (¬ ∀ k : Nat, NearV (gI xs (k : Int))) := hid (fun h => by have := h i; rw [← HV.out] at this; unfold NearV at this; omega)
     have t2 : decide (v < -1099511627776) = true := by rw [decide_eq_true_eq]; exact h2
     clear h1 h2
     go_wp2
     go_ret
     exact ⟨false, rfl, ⟨fun h => by simp at h, fun h => absurd h HF.out⟩, Below.refl _ _⟩
    ·have t2 : decide (v < -1099511627776) = false := by rw [decide_eq_false_iff_not]; exact h2
     have HG : Hid (NearV (gI xs (i : Int))) := hid (by rw [← HV.out]; unfold NearV; omega)
     clear h1 h2
     go_wp2
     go_roundw
     case rel => exact ⟨by first | rfl | trivial, i + 1, by omega, by go_num, fun k h => if e : k = i then e ▸ HG.out else HN.out k (by omega)⟩
     case measure => simp [RowKit.intOf]; omega
  ·obtain rfl : i = xs.length := by omega
   go_wp2
   go_ret
   exact ⟨true, rfl, ⟨fun _ k => if h : k < xs.length then HN.out k h else near_out xs k (by omega), fun _ => rfl⟩, Below.refl _ _⟩
end
section
open Go.RowKit
set_option maxRecDepth 100000
set_option maxHeartbeats 8000000
attribute [local go_sem ↓] Go.wp_at_zero Go.wp_at_succ
theorem range_ext {L : Nat} {f g : Nat → Int} (h : ∀ p, p < L → f p = g p) : (List.range L).map f = (List.range L).map g := List.map_congr_left fun p hp => h p (List.mem_range.1 hp)
end
section
open Go.RowKit
set_option maxRecDepth 100000
set_option maxHeartbeats 8000000
attribute [local go_sem ↓] Go.wp_at_zero Go.wp_at_succ
theorem topR_diag {N i a : Nat} (ha : a < N) : ∀ (l : Nat) (m : List Int), l ≤ N → gI (topR N m i l) ((a * N + a : Nat) : Int) = gI m ((a * N + a : Nat) : Int)
 | 0, _, _ => rfl
 | l + 1, m, hl => by
  unfold topR
  split
  ·exact topR_diag ha l m (by omega)
  ·rename_i hne
   have hp : i * N + l ≠ a * N + a := fun e => by
    obtain ⟨e1, e2⟩ := idx_inj (N := N) (by omega) ha e
    omega
   rw [← topR_diag (N := N) (i := i) ha l m (by omega)]
   generalize a * N + a = q at *
   unfold gI
   simp [List.getD_eq_getElem?_getD, List.getElem?_set_ne hp]
theorem topM_diag {N a : Nat} (ha : a < N) : ∀ k, gI (topM N k) ((a * N + a : Nat) : Int) = 0
 | 0 => by
  unfold topM gI
  have h := pos_lt ha ha
  generalize a * N + a = q at *
  simp [List.getD_eq_getElem?_getD, h]
 | k + 1 => by unfold topM; rw [topR_diag ha N _ (Nat.le_refl _)]; exact topM_diag ha k
def ptK (N : Nat) (xs m : List Int) (k : Nat) : List Int := (List.range m.length).map fun p => if p < k ∧ p / N ≠ p % N then apartX xs (p / N) (p % N) else gI m (p : Int)
theorem ptK_len (N : Nat) (xs m : List Int) (k : Nat) : (ptK N xs m k).length = m.length := by unfold ptK; simp
theorem ptK_zero (N : Nat) (xs m : List Int) : ptK N xs m 0 = m := by
 refine List.ext_getElem (by simp [ptK]) fun p h1 h2 => ?_
 simp [ptK, gI, List.getD_eq_getElem?_getD, h2]
theorem ptK_same {N : Nat} {xs m : List Int} {k : Nat} (h : k / N = k % N) : ptK N xs m (k + 1) = ptK N xs m k := by
 unfold ptK
 refine range_ext fun p _ => ?_
 by_cases hk : p = k
 ·subst hk; simp [h]
 ·by_cases g : p / N = p % N
  ·rw [if_neg (fun h => h.2 g), if_neg (fun h => h.2 g)]
  ·by_cases q : p < k
   ·rw [if_pos ⟨by omega, g⟩, if_pos ⟨q, g⟩]
   ·rw [if_neg (fun h => by omega), if_neg (fun h => by omega)]
theorem ptK_set {N : Nat} {xs m : List Int} {k : Nat} (h : k / N ≠ k % N) : ptK N xs m (k + 1) = (ptK N xs m k).set k (apartX xs (k / N) (k % N)) := by
 refine List.ext_getElem (by simp [ptK]) fun p h1 h2 => ?_
 have hp : p < m.length := by simpa [ptK] using h1
 rw [List.getElem_set]
 by_cases hk : k = p
 ·subst hk; simp [ptK, h]
 ·rw [if_neg hk]
  simp only [ptK, List.getElem_map, List.getElem_range]
  by_cases g : p / N = p % N
  ·rw [if_neg (fun h => h.2 g), if_neg (fun h => h.2 g)]
  ·by_cases q : p < k
   ·rw [if_pos ⟨by omega, g⟩, if_pos ⟨q, g⟩]
   ·rw [if_neg (fun h => by omega), if_neg (fun h => by omega)]
theorem ptK_all {N : Nat} {xs m : List Int} (hl : m.length = N * N) (hd : ∀ a, a < N → gI m ((a * N + a : Nat) : Int) = 0) : ptK N xs m (N * N) = ptM N xs := by
 unfold ptK ptM
 rw [hl]
 refine range_ext fun p hp => ?_
 by_cases g : p / N = p % N
 ·rw [if_neg (fun h => h.2 g)]
  have hN : 0 < N := by
   rcases Nat.eq_zero_or_pos N with e | e
   ·subst e; simp at hp
   ·exact e
  have ha : p % N < N := Nat.mod_lt _ hN
  have e : p = p % N * N + p % N := by
   have := Nat.div_add_mod p N
   rw [g, Nat.mul_comm] at this
   omega
  have h0 := hd _ ha
  rw [← e] at h0
  rw [h0, g]; unfold apartX; omega
 ·rw [if_pos ⟨hp, g⟩]
def PtRes (w : World) (o : O) (e : Ending) (w' : World) : Prop := ∃ A1 c1, e = .returned (.tuple #[.agg #[o.n, o.e, .slice A1 o.m.length c1], .int .i64 0]) ∧ Own w' w.heap.size A1 c1 o.m ∧ Below w.heap.size w w'
theorem rpoints_ok (d : Nat) (hd : d ≤ 64) (xs : List Int) (hl : xs.length = d) (hn : ∀ k : Nat, NearV (gI xs (k : Int))) (gp cp : Nat) (X : Option Addr) (xc : Nat) (w : World) (hP : w.cell? ⟨gp, 0, none⟩ = some (.slice X xs.length xc)) (hgp : gp < w.heap.size) (hx : Rd w w.heap.size X xs) :
  Calls Tryz.prog 27 #[(d : Int), .slice (some ⟨gp, 0, none⟩) 1 cp] w (PtRes w (ptO (d : Int) xs)) := by
 obtain ⟨N, hN⟩ : ∃ N : Nat, (N : Int) = 2 * (d : Int) := ⟨2 * d, by omega⟩
 have hN1 : N ≤ 128 := by omega
 have b5 := hid (fun W => rtop_any d N W hd hN)
 have HDF := hid (fun i j (hi : i < N) (hj : j < N) W (h : Rd W W.heap.size X xs) => rdiffp_ok xs hn i j (by omega) (by omega) ⟨by omega, by omega⟩ X xc W h)
 have b3 : Hid (∀ m, m.length = N * N → (∀ a, a < N → gI m ((a * N + a : Nat) : Int) = 0) → ptK N xs m (N * N) = (ptO (d : Int) xs).m) := hid (fun m h1 h2 => by unfold ptO; dsimp only; rw [show (2 * (d : Int)).toNat = N by omega]; exact ptK_all h1 h2)
 have HDG : Hid (∀ a, a < N → gI (topM N N) ((a * N + a : Nat) : Int) = 0) := hid (fun a ha => topM_diag ha N)
 have HTL : Hid ((topM N N).length = N * N) := hid (topM_len N N)
 have HAP : Hid (∀ i j, -4398046511104 ≤ apartX xs i j ∧ apartX xs i j ≤ 4398046511104) := hid (fun i j => by
  have hs : ∀ a, -1099511627776 ≤ sideX xs a ∧ sideX xs a ≤ 1099511627776 := fun a => by
   have := hn (a / 2)
   unfold NearV at this
   unfold sideX
   split <;> omega
  have := hs i; have := hs j
  unfold apartX; omega)
 have a9 := hid hN
 have HL := hid hl
 generalize topM N N = T at *
 obtain ⟨p0, a0, hsz⟩ := new_one w #[.int .i64 0, false, .slice none 0 0] 24
 clear hsz
 have hn0 : 0 ≤ 2 * (d : Int) := by omega
 have hn1 : 2 * (d : Int) ≤ 128 := by omega
 have t0 : decide ((d : Int) < 0) = false := by rw [decide_eq_false_iff_not]; omega
 have t1 : decide (64 < (d : Int)) = false := by rw [decide_eq_false_iff_not]; omega
 have hl1 : (xs.length : Int) = (d : Int) := by omega
 have hP0 := (a0.cell (p := ⟨gp, 0, none⟩) hgp).trans hP
 have t2 : ((xs.length : Int) != (d : Int)) = false := by rw [hl1]; simp
 clear hN hn hl
 go_enter Tryz.func27, Tryz.ntmps27
 go_wp2
 generalize w.alloc (Obj.cells #[.int .i64 0, false, .slice none 0 0] 24) = w1 at *
 go_loopw [6] (fun t wq => wq = w1 ∧ (t = .int .i64 0 ∨ t = .int .i64 1)) (fun t _ => 2 - (RowKit.intOf t).toNat)
 case atStart => exact ⟨rfl, .inl rfl⟩
 case round =>
  obtain ⟨rfl, rfl | rfl⟩ := hrel
  ·go_wp2
   go_roundw
   case rel => exact ⟨(by first | rfl | trivial), .inr (by go_num)⟩
   case measure => simp [RowKit.intOf]
  ·go_wp2_with fail
   (with_reducible refine (b5.out _).mono ?_)
   rintro e2 w2 ⟨A1, c1, rfl, own, b1⟩
   dsimp only at own ⊢
   have hw7 : w.heap.size < w2.heap.size := (p0.later b1).lt
   obtain ⟨p7, b2, -⟩ := new_one w2 #[(d : Int), false, .slice A1 T.length c1] 24
   replace p0 := (p0.later b1).later b2
   replace own := (own.less a0.size).below b2
   replace a0 := bup (bup a0 b1) b2
   clear hP0 b2 b1
   go_wp2
   generalize w2.alloc (Obj.cells #[(d : Int), false, .slice A1 T.length c1] 24) = w3 at *
   generalize w2.heap.size = g7 at *
   rw [← ptK_zero N xs T] at own
   go_loopw [8] (fun t wq => ∃ i : Nat, i ≤ N ∧ t = .int .i64 i ∧ Own wq w.heap.size A1 c1 (ptK N xs T (i * N)) ∧ Blk wq w.heap.size 24 #[.int .i64 0, false, .slice none 0 0] ∧ Blk wq g7 24 #[(d : Int), false, .slice A1 T.length c1] ∧ Below w.heap.size w wq) (fun t _ => N - (RowKit.intOf t).toNat)
   case atStart => exact ⟨0, by omega, rfl, by rw [Nat.zero_mul]; exact own, p0, p7, a0⟩
   case round =>
    clear own p0 p7 a0 t0 t1 t2
    obtain ⟨i, hi, rfl, own, p0, p7, a0⟩ := hrel
    by_cases hlt : i < N
    ·have hlti : (i : Int) < 2 * (d : Int) := by have := a9.out; omega
     go_wp2
     go_loopw [9] (fun t wq => ∃ j : Nat, j ≤ N ∧ t = .int .i64 j ∧ Own wq w.heap.size A1 c1 (ptK N xs T (i * N + j)) ∧ Blk wq w.heap.size 24 #[.int .i64 0, false, .slice none 0 0] ∧ Blk wq g7 24 #[(d : Int), false, .slice A1 T.length c1] ∧ Below w.heap.size w wq) (fun t _ => N - (RowKit.intOf t).toNat)
     case atStart => exact ⟨0, by omega, rfl, own, p0, p7, a0⟩
     case round =>
      clear own p0 p7 a0
      obtain ⟨j, hj, rfl, own, p0, p7, a0⟩ := hrel
      by_cases hlt2 : j < N
      ·have hltj : (j : Int) < 2 * (d : Int) := by have := a9.out; omega
       have a7 : i * N + (j + 1) = i * N + j + 1 := rfl
       by_cases hij : i = j
       ·have t1 : ((i : Int) == (j : Int)) = true := by rw [hij]; simp
        have HS : Hid (ptK N xs T (i * N + j + 1) = ptK N xs T (i * N + j)) := hid (ptK_same (by rw [at_div hlt2, at_mod hlt2]; exact hij))
        clear hij
        go_wp2
        go_roundw
        case rel => exact ⟨j + 1, by omega, by go_num, by rw [a7, HS.out]; exact own, p0, p7, a0⟩
        case measure => simp [RowKit.intOf]; omega
       ·have t1 : ((i : Int) == (j : Int)) = false := by rw [beq_eq_false_iff_ne]; omega
        have HS : Hid (ptK N xs T (i * N + j + 1) = (ptK N xs T (i * N + j)).set (i * N + j) (apartX xs i j)) := hid (by
         have h := ptK_set (N := N) (xs := xs) (m := T) (k := i * N + j) (by rw [at_div hlt2, at_mod hlt2]; exact hij)
         rw [at_div hlt2, at_mod hlt2] at h; exact h)
        have HD2 := hid (HDF.out i j hlt hlt2)
        obtain ⟨r0, r1⟩ := HAP.out i j
        clear hij
        generalize apartX xs i j = R at *
        have hmx : max (-4611686018427387904) R = R := by omega
        go_wp2
        go_loopw [10, 11] (fun r t wq => ((t = .int .i64 0 ∧ r = .int .i64 (-4611686018427387904)) ∨ (t = .int .i64 1 ∧ r = .int .i64 R)) ∧ Own wq w.heap.size A1 c1 (ptK N xs T (i * N + j)) ∧ Blk wq w.heap.size 24 #[.int .i64 0, false, .slice none 0 0] ∧ Blk wq g7 24 #[(d : Int), false, .slice A1 T.length c1] ∧ Below w.heap.size w wq) (fun _ t _ => 2 - (RowKit.intOf t).toNat)
        case atStart => exact ⟨.inl ⟨rfl, rfl⟩, own, p0, p7, a0⟩
        case round =>
         clear own p0 p7 a0
         obtain ⟨⟨rfl, rfl⟩ | ⟨rfl, rfl⟩, own, p0, p7, a0⟩ := hrel
         ·have hP1 := (a0.cell (p := ⟨gp, 0, none⟩) hgp).trans hP
          have hx1 := hx.up a0
          go_wp2_with fail
          (with_reducible refine (HD2.out _ hx1).mono ?_)
          rintro e5 w5 ⟨rfl, a8⟩
          replace own := own.below a8
          replace p0 := p0.later a8
          replace p7 := p7.later a8
          replace a0 := bup a0 a8
          clear hP1 hx1 a8
          go_wp2
          go_roundw
          case rel => exact ⟨.inr ⟨by go_num, by first | rfl | (rw [hmx]) | (congr 1; omega)⟩, own, p0, p7, a0⟩
          case measure => simp [RowKit.intOf]
         ·obtain ⟨a1, a2, a3, a4, a5, a6⟩ := idxr_ok a9.out hlt hlt2 hN1
          rw [← Int.mul_assoc] at a1 a2 a3 a5 a6
          rw [← HTL.out] at a4 a6
          obtain ⟨gA, rfl, hgA, hgB⟩ : ∃ g, A1 = some ⟨g, 0, none⟩ ∧ w.heap.size ≤ g ∧ g < wr.heap.size := by
           rcases own.form with ⟨_, h, _⟩ | h
           ·exfalso; have h5 := ptK_len N xs T (i * N + j); rw [h] at h5; simp at h5; omega
           ·exact h
          obtain ⟨_, _, eA, _, cA⟩ := own.rd (i * N + j) (by rw [ptK_len]; exact a4)
          injection eA with eA; injection eA with eA1 eA2; subst eA1; subst eA2
          rw [Nat.zero_add] at cA
          have hfr := own.frozen (i * N + j)
          have ne0 := own_blk' own p0 (by decide) gA rfl
          have ne7 := own_blk' own p7 (by decide) gA rfl
          have HO6 := hid (own.store (i * N + j) R)
          rw [← HS.out] at HO6
          have HB6 := hid (a0.trans (below1 (i := i * N + j) (v := .int .i64 R) hgA a0.size))
          have HP6 := hid (p0.far (p := ⟨gA, i * N + j, none⟩) ne0 (.int .i64 R))
          have HP7 := hid (p7.far (p := ⟨gA, i * N + j, none⟩) ne7 (.int .i64 R))
          obtain ⟨x0, x1, x2, fx⟩ := octbox p7
          clear own p0 a0 HS
          go_wp2
          go_roundw
          case rel => exact ⟨j + 1, by omega, by go_num, by rw [a7]; exact HO6.out, HP6.out, HP7.out, HB6.out⟩
          case measure => simp [RowKit.intOf]; omega
      ·obtain rfl : j = N := by omega
       have hge : ¬ ((j : Int) < 2 * (d : Int)) := by have := a9.out; omega
       have b4 : i * j + j = (i + 1) * j := by rw [Nat.succ_mul]
       rw [b4] at own
       go_wp2
       go_roundw
       case rel => exact ⟨i + 1, by omega, by go_num, own, p0, p7, a0⟩
       case measure => simp [RowKit.intOf]; omega
    ·obtain rfl : i = N := by omega
     have hge : ¬ ((i : Int) < 2 * (d : Int)) := by have := a9.out; omega
     have HE := hid (b3.out T HTL.out HDG.out)
     have b0 : T.length = (ptO (d : Int) xs).m.length := by rw [← HE.out, ptK_len]
     rw [HE.out] at own
     rw [b0] at p7
     have HE0 : Hid ((ptO (d : Int) xs).n = (d : Int) ∧ (ptO (d : Int) xs).e = false) := hid ⟨rfl, rfl⟩
     clear b0
     generalize ptO (d : Int) xs = P at *
     obtain ⟨x0, x1, x2, fx⟩ := octbox p7
     obtain ⟨y0, y1, y2, fy⟩ := octbox p0
     go_wp2
     have q9 := p0.set3 (v0 := .int .i64 (d : Int)) (v1 := .bool false) (v2 := .slice A1 P.m.length c1)
     have o9 := own.far3 (g := w.heap.size) (v0 := .int .i64 (d : Int)) (v1 := .bool false) (v2 := .slice A1 P.m.length c1) (own_blk' own p0 (by decide))
     have hb9 := a0.trans (below3 (W := wr) (g := w.heap.size) (v0 := .int .i64 (d : Int)) (v1 := .bool false) (v2 := .slice A1 P.m.length c1) (by omega) a0.size)
     obtain ⟨z0, z1, z2, fz⟩ := octbox q9
     refine bodyPost_ret (v := .tuple #[.agg #[(d : Int), false, .slice A1 P.m.length c1], .int .i64 0]) (by simp [results, Tryz.results27, go_sem, z0, z1, z2]) rfl ?_
     exact ⟨A1, c1, by rw [HE0.out.1, HE0.out.2], o9, hb9⟩
end
section
set_option maxRecDepth 100000
set_option maxHeartbeats 8000000
open Go.ChangeShapes Go.WideShapes Go.ChangeAt Go.RowKit Go.Joins
theorem Tryz.own : ownKnob Tryz.prog.godebug = none := by kernel_rfl
theorem Tryz.laidOut : laidOutB Tryz.prog = true := by kernel_rfl
theorem cells_i64 : Tryz.prog.cellsOf 2 = 1 := by kernel_rfl
theorem bytes_i64 : Tryz.prog.bytesOf 2 = 8 := by kernel_rfl
section
variable {H : Type} {enc : TypeId × Value → H} {W : World} {base : Nat} {held : Bool}
theorem cell_lt {w : World} {p : Addr} {v : Value} (h : w.cell? p = some v) : p.block < w.heap.size ∧ p.spot = none := by
 unfold World.cell? at h
 split at h
 ·rename_i hb
  refine ⟨(Array.getElem?_eq_some_iff.1 hb).1, ?_⟩
  split at h
  ·cases h
  ·rename_i hs
   simpa using hs
 ·cases h
theorem row_ints {spare : Nat → Bool} {fuel : Nat} {cs : List Value} {x : DataW H × List MemPlace} (h : DataW.trod enc Tryz.prog W base spare held fuel 22 cs = some x) :
  ∃ (A : Option Addr) (c : Nat) (m : List Int), cs = [.slice A m.length c] ∧ Rd W W.heap.size A m ∧ ((∀ n ∈ x.1.weights Tryz.prog 22, n ≤ reachBytes) → m.length ≤ 17592186044416) ∧ ∀ i : Nat, gI m i ≤ 9223372036854775807 := by
 rcases open_ints Tryz.underlying22 Tryz.underlying2 cells_i64 h with ⟨rfl, rfl⟩ | ⟨a, len, cap, zs, rfl, _, hl, _, hzl, rfl, hc, hwf⟩
 ·exact ⟨none, 0, [], rfl, fun k hk => absurd hk (by simp), fun _ => by simp, fun i => by simp [gI]⟩
 ·have hle : len ≤ zs.length := by rw [hzl]; split <;> omega
  have hml : (zs.take len).length = len := by simp; omega
  refine ⟨some a, cap, zs.take len, by rw [hml], fun k hk => ?_, fun hw => ?_, fun i => (range_i64 (zs := zs.take len) (fun n hn => hwf n (List.mem_of_mem_take hn)) i).2⟩
  ·rw [hml] at hk
   have h0 := cell_lt (hc 0 (by omega))
   have hk' := hc k (by omega)
   obtain ⟨b, off, sp⟩ := a
   have hsp : sp = none := by simpa [Addr.add] using h0.2
   subst hsp
   have hb : b < W.heap.size := by simpa [Addr.add] using h0.1
   refine ⟨b, off, rfl, hb, ?_⟩
   have e : (⟨b, off, none⟩ : Addr).add k = ⟨b, off + k, none⟩ := by unfold Addr.add; split <;> simp_all
   rw [← e, hk']
   unfold gI
   rw [getD_take_lt zs len _ 0 (by simpa using hk)]
   rfl
  ·have := hw (((lits (H := H) IntKind.i64 (zs.take len)).length + (lits (H := H) IntKind.i64 (zs.drop len)).length) * Tryz.prog.bytesOf 2) (by simp [DataW.weights, Tryz.underlying22])
   rw [bytes_i64] at this
   have hr := reachBytes_lt
   simp [lits] at this
   omega
theorem open_longs {r : Reach} {b0 : Nat} {spare : Nat → Bool} {v : Value} {d : DataW H} {p : List MemPlace} (hv : Value.okWide Tryz.prog W r b0 22 v) (h : DataW.Trod enc Tryz.prog W base spare held 22 v d p) :
  ∃ (A : Option Addr) (c : Nat) (m : List Int), v = .slice A m.length c ∧ Rd W W.heap.size A m ∧ ((∀ n ∈ d.weights Tryz.prog 22, n ≤ reachBytes) → m.length ≤ 17592186044416) := by
 obtain ⟨a, len, cap, rfl⟩ := okWide_slice Tryz.underlying22 hv
 obtain ⟨fuel, hf⟩ := h
 obtain ⟨A, c, m, he, hr, hw, _⟩ := row_ints hf
 simp [Value.cells] at he
 obtain ⟨rfl, rfl, rfl⟩ := he
 exact ⟨_, _, m, rfl, hr, hw⟩
theorem post_true {f : Func} {s : ChangeSpec} {W' : World} {args : Array Value} {ds : List (DataW H)} {before : List MemPlace} (hW : DataW.Whole enc Tryz.prog f.params.toList s.vars false W args.toList ds [] before)
  (hrt : f.resultTypes = #[4]) (hv : s.vars = []) (hfn : s.fn H (ds ++ []) = { results := [.lit (.bool true)], args := ds })
  (hargs : DataW.TrodAll enc Tryz.prog W' 0 (fun b => decide (b < W.heap.size)) true f.params.toList args.toList ds before) (hb : Below W.heap.size W W') :
  s.post enc Tryz.prog f false true false false W args (.bool true) W' := by
 refine ⟨ds, [], before, [], before, [], hW, ?_, ?_, ?_, World.keptBut_mono (fun p hp => ⟨hp, .inr (.inl hp)⟩) (hb.frame (· ∈ before)), fun h => by cases h⟩
 ·rw [hfn, hrt]
  exact trodAll_mk1 (shut_bool Tryz.underlying4 _)
 ·rw [hfn]; exact hargs
 ·rw [hfn, hv]; rfl
end
end
section
set_option maxRecDepth 100000
set_option maxHeartbeats 8000000
open Go.ChangeShapes Go.WideShapes Go.ChangeAt Go.RowKit Go.Joins
theorem weightsAll_inG {H : Type} {P : Program} {e : TypeId} : ∀ {l : List (DataW H)} {d : DataW H}, d ∈ l → ∀ n ∈ d.weights P e, n ∈ DataW.weightsAll P e l
 | x :: l, d, hd, n, hn => by
  rw [DataW.weightsAll, List.mem_append]
  rcases List.mem_cons.1 hd with rfl | hd
  ·exact .inl hn
  ·exact .inr (weightsAll_inG hd n hn)
section
variable {H : Type} {enc : TypeId × Value → H} {W : World} {base : Nat} {held : Bool} {spare : Nat → Bool}
theorem open_rows {α : Type} {t e : TypeId} (ht : Tryz.prog.underlying t = some (.slice e)) (hne : 0 < Tryz.prog.cellsOf e) (cells : α → List Value) (Good : α → Prop) (hlen : ∀ a, (cells a).length = Tryz.prog.cellsOf e)
  (read : ∀ {fuel : Nat} {cs : List Value} {x : DataW H × List MemPlace}, DataW.trod enc Tryz.prog W base spare held fuel e cs = some x → ∃ a, cs = cells a ∧ ((∀ n ∈ x.1.weights Tryz.prog e, n ≤ reachBytes) → Good a))
  {fuel : Nat} {cs : List Value} {x : DataW H × List MemPlace} (h : DataW.trod enc Tryz.prog W base spare held fuel t cs = some x) :
  ∃ (A : Option Addr) (c : Nat) (l : List α), cs = [.slice A l.length c] ∧ (∀ k (hk : k < l.length), ∃ b off, A = some ⟨b, off, none⟩ ∧ b < W.heap.size ∧ ∀ r, r < Tryz.prog.cellsOf e → W.cell? ⟨b, off + k * Tryz.prog.cellsOf e + r, none⟩ = (cells l[k])[r]?) ∧
   ((∀ n ∈ x.1.weights Tryz.prog t, n ≤ reachBytes) → l.length * Tryz.prog.bytesOf e ≤ reachBytes ∧ ∀ a ∈ l, Good a) := by
 rcases DataW.trod_slice ht h with ⟨rfl, _⟩ | ⟨a, len, cap, elems, rest, n, _, rfl, rfl, _, hl, _, hlen', hel, _⟩
 ·exact ⟨none, 0, [], rfl, fun k hk => absurd hk (by simp), fun _ => ⟨by simp, fun a ha => absurd ha (by simp)⟩⟩
 ·have one : ∀ k : Fin len, ∃ z : α, ∃ hz : k.1 < elems.length, (∀ r, r < Tryz.prog.cellsOf e → W.cell? ((a.add (k.1 * Tryz.prog.cellsOf e)).add r) = (cells z)[r]?) ∧ ((∀ n ∈ (elems[k.1]'hz).1.weights Tryz.prog e, n ≤ reachBytes) → Good z) := fun k => by
   have b0 := hel k.1 k.2
   have hke : k.1 < elems.length := by have := k.2; omega
   rw [List.getElem?_eq_getElem hke, Option.bind_eq_some_iff] at b0
   obtain ⟨cs, hcs, hy⟩ := b0
   obtain ⟨z, rfl, hz⟩ := read hy
   obtain ⟨_, _, b1⟩ := World.cells?_some hcs
   exact ⟨z, hke, fun r hr => b1 r hr, hz⟩
  obtain ⟨f, hf⟩ := Classical.axiomOfChoice one
  refine ⟨some a, cap, List.ofFn f, by simp, fun k hk => ?_, fun hw => ⟨?_, fun z hz => ?_⟩⟩
  ·have b0 : k < len := by simpa using hk
   obtain ⟨_, hc, _⟩ := hf ⟨k, b0⟩
   have h0 := hc 0 hne
   have hs : (cells (f ⟨k, b0⟩))[0]? = some ((cells (f ⟨k, b0⟩))[0]'(by rw [hlen]; exact hne)) := List.getElem?_eq_getElem _
   rw [hs] at h0
   have s0 := cell_lt h0
   obtain ⟨b, off, sp⟩ := a
   have hb : b < W.heap.size := by simpa [block_add] using s0.1
   have hsp : sp = none := by
    obtain ⟨_, hc', _⟩ := hf ⟨0, by omega⟩
    have h0' := hc' 0 hne
    have hs' : (cells (f ⟨0, by omega⟩))[0]? = some ((cells (f ⟨0, by omega⟩))[0]'(by rw [hlen]; exact hne)) := List.getElem?_eq_getElem _
    rw [hs'] at h0'
    have := (cell_lt h0').2
    simpa [Addr.add] using this
   subst hsp
   refine ⟨b, off, rfl, hb, fun r hr => ?_⟩
   have := hc r hr
   rw [add_mk, add_mk] at this
   simpa using this
  ·have := hw (((elems.map (·.1)).length + (rest.map (·.1)).length) * Tryz.prog.bytesOf e) (by simp [DataW.weights, ht])
   simp only [List.length_map, List.length_ofFn] at this ⊢
   have h2 : len * Tryz.prog.bytesOf e ≤ (elems.length + rest.length) * Tryz.prog.bytesOf e := Nat.mul_le_mul_right _ (by omega)
   omega
  ·obtain ⟨i, hi, rfl⟩ := List.getElem_of_mem hz
   have hi' : i < len := by simpa using hi
   rw [List.getElem_ofFn]
   obtain ⟨hz', _, hg⟩ := hf ⟨i, hi'⟩
   refine hg fun q hq => hw q ?_
   simp only [DataW.weights, ht, List.mem_cons, List.mem_append]
   exact .inr (.inl (weightsAll_inG (List.mem_map_of_mem (List.getElem_mem hz')) q hq))
theorem fieldG {fs : Array Field} {xs : List (DataW H × List MemPlace)} {n : Nat} {cs : List Value} (hf : ∀ (i : Nat) (f : Field), fs[i]? = some f → DataW.trod enc Tryz.prog W base spare held n f.type ((cs.drop f.offset).take (Tryz.prog.cellsOf f.type)) = xs[i]?)
  (i : Nat) (ty : TypeId) (off : Nat) (hi : (fs[i]?).map (fun f => (f.type, f.offset)) = some (ty, off)) : DataW.trod enc Tryz.prog W base spare held n ty ((cs.drop off).take (Tryz.prog.cellsOf ty)) = xs[i]? := by
 rw [Option.map_eq_some_iff] at hi
 obtain ⟨f, h1, h2⟩ := hi
 injection h2 with h2 h3
 subst h2 h3
 exact hf i f h1
def i64R (n : Int) : Prop := -9223372036854775808 ≤ n ∧ n ≤ 9223372036854775807
theorem wf_i64G {n : Int} (h : (Lit.int .i64 n).wf = true) : i64R n := by
 unfold i64R
 have h : (decide (IntKind.i64.min ≤ n) && decide (n ≤ IntKind.i64.max)) = true := h
 have e1 : IntKind.i64.min = -9223372036854775808 := by kernel_rfl
 have e2 : IntKind.i64.max = 9223372036854775807 := by kernel_rfl
 rw [e1, e2] at h
 simpa using h
theorem cells_int : Tryz.prog.cellsOf 3 = 1 := by kernel_rfl
theorem cells_edge : Tryz.prog.cellsOf 44 = 10 := by kernel_rfl
theorem cells_opd : Tryz.prog.cellsOf 26 = 2 := by kernel_rfl
theorem bytes_edge : Tryz.prog.bytesOf 44 = 80 := by kernel_rfl
theorem int_of {fuel : Nat} {t : TypeId} {k : IntKind} {cs : List Value} {c : Value} {y : Option (DataW H × List MemPlace)} (ht : Tryz.prog.underlying t = some (.int k)) (h : DataW.trod enc Tryz.prog W base spare held fuel t cs = y) (hy : y.isSome = true) (hc : cs = [c]) : ∃ n, c = .int k n ∧ (Lit.int k n).wf = true := by
 obtain ⟨z, rfl⟩ := Option.isSome_iff_exists.1 hy
 obtain ⟨n, h1, _, h2⟩ := DataW.trod_int ht h
 rw [hc] at h1
 injection h1 with h1
 exact ⟨n, h1, h2⟩
def EdgI (e : Edg) : Prop := i64R e.fr ∧ i64R e.te ∧ i64R e.kd ∧ i64R e.dst ∧ i64R e.arr ∧ i64R e.op ∧ i64R e.av ∧ i64R e.an ∧ i64R e.bv ∧ i64R e.bn
theorem list10 {α : Type} {l : List α} (h : l.length = 10) : ∃ c0 c1 c2 c3 c4 c5 c6 c7 c8 c9, l = [c0, c1, c2, c3, c4, c5, c6, c7, c8, c9] := by
 match l, h with
 | [c0, c1, c2, c3, c4, c5, c6, c7, c8, c9], _ => exact ⟨c0, c1, c2, c3, c4, c5, c6, c7, c8, c9, rfl⟩
theorem read_opd {fuel : Nat} {cs : List Value} {c0 c1 : Value} {y : Option (DataW H × List MemPlace)} (h : DataW.trod enc Tryz.prog W base spare held fuel 26 cs = y) (hy : y.isSome = true) (hc : cs = [c0, c1]) :
  ∃ v n, c0 = .int .i64 v ∧ c1 = .int .i64 n ∧ i64R v ∧ i64R n := by
 obtain ⟨z, rfl⟩ := Option.isSome_iff_exists.1 hy
 subst hc
 obtain ⟨xs, n, _, _, _, hlen, hf⟩ := DataW.trod_struct Tryz.underlying26 h
 have sm : ∀ i, i < 2 → (xs[i]?).isSome = true := fun i hi => by rw [List.getElem?_eq_getElem (by rw [hlen]; exact hi)]; rfl
 have ei : Tryz.prog.cellsOf 3 = 1 := by kernel_rfl
 have el : Tryz.prog.cellsOf 2 = 1 := by kernel_rfl
 have f0 := fieldG hf 0 3 0 rfl
 have f1 := fieldG hf 1 2 1 rfl
 rw [ei] at f0
 rw [el] at f1
 obtain ⟨a, ha, wa⟩ := int_of Tryz.underlying3 f0 (sm 0 (by omega)) rfl
 obtain ⟨b, hb, wb⟩ := int_of Tryz.underlying2 f1 (sm 1 (by omega)) rfl
 exact ⟨a, b, ha, hb, wf_i64G wa, wf_i64G wb⟩
theorem read_edge {fuel : Nat} {cs : List Value} {x : DataW H × List MemPlace} (h : DataW.trod enc Tryz.prog W base spare held fuel 44 cs = some x) :
  ∃ e : Edg, cs = e.cells ∧ EdgI e := by
 obtain ⟨xs, n, _, _, hl, hlen, hf⟩ := DataW.trod_struct Tryz.underlying44 h
 rw [cells_edge] at hl
 obtain ⟨c0, c1, c2, c3, c4, c5, c6, c7, c8, c9, rfl⟩ := list10 hl
 have sm : ∀ i, i < 8 → (xs[i]?).isSome = true := fun i hi => by rw [List.getElem?_eq_getElem (by rw [hlen]; exact hi)]; rfl
 have f0 := fieldG hf 0 3 0 rfl
 have f1 := fieldG hf 1 3 1 rfl
 have f2 := fieldG hf 2 3 2 rfl
 have f3 := fieldG hf 3 3 3 rfl
 have f4 := fieldG hf 4 3 4 rfl
 have f5 := fieldG hf 5 3 5 rfl
 have f6 := fieldG hf 6 26 6 rfl
 have f7 := fieldG hf 7 26 8 rfl
 rw [cells_int] at f0 f1 f2 f3 f4 f5
 rw [cells_opd] at f6 f7
 clear hf
 obtain ⟨a0, rfl, w0⟩ := int_of Tryz.underlying3 f0 (sm 0 (by omega)) rfl
 obtain ⟨a1, rfl, w1⟩ := int_of Tryz.underlying3 f1 (sm 1 (by omega)) rfl
 obtain ⟨a2, rfl, w2⟩ := int_of Tryz.underlying3 f2 (sm 2 (by omega)) rfl
 obtain ⟨a3, rfl, w3⟩ := int_of Tryz.underlying3 f3 (sm 3 (by omega)) rfl
 obtain ⟨a4, rfl, w4⟩ := int_of Tryz.underlying3 f4 (sm 4 (by omega)) rfl
 obtain ⟨a5, rfl, w5⟩ := int_of Tryz.underlying3 f5 (sm 5 (by omega)) rfl
 obtain ⟨a6, a7, rfl, rfl, w6, w7⟩ := read_opd f6 (sm 6 (by omega)) rfl
 obtain ⟨a8, a9, rfl, rfl, w8, w9⟩ := read_opd f7 (sm 7 (by omega)) rfl
 exact ⟨⟨a0, a1, a2, a3, a4, a5, a6, a7, a8, a9⟩, rfl, wf_i64G w0, wf_i64G w1, wf_i64G w2, wf_i64G w3, wf_i64G w4, wf_i64G w5, w6, w7, w8, w9⟩
end
end
end Go.Proofs.YtnmpgijiimglcaaGreat
