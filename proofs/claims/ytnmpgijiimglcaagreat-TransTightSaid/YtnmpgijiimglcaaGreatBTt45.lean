import Derived.Test.YtnmpgijiimglcaaGreatBTt44
import Derived.Test.YtnmpgijiimglcaaGreatBTt42
import Derived.Test.YtnmpgijiimglcaaGreatBTt32
import Derived.Test.YtnmpgijiimglcaaGreatBTt29
import Derived.Test.YtnmpgijiimglcaaGreatBTt11
namespace Go.Proofs.YtnmpgijiimglcaaGreat
open Go.RowKit
set_option maxRecDepth 100000
set_option maxHeartbeats 8000000
section
attribute [local go_sem ↓] Go.wp_at_zero Go.wp_at_succ
def ptF (N : Nat) (f : Nat → Nat → Int) (m : List Int) (k : Nat) : List Int := (List.range m.length).map fun p => if p < k ∧ p / N ≠ p % N then f (p / N) (p % N) else gI m (p : Int)
theorem zhx (N : Nat) (f : Nat → Nat → Int) (m : List Int) (k : Nat) : (ptF N f m k).length = m.length := by unfold ptF; simp
theorem zmM (N : Nat) (f : Nat → Nat → Int) (m : List Int) : ptF N f m 0 = m := by
 refine List.ext_getElem (by simp [ptF]) fun p h1 h2 => ?_
 simp [ptF, gI, List.getD_eq_getElem?_getD, h2]
theorem zl6 {N : Nat} {f : Nat → Nat → Int} {m : List Int} {k : Nat} (h : k / N = k % N) : ptF N f m (k + 1) = ptF N f m k := by
 unfold ptF
 refine zgl fun p _ => ?_
 by_cases hk : p = k
 ·subst hk; simp [h]
 ·by_cases g : p / N = p % N
  ·rw [if_neg (fun h => h.2 g), if_neg (fun h => h.2 g)]
  ·by_cases q : p < k
   ·rw [if_pos ⟨by omega, g⟩, if_pos ⟨q, g⟩]
   ·rw [if_neg (fun h => by omega), if_neg (fun h => by omega)]
theorem znH {N : Nat} {f : Nat → Nat → Int} {m : List Int} {k : Nat} (h : k / N ≠ k % N) : ptF N f m (k + 1) = (ptF N f m k).set k (f (k / N) (k % N)) := by
 refine List.ext_getElem (by simp [ptF]) fun p h1 h2 => ?_
 have hp : p < m.length := by simpa [ptF] using h1
 rw [List.getElem_set]
 by_cases hk : k = p
 ·subst hk; simp [ptF, h]
 ·rw [if_neg hk]
  simp only [ptF, List.getElem_map, List.getElem_range]
  by_cases g : p / N = p % N
  ·rw [if_neg (fun h => h.2 g), if_neg (fun h => h.2 g)]
  ·by_cases q : p < k
   ·rw [if_pos ⟨by omega, g⟩, if_pos ⟨q, g⟩]
   ·rw [if_neg (fun h => by omega), if_neg (fun h => by omega)]
theorem zof {N : Nat} {f : Nat → Nat → Int} {m : List Int} (hl : m.length = N * N) (hd : ∀ a, a < N → gI m ((a * N + a : Nat) : Int) = 0) : ptF N f m (N * N) = (List.range (N * N)).map fun p => if p / N = p % N then 0 else f (p / N) (p % N) := by
 unfold ptF
 rw [hl]
 refine zgl fun p hp => ?_
 by_cases g : p / N = p % N
 ·rw [if_neg (fun h => h.2 g), if_pos g]
  have hN : 0 < N := by
   rcases Nat.eq_zero_or_pos N with e | e
   ·subst e; simp at hp
   ·exact e
  have ha : p % N < N := Nat.mod_lt _ hN
  have e : p = p % N * N + p % N := by
   have := Nat.div_add_mod p N
   rw [g, Nat.mul_comm] at this
   omega
  have h0 := hd _ ha
  rw [← e] at h0
  exact h0
 ·rw [if_pos ⟨hp, g⟩, if_neg g]
def mxTo (ls : List (List Int)) (i j k : Nat) : Int := maxA (ls.take k) i j
theorem zjN {ls : List (List Int)} {i j k : Nat} (h : k < ls.length) : mxTo ls i j (k + 1) = max (mxTo ls i j k) (apartX ls[k] i j) := by
 unfold mxTo maxA
 rw [List.take_succ_eq_append_getElem h, List.foldl_append]; rfl
theorem znc (ls : List (List Int)) (i j : Nat) : mxTo ls i j ls.length = maxA ls i j := by unfold mxTo; rw [List.take_length]
theorem zkI (ls : List (List Int)) (i j : Nat) : mxTo ls i j 0 = -4611686018427387904 := rfl
theorem zho (d : Nat) (hd : d ≤ 64) (ls : List (List Int)) (hl : ∀ k (h : k < ls.length), ls[k].length = d) (hn : ∀ k (h : k < ls.length), ∀ i : Nat, zcN (gI ls[k] (i : Int))) (hlen : ls.length ≤ 1000000) (P : Option Addr) (pc : Nat) (w : World) (hls : RdR w w.heap.size P ls) :
  Calls Tryz.prog 27 #[(d : Int), .slice P ls.length pc] w (zpj w (maxO (d : Int) ls)) := by
 obtain ⟨N, hN⟩ : ∃ N : Nat, (N : Int) = 2 * (d : Int) := ⟨2 * d, by omega⟩
 have hN1 : N ≤ 128 := by omega
 have b3 := hid (fun W => zf0 d N W hd hN)
 have HDF := hid (fun k (hk : k < ls.length) i j (hi : i < N) (hj : j < N) X xc W (h : Rd W W.heap.size X ls[k]) => zgo ls[k] (hn k hk) i j (by have := hl k hk; omega) (by have := hl k hk; omega) ⟨by omega, by omega⟩ X xc W h)
 have HLN := hid hl
 have b5 : Hid (∀ m, m.length = N * N → (∀ a, a < N → gI m ((a * N + a : Nat) : Int) = 0) → ls ≠ [] → maxO (d : Int) ls = ⟨(d : Int), false, ptF N (maxA ls) m (N * N)⟩) := hid (fun m h1 h2 h3 => by unfold maxO; rw [if_neg h3, show (2 * (d : Int)).toNat = N by omega, zof h1 h2])
 have b6 : Hid (ls = [] → maxO (d : Int) ls = ⟨(d : Int), true, []⟩) := hid (fun h => by unfold maxO; rw [if_pos h]; rfl)
 have HDG : Hid (∀ a, a < N → gI (topM N N) ((a * N + a : Nat) : Int) = 0) := hid (fun a ha => zgU ha N)
 have HTL : Hid ((topM N N).length = N * N) := hid (zcQ N N)
 have b0 := hid hN
 generalize topM N N = T at *
 obtain ⟨p0, a0, hsz⟩ := zaw w #[.int .i64 0, false, .slice none 0 0] 24
 clear hsz
 have hn0 : 0 ≤ 2 * (d : Int) := by omega
 have hn1 : 2 * (d : Int) ≤ 128 := by omega
 have t0 : decide ((d : Int) < 0) = false := by rw [decide_eq_false_iff_not]; omega
 have t1 : decide (64 < (d : Int)) = false := by rw [decide_eq_false_iff_not]; omega
 have HLS := hid (fun W (h : Below w.heap.size w W) => hls.up h)
 replace hls := hls.up a0
 clear hN hn hl
 go_enter Tryz.func27, Tryz.ntmps27
 go_wp2
 generalize w.alloc (Obj.cells #[.int .i64 0, false, .slice none 0 0] 24) = w1 at *
 go_loopw [6] (fun t wq => wq = w1 ∧ ∃ k : Nat, k ≤ ls.length ∧ t = .int .i64 (k : Int)) (fun t _ => ls.length - (RowKit.intOf t).toNat)
 case atStart => exact ⟨rfl, 0, by omega, rfl⟩
 case round =>
  obtain ⟨rfl, k, hk, rfl⟩ := hrel
  by_cases hkl : k < ls.length
  ·have tk : decide ((k : Int) < (ls.length : Int)) = true := decide_eq_true (by omega)
   obtain ⟨bb, off, Ak, ck, rfl, hB, hc, -⟩ := hls k hkl
   have hlk := HLN.out k hkl
   rw [hlk] at hc
   have t2 : ((d : Int) != (d : Int)) = false := by simp
   go_wp2
   go_roundw
   case rel => exact ⟨(by first | rfl | trivial), k + 1, by omega, by go_num⟩
   case measure => simp [RowKit.intOf]; omega
  ·have tk : decide ((k : Int) < (ls.length : Int)) = false := decide_eq_false (by omega)
   by_cases hne : ls = []
   ·have hM := hid (b6.out hne)
    subst hne
    have y0 := zaa p0
    go_wp2_with fail
    (with_reducible refine (ziB _ _).mono ?_)
    rintro e2 w2 ⟨rfl, a8⟩
    clear y0
    replace p0 := p0.later a8
    replace a0 := bup a0 a8
    have y0 := zaa p0
    go_wp2
    have q9 := p0.set3 (v0 := .int .i64 (d : Int)) (v1 := .bool true) (v2 := .slice none 0 0)
    have b4 := a0.trans (zae (W := w2) (g := w.heap.size) (v0 := .int .i64 (d : Int)) (v1 := .bool true) (v2 := .slice none 0 0) (by omega) a0.size)
    obtain ⟨z0, z1, z2, fz⟩ := zaa q9
    refine bodyPost_ret (v := .tuple #[.agg #[(d : Int), true, .slice none 0 0], .int .i64 0]) (by simp [results, Tryz.results27, go_sem, z0, z1, z2]) rfl ?_
    exact ⟨none, 0, by rw [hM.out]; rfl, by rw [hM.out]; exact zca _ _, b4⟩
   have hpos : 0 < ls.length := List.length_pos_iff.2 hne
   have tz : ((ls.length : Int) == 0) = false := by rw [beq_eq_false_iff_ne]; omega
   have HNE := hid hne
   clear hne
   go_wp2_with fail
   (with_reducible refine (b3.out _).mono ?_)
   rintro e2 w2 ⟨A1, c1, rfl, own, a8⟩
   dsimp only at own ⊢
   have hw7 : w.heap.size < w2.heap.size := (p0.later a8).lt
   obtain ⟨p7, b1, -⟩ := zaw w2 #[(d : Int), false, .slice A1 T.length c1] 24
   replace p0 := (p0.later a8).later b1
   replace own := (own.less a0.size).below b1
   replace a0 := bup (bup a0 a8) b1
   clear b1 a8 tz tk hls
   go_wp2
   generalize w2.alloc (Obj.cells #[(d : Int), false, .slice A1 T.length c1] 24) = w3 at *
   generalize w2.heap.size = g7 at *
   rw [← zmM N (maxA ls) T] at own
   go_loopw [8] (fun t wq => ∃ i : Nat, i ≤ N ∧ t = .int .i64 i ∧ Own wq w.heap.size A1 c1 (ptF N (maxA ls) T (i * N)) ∧ Blk wq w.heap.size 24 #[.int .i64 0, false, .slice none 0 0] ∧ Blk wq g7 24 #[(d : Int), false, .slice A1 T.length c1] ∧ Below w.heap.size w wq) (fun t _ => N - (RowKit.intOf t).toNat)
   case atStart => exact ⟨0, by omega, rfl, by rw [Nat.zero_mul]; exact own, p0, p7, a0⟩
   case round =>
    clear own p0 p7 a0 t0 t1
    obtain ⟨i, hi, rfl, own, p0, p7, a0⟩ := hrel
    by_cases hlt : i < N
    ·have hlti : (i : Int) < 2 * (d : Int) := by have := b0.out; omega
     go_wp2
     go_loopw [9] (fun t wq => ∃ j : Nat, j ≤ N ∧ t = .int .i64 j ∧ Own wq w.heap.size A1 c1 (ptF N (maxA ls) T (i * N + j)) ∧ Blk wq w.heap.size 24 #[.int .i64 0, false, .slice none 0 0] ∧ Blk wq g7 24 #[(d : Int), false, .slice A1 T.length c1] ∧ Below w.heap.size w wq) (fun t _ => N - (RowKit.intOf t).toNat)
     case atStart => exact ⟨0, by omega, rfl, own, p0, p7, a0⟩
     case round =>
      clear own p0 p7 a0
      obtain ⟨j, hj, rfl, own, p0, p7, a0⟩ := hrel
      by_cases hlt2 : j < N
      ·have hltj : (j : Int) < 2 * (d : Int) := by have := b0.out; omega
       have a7 : i * N + (j + 1) = i * N + j + 1 := rfl
       by_cases hij : i = j
       ·have t1 : ((i : Int) == (j : Int)) = true := by rw [hij]; simp
        have HS : Hid (ptF N (maxA ls) T (i * N + j + 1) = ptF N (maxA ls) T (i * N + j)) := hid (zl6 (by rw [zcC hlt2, zc8 hlt2]; exact hij))
        clear hij
        go_wp2
        go_roundw
        case rel => exact ⟨j + 1, by omega, by go_num, by rw [a7, HS.out]; exact own, p0, p7, a0⟩
        case measure => simp [RowKit.intOf]; omega
       ·have t1 : ((i : Int) == (j : Int)) = false := by rw [beq_eq_false_iff_ne]; omega
        have HS : Hid (ptF N (maxA ls) T (i * N + j + 1) = (ptF N (maxA ls) T (i * N + j)).set (i * N + j) (maxA ls i j)) := hid (by
         have h := znH (N := N) (f := maxA ls) (m := T) (k := i * N + j) (by rw [zcC hlt2, zc8 hlt2]; exact hij)
         rw [zcC hlt2, zc8 hlt2] at h; exact h)
        have HD2 := hid (fun k hk => HDF.out k hk i j hlt hlt2)
        have HMS := hid (fun k hk => zjN (ls := ls) (i := i) (j := j) (k := k) hk)
        have HME := hid (znc ls i j)
        clear hij
        go_wp2
        go_loopw [10, 11] (fun r t wq => ∃ k : Nat, k ≤ ls.length ∧ t = .int .i64 (k : Int) ∧ r = .int .i64 (mxTo ls i j k) ∧ Own wq w.heap.size A1 c1 (ptF N (maxA ls) T (i * N + j)) ∧ Blk wq w.heap.size 24 #[.int .i64 0, false, .slice none 0 0] ∧ Blk wq g7 24 #[(d : Int), false, .slice A1 T.length c1] ∧ Below w.heap.size w wq) (fun _ t _ => ls.length - (RowKit.intOf t).toNat)
        case atStart => exact ⟨0, by omega, rfl, by rw [zkI], own, p0, p7, a0⟩
        case round =>
         clear own p0 p7 a0
         obtain ⟨k, hk, rfl, rfl, own, p0, p7, a0⟩ := hrel
         by_cases hkl : k < ls.length
         ·have tk : decide ((k : Int) < (ls.length : Int)) = true := decide_eq_true (by omega)
          obtain ⟨bb, off, Ak, ck, rfl, hB, hc, hrk⟩ := (HLS.out wr a0) k hkl
          have HDK := hid (HD2.out k hkl Ak ck wr hrk)
          have HMK := hid (HMS.out k hkl)
          generalize apartX ls[k] i j = R at *
          generalize mxTo ls i j k = M at *
          generalize ls[k].length = lk at *
          go_wp2_with fail
          (with_reducible refine HDK.out.mono ?_)
          rintro e5 w5 ⟨rfl, a9⟩
          replace own := own.below a9
          replace p0 := p0.later a9
          replace p7 := p7.later a9
          replace a0 := bup a0 a9
          clear a9 hc hrk HDK
          go_wp2
          go_roundw
          case rel => exact ⟨k + 1, by omega, by go_num, by rw [HMK.out]; first | rfl | (congr 1; omega), own, p0, p7, a0⟩
          case measure => simp [RowKit.intOf]; omega
         ·have tk : decide ((k : Int) < (ls.length : Int)) = false := decide_eq_false (by omega)
          obtain rfl : k = ls.length := by omega
          rw [HME.out]
          generalize maxA ls i j = R at *
          obtain ⟨a1, a2, a3, a4, a5, a6⟩ := zda b0.out hlt hlt2 hN1
          rw [← Int.mul_assoc] at a1 a2 a3 a5 a6
          rw [← HTL.out] at a4 a6
          obtain ⟨gA, rfl, hgA, hgB⟩ : ∃ g, A1 = some ⟨g, 0, none⟩ ∧ w.heap.size ≤ g ∧ g < wr.heap.size := by
           rcases own.form with ⟨_, h, _⟩ | h
           ·exfalso; have h5 := zhx N (maxA ls) T (i * N + j); rw [h] at h5; simp at h5; omega
           ·exact h
          obtain ⟨_, _, eA, _, cA⟩ := own.rd (i * N + j) (by rw [zhx]; exact a4)
          injection eA with eA; injection eA with eA1 eA2; subst eA1; subst eA2
          rw [Nat.zero_add] at cA
          have hfr := own.frozen (i * N + j)
          have ne0 := zak own p0 (by decide) gA rfl
          have ne7 := zak own p7 (by decide) gA rfl
          have HO6 := hid (own.store (i * N + j) R)
          rw [← HS.out] at HO6
          have HB6 := hid (a0.trans (zaG (i := i * N + j) (v := .int .i64 R) hgA a0.size))
          have HP6 := hid (p0.far (p := ⟨gA, i * N + j, none⟩) ne0 (.int .i64 R))
          have HP7 := hid (p7.far (p := ⟨gA, i * N + j, none⟩) ne7 (.int .i64 R))
          have x0 := zaa p7
          clear own p0 a0 HS
          go_wp2
          go_roundw
          case rel => exact ⟨j + 1, by omega, by go_num, by rw [a7]; exact HO6.out, HP6.out, HP7.out, HB6.out⟩
          case measure => simp [RowKit.intOf]; omega
      ·obtain rfl : j = N := by omega
       have hge : ¬ ((j : Int) < 2 * (d : Int)) := by have := b0.out; omega
       have b2 : i * j + j = (i + 1) * j := by rw [Nat.succ_mul]
       rw [b2] at own
       go_wp2
       go_roundw
       case rel => exact ⟨i + 1, by omega, by go_num, own, p0, p7, a0⟩
       case measure => simp [RowKit.intOf]; omega
    ·obtain rfl : i = N := by omega
     have hge : ¬ ((i : Int) < 2 * (d : Int)) := by have := b0.out; omega
     have HE := hid (b5.out T HTL.out HDG.out HNE.out)
     have hlen : T.length = (ptF i (maxA ls) T (i * i)).length := by rw [zhx]
     rw [hlen] at p7
     clear hlen
     generalize ptF i (maxA ls) T (i * i) = PM at *
     have x0 := zaa p7
     have y0 := zaa p0
     go_wp2
     have q9 := p0.set3 (v0 := .int .i64 (d : Int)) (v1 := .bool false) (v2 := .slice A1 PM.length c1)
     have o9 := own.far3 (g := w.heap.size) (v0 := .int .i64 (d : Int)) (v1 := .bool false) (v2 := .slice A1 PM.length c1) (zak own p0 (by decide))
     have b4 := a0.trans (zae (W := wr) (g := w.heap.size) (v0 := .int .i64 (d : Int)) (v1 := .bool false) (v2 := .slice A1 PM.length c1) (by omega) a0.size)
     obtain ⟨z0, z1, z2, fz⟩ := zaa q9
     refine bodyPost_ret (v := .tuple #[.agg #[(d : Int), false, .slice A1 PM.length c1], .int .i64 0]) (by simp [results, Tryz.results27, go_sem, z0, z1, z2]) rfl ?_
     exact ⟨A1, c1, by rw [HE.out], by rw [HE.out]; exact o9, b4⟩
end
section
theorem zkM : (Tryz.prog.info? 90).map (fun i => (i.zero, i.size, i.bytes)) = some (some (.agg #[.string "".toUTF8, .int .i64 0]), 2, 24) := by kernel_rfl
theorem zc2 {w : World} {base n s : Nat} {t : TypeId} {v : Value} {xs : List Value} (h : w.ownsRow base t s v n xs) (hn : 0 < n) : ∃ g cap, v = .slice (some ⟨g, 0, none⟩) n cap ∧ base ≤ g ∧ g < w.heap.size := by
 rcases h.2 with ⟨_, h0⟩ | ⟨g, cap, cur, h1, h2, h3, _⟩
 ·omega
 ·exact ⟨g, cap, h1, h2, (Array.getElem?_eq_some_iff.1 h3).1⟩
def OwnE (w : World) (base : Nat) (A : Option Addr) (cap : Nat) (es : List Edg) : Prop := w.ownsRow base 44 10 (.slice A es.length cap) es.length (es.flatMap Edg.cells)
def dcs (s : Value) (z : Int) : List Value := [s, .int .i64 z]
def OwnD (w : World) (base : Nat) (s : Value) (A : Option Addr) (cap : Nat) (sz : List Int) : Prop := w.ownsRow base 90 2 (.slice A sz.length cap) sz.length (sz.flatMap (dcs s))
section
variable {w w' : World} {base cap : Nat} {A : Option Addr} {es : List Edg} {sz : List Int} {s : Value}
theorem OwnE.nil (w : World) (base : Nat) : OwnE w base none 0 [] := World.ownsRow_nil _ _ _ _
theorem OwnD.nil (w : World) (base : Nat) (s : Value) : OwnD w base s none 0 [] := World.ownsRow_nil _ _ _ _
theorem OwnE.below (h : OwnE w base A cap es) (hb : Below w.heap.size w w') : OwnE w' base A cap es := World.ownsRow.kept h (zar hb none) (by cases h' : (Value.slice A es.length cap).ownBlock <;> simp)
theorem OwnD.below (h : OwnD w base s A cap sz) (hb : Below w.heap.size w w') : OwnD w' base s A cap sz := World.ownsRow.kept h (zar hb none) (by cases h' : (Value.slice A sz.length cap).ownBlock <;> simp)
theorem OwnE.rd (h : OwnE w base A cap es) : RdE w w.heap.size A es := by
 intro k hk
 obtain ⟨g, c, h1, _, h2⟩ := zc2 h (by omega)
 injection h1 with h1 _ _
 subst h1
 refine ⟨g, 0, rfl, h2, fun r hr => ?_⟩
 rw [Nat.zero_add]
 refine (World.ownsRow.cellAt (w := w) (xs := es.flatMap Edg.cells) h (k * 10 + r) (by omega)).trans ?_
 exact zhc Edg.cells 10 (fun _ => rfl) es k r hk hr
theorem OwnD.rd {t : ByteArray} (h : OwnD w base s A cap sz) (hs : s = .string t) : RdD w w.heap.size A sz := by
 intro k hk
 obtain ⟨g, c, h1, _, h2⟩ := zc2 h (by omega)
 injection h1 with h1 _ _
 subst h1
 have e := fun r (hr : r < 2) => (World.ownsRow.cellAt (w := w) (xs := sz.flatMap (dcs s)) h (k * 2 + r) (by omega)).trans (zhc (dcs s) 2 (fun _ => rfl) sz k r hk hr)
 refine ⟨g, 0, rfl, h2, ⟨t, ?_⟩, ?_⟩
 ·rw [Nat.zero_add]; exact (e 0 (by omega)).trans (by rw [hs]; rfl)
 ·rw [Nat.zero_add]; refine (e 1 (by omega)).trans ?_
  unfold gI; simp [dcs, hk]
end
theorem zb4 {ops : Array Oper} {rest : List Oper} {o : Oper} {a : Act} {Q : Exit → Act → World → Prop} {w : World} (s x : Operand)
  (ho : o.op = .call { callee := .builtin .append, args := #[s, x], argTypes := #[57, 57] }) (hgd : o.guard = none)
  (base : Nat) (A0 : Option Addr) (c0 : Nat) (es : List Edg) (y : Edg) (hs : a.eval s = .slice A0 es.length c0) (hown : OwnE w base A0 c0 es) (g : Nat)
  (hx : a.eval x = .slice (some ⟨g, 0, none⟩) 1 1) (hr : Blk w g 44 (ecs y)) (hl : es.length + 1 ≤ 1000000) (hbase : base ≤ w.heap.size)
  (h : ∀ A' cap' w', OwnE w' base A' cap' (es ++ [y]) → w.grownBy w' (Value.slice A0 es.length c0).ownBlock → Below base w w' → wpList Tryz.prog ops Q rest (a.put o.dst (.slice A' (es ++ [y]).length cap')) w') :
  wpList Tryz.prog ops Q (o :: rest) a w :=
 wpList_plain hgd fun K hK => by
  obtain ⟨v', w', a0, h2, h3, h5⟩ := zeB w base o.type _ _ _ y hown g hr hl hbase
  obtain ⟨g', cap', rfl, hg1, hg2⟩ := zc2 h2 (by omega)
  unfold Oper.wp execOp
  simp only [ho, resolve, invoke, builtin, Sem.run_bind, Sem.run_pure, Result.andThen_ok, List.map_toArray, List.map_cons, List.map_nil, hs, hx, a0]
  have a1 : (es ++ [y]).length = es.length + 1 := by simp
  have a2 : (es ++ [y]).flatMap Edg.cells = es.flatMap Edg.cells ++ y.cells := by simp
  rw [← a1]
  exact hK _ _ (h (some ⟨g', 0, none⟩) cap' w' (by unfold OwnE; rw [a2, a1]; exact h2) h3 (zat h3 (fun k hk => by
   rcases hown.2 with ⟨e, _⟩ | ⟨g2, _, _, e, hg, _⟩
   ·rw [e] at hk; simp [Value.ownBlock] at hk
   ·rw [e] at hk; simp [Value.ownBlock] at hk; omega) hbase))
theorem zds {ops : Array Oper} {rest : List Oper} {o : Oper} {a : Act} {Q : Exit → Act → World → Prop} {w : World} (s x : Operand)
  (ho : o.op = .call { callee := .builtin .append, args := #[s, x], argTypes := #[62, 62] }) (hgd : o.guard = none)
  (base : Nat) (A0 : Option Addr) (c0 : Nat) (nm : ByteArray) (sz : List Int) (y : Int) (hs : a.eval s = .slice A0 sz.length c0) (hown : OwnD w base (.string nm) A0 c0 sz) (g : Nat)
  (hx : a.eval x = .slice (some ⟨g, 0, none⟩) 1 1) (hr : Blk w g 90 #[.string nm, y]) (hl : sz.length + 1 ≤ 1000000) (hbase : base ≤ w.heap.size)
  (h : ∀ A' cap' w', OwnD w' base (.string nm) A' cap' (sz ++ [y]) → w.grownBy w' (Value.slice A0 sz.length c0).ownBlock → Below base w w' → wpList Tryz.prog ops Q rest (a.put o.dst (.slice A' (sz ++ [y]).length cap')) w') :
  wpList Tryz.prog ops Q (o :: rest) a w :=
 wpList_plain hgd fun K hK => by
  obtain ⟨i0, hi, hz0, hz1, hz2⟩ := info_parts zkM
  obtain ⟨v', w', a0, h2, h3, _, h5⟩ := run_append_own_at (P := Tryz.prog) w base 62 o.type _ i0 _ 2 24 Tryz.underlying62 hi hz0 hz1 hz2 rfl (by omega) _ _ _ hown ⟨g, 0, none⟩ 1 1 (dcs (.string nm) y) rfl
   (fun j u hu => by rw [zfl, Nat.zero_add, hr.cell j]; simpa [dcs] using hu) (fun u hu => by simp [dcs] at hu; rcases hu with rfl | rfl <;> rfl) (by unfold maxLen; omega) (by omega) hbase
  obtain ⟨g', cap', rfl, hg1, hg2⟩ := zc2 h2 (by omega)
  unfold Oper.wp execOp
  simp only [ho, resolve, invoke, builtin, Sem.run_bind, Sem.run_pure, Result.andThen_ok, List.map_toArray, List.map_cons, List.map_nil, hs, hx, a0]
  have a1 : (sz ++ [y]).length = sz.length + 1 := by simp
  have a2 : (sz ++ [y]).flatMap (dcs (.string nm)) = sz.flatMap (dcs (.string nm)) ++ dcs (.string nm) y := by simp
  rw [← a1]
  exact hK _ _ (h (some ⟨g', 0, none⟩) cap' w' (by unfold OwnD; rw [a2, a1]; exact h2) h3 (zat h3 (fun k hk => by
   rcases hown.2 with ⟨e, _⟩ | ⟨g2, _, _, e, hg, _⟩
   ·rw [e] at hk; simp [Value.ownBlock] at hk
   ·rw [e] at hk; simp [Value.ownBlock] at hk; omega) hbase))
theorem OwnD.other {w w' : World} {base cap : Nat} {A : Option Addr} {sz : List Int} {s : Value} {row : Option Nat} (h : OwnD w base s A cap sz) (hg : w.grownBy w' row) (hr : ∀ g, row = some g → ∃ cs t, Blk w g t cs ∧ t ≠ 90) : OwnD w' base s A cap sz := by
 refine World.ownsRow.kept h hg ?_
 rcases h.2 with ⟨h1, _⟩ | ⟨g2, cap', cur, h1, _, h3, _⟩
 ·rw [h1]; exact .inl rfl
 ·refine .inr (fun e => ?_)
  rw [h1] at e
  obtain ⟨cs', t, hb, h4⟩ := hr g2 (by rw [← e]; rfl)
  unfold Blk at hb
  rw [h3] at hb
  injection hb with hb
  injection hb with _ hb
  exact h4 hb.symm
theorem OwnD.setFar {w : World} {base cap : Nat} {A : Option Addr} {sz : List Int} {s : Value} (h : OwnD w base s A cap sz) {p : Addr} (hp : p.block < base) (u : Value) : OwnD (w.setCell p u) base s A cap sz :=
 World.ownsRow.kept h (zal w p u) (by
  rcases h.2 with ⟨h1, _⟩ | ⟨g2, cap', cur, h1, hb, _⟩
  ·rw [h1]; exact .inl rfl
  ·rw [h1]; exact .inr (fun e => by simp [Value.ownBlock] at e; omega))
end
end Go.Proofs.YtnmpgijiimglcaaGreat
