/-
  trans.ranged: a variable bounded by a range.
  dbm.Get, and span's reading of a closed octagon: what they answer.
-/
import Derived.Test.YtnmpgijiimglcaaGreatBUA13
namespace Go.Proofs.YtnmpgijiimglcaaGreat
section
open Go.RowKit
attribute [local go_sem ↓] Go.wp_at_zero Go.wp_at_succ

theorem rgbox {w : World} {g : Nat} {t : TypeId} {a b c d : Value} (h : Blk w g t #[a, b, c, d]) : w.cell? ⟨g, 0, none⟩ = some a ∧ w.cell? ⟨g, 1, none⟩ = some b ∧ w.cell? ⟨g, 2, none⟩ = some c ∧ w.cell? ⟨g, 3, none⟩ = some d ∧ ∀ j, w.frozen? ⟨g, j, none⟩ = false :=
  ⟨h.cell 0, h.cell 1, h.cell 2, h.cell 3, h.fr⟩
theorem withO_len (o : O) (i j : Nat) (c : Int) : (withO o i j c).m.length ≤ o.m.length := by
  unfold withO
  split
  · simp [emptyO]
  · split
    · split
      · simp [emptyO]
      · exact Nat.le_refl _
    · exact Nat.le_of_eq (boundM_len _ _ _ _ _)
/-- An octagon over the slice that came in, or of the call's own memory. -/
def AliasRes (w : World) (A : Option Addr) (m : List Int) (o : O) (e : Ending) (w' : World) : Prop := ∃ A1 c1, e = .returned (.agg #[.int .i64 o.n, .bool o.e, .slice A1 o.m.length c1]) ∧ ((A1 = A ∧ o.m = m) ∨ Own w' w.heap.size A1 c1 o.m) ∧ Below w.heap.size w w'
/-- A slice that reads so: of old memory, or a row of one's own. -/
def Sl (w : World) (B : Nat) (A : Option Addr) (c : Nat) (m : List Int) : Prop := Rd w B A m ∨ Own w B A c m
theorem Rd.far3 {W : World} {B g : Nat} {A : Option Addr} {m : List Int} {v0 v1 v2 : Value} (h : Rd W B A m) (hg : B ≤ g) : Rd (((W.setCell ⟨g, 0, none⟩ v0).setCell ⟨g, 1, none⟩ v1).setCell ⟨g, 2, none⟩ v2) B A m := fun k hk => by
  obtain ⟨b, off, hA, hB, hc⟩ := h k hk
  refine ⟨b, off, hA, hB, ?_⟩
  rw [World.cell?_setCell_other _ _ _ _ (by intro h; simp only [Addr.mk.injEq] at h; omega), World.cell?_setCell_other _ _ _ _ (by intro h; simp only [Addr.mk.injEq] at h; omega), World.cell?_setCell_other _ _ _ _ (by intro h; simp only [Addr.mk.injEq] at h; omega)]
  exact hc
section
variable {w w' : World} {B g c : Nat} {A : Option Addr} {m : List Int} {v0 v1 v2 : Value} {t : TypeId} {cs : Array Value}
theorem Sl.later (h : Sl w B A c m) (hb : Below w.heap.size w w') (hB : B ≤ w.heap.size) : Sl w' B A c m := h.imp (fun h => h.below (hb.mono hB)) (fun h => h.below hb)
theorem Sl.far3 (h : Sl w B A c m) (hg : B ≤ g) (hk : Blk w g t cs) (ht : t ≠ 2) : Sl (((w.setCell ⟨g, 0, none⟩ v0).setCell ⟨g, 1, none⟩ v1).setCell ⟨g, 2, none⟩ v2) B A c m := h.imp (fun h => h.far3 hg) (fun h => h.far3 (own_blk' h hk ht))
theorem Sl.rd (h : Sl w B A c m) (hB : B ≤ w.heap.size) : Rd w w.heap.size A m := h.elim (fun h => h.more hB) (fun h => h.rd)
end
set_option maxRecDepth 8000 in
set_option maxHeartbeats 2000000 in
theorem ranged_ff (n : Int) (o : O) (ok : OkO n o) (v : Nat) (_hv : (v : Int) < n) (lo hi : Int) (_hlo : I64 lo) (A : Option Addr) (cap : Nat) (w : World) (hx : Rd w w.heap.size A o.m) (_hm : o.m.length ≤ 17592186044416) :
    Calls Tryz.prog 152 #[.agg #[.int .i64 o.n, .bool o.e, .slice A o.m.length cap], .int .i64 (v : Int), .agg #[.int .i64 lo, .int .i64 hi, .bool false, .bool false]] w (AliasRes w A o.m (rangedO o v ⟨lo, hi, false, false⟩)) := by
  have hrng := ok.rng
  obtain ⟨p0, p1, p2, hb0, hsz⟩ := new_three w #[.int .i64 o.n, .bool o.e, .slice A o.m.length cap] #[.int .i64 lo, .int .i64 hi, .bool false, .bool false] #[.int .i64 0, .bool false, .slice none 0 0] 24 49 24
  have hx0 := hx.up hb0
  have HSZ := hid hsz
  have hxw := hx
  clear hsz hx
  have HR : Hid (rangedO o v ⟨lo, hi, false, false⟩ = o) := hid rfl
  generalize rangedO o v ⟨lo, hi, false, false⟩ = R at *
  go_enter Tryz.func152, Tryz.ntmps152
  obtain ⟨x0, x1, x2, fx⟩ := octbox p0
  obtain ⟨y0, y1, y2, y3, fy⟩ := rgbox p1
  go_wp2
  generalize ((w.alloc (Obj.cells #[.int .i64 o.n, .bool o.e, .slice A o.m.length cap] 24)).alloc (Obj.cells #[.int .i64 lo, .int .i64 hi, .bool false, .bool false] 49)).alloc (Obj.cells #[.int .i64 0, .bool false, .slice none 0 0] 24) = w0 at *
  have q3 := p2.set3 (v0 := .int .i64 o.n) (v1 := .bool o.e) (v2 := .slice A o.m.length cap)
  have hb3 := hb0.trans (below3 (W := w0) (g := w.heap.size + 1 + 1) (v0 := .int .i64 o.n) (v1 := .bool o.e) (v2 := .slice A o.m.length cap) (by omega) hb0.size)
  have hb4 := below3 (W := w0) (B := w.heap.size + 1 + 1) (g := w.heap.size + 1 + 1) (v0 := .int .i64 o.n) (v1 := .bool o.e) (v2 := .slice A o.m.length cap) (Nat.le_refl _) (Nat.le_of_lt p2.lt)
  obtain ⟨z0, z1, z2, fz⟩ := octbox q3
  refine bodyPost_ret (v := .agg #[.int .i64 o.n, .bool o.e, .slice A o.m.length cap]) (by simp [results, Tryz.results152, go_sem]) rfl ?_
  rw [HR.out]
  have hbX : ∀ W, Below w.heap.size w W → AliasRes w A o.m o (.returned (.agg #[.int .i64 o.n, .bool o.e, .slice A o.m.length cap])) W := fun W hW => ⟨A, cap, rfl, .inl ⟨rfl, rfl⟩, hW⟩
  exact hbX _ ((((Below.refl _ _).alloc (Nat.le_refl _) _).alloc (by simp) _).alloc (by simp; omega) _)

set_option maxRecDepth 8000 in
set_option maxHeartbeats 2000000 in
theorem ranged_ft (n : Int) (o : O) (ok : OkO n o) (v : Nat) (hv : (v : Int) < n) (lo hi : Int) (_hlo : I64 lo) (A : Option Addr) (cap : Nat) (w : World) (hx : Rd w w.heap.size A o.m) (hm : o.m.length ≤ 17592186044416) :
    Calls Tryz.prog 152 #[.agg #[.int .i64 o.n, .bool o.e, .slice A o.m.length cap], .int .i64 (v : Int), .agg #[.int .i64 lo, .int .i64 hi, .bool false, .bool true]] w (AliasRes w A o.m (rangedO o v ⟨lo, hi, false, true⟩)) := by
  have hrng := ok.rng
  obtain ⟨p0, p1, p2, hb0, hsz⟩ := new_three w #[.int .i64 o.n, .bool o.e, .slice A o.m.length cap] #[.int .i64 lo, .int .i64 hi, .bool false, .bool true] #[.int .i64 0, .bool false, .slice none 0 0] 24 49 24
  have hx0 := hx.up hb0
  have HSZ := hid hsz
  clear hsz hx
  have HR : Hid (rangedO o v ⟨lo, hi, false, true⟩ = withO o (2 * v) (2 * v + 1) (twiceB hi)) := hid rfl
  generalize rangedO o v ⟨lo, hi, false, true⟩ = R at *
  go_enter Tryz.func152, Tryz.ntmps152
  obtain ⟨x0, x1, x2, fx⟩ := octbox p0
  obtain ⟨y0, y1, y2, y3, fy⟩ := rgbox p1
  go_wp2
  generalize ((w.alloc (Obj.cells #[.int .i64 o.n, .bool o.e, .slice A o.m.length cap] 24)).alloc (Obj.cells #[.int .i64 lo, .int .i64 hi, .bool false, .bool true] 49)).alloc (Obj.cells #[.int .i64 0, .bool false, .slice none 0 0] 24) = w0 at *
  have g0 := later x0
  have g1 := later x1
  have g2 := later x2
  have k0 := later y0
  have k1 := later y1
  clear x0 x1 x2 fx y0 y1 y2 y3 fy
  refine wp_region_flow 8 (fun X => Below w0.heap.size w0 X) (by kernel_rfl) (by kernel_rfl) (Below.refl _ _).drew ?_
  (repeat (first | (refine Flow.skip (by rfl) ?_; simp only [Act.put, List.setIfInBounds_toArray, List.set_cons_zero, List.set_cons_succ]) | (refine' Flow.take _ (by rfl) (fun W hW R hR => ?_) ?_; rotate_left; (go_simp; (try go_bits); with_reducible exact hR); simp only [Act.put, List.setIfInBounds_toArray, List.set_cons_zero, List.set_cons_succ])))
  (refine Flow.call 135 #[.int .i64 (v : Int)] (.int .i64 ((2 * v : Nat) : Int)) (by rfl) (fun X hX => by go_simp) (fun X hX => (plus_ok v (by omega) _).mono fun e' w' ⟨he, hw⟩ => ⟨he, hw ▸ hX⟩) ?_; simp only [Act.put, List.setIfInBounds_toArray, List.set_cons_zero, List.set_cons_succ])
  (repeat (first | (refine Flow.skip (by rfl) ?_; simp only [Act.put, List.setIfInBounds_toArray, List.set_cons_zero, List.set_cons_succ]) | (refine' Flow.take _ (by rfl) (fun W hW R hR => ?_) ?_; rotate_left; (go_simp; (try go_bits); with_reducible exact hR); simp only [Act.put, List.setIfInBounds_toArray, List.set_cons_zero, List.set_cons_succ])))
  (refine Flow.call 138 #[.int .i64 (v : Int)] (.int .i64 ((2 * v + 1 : Nat) : Int)) (by rfl) (fun X hX => by go_simp) (fun X hX => (minus_ok v (by omega) _).mono fun e' w' ⟨he, hw⟩ => ⟨he, hw ▸ hX⟩) ?_; simp only [Act.put, List.setIfInBounds_toArray, List.set_cons_zero, List.set_cons_succ])
  (repeat (first | (refine Flow.skip (by rfl) ?_; simp only [Act.put, List.setIfInBounds_toArray, List.set_cons_zero, List.set_cons_succ]) | (refine' Flow.take _ (by rfl) (fun W hW R hR => ?_) ?_; rotate_left; (go_simp; (try go_bits); with_reducible exact hR); simp only [Act.put, List.setIfInBounds_toArray, List.set_cons_zero, List.set_cons_succ])))
  (refine Flow.call 205 #[.int .i64 hi] (.int .i64 (twiceB hi)) (by rfl) (fun X hX => by go_simp) (fun X hX => (twice_ok hi _).mono fun e' w' ⟨he, hw⟩ => ⟨he, hw ▸ hX⟩) ?_; simp only [Act.put, List.setIfInBounds_toArray, List.set_cons_zero, List.set_cons_succ])
  (repeat (first | (refine Flow.skip (by rfl) ?_; simp only [Act.put, List.setIfInBounds_toArray, List.set_cons_zero, List.set_cons_succ]) | (refine' Flow.take _ (by rfl) (fun W hW R hR => ?_) ?_; rotate_left; (go_simp; (try go_bits); with_reducible exact hR); simp only [Act.put, List.setIfInBounds_toArray, List.set_cons_zero, List.set_cons_succ])))
  intro u1 hu1
  clear g0 g1 g2 k0 k1
  replace p0 := p0.later hu1
  replace p1 := p1.later hu1
  replace p2 := p2.later hu1
  replace hb0 := bup hb0 hu1
  have HL := hid (limits_ok n o ok (2 * v) (2 * v + 1) (by omega) (by omega) (twiceB hi) A cap u1 (hx0.up hu1) hm)
  have lenb1 : (withO o (2 * v) (2 * v + 1) (twiceB hi)).m.length ≤ 17592186044416 := Nat.le_trans (withO_len _ _ _ _) hm
  have ok1 : OkO n (withO o (2 * v) (2 * v + 1) (twiceB hi)) := ok.with_ (by omega) (by omega) _
  generalize withO o (2 * v) (2 * v + 1) (twiceB hi) = r1 at *
  rw [show ((2 * v : Nat) : Int) = 2 * (v : Int) by omega, show ((2 * v + 1 : Nat) : Int) = 2 * (v : Int) + 1 by omega] at HL
  go_wp2_with fail
  (with_reducible refine HL.out.mono ?_)
  clear HL
  rintro e1 v1 ⟨A1, c1, rfl, own1, hv1⟩
  replace p0 := p0.later hv1
  replace p1 := p1.later hv1
  replace p2 := p2.later hv1
  replace hb0 := bup hb0 hv1
  have hlt1 : w0.heap.size ≤ u1.heap.size := hu1.size
  obtain ⟨x0, x1, x2, fx⟩ := octbox p0
  obtain ⟨y0, y1, y2, y3, fy⟩ := rgbox p1
  obtain ⟨z0, z1, z2, fz⟩ := octbox p2
  go_wp2
  clear x0 x1 x2 fx y0 y1 y2 y3 fy z0 z1 z2 fz
  have o1 := own1.far3 (g := w.heap.size) (v0 := .int .i64 r1.n) (v1 := .bool r1.e) (v2 := .slice A1 r1.m.length c1) (own_blk' own1 p0 (by decide))
  replace p2 := p2.far3 (g := w.heap.size) (v0 := .int .i64 r1.n) (v1 := .bool r1.e) (v2 := .slice A1 r1.m.length c1) (by omega)
  replace p1 := p1.far3 (g := w.heap.size) (v0 := .int .i64 r1.n) (v1 := .bool r1.e) (v2 := .slice A1 r1.m.length c1) (by omega)
  replace p0 := p0.set3 (v0 := .int .i64 r1.n) (v1 := .bool r1.e) (v2 := .slice A1 r1.m.length c1)
  have hs1 : u1.heap.size ≤ v1.heap.size := hv1.size
  replace hb0 := hb0.trans (below3 (W := v1) (g := w.heap.size) (v0 := .int .i64 r1.n) (v1 := .bool r1.e) (v2 := .slice A1 r1.m.length c1) (Nat.le_refl _) hb0.size)
  replace hs1 : u1.heap.size ≤ (((v1.setCell ⟨w.heap.size, 0, none⟩ (.int .i64 r1.n)).setCell ⟨w.heap.size, 1, none⟩ (.bool r1.e)).setCell ⟨w.heap.size, 2, none⟩ (.slice A1 r1.m.length c1)).heap.size := by simpa using hs1
  generalize ((v1.setCell ⟨w.heap.size, 0, none⟩ (.int .i64 r1.n)).setCell ⟨w.heap.size, 1, none⟩ (.bool r1.e)).setCell ⟨w.heap.size, 2, none⟩ (.slice A1 r1.m.length c1) = w1 at *
  have hx1 := o1.rd
  have q3 := p2.set3 (v0 := .int .i64 r1.n) (v1 := .bool r1.e) (v2 := .slice A1 r1.m.length c1)
  have hb3 := hb0.trans (below3 (W := w1) (g := w.heap.size + 1 + 1) (v0 := .int .i64 r1.n) (v1 := .bool r1.e) (v2 := .slice A1 r1.m.length c1) (by omega) hb0.size)
  have hb4 := below3 (W := w1) (B := w.heap.size + 1 + 1) (g := w.heap.size + 1 + 1) (v0 := .int .i64 r1.n) (v1 := .bool r1.e) (v2 := .slice A1 r1.m.length c1) (Nat.le_refl _) (Nat.le_of_lt p2.lt)
  obtain ⟨z0, z1, z2, fz⟩ := octbox q3
  have o9 := o1.far3 (g := w.heap.size + 1 + 1) (v0 := .int .i64 r1.n) (v1 := .bool r1.e) (v2 := .slice A1 r1.m.length c1) (own_blk' o1 p2 (by decide))
  refine bodyPost_ret (v := .agg #[.int .i64 r1.n, .bool r1.e, .slice A1 r1.m.length c1]) (by simp [results, Tryz.results152, go_sem, z0, z1, z2]) rfl ?_
  rw [HR.out]
  exact ⟨A1, c1, rfl, .inr (o9.less (by have := HSZ.out; have := hlt1; omega)), hb3⟩

set_option maxRecDepth 8000 in
set_option maxHeartbeats 2000000 in
theorem ranged_tf (n : Int) (o : O) (ok : OkO n o) (v : Nat) (hv : (v : Int) < n) (lo hi : Int) (hlo : I64 lo) (A : Option Addr) (cap : Nat) (w : World) (hx : Rd w w.heap.size A o.m) (hm : o.m.length ≤ 17592186044416) :
    Calls Tryz.prog 152 #[.agg #[.int .i64 o.n, .bool o.e, .slice A o.m.length cap], .int .i64 (v : Int), .agg #[.int .i64 lo, .int .i64 hi, .bool true, .bool false]] w (AliasRes w A o.m (rangedO o v ⟨lo, hi, true, false⟩)) := by
  have hrng := ok.rng
  obtain ⟨p0, p1, p2, hb0, hsz⟩ := new_three w #[.int .i64 o.n, .bool o.e, .slice A o.m.length cap] #[.int .i64 lo, .int .i64 hi, .bool true, .bool false] #[.int .i64 0, .bool false, .slice none 0 0] 24 49 24
  have hx0 := hx.up hb0
  have HSZ := hid hsz
  clear hsz hx
  have HR : Hid (rangedO o v ⟨lo, hi, true, false⟩ = withO o (2 * v + 1) (2 * v) (twiceB (negB lo))) := hid rfl
  generalize rangedO o v ⟨lo, hi, true, false⟩ = R at *
  go_enter Tryz.func152, Tryz.ntmps152
  obtain ⟨x0, x1, x2, fx⟩ := octbox p0
  obtain ⟨y0, y1, y2, y3, fy⟩ := rgbox p1
  go_wp2
  generalize ((w.alloc (Obj.cells #[.int .i64 o.n, .bool o.e, .slice A o.m.length cap] 24)).alloc (Obj.cells #[.int .i64 lo, .int .i64 hi, .bool true, .bool false] 49)).alloc (Obj.cells #[.int .i64 0, .bool false, .slice none 0 0] 24) = w0 at *
  have g0 := later x0
  have g1 := later x1
  have g2 := later x2
  have k0 := later y0
  have k1 := later y1
  clear x0 x1 x2 fx y0 y1 y2 y3 fy
  refine wp_region_flow 9 (fun X => Below w0.heap.size w0 X) (by kernel_rfl) (by kernel_rfl) (Below.refl _ _).drew ?_
  (repeat (first | (refine Flow.skip (by rfl) ?_; simp only [Act.put, List.setIfInBounds_toArray, List.set_cons_zero, List.set_cons_succ]) | (refine' Flow.take _ (by rfl) (fun W hW R hR => ?_) ?_; rotate_left; (go_simp; (try go_bits); with_reducible exact hR); simp only [Act.put, List.setIfInBounds_toArray, List.set_cons_zero, List.set_cons_succ])))
  (refine Flow.call 138 #[.int .i64 (v : Int)] (.int .i64 ((2 * v + 1 : Nat) : Int)) (by rfl) (fun X hX => by go_simp) (fun X hX => (minus_ok v (by omega) _).mono fun e' w' ⟨he, hw⟩ => ⟨he, hw ▸ hX⟩) ?_; simp only [Act.put, List.setIfInBounds_toArray, List.set_cons_zero, List.set_cons_succ])
  (repeat (first | (refine Flow.skip (by rfl) ?_; simp only [Act.put, List.setIfInBounds_toArray, List.set_cons_zero, List.set_cons_succ]) | (refine' Flow.take _ (by rfl) (fun W hW R hR => ?_) ?_; rotate_left; (go_simp; (try go_bits); with_reducible exact hR); simp only [Act.put, List.setIfInBounds_toArray, List.set_cons_zero, List.set_cons_succ])))
  (refine Flow.call 135 #[.int .i64 (v : Int)] (.int .i64 ((2 * v : Nat) : Int)) (by rfl) (fun X hX => by go_simp) (fun X hX => (plus_ok v (by omega) _).mono fun e' w' ⟨he, hw⟩ => ⟨he, hw ▸ hX⟩) ?_; simp only [Act.put, List.setIfInBounds_toArray, List.set_cons_zero, List.set_cons_succ])
  (repeat (first | (refine Flow.skip (by rfl) ?_; simp only [Act.put, List.setIfInBounds_toArray, List.set_cons_zero, List.set_cons_succ]) | (refine' Flow.take _ (by rfl) (fun W hW R hR => ?_) ?_; rotate_left; (go_simp; (try go_bits); with_reducible exact hR); simp only [Act.put, List.setIfInBounds_toArray, List.set_cons_zero, List.set_cons_succ])))
  (refine Flow.call 206 #[.int .i64 lo] (.int .i64 (negB lo)) (by rfl) (fun X hX => by go_simp) (fun X hX => (negated_ok lo hlo _).mono fun e' w' ⟨he, hw⟩ => ⟨he, hw ▸ hX⟩) ?_; simp only [Act.put, List.setIfInBounds_toArray, List.set_cons_zero, List.set_cons_succ])
  (repeat (first | (refine Flow.skip (by rfl) ?_; simp only [Act.put, List.setIfInBounds_toArray, List.set_cons_zero, List.set_cons_succ]) | (refine' Flow.take _ (by rfl) (fun W hW R hR => ?_) ?_; rotate_left; (go_simp; (try go_bits); with_reducible exact hR); simp only [Act.put, List.setIfInBounds_toArray, List.set_cons_zero, List.set_cons_succ])))
  (refine Flow.call 205 #[.int .i64 (negB lo)] (.int .i64 (twiceB (negB lo))) (by rfl) (fun X hX => by go_simp) (fun X hX => (twice_ok (negB lo) _).mono fun e' w' ⟨he, hw⟩ => ⟨he, hw ▸ hX⟩) ?_; simp only [Act.put, List.setIfInBounds_toArray, List.set_cons_zero, List.set_cons_succ])
  (repeat (first | (refine Flow.skip (by rfl) ?_; simp only [Act.put, List.setIfInBounds_toArray, List.set_cons_zero, List.set_cons_succ]) | (refine' Flow.take _ (by rfl) (fun W hW R hR => ?_) ?_; rotate_left; (go_simp; (try go_bits); with_reducible exact hR); simp only [Act.put, List.setIfInBounds_toArray, List.set_cons_zero, List.set_cons_succ])))
  intro u1 hu1
  clear g0 g1 g2 k0 k1
  replace p0 := p0.later hu1
  replace p1 := p1.later hu1
  replace p2 := p2.later hu1
  replace hb0 := bup hb0 hu1
  have HL := hid (limits_ok n o ok (2 * v + 1) (2 * v) (by omega) (by omega) (twiceB (negB lo)) A cap u1 (hx0.up hu1) hm)
  have lenb1 : (withO o (2 * v + 1) (2 * v) (twiceB (negB lo))).m.length ≤ 17592186044416 := Nat.le_trans (withO_len _ _ _ _) hm
  have ok1 : OkO n (withO o (2 * v + 1) (2 * v) (twiceB (negB lo))) := ok.with_ (by omega) (by omega) _
  generalize withO o (2 * v + 1) (2 * v) (twiceB (negB lo)) = r1 at *
  rw [show ((2 * v : Nat) : Int) = 2 * (v : Int) by omega, show ((2 * v + 1 : Nat) : Int) = 2 * (v : Int) + 1 by omega] at HL
  go_wp2_with fail
  (with_reducible refine HL.out.mono ?_)
  clear HL
  rintro e1 v1 ⟨A1, c1, rfl, own1, hv1⟩
  replace p0 := p0.later hv1
  replace p1 := p1.later hv1
  replace p2 := p2.later hv1
  replace hb0 := bup hb0 hv1
  have hlt1 : w0.heap.size ≤ u1.heap.size := hu1.size
  obtain ⟨x0, x1, x2, fx⟩ := octbox p0
  obtain ⟨y0, y1, y2, y3, fy⟩ := rgbox p1
  obtain ⟨z0, z1, z2, fz⟩ := octbox p2
  go_wp2
  clear x0 x1 x2 fx y0 y1 y2 y3 fy z0 z1 z2 fz
  have o1 := own1.far3 (g := w.heap.size) (v0 := .int .i64 r1.n) (v1 := .bool r1.e) (v2 := .slice A1 r1.m.length c1) (own_blk' own1 p0 (by decide))
  replace p2 := p2.far3 (g := w.heap.size) (v0 := .int .i64 r1.n) (v1 := .bool r1.e) (v2 := .slice A1 r1.m.length c1) (by omega)
  replace p1 := p1.far3 (g := w.heap.size) (v0 := .int .i64 r1.n) (v1 := .bool r1.e) (v2 := .slice A1 r1.m.length c1) (by omega)
  replace p0 := p0.set3 (v0 := .int .i64 r1.n) (v1 := .bool r1.e) (v2 := .slice A1 r1.m.length c1)
  have hs1 : u1.heap.size ≤ v1.heap.size := hv1.size
  replace hb0 := hb0.trans (below3 (W := v1) (g := w.heap.size) (v0 := .int .i64 r1.n) (v1 := .bool r1.e) (v2 := .slice A1 r1.m.length c1) (Nat.le_refl _) hb0.size)
  replace hs1 : u1.heap.size ≤ (((v1.setCell ⟨w.heap.size, 0, none⟩ (.int .i64 r1.n)).setCell ⟨w.heap.size, 1, none⟩ (.bool r1.e)).setCell ⟨w.heap.size, 2, none⟩ (.slice A1 r1.m.length c1)).heap.size := by simpa using hs1
  generalize ((v1.setCell ⟨w.heap.size, 0, none⟩ (.int .i64 r1.n)).setCell ⟨w.heap.size, 1, none⟩ (.bool r1.e)).setCell ⟨w.heap.size, 2, none⟩ (.slice A1 r1.m.length c1) = w1 at *
  have hx1 := o1.rd
  have q3 := p2.set3 (v0 := .int .i64 r1.n) (v1 := .bool r1.e) (v2 := .slice A1 r1.m.length c1)
  have hb3 := hb0.trans (below3 (W := w1) (g := w.heap.size + 1 + 1) (v0 := .int .i64 r1.n) (v1 := .bool r1.e) (v2 := .slice A1 r1.m.length c1) (by omega) hb0.size)
  have hb4 := below3 (W := w1) (B := w.heap.size + 1 + 1) (g := w.heap.size + 1 + 1) (v0 := .int .i64 r1.n) (v1 := .bool r1.e) (v2 := .slice A1 r1.m.length c1) (Nat.le_refl _) (Nat.le_of_lt p2.lt)
  obtain ⟨z0, z1, z2, fz⟩ := octbox q3
  have o9 := o1.far3 (g := w.heap.size + 1 + 1) (v0 := .int .i64 r1.n) (v1 := .bool r1.e) (v2 := .slice A1 r1.m.length c1) (own_blk' o1 p2 (by decide))
  refine bodyPost_ret (v := .agg #[.int .i64 r1.n, .bool r1.e, .slice A1 r1.m.length c1]) (by simp [results, Tryz.results152, go_sem, z0, z1, z2]) rfl ?_
  rw [HR.out]
  exact ⟨A1, c1, rfl, .inr (o9.less (by have := HSZ.out; have := hlt1; omega)), hb3⟩

set_option maxRecDepth 8000 in
set_option maxHeartbeats 2000000 in
theorem ranged_tt (n : Int) (o : O) (ok : OkO n o) (v : Nat) (hv : (v : Int) < n) (lo hi : Int) (hlo : I64 lo) (A : Option Addr) (cap : Nat) (w : World) (hx : Rd w w.heap.size A o.m) (hm : o.m.length ≤ 17592186044416) :
    Calls Tryz.prog 152 #[.agg #[.int .i64 o.n, .bool o.e, .slice A o.m.length cap], .int .i64 (v : Int), .agg #[.int .i64 lo, .int .i64 hi, .bool true, .bool true]] w (AliasRes w A o.m (rangedO o v ⟨lo, hi, true, true⟩)) := by
  have hrng := ok.rng
  obtain ⟨p0, p1, p2, hb0, hsz⟩ := new_three w #[.int .i64 o.n, .bool o.e, .slice A o.m.length cap] #[.int .i64 lo, .int .i64 hi, .bool true, .bool true] #[.int .i64 0, .bool false, .slice none 0 0] 24 49 24
  have hx0 := hx.up hb0
  have HSZ := hid hsz
  clear hsz hx
  have HR : Hid (rangedO o v ⟨lo, hi, true, true⟩ = withO (withO o (2 * v) (2 * v + 1) (twiceB hi)) (2 * v + 1) (2 * v) (twiceB (negB lo))) := hid rfl
  generalize rangedO o v ⟨lo, hi, true, true⟩ = R at *
  go_enter Tryz.func152, Tryz.ntmps152
  obtain ⟨x0, x1, x2, fx⟩ := octbox p0
  obtain ⟨y0, y1, y2, y3, fy⟩ := rgbox p1
  go_wp2
  generalize ((w.alloc (Obj.cells #[.int .i64 o.n, .bool o.e, .slice A o.m.length cap] 24)).alloc (Obj.cells #[.int .i64 lo, .int .i64 hi, .bool true, .bool true] 49)).alloc (Obj.cells #[.int .i64 0, .bool false, .slice none 0 0] 24) = w0 at *
  have g0 := later x0
  have g1 := later x1
  have g2 := later x2
  have k0 := later y0
  have k1 := later y1
  clear x0 x1 x2 fx y0 y1 y2 y3 fy
  refine wp_region_flow 8 (fun X => Below w0.heap.size w0 X) (by kernel_rfl) (by kernel_rfl) (Below.refl _ _).drew ?_
  (repeat (first | (refine Flow.skip (by rfl) ?_; simp only [Act.put, List.setIfInBounds_toArray, List.set_cons_zero, List.set_cons_succ]) | (refine' Flow.take _ (by rfl) (fun W hW R hR => ?_) ?_; rotate_left; (go_simp; (try go_bits); with_reducible exact hR); simp only [Act.put, List.setIfInBounds_toArray, List.set_cons_zero, List.set_cons_succ])))
  (refine Flow.call 135 #[.int .i64 (v : Int)] (.int .i64 ((2 * v : Nat) : Int)) (by rfl) (fun X hX => by go_simp) (fun X hX => (plus_ok v (by omega) _).mono fun e' w' ⟨he, hw⟩ => ⟨he, hw ▸ hX⟩) ?_; simp only [Act.put, List.setIfInBounds_toArray, List.set_cons_zero, List.set_cons_succ])
  (repeat (first | (refine Flow.skip (by rfl) ?_; simp only [Act.put, List.setIfInBounds_toArray, List.set_cons_zero, List.set_cons_succ]) | (refine' Flow.take _ (by rfl) (fun W hW R hR => ?_) ?_; rotate_left; (go_simp; (try go_bits); with_reducible exact hR); simp only [Act.put, List.setIfInBounds_toArray, List.set_cons_zero, List.set_cons_succ])))
  (refine Flow.call 138 #[.int .i64 (v : Int)] (.int .i64 ((2 * v + 1 : Nat) : Int)) (by rfl) (fun X hX => by go_simp) (fun X hX => (minus_ok v (by omega) _).mono fun e' w' ⟨he, hw⟩ => ⟨he, hw ▸ hX⟩) ?_; simp only [Act.put, List.setIfInBounds_toArray, List.set_cons_zero, List.set_cons_succ])
  (repeat (first | (refine Flow.skip (by rfl) ?_; simp only [Act.put, List.setIfInBounds_toArray, List.set_cons_zero, List.set_cons_succ]) | (refine' Flow.take _ (by rfl) (fun W hW R hR => ?_) ?_; rotate_left; (go_simp; (try go_bits); with_reducible exact hR); simp only [Act.put, List.setIfInBounds_toArray, List.set_cons_zero, List.set_cons_succ])))
  (refine Flow.call 205 #[.int .i64 hi] (.int .i64 (twiceB hi)) (by rfl) (fun X hX => by go_simp) (fun X hX => (twice_ok hi _).mono fun e' w' ⟨he, hw⟩ => ⟨he, hw ▸ hX⟩) ?_; simp only [Act.put, List.setIfInBounds_toArray, List.set_cons_zero, List.set_cons_succ])
  (repeat (first | (refine Flow.skip (by rfl) ?_; simp only [Act.put, List.setIfInBounds_toArray, List.set_cons_zero, List.set_cons_succ]) | (refine' Flow.take _ (by rfl) (fun W hW R hR => ?_) ?_; rotate_left; (go_simp; (try go_bits); with_reducible exact hR); simp only [Act.put, List.setIfInBounds_toArray, List.set_cons_zero, List.set_cons_succ])))
  intro u1 hu1
  clear g0 g1 g2 k0 k1
  replace p0 := p0.later hu1
  replace p1 := p1.later hu1
  replace p2 := p2.later hu1
  replace hb0 := bup hb0 hu1
  have HL := hid (limits_ok n o ok (2 * v) (2 * v + 1) (by omega) (by omega) (twiceB hi) A cap u1 (hx0.up hu1) hm)
  have lenb1 : (withO o (2 * v) (2 * v + 1) (twiceB hi)).m.length ≤ 17592186044416 := Nat.le_trans (withO_len _ _ _ _) hm
  have ok1 : OkO n (withO o (2 * v) (2 * v + 1) (twiceB hi)) := ok.with_ (by omega) (by omega) _
  generalize withO o (2 * v) (2 * v + 1) (twiceB hi) = r1 at *
  rw [show ((2 * v : Nat) : Int) = 2 * (v : Int) by omega, show ((2 * v + 1 : Nat) : Int) = 2 * (v : Int) + 1 by omega] at HL
  go_wp2_with fail
  (with_reducible refine HL.out.mono ?_)
  clear HL
  rintro e1 v1 ⟨A1, c1, rfl, own1, hv1⟩
  replace p0 := p0.later hv1
  replace p1 := p1.later hv1
  replace p2 := p2.later hv1
  replace hb0 := bup hb0 hv1
  have hlt1 : w0.heap.size ≤ u1.heap.size := hu1.size
  obtain ⟨x0, x1, x2, fx⟩ := octbox p0
  obtain ⟨y0, y1, y2, y3, fy⟩ := rgbox p1
  obtain ⟨z0, z1, z2, fz⟩ := octbox p2
  go_wp2
  clear x0 x1 x2 fx y0 y1 y2 y3 fy z0 z1 z2 fz
  have o1 := own1.far3 (g := w.heap.size) (v0 := .int .i64 r1.n) (v1 := .bool r1.e) (v2 := .slice A1 r1.m.length c1) (own_blk' own1 p0 (by decide))
  replace p2 := p2.far3 (g := w.heap.size) (v0 := .int .i64 r1.n) (v1 := .bool r1.e) (v2 := .slice A1 r1.m.length c1) (by omega)
  replace p1 := p1.far3 (g := w.heap.size) (v0 := .int .i64 r1.n) (v1 := .bool r1.e) (v2 := .slice A1 r1.m.length c1) (by omega)
  replace p0 := p0.set3 (v0 := .int .i64 r1.n) (v1 := .bool r1.e) (v2 := .slice A1 r1.m.length c1)
  have hs1 : u1.heap.size ≤ v1.heap.size := hv1.size
  replace hb0 := hb0.trans (below3 (W := v1) (g := w.heap.size) (v0 := .int .i64 r1.n) (v1 := .bool r1.e) (v2 := .slice A1 r1.m.length c1) (Nat.le_refl _) hb0.size)
  replace hs1 : u1.heap.size ≤ (((v1.setCell ⟨w.heap.size, 0, none⟩ (.int .i64 r1.n)).setCell ⟨w.heap.size, 1, none⟩ (.bool r1.e)).setCell ⟨w.heap.size, 2, none⟩ (.slice A1 r1.m.length c1)).heap.size := by simpa using hs1
  generalize ((v1.setCell ⟨w.heap.size, 0, none⟩ (.int .i64 r1.n)).setCell ⟨w.heap.size, 1, none⟩ (.bool r1.e)).setCell ⟨w.heap.size, 2, none⟩ (.slice A1 r1.m.length c1) = w1 at *
  have hx1 := o1.rd
  obtain ⟨x0, x1, x2, fx⟩ := octbox p0
  obtain ⟨y0, y1, y2, y3, fy⟩ := rgbox p1
  have g0 := later x0
  have g1 := later x1
  have g2 := later x2
  have k0 := later y0
  have k1 := later y1
  clear x0 x1 x2 fx y0 y1 y2 y3 fy
  refine wp_region_flow 9 (fun X => Below w1.heap.size w1 X) (by kernel_rfl) (by kernel_rfl) (Below.refl _ _).drew ?_
  (repeat (first | (refine Flow.skip (by rfl) ?_; simp only [Act.put, List.setIfInBounds_toArray, List.set_cons_zero, List.set_cons_succ]) | (refine' Flow.take _ (by rfl) (fun W hW R hR => ?_) ?_; rotate_left; (go_simp; (try go_bits); with_reducible exact hR); simp only [Act.put, List.setIfInBounds_toArray, List.set_cons_zero, List.set_cons_succ])))
  (refine Flow.call 138 #[.int .i64 (v : Int)] (.int .i64 ((2 * v + 1 : Nat) : Int)) (by rfl) (fun X hX => by go_simp) (fun X hX => (minus_ok v (by omega) _).mono fun e' w' ⟨he, hw⟩ => ⟨he, hw ▸ hX⟩) ?_; simp only [Act.put, List.setIfInBounds_toArray, List.set_cons_zero, List.set_cons_succ])
  (repeat (first | (refine Flow.skip (by rfl) ?_; simp only [Act.put, List.setIfInBounds_toArray, List.set_cons_zero, List.set_cons_succ]) | (refine' Flow.take _ (by rfl) (fun W hW R hR => ?_) ?_; rotate_left; (go_simp; (try go_bits); with_reducible exact hR); simp only [Act.put, List.setIfInBounds_toArray, List.set_cons_zero, List.set_cons_succ])))
  (refine Flow.call 135 #[.int .i64 (v : Int)] (.int .i64 ((2 * v : Nat) : Int)) (by rfl) (fun X hX => by go_simp) (fun X hX => (plus_ok v (by omega) _).mono fun e' w' ⟨he, hw⟩ => ⟨he, hw ▸ hX⟩) ?_; simp only [Act.put, List.setIfInBounds_toArray, List.set_cons_zero, List.set_cons_succ])
  (repeat (first | (refine Flow.skip (by rfl) ?_; simp only [Act.put, List.setIfInBounds_toArray, List.set_cons_zero, List.set_cons_succ]) | (refine' Flow.take _ (by rfl) (fun W hW R hR => ?_) ?_; rotate_left; (go_simp; (try go_bits); with_reducible exact hR); simp only [Act.put, List.setIfInBounds_toArray, List.set_cons_zero, List.set_cons_succ])))
  (refine Flow.call 206 #[.int .i64 lo] (.int .i64 (negB lo)) (by rfl) (fun X hX => by go_simp) (fun X hX => (negated_ok lo hlo _).mono fun e' w' ⟨he, hw⟩ => ⟨he, hw ▸ hX⟩) ?_; simp only [Act.put, List.setIfInBounds_toArray, List.set_cons_zero, List.set_cons_succ])
  (repeat (first | (refine Flow.skip (by rfl) ?_; simp only [Act.put, List.setIfInBounds_toArray, List.set_cons_zero, List.set_cons_succ]) | (refine' Flow.take _ (by rfl) (fun W hW R hR => ?_) ?_; rotate_left; (go_simp; (try go_bits); with_reducible exact hR); simp only [Act.put, List.setIfInBounds_toArray, List.set_cons_zero, List.set_cons_succ])))
  (refine Flow.call 205 #[.int .i64 (negB lo)] (.int .i64 (twiceB (negB lo))) (by rfl) (fun X hX => by go_simp) (fun X hX => (twice_ok (negB lo) _).mono fun e' w' ⟨he, hw⟩ => ⟨he, hw ▸ hX⟩) ?_; simp only [Act.put, List.setIfInBounds_toArray, List.set_cons_zero, List.set_cons_succ])
  (repeat (first | (refine Flow.skip (by rfl) ?_; simp only [Act.put, List.setIfInBounds_toArray, List.set_cons_zero, List.set_cons_succ]) | (refine' Flow.take _ (by rfl) (fun W hW R hR => ?_) ?_; rotate_left; (go_simp; (try go_bits); with_reducible exact hR); simp only [Act.put, List.setIfInBounds_toArray, List.set_cons_zero, List.set_cons_succ])))
  intro u2 hu2
  clear g0 g1 g2 k0 k1
  replace p0 := p0.later hu2
  replace p1 := p1.later hu2
  replace p2 := p2.later hu2
  replace hb0 := bup hb0 hu2
  have HL := hid (limits_ok n r1 ok1 (2 * v + 1) (2 * v) (by omega) (by omega) (twiceB (negB lo)) A1 c1 u2 (hx1.up hu2) lenb1)
  have lenb2 : (withO r1 (2 * v + 1) (2 * v) (twiceB (negB lo))).m.length ≤ 17592186044416 := Nat.le_trans (withO_len _ _ _ _) lenb1
  have ok2 : OkO n (withO r1 (2 * v + 1) (2 * v) (twiceB (negB lo))) := ok1.with_ (by omega) (by omega) _
  generalize withO r1 (2 * v + 1) (2 * v) (twiceB (negB lo)) = r2 at *
  rw [show ((2 * v : Nat) : Int) = 2 * (v : Int) by omega, show ((2 * v + 1 : Nat) : Int) = 2 * (v : Int) + 1 by omega] at HL
  go_wp2_with fail
  (with_reducible refine HL.out.mono ?_)
  clear HL
  rintro e2 v2 ⟨A2, c2, rfl, own2, hv2⟩
  replace p0 := p0.later hv2
  replace p1 := p1.later hv2
  replace p2 := p2.later hv2
  replace hb0 := bup hb0 hv2
  have hlt2 : w0.heap.size ≤ u2.heap.size := by have := hlt1; have := hu2.size; have := hs1; omega
  obtain ⟨x0, x1, x2, fx⟩ := octbox p0
  obtain ⟨y0, y1, y2, y3, fy⟩ := rgbox p1
  obtain ⟨z0, z1, z2, fz⟩ := octbox p2
  go_wp2
  clear x0 x1 x2 fx y0 y1 y2 y3 fy z0 z1 z2 fz
  have o2 := own2.far3 (g := w.heap.size) (v0 := .int .i64 r2.n) (v1 := .bool r2.e) (v2 := .slice A2 r2.m.length c2) (own_blk' own2 p0 (by decide))
  replace p2 := p2.far3 (g := w.heap.size) (v0 := .int .i64 r2.n) (v1 := .bool r2.e) (v2 := .slice A2 r2.m.length c2) (by omega)
  replace p1 := p1.far3 (g := w.heap.size) (v0 := .int .i64 r2.n) (v1 := .bool r2.e) (v2 := .slice A2 r2.m.length c2) (by omega)
  replace p0 := p0.set3 (v0 := .int .i64 r2.n) (v1 := .bool r2.e) (v2 := .slice A2 r2.m.length c2)
  have hs2 : u2.heap.size ≤ v2.heap.size := hv2.size
  replace hb0 := hb0.trans (below3 (W := v2) (g := w.heap.size) (v0 := .int .i64 r2.n) (v1 := .bool r2.e) (v2 := .slice A2 r2.m.length c2) (Nat.le_refl _) hb0.size)
  replace hs2 : u2.heap.size ≤ (((v2.setCell ⟨w.heap.size, 0, none⟩ (.int .i64 r2.n)).setCell ⟨w.heap.size, 1, none⟩ (.bool r2.e)).setCell ⟨w.heap.size, 2, none⟩ (.slice A2 r2.m.length c2)).heap.size := by simpa using hs2
  generalize ((v2.setCell ⟨w.heap.size, 0, none⟩ (.int .i64 r2.n)).setCell ⟨w.heap.size, 1, none⟩ (.bool r2.e)).setCell ⟨w.heap.size, 2, none⟩ (.slice A2 r2.m.length c2) = w2 at *
  have hx2 := o2.rd
  have q3 := p2.set3 (v0 := .int .i64 r2.n) (v1 := .bool r2.e) (v2 := .slice A2 r2.m.length c2)
  have hb3 := hb0.trans (below3 (W := w2) (g := w.heap.size + 1 + 1) (v0 := .int .i64 r2.n) (v1 := .bool r2.e) (v2 := .slice A2 r2.m.length c2) (by omega) hb0.size)
  have hb4 := below3 (W := w2) (B := w.heap.size + 1 + 1) (g := w.heap.size + 1 + 1) (v0 := .int .i64 r2.n) (v1 := .bool r2.e) (v2 := .slice A2 r2.m.length c2) (Nat.le_refl _) (Nat.le_of_lt p2.lt)
  obtain ⟨z0, z1, z2, fz⟩ := octbox q3
  have o9 := o2.far3 (g := w.heap.size + 1 + 1) (v0 := .int .i64 r2.n) (v1 := .bool r2.e) (v2 := .slice A2 r2.m.length c2) (own_blk' o2 p2 (by decide))
  refine bodyPost_ret (v := .agg #[.int .i64 r2.n, .bool r2.e, .slice A2 r2.m.length c2]) (by simp [results, Tryz.results152, go_sem, z0, z1, z2]) rfl ?_
  rw [HR.out]
  exact ⟨A2, c2, rfl, .inr (o9.less (by have := HSZ.out; have := hlt2; omega)), hb3⟩

theorem ranged_ok (n : Int) (o : O) (ok : OkO n o) (v : Nat) (hv : (v : Int) < n) (r : Rg) (hlo : I64 r.lo) (A : Option Addr) (cap : Nat) (w : World) (hx : Rd w w.heap.size A o.m) (hm : o.m.length ≤ 17592186044416) :
    Calls Tryz.prog 152 #[.agg #[.int .i64 o.n, .bool o.e, .slice A o.m.length cap], .int .i64 (v : Int), r.val] w (AliasRes w A o.m (rangedO o v r)) := by
  obtain ⟨lo, hi, hl, hh⟩ := r
  cases hl <;> cases hh
  · exact ranged_ff n o ok v hv lo hi hlo A cap w hx hm
  · exact ranged_ft n o ok v hv lo hi hlo A cap w hx hm
  · exact ranged_tf n o ok v hv lo hi hlo A cap w hx hm
  · exact ranged_tt n o ok v hv lo hi hlo A cap w hx hm
end
section
open Go.RowKit
attribute [local go_sem ↓] Go.wp_at_zero Go.wp_at_succ

theorem new_one (w : World) (cs : Array Value) (t : TypeId) : Blk (w.alloc (.cells cs t)) w.heap.size t cs ∧ Below w.heap.size w (w.alloc (.cells cs t)) ∧ (w.alloc (.cells cs t)).heap.size = w.heap.size + 1 :=
  ⟨Blk.new w t cs, new1 w _, by simp⟩

theorem opbox {w : World} {g : Nat} {t : TypeId} {a b : Value} (h : Blk w g t #[a, b]) : w.cell? ⟨g, 0, none⟩ = some a ∧ w.cell? ⟨g, 1, none⟩ = some b ∧ ∀ j, w.frozen? ⟨g, j, none⟩ = false :=
  ⟨h.cell 0, h.cell 1, h.fr⟩
set_option maxRecDepth 8000 in
set_option maxHeartbeats 2000000 in
theorem get_ok (n : Int) (m : List Int) (N i j : Nat) (A : Option Addr) (cap : Nat) (w : World) (hN : (N : Int) = 2 * n) (hn : N ≤ 128) (hc : Cells N m) (hi : i < N) (hj : j < N) (hx : Rd w w.heap.size A m) (hm : m.length ≤ 17592186044416) :
    Calls Tryz.prog 216 #[.agg #[.int .i64 n, .bool false, .slice A m.length cap], .int .i64 (i : Int), .int .i64 (j : Int)] w fun e w' => e = .returned (.tuple #[.int .i64 (G N m i j), .int .i64 0]) ∧ Below w.heap.size w w' := by
  obtain ⟨p0, hb0, hsz⟩ := new_one w #[.int .i64 n, .bool false, .slice A m.length cap] 24
  have hx0 := hx.up hb0
  have hk : check ⟨n, false, m⟩ = 0 := check_of hN hn hc
  have HK := hid hk
  have HN := hid hN
  clear hk hsz
  have hn0 : 0 ≤ n := by omega
  have hn1 : n ≤ 64 := by omega
  go_enter Tryz.func216, Tryz.ntmps216
  go_wp2_with fail
  generalize w.alloc (Obj.cells #[.int .i64 n, .bool false, .slice A m.length cap] 24) = w0 at *
  have HC := hid (check_any ⟨n, false, m⟩ A cap w0 hx0 (by dsimp only; omega))
  rw [HK.out] at HC
  (with_reducible refine HC.out.mono ?_)
  clear HC
  rintro e1 w1 ⟨rfl, hb1⟩
  replace p0 := p0.later hb1
  replace hx0 := hx0.up hb1
  replace hb0 := bup hb0 hb1
  obtain ⟨x0, x1, x2, fx⟩ := octbox p0
  have HW := hid (within_any n false A m.length cap (i : Int) (j : Int) w1 hn0 hn1)
  rw [show decide (0 ≤ (i : Int) ∧ (i : Int) < 2 * n ∧ 0 ≤ (j : Int) ∧ (j : Int) < 2 * n) = true by rw [decide_eq_true_eq]; have := HN.out; omega] at HW
  go_wp2_with fail
  (with_reducible refine HW.out.mono ?_)
  clear HW x0 x1 x2 fx
  rintro e2 w2 ⟨rfl, hb2⟩
  replace p0 := p0.later hb2
  replace hx0 := hx0.up hb2
  replace hb0 := bup hb0 hb2
  obtain ⟨x0, x1, x2, fx⟩ := octbox p0
  obtain ⟨q1, q2, q3, q4, q5, q6⟩ := idx_ok (i := i) (j := j) HN.out hi hj hn
  have hl := hc.len
  rw [← hl] at q4 q6
  clear hl
  obtain ⟨g1, o1, rfl, hg1, c4⟩ := hx0 (i * N + j) q4
  obtain ⟨v, hv⟩ : ∃ v, v = G N m i j := ⟨_, rfl⟩
  have HV := hid hv
  rw [show gI m ((i * N + j : Nat) : Int) = v from hv.symm] at c4
  clear hv
  go_wp2_with fail
  have f0 := later x0
  have f1 := later x1
  have f2 := later x2
  have f4 := later c4
  clear x0 x1 x2 fx c4
  refine wp_region_flow 8 (fun X => Below w2.heap.size w2 X) (by kernel_rfl) (by kernel_rfl) (Below.refl _ _).drew ?_
  (repeat (first | (refine Flow.skip (by rfl) ?_; simp only [Act.put, List.setIfInBounds_toArray, List.set_cons_zero, List.set_cons_succ]) | (refine' Flow.take _ (by rfl) (fun W hW R hR => ?_) ?_; rotate_left; (go_simp; (try go_bits); with_reducible exact hR); simp only [Act.put, List.setIfInBounds_toArray, List.set_cons_zero, List.set_cons_succ])))
  (refine Flow.call 85 #[.agg #[.int .i64 (i : Int), .int .i64 (j : Int)], .int .i64 n] (.int .i64 (2 * n * (i : Int) + (j : Int))) (by rfl) (fun X hX => by go_simp) (fun X hX => (at_any _ _ _ _ hn0 hn1 (by omega) (by omega) (by omega) (by omega)).mono fun e' w' ⟨he, hb'⟩ => ⟨he, bstep hX hX.size hb'⟩) ?_; simp only [Act.put, List.setIfInBounds_toArray, List.set_cons_zero, List.set_cons_succ])
  (repeat (first | (refine Flow.skip (by rfl) ?_; simp only [Act.put, List.setIfInBounds_toArray, List.set_cons_zero, List.set_cons_succ]) | (refine' Flow.take _ (by rfl) (fun W hW R hR => ?_) ?_; rotate_left; (go_simp; (try go_bits); with_reducible exact hR); simp only [Act.put, List.setIfInBounds_toArray, List.set_cons_zero, List.set_cons_succ])))
  intro w3 hb3
  have c4 := f4 w3 hb3
  clear f0 f1 f2 f4
  go_wp2
  exact bodyPost_ret (v := .tuple #[.int .i64 v, .int .i64 0]) (by simp [results, Tryz.results216, go_sem]) rfl ⟨by rw [HV.out], bup hb0 hb3⟩

set_option maxHeartbeats 400000 in
theorem endat_ok (n : Int) (w : World) : Calls Tryz.prog 172 #[.int .i64 n] w fun e w' => e = .returned (.agg #[.int .i64 n, .bool true]) ∧ Below w.heap.size w w' := by
  go_enter Tryz.func172, Tryz.ntmps172
  go_wp2
  refine bodyPost_ret (v := .agg #[.int .i64 n, .bool true]) (by simp [results, Tryz.results172, go_sem]) rfl (And.intro rfl ?_)
  repeat (first | exact Below.refl _ _ | refine Below.setCell ?_ (by simp) _ | refine Below.alloc ?_ (by simp) _)

set_option maxHeartbeats 400000 in
theorem upper_ok (c : Int) (w : World) : Calls Tryz.prog 218 #[.int .i64 c] w fun e w' => e = .returned (.agg #[.int .i64 c, .bool (!decide (c = 9223372036854775807))]) ∧ Below w.heap.size w w' := by
  obtain ⟨t, ht⟩ : ∃ t, t = !decide (c = 9223372036854775807) := ⟨_, rfl⟩
  have hq : (c != 9223372036854775807) = t := by rw [ht]; cases h : decide (c = 9223372036854775807) <;> simp_all
  rw [← ht]
  clear ht
  go_enter Tryz.func218, Tryz.ntmps218
  go_wp2
  refine bodyPost_ret (v := .agg #[.int .i64 c, .bool t]) (by simp [results, Tryz.results218, go_sem]) rfl (And.intro rfl ?_)
  repeat (first | exact Below.refl _ _ | refine Below.setCell ?_ (by simp) _ | refine Below.alloc ?_ (by simp) _)

/-- The end that a cell's contrary says. -/
def lowV (c : Int) : Int := if c = 9223372036854775807 then 0 else -c
set_option maxHeartbeats 400000 in
theorem lower_ok (c : Int) (hc : -9223372036854775808 < c ∧ c ≤ 9223372036854775807) (w : World) : Calls Tryz.prog 217 #[.int .i64 c] w fun e w' => e = .returned (.agg #[.int .i64 (lowV c), .bool (!decide (c = 9223372036854775807))]) ∧ Below w.heap.size w w' := by
  unfold lowV
  by_cases h : c = 9223372036854775807
  · subst h
    rw [if_pos rfl]
    go_enter Tryz.func217, Tryz.ntmps217
    go_wp2
    refine bodyPost_ret (v := .agg #[.int .i64 0, .bool false]) (by simp [results, Tryz.results217, go_sem]) rfl (And.intro rfl ?_)
    repeat (first | exact Below.refl _ _ | refine Below.setCell ?_ (by simp) _ | refine Below.alloc ?_ (by simp) _)
  · rw [if_neg h, show (!decide (c = 9223372036854775807)) = true by simp [h]]
    have t1 : (c == 9223372036854775807) = false := by rw [beq_eq_false_iff_ne]; exact h
    have hw : wrap64 (-c) = -c := IntWalk.wrap64_in _ (by omega)
    obtain ⟨h1, h2⟩ := hc
    obtain ⟨p0, hb0, hsz⟩ := new_one w #[.int .i64 0, .bool false] 185
    clear h hsz
    go_enter Tryz.func217, Tryz.ntmps217
    go_wp2_with fail
    generalize w.alloc (Obj.cells #[.int .i64 0, .bool false] 185) = w0 at *
    (with_reducible refine (endat_ok (-c) w0).mono ?_)
    rintro e1 w1 ⟨rfl, hb1⟩
    replace p0 := p0.later hb1
    replace hb0 := bup hb0 hb1
    obtain ⟨x0, x1, fx⟩ := opbox p0
    go_wp2
    clear x0 x1 fx
    have q0 := (p0.set_ 0 (.int .i64 (-c))).set_ 1 (.bool true)
    obtain ⟨x0, x1, fx⟩ := opbox (show Blk _ _ _ #[.int .i64 (-c), .bool true] from q0)
    refine bodyPost_ret (v := .agg #[.int .i64 (-c), .bool true]) (by simp [results, Tryz.results217, go_sem, x0, x1]) rfl (And.intro rfl ?_)
    refine hb0.trans ?_
    repeat (first | exact Below.refl _ _ | refine Below.setCell ?_ (by simp) _ | refine Below.alloc ?_ (by simp) _)
  done
end
end Go.Proofs.YtnmpgijiimglcaaGreat
