import Derived.Test.YtnmpgijiimglcaaGreatBSe04
import Derived.Test.YtnmpgijiimglcaaGreatBSe16
import Derived.Test.YtnmpgijiimglcaaGreatBSe06
import Derived.Test.YtnmpgijiimglcaaGreatBSe15
import Derived.Test.YtnmpgijiimglcaaGreatBSe10
import Derived.Test.YtnmpgijiimglcaaGreatBSe03
namespace Go.Proofs.YtnmpgijiimglcaaGreat
set_option maxRecDepth 100000
set_option maxHeartbeats 8000000
section
open Go.RowKit
attribute [local go_sem ↓] Go.wp_at_zero Go.wp_at_succ
theorem zab {w : World} {p : Addr} {v : Value} (h : w.cell? p = some v) : ∀ W, Ext w.drew W → W.cell? p = some v := fun _ hb => cell_later (w := w.drew) hb h
def zfJ (o : O) (v : Value) (wa wb : World) : Prop := ∃ A1 c1, v = .agg #[o.n, o.e, .slice A1 o.m.length c1] ∧ Own wb wa.heap.size A1 c1 o.m
def zat (t : TypeId) (cs : Array Value) (v : Value) (wa wb : World) : Prop := v = .pointer (some ⟨wa.heap.size, 0, none⟩) ∧ Blk wb wa.heap.size t cs ∧ wb.heap.size = wa.heap.size + 1
theorem zeH {w0 W : World} {o : O} {v : Value} {lo hi : Nat} (h : Sp.fact w0 (Sp.any (zfJ o)) v lo hi W) :
  ∃ A1 c1, v = .agg #[o.n, o.e, .slice A1 o.m.length c1] ∧ Own W lo A1 c1 o.m ∧ w0.heap.size ≤ lo ∧ (∀ g, A1 = some ⟨g, 0, none⟩ → lo ≤ g ∧ g < hi) ∧ hi ≤ W.heap.size := by
 obtain ⟨wa, wb, e1, e2, e3, rfl, rfl, A1, c1, rfl, own⟩ := h
 refine ⟨A1, c1, rfl, own.below e3, e1.size, fun g hg => ?_, e3.size⟩
 rcases own.form with ⟨h, _⟩ | ⟨g', h, h1, h2⟩
 ·rw [h] at hg; cases hg
 ·rw [h] at hg; injection hg with hg; injection hg with hg; omega
theorem zap {w0 W : World} {t : TypeId} {cs : Array Value} {v : Value} {lo hi : Nat} (h : Sp.fact w0 (Sp.any (zat t cs)) v lo hi W) :
  ∃ g, v = .pointer (some ⟨g, 0, none⟩) ∧ Blk W g t cs ∧ w0.heap.size ≤ g ∧ g = lo ∧ g + 1 = hi := by
 obtain ⟨wa, wb, e1, e2, e3, rfl, rfl, rfl, hb, hs⟩ := h
 exact ⟨_, rfl, hb.below e3 (by omega), e1.size, rfl, hs.symm⟩
end
section

end
section

end
section

end
section
open Go.RowKit
attribute [local go_sem ↓] Go.wp_at_zero Go.wp_at_succ
theorem zkM {n : Int} {N i j : Nat} (hN : (N : Int) = 2 * n) (hi : i < N) (hj : j < N) (hn : N ≤ 128) :
  0 ≤ (i : Int) * 2 * n ∧ (i : Int) * 2 * n ≤ 16384 ∧ ((i : Int) * 2 * n + (j : Int)).toNat = i * N + j ∧ i * N + j < N * N ∧ 0 ≤ (i : Int) * 2 * n + (j : Int) ∧ (i : Int) * 2 * n + (j : Int) < ((N * N : Nat) : Int) := by
 rw [show (i : Int) * 2 * n = 2 * n * (i : Int) by rw [Int.mul_assoc, Int.mul_comm]]
 exact zbs hN hi hj hn
theorem zbL (n : Int) (m : List Int) (N i j : Nat) (A : Option Addr) (cap : Nat) (w : World) (hN : (N : Int) = 2 * n) (hn : N ≤ 128) (hl : m.length = N * N) (hi : i < N) (hj : j < N) (hx : Rd w w.heap.size A m) :
  Calls Tryz.prog 180 #[.agg #[n, false, .slice A m.length cap], (i : Int), (j : Int)] w (zam (.int .i64 (G N m i j)) w) := by
 obtain ⟨p0, a0, a7⟩ := zak w #[n, false, .slice A m.length cap] 24
 have a3 := hx.up a0
 obtain ⟨q1, q2, q3, q4, q5, q6⟩ := zkM hN hi hj hn
 rw [← hl] at q4 q6
 obtain ⟨g1, o1, rfl, hg1, c4⟩ := a3 (i * N + j) q4
 obtain ⟨v, hv⟩ : ∃ v, v = G N m i j := ⟨_, rfl⟩
 rw [← hv]
 rw [show gI m ((i * N + j : Nat) : Int) = v from hv.symm] at c4
 have hn0 : 0 ≤ n ∧ n ≤ 64 := by omega
 have hi2 : (i : Int) ≤ 128 := by omega
 have hj2 : (j : Int) ≤ 128 := by omega
 clear hv a7 hl hx a3 hN hn
 have x0 := zaa p0
 go_enter Tryz.func180, Tryz.ntmps180
 go_wp2
 go_ret
 exact ⟨rfl, a0⟩
theorem zhj (u d : Int) (hu : u ≠ 9223372036854775807) (hd : d ≠ 9223372036854775807) (hr : -9223372036854775808 < d ∧ d ≤ 9223372036854775807) (w : World) : Calls Tryz.prog 179 #[u, d] w (zam (.agg #[.int .i64 (-d), u, true, true]) w) := by
 have t1 : (u != 9223372036854775807) = true := by simp [hu]
 have t2 : (d != 9223372036854775807) = true := by simp [hd]
 have hw : wrap64 (-d) = -d := IntWalk.wrap64_in _ (by omega)
 obtain ⟨h1, h2⟩ := hr
 clear hu hd
 go_enter Tryz.func179, Tryz.ntmps179
 go_wp2
 refine bodyPost_ret (v := .agg #[.int .i64 (-d), u, true, true]) (by simp [results, Tryz.results179, go_sem]) rfl (And.intro rfl ?_)
 exact zbc
theorem zhn (u d : Int) (hu : u ≠ 9223372036854775807) (hd : d = 9223372036854775807) (hr : -9223372036854775808 < d ∧ d ≤ 9223372036854775807) (w : World) : Calls Tryz.prog 179 #[u, d] w (zam (.agg #[.int .i64 0, u, false, true]) w) := by
 have t1 : (u != 9223372036854775807) = true := by simp [hu]
 have t2 : (d != 9223372036854775807) = false := by simp [hd]
 have hw : wrap64 (-d) = -d := IntWalk.wrap64_in _ (by omega)
 obtain ⟨h1, h2⟩ := hr
 clear hu hd
 go_enter Tryz.func179, Tryz.ntmps179
 go_wp2
 refine bodyPost_ret (v := .agg #[.int .i64 0, u, false, true]) (by simp [results, Tryz.results179, go_sem]) rfl (And.intro rfl ?_)
 exact zbc
theorem ziy (u d : Int) (hu : u = 9223372036854775807) (hd : d ≠ 9223372036854775807) (hr : -9223372036854775808 < d ∧ d ≤ 9223372036854775807) (w : World) : Calls Tryz.prog 179 #[u, d] w (zam (.agg #[.int .i64 (-d), .int .i64 0, true, false]) w) := by
 have t1 : (u != 9223372036854775807) = false := by simp [hu]
 have t2 : (d != 9223372036854775807) = true := by simp [hd]
 have hw : wrap64 (-d) = -d := IntWalk.wrap64_in _ (by omega)
 obtain ⟨h1, h2⟩ := hr
 clear hu hd
 go_enter Tryz.func179, Tryz.ntmps179
 go_wp2
 refine bodyPost_ret (v := .agg #[.int .i64 (-d), .int .i64 0, true, false]) (by simp [results, Tryz.results179, go_sem]) rfl (And.intro rfl ?_)
 exact zbc
theorem zh7 (u d : Int) (hu : u = 9223372036854775807) (hd : d = 9223372036854775807) (hr : -9223372036854775808 < d ∧ d ≤ 9223372036854775807) (w : World) : Calls Tryz.prog 179 #[u, d] w (zam (.agg #[.int .i64 0, .int .i64 0, false, false]) w) := by
 have t1 : (u != 9223372036854775807) = false := by simp [hu]
 have t2 : (d != 9223372036854775807) = false := by simp [hd]
 have hw : wrap64 (-d) = -d := IntWalk.wrap64_in _ (by omega)
 obtain ⟨h1, h2⟩ := hr
 clear hu hd
 go_enter Tryz.func179, Tryz.ntmps179
 go_wp2
 refine bodyPost_ret (v := .agg #[.int .i64 0, .int .i64 0, false, false]) (by simp [results, Tryz.results179, go_sem]) rfl (And.intro rfl ?_)
 exact zbc
theorem zcH (u d : Int) (hr : -9223372036854775808 < d ∧ d ≤ 9223372036854775807) (w : World) : Calls Tryz.prog 179 #[u, d] w (zam (za3 u d).val w) := by
 unfold za3 Rg.val
 by_cases hu : u = 9223372036854775807
 ·by_cases hd : d = 9223372036854775807
  ·rw [if_pos hu, if_pos hd]; simpa [hu, hd] using zh7 u d hu hd hr w
  ·rw [if_pos hu, if_neg hd]; simpa [hu, hd] using ziy u d hu hd hr w
 ·by_cases hd : d = 9223372036854775807
  ·rw [if_neg hu, if_pos hd]; simpa [hu, hd] using zhn u d hu hd hr w
  ·rw [if_neg hu, if_neg hd]; simpa [hu, hd] using zhj u d hu hd hr w
theorem zkY (n : Int) (m : List Int) (N v : Nat) (A : Option Addr) (cap : Nat) (w : World) (hN : (N : Int) = 2 * n) (hn : N ≤ 128) (hc : Cells N m) (hv : 2 * v + 1 < N) (hx : Rd w w.heap.size A m) :
  Calls Tryz.prog 148 #[.agg #[n, false, .slice A m.length cap], (v : Int)] w (zam (varR N m v).val w) := by
 have HR : za3 (half (G N m (2 * v) (2 * v + 1))) (half (G N m (2 * v + 1) (2 * v))) = varR N m v := rfl
 have hl := hc.len
 have HS := hid (fun W => zcH (half (G N m (2 * v) (2 * v + 1))) (half (G N m (2 * v + 1) (2 * v))) (⟨by have := zc8 (G N m (2 * v + 1) (2 * v)); omega, zcJ _⟩) W)
 rw [show za3 (half (G N m (2 * v) (2 * v + 1))) (half (G N m (2 * v + 1) (2 * v))) = varR N m v from HR] at HS
 obtain ⟨gu, a1⟩ : ∃ g, g = G N m (2 * v) (2 * v + 1) := ⟨_, rfl⟩
 obtain ⟨gd, a2⟩ : ∃ g, g = G N m (2 * v + 1) (2 * v) := ⟨_, rfl⟩
 rw [← a1, ← a2] at HS
 have a4 := hid (fun W (h : Rd W W.heap.size A m) => zbL n m N (2 * v) (2 * v + 1) A cap W hN hn hl (by omega) (by omega) h)
 rw [show ((2 * v : Nat) : Int) = 2 * (v : Int) by omega, show ((2 * v + 1 : Nat) : Int) = 2 * (v : Int) + 1 by omega, show G N m (2 * v) (2 * v + 1) = gu from a1.symm] at a4
 have a6 := hid (fun W (h : Rd W W.heap.size A m) => zbL n m N (2 * v + 1) (2 * v) A cap W hN hn hl (by omega) (by omega) h)
 rw [show ((2 * v + 1 : Nat) : Int) = 2 * (v : Int) + 1 by omega, show ((2 * v : Nat) : Int) = 2 * (v : Int) by omega, show G N m (2 * v + 1) (2 * v) = gd from a2.symm] at a6
 obtain ⟨r, hr⟩ : ∃ r, r = varR N m v := ⟨_, rfl⟩
 rw [← hr] at HS ⊢
 clear hr a1 a2 HR
 obtain ⟨r0, r1, r2, r3⟩ := r
 unfold Rg.val at *
 dsimp only at *
 obtain ⟨p0, p1, a0, a7⟩ := zal w #[n, false, .slice A m.length cap] #[.int .i64 0, .int .i64 0, false, false] 24 49
 have a3 := hx.up a0
 have a8 : 0 ≤ (v : Int) ∧ (v : Int) ≤ 64 := by omega
 clear a7 hx hl hN hn hc
 go_enter Tryz.func148, Tryz.ntmps148
 obtain ⟨x0, x1, x2, fx⟩ := zaa p0
 go_wp2_with fail
 generalize (w.alloc (Obj.cells #[n, false, .slice A m.length cap] 24)).alloc (Obj.cells #[.int .i64 0, .int .i64 0, false, false] 49) = w0 at *
 have f0 := later x0
 have f1 := later x1
 have f2 := later x2
 clear x0 x1 x2 fx
 refine zad 17 (fun X => Below w0.heap.size w0 X) (by kernel_rfl) (by kernel_rfl) (Below.refl _ _).drew ?_
 refine fl_a ?_
 (refine fl_c 180 #[.agg #[n, false, .slice A m.length cap], .int .i64 (2 * (v : Int)), .int .i64 (2 * (v : Int) + 1)] (.int .i64 gu) (fun X hX => (a4.out X (a3.up hX)).mono fun e' w' ⟨he, hb'⟩ => ⟨he, zaI hX hX.size hb'⟩) ?_)
 refine fl_a ?_
 (refine fl_c 178 #[gu] (.int .i64 (half gu)) (fun X hX => (zcR gu _).mono fun e' w' ⟨he, hw⟩ => ⟨he, hw ▸ hX⟩) ?_)
 refine fl_a ?_
 (refine fl_c 180 #[.agg #[n, false, .slice A m.length cap], .int .i64 (2 * (v : Int) + 1), .int .i64 (2 * (v : Int))] (.int .i64 gd) (fun X hX => (a6.out X (a3.up hX)).mono fun e' w' ⟨he, hb'⟩ => ⟨he, zaI hX hX.size hb'⟩) ?_)
 refine fl_a ?_
 (refine fl_c 178 #[gd] (.int .i64 (half gd)) (fun X hX => (zcR gd _).mono fun e' w' ⟨he, hw⟩ => ⟨he, hw ▸ hX⟩) ?_)
 refine fl_a ?_
 (refine fl_c 179 #[.int .i64 (half gu), .int .i64 (half gd)] (.agg #[r0, r1, r2, r3]) (fun X hX => (HS.out X).mono fun e' w' ⟨he, hb'⟩ => ⟨he, zaI hX hX.size hb'⟩) ?_)
 refine fl_a ?_
 intro w1 a5
 clear f0 f1 f2
 replace p1 := p1.later a5
 replace a0 := bup a0 a5
 obtain ⟨z0, z1, z2, z3, fz⟩ := zag p1
 go_wp2
 clear z0 z1 z2 z3 fz
 have q := (((p1.set_ 0 (.int .i64 r0)).set_ 1 (.int .i64 r1)).set_ 2 (.bool r2)).set_ 3 (.bool r3)
 obtain ⟨z0, z1, z2, z3, fz⟩ := zag (show Blk _ _ _ #[r0, r1, r2, r3] from q)
 refine bodyPost_ret (v := .agg #[r0, r1, r2, r3]) (by simp [results, Tryz.results148, go_sem, z0, z1, z2, z3]) rfl (And.intro rfl ?_)
 refine a0.trans ?_
 have := a0.size
 exact zbc
theorem zgd (n : Int) (m : List Int) (N u v : Nat) (A : Option Addr) (cap : Nat) (w : World) (hN : (N : Int) = 2 * n) (hn : N ≤ 128) (hc : Cells N m) (hu : 2 * u + 1 < N) (hv : 2 * v + 1 < N) (hx : Rd w w.heap.size A m) :
  Calls Tryz.prog 98 #[.agg #[n, false, .slice A m.length cap], (u : Int), (v : Int)] w (zam (diffR N m u v).val w) := by
 have HR : za3 (G N m (2 * u) (2 * v)) (G N m (2 * v) (2 * u)) = diffR N m u v := by
  unfold diffR
  have h := hc.mir (2 * v) (2 * u) (by omega) (by omega)
  rw [show nx (2 * u) = 2 * u + 1 by unfold nx; split <;> omega, show nx (2 * v) = 2 * v + 1 by unfold nx; split <;> omega] at h
  rw [show G N m (2 * v) (2 * u) = G N m (2 * u + 1) (2 * v + 1) from h]
 have hl := hc.len
 have HS := hid (fun W => zcH (G N m (2 * u) (2 * v)) (G N m (2 * v) (2 * u)) (zcY hc (by omega) (by omega)) W)
 rw [show za3 (G N m (2 * u) (2 * v)) (G N m (2 * v) (2 * u)) = diffR N m u v from HR] at HS
 obtain ⟨gu, a1⟩ : ∃ g, g = G N m (2 * u) (2 * v) := ⟨_, rfl⟩
 obtain ⟨gd, a2⟩ : ∃ g, g = G N m (2 * v) (2 * u) := ⟨_, rfl⟩
 rw [← a1, ← a2] at HS
 have a4 := hid (fun W (h : Rd W W.heap.size A m) => zbL n m N (2 * u) (2 * v) A cap W hN hn hl (by omega) (by omega) h)
 rw [show ((2 * u : Nat) : Int) = 2 * (u : Int) by omega, show ((2 * v : Nat) : Int) = 2 * (v : Int) by omega, show G N m (2 * u) (2 * v) = gu from a1.symm] at a4
 have a6 := hid (fun W (h : Rd W W.heap.size A m) => zbL n m N (2 * v) (2 * u) A cap W hN hn hl (by omega) (by omega) h)
 rw [show ((2 * v : Nat) : Int) = 2 * (v : Int) by omega, show ((2 * u : Nat) : Int) = 2 * (u : Int) by omega, show G N m (2 * v) (2 * u) = gd from a2.symm] at a6
 obtain ⟨r, hr⟩ : ∃ r, r = diffR N m u v := ⟨_, rfl⟩
 rw [← hr] at HS ⊢
 clear hr a1 a2 HR
 obtain ⟨r0, r1, r2, r3⟩ := r
 unfold Rg.val at *
 dsimp only at *
 obtain ⟨p0, p1, a0, a7⟩ := zal w #[n, false, .slice A m.length cap] #[.int .i64 0, .int .i64 0, false, false] 24 49
 have a3 := hx.up a0
 have a9 : 0 ≤ (u : Int) ∧ (u : Int) ≤ 64 := by omega
 have a8 : 0 ≤ (v : Int) ∧ (v : Int) ≤ 64 := by omega
 clear a7 hx hl hN hn hc
 go_enter Tryz.func98, Tryz.ntmps98
 obtain ⟨x0, x1, x2, fx⟩ := zaa p0
 go_wp2_with fail
 generalize (w.alloc (Obj.cells #[n, false, .slice A m.length cap] 24)).alloc (Obj.cells #[.int .i64 0, .int .i64 0, false, false] 49) = w0 at *
 have f0 := later x0
 have f1 := later x1
 have f2 := later x2
 clear x0 x1 x2 fx
 refine zad 13 (fun X => Below w0.heap.size w0 X) (by kernel_rfl) (by kernel_rfl) (Below.refl _ _).drew ?_
 refine fl_a ?_
 (refine fl_c 180 #[.agg #[n, false, .slice A m.length cap], .int .i64 (2 * (u : Int)), .int .i64 (2 * (v : Int))] (.int .i64 gu) (fun X hX => (a4.out X (a3.up hX)).mono fun e' w' ⟨he, hb'⟩ => ⟨he, zaI hX hX.size hb'⟩) ?_)
 refine fl_a ?_
 (refine fl_c 180 #[.agg #[n, false, .slice A m.length cap], .int .i64 (2 * (v : Int)), .int .i64 (2 * (u : Int))] (.int .i64 gd) (fun X hX => (a6.out X (a3.up hX)).mono fun e' w' ⟨he, hb'⟩ => ⟨he, zaI hX hX.size hb'⟩) ?_)
 refine fl_a ?_
 (refine fl_c 179 #[.int .i64 (gu), .int .i64 (gd)] (.agg #[r0, r1, r2, r3]) (fun X hX => (HS.out X).mono fun e' w' ⟨he, hb'⟩ => ⟨he, zaI hX hX.size hb'⟩) ?_)
 refine fl_a ?_
 intro w1 a5
 clear f0 f1 f2
 replace p1 := p1.later a5
 replace a0 := bup a0 a5
 obtain ⟨z0, z1, z2, z3, fz⟩ := zag p1
 go_wp2
 clear z0 z1 z2 z3 fz
 have q := (((p1.set_ 0 (.int .i64 r0)).set_ 1 (.int .i64 r1)).set_ 2 (.bool r2)).set_ 3 (.bool r3)
 obtain ⟨z0, z1, z2, z3, fz⟩ := zag (show Blk _ _ _ #[r0, r1, r2, r3] from q)
 refine bodyPost_ret (v := .agg #[r0, r1, r2, r3]) (by simp [results, Tryz.results98, go_sem, z0, z1, z2, z3]) rfl (And.intro rfl ?_)
 refine a0.trans ?_
 have := a0.size
 exact zbc
theorem zkS (n : Int) (m : List Int) (N u v : Nat) (A : Option Addr) (cap : Nat) (w : World) (hN : (N : Int) = 2 * n) (hn : N ≤ 128) (hc : Cells N m) (hu : 2 * u + 1 < N) (hv : 2 * v + 1 < N) (huv : u ≠ v) (hx : Rd w w.heap.size A m) :
  Calls Tryz.prog 97 #[.agg #[n, false, .slice A m.length cap], (u : Int), (v : Int)] w (zam (sumR N m u v).val w) := by
 have HR : za3 (G N m (2 * u) (2 * v + 1)) (G N m (2 * u + 1) (2 * v)) = sumR N m u v := rfl
 have hl := hc.len
 have HS := hid (fun W => zcH (G N m (2 * u) (2 * v + 1)) (G N m (2 * u + 1) (2 * v)) (zcY hc (by omega) (by omega)) W)
 rw [show za3 (G N m (2 * u) (2 * v + 1)) (G N m (2 * u + 1) (2 * v)) = sumR N m u v from HR] at HS
 obtain ⟨gu, a1⟩ : ∃ g, g = G N m (2 * u) (2 * v + 1) := ⟨_, rfl⟩
 obtain ⟨gd, a2⟩ : ∃ g, g = G N m (2 * u + 1) (2 * v) := ⟨_, rfl⟩
 rw [← a1, ← a2] at HS
 have a4 := hid (fun W (h : Rd W W.heap.size A m) => zbL n m N (2 * u) (2 * v + 1) A cap W hN hn hl (by omega) (by omega) h)
 rw [show ((2 * u : Nat) : Int) = 2 * (u : Int) by omega, show ((2 * v + 1 : Nat) : Int) = 2 * (v : Int) + 1 by omega, show G N m (2 * u) (2 * v + 1) = gu from a1.symm] at a4
 have a6 := hid (fun W (h : Rd W W.heap.size A m) => zbL n m N (2 * u + 1) (2 * v) A cap W hN hn hl (by omega) (by omega) h)
 rw [show ((2 * u + 1 : Nat) : Int) = 2 * (u : Int) + 1 by omega, show ((2 * v : Nat) : Int) = 2 * (v : Int) by omega, show G N m (2 * u + 1) (2 * v) = gd from a2.symm] at a6
 obtain ⟨r, hr⟩ : ∃ r, r = sumR N m u v := ⟨_, rfl⟩
 rw [← hr] at HS ⊢
 clear hr a1 a2 HR
 obtain ⟨r0, r1, r2, r3⟩ := r
 unfold Rg.val at *
 dsimp only at *
 obtain ⟨p0, p1, a0, a7⟩ := zal w #[n, false, .slice A m.length cap] #[.int .i64 0, .int .i64 0, false, false] 24 49
 have a3 := hx.up a0
 have a9 : 0 ≤ (u : Int) ∧ (u : Int) ≤ 64 := by omega
 have a8 : 0 ≤ (v : Int) ∧ (v : Int) ≤ 64 := by omega
 have t1 : ((u : Int) == (v : Int)) = false := by rw [beq_eq_false_iff_ne]; omega
 clear a7 hx hl hN hn hc
 go_enter Tryz.func97, Tryz.ntmps97
 obtain ⟨x0, x1, x2, fx⟩ := zaa p0
 go_wp2_with fail
 generalize (w.alloc (Obj.cells #[n, false, .slice A m.length cap] 24)).alloc (Obj.cells #[.int .i64 0, .int .i64 0, false, false] 49) = w0 at *
 have f0 := later x0
 have f1 := later x1
 have f2 := later x2
 clear x0 x1 x2 fx
 refine zad 15 (fun X => Below w0.heap.size w0 X) (by kernel_rfl) (by kernel_rfl) (Below.refl _ _).drew ?_
 refine fl_a ?_
 (refine fl_c 180 #[.agg #[n, false, .slice A m.length cap], .int .i64 (2 * (u : Int)), .int .i64 (2 * (v : Int) + 1)] (.int .i64 gu) (fun X hX => (a4.out X (a3.up hX)).mono fun e' w' ⟨he, hb'⟩ => ⟨he, zaI hX hX.size hb'⟩) ?_)
 refine fl_a ?_
 (refine fl_c 180 #[.agg #[n, false, .slice A m.length cap], .int .i64 (2 * (u : Int) + 1), .int .i64 (2 * (v : Int))] (.int .i64 gd) (fun X hX => (a6.out X (a3.up hX)).mono fun e' w' ⟨he, hb'⟩ => ⟨he, zaI hX hX.size hb'⟩) ?_)
 refine fl_a ?_
 (refine fl_c 179 #[.int .i64 (gu), .int .i64 (gd)] (.agg #[r0, r1, r2, r3]) (fun X hX => (HS.out X).mono fun e' w' ⟨he, hb'⟩ => ⟨he, zaI hX hX.size hb'⟩) ?_)
 refine fl_a ?_
 intro w1 a5
 clear f0 f1 f2
 replace p1 := p1.later a5
 replace a0 := bup a0 a5
 obtain ⟨z0, z1, z2, z3, fz⟩ := zag p1
 go_wp2
 clear z0 z1 z2 z3 fz
 have q := (((p1.set_ 0 (.int .i64 r0)).set_ 1 (.int .i64 r1)).set_ 2 (.bool r2)).set_ 3 (.bool r3)
 obtain ⟨z0, z1, z2, z3, fz⟩ := zag (show Blk _ _ _ #[r0, r1, r2, r3] from q)
 refine bodyPost_ret (v := .agg #[r0, r1, r2, r3]) (by simp [results, Tryz.results97, go_sem, z0, z1, z2, z3]) rfl (And.intro rfl ?_)
 refine a0.trans ?_
 have := a0.size
 exact zbc
theorem zkH (n : Int) (m : List Int) (N u v : Nat) (A : Option Addr) (cap : Nat) (w : World) (hN : (N : Int) = 2 * n) (hn : N ≤ 128) (hc : Cells N m) (hu : 2 * u + 1 < N) (_hv : 2 * v + 1 < N) (huv : u = v) (hx : Rd w w.heap.size A m) :
  Calls Tryz.prog 97 #[.agg #[n, false, .slice A m.length cap], (u : Int), (v : Int)] w (zam (sumR N m u v).val w) := by
 have HR : za3 (G N m (2 * u) (2 * u + 1)) (G N m (2 * u + 1) (2 * u)) = sumR N m u v := by rw [← huv]; rfl
 have hl := hc.len
 have HS := hid (fun W => zcH (G N m (2 * u) (2 * u + 1)) (G N m (2 * u + 1) (2 * u)) (zcY hc (by omega) (by omega)) W)
 rw [show za3 (G N m (2 * u) (2 * u + 1)) (G N m (2 * u + 1) (2 * u)) = sumR N m u v from HR] at HS
 obtain ⟨gu, a1⟩ : ∃ g, g = G N m (2 * u) (2 * u + 1) := ⟨_, rfl⟩
 obtain ⟨gd, a2⟩ : ∃ g, g = G N m (2 * u + 1) (2 * u) := ⟨_, rfl⟩
 rw [← a1, ← a2] at HS
 have a4 := hid (fun W (h : Rd W W.heap.size A m) => zbL n m N (2 * u) (2 * u + 1) A cap W hN hn hl (by omega) (by omega) h)
 rw [show ((2 * u : Nat) : Int) = 2 * (u : Int) by omega, show ((2 * u + 1 : Nat) : Int) = 2 * (u : Int) + 1 by omega, show G N m (2 * u) (2 * u + 1) = gu from a1.symm] at a4
 have a6 := hid (fun W (h : Rd W W.heap.size A m) => zbL n m N (2 * u + 1) (2 * u) A cap W hN hn hl (by omega) (by omega) h)
 rw [show ((2 * u + 1 : Nat) : Int) = 2 * (u : Int) + 1 by omega, show ((2 * u : Nat) : Int) = 2 * (u : Int) by omega, show G N m (2 * u + 1) (2 * u) = gd from a2.symm] at a6
 obtain ⟨r, hr⟩ : ∃ r, r = sumR N m u v := ⟨_, rfl⟩
 rw [← hr] at HS ⊢
 clear hr a1 a2 HR
 obtain ⟨r0, r1, r2, r3⟩ := r
 unfold Rg.val at *
 dsimp only at *
 obtain ⟨p0, p1, a0, a7⟩ := zal w #[n, false, .slice A m.length cap] #[.int .i64 0, .int .i64 0, false, false] 24 49
 have a3 := hx.up a0
 have a9 : 0 ≤ (u : Int) ∧ (u : Int) ≤ 64 := by omega
 have a8 : 0 ≤ (v : Int) ∧ (v : Int) ≤ 64 := by omega
 have t1 : ((u : Int) == (v : Int)) = true := by simp [huv]
 clear a7 hx hl hN hn hc
 go_enter Tryz.func97, Tryz.ntmps97
 obtain ⟨x0, x1, x2, fx⟩ := zaa p0
 go_wp2_with fail
 generalize (w.alloc (Obj.cells #[n, false, .slice A m.length cap] 24)).alloc (Obj.cells #[.int .i64 0, .int .i64 0, false, false] 49) = w0 at *
 have f0 := later x0
 have f1 := later x1
 have f2 := later x2
 clear x0 x1 x2 fx
 refine zad 15 (fun X => Below w0.heap.size w0 X) (by kernel_rfl) (by kernel_rfl) (Below.refl _ _).drew ?_
 refine fl_a ?_
 (refine fl_c 180 #[.agg #[n, false, .slice A m.length cap], .int .i64 (2 * (u : Int)), .int .i64 (2 * (u : Int) + 1)] (.int .i64 gu) (fun X hX => (a4.out X (a3.up hX)).mono fun e' w' ⟨he, hb'⟩ => ⟨he, zaI hX hX.size hb'⟩) ?_)
 refine fl_a ?_
 (refine fl_c 180 #[.agg #[n, false, .slice A m.length cap], .int .i64 (2 * (u : Int) + 1), .int .i64 (2 * (u : Int))] (.int .i64 gd) (fun X hX => (a6.out X (a3.up hX)).mono fun e' w' ⟨he, hb'⟩ => ⟨he, zaI hX hX.size hb'⟩) ?_)
 refine fl_a ?_
 (refine fl_c 179 #[.int .i64 (gu), .int .i64 (gd)] (.agg #[r0, r1, r2, r3]) (fun X hX => (HS.out X).mono fun e' w' ⟨he, hb'⟩ => ⟨he, zaI hX hX.size hb'⟩) ?_)
 refine fl_a ?_
 intro w1 a5
 clear f0 f1 f2
 replace p1 := p1.later a5
 replace a0 := bup a0 a5
 obtain ⟨z0, z1, z2, z3, fz⟩ := zag p1
 go_wp2
 clear z0 z1 z2 z3 fz
 have q := (((p1.set_ 0 (.int .i64 r0)).set_ 1 (.int .i64 r1)).set_ 2 (.bool r2)).set_ 3 (.bool r3)
 obtain ⟨z0, z1, z2, z3, fz⟩ := zag (show Blk _ _ _ #[r0, r1, r2, r3] from q)
 refine bodyPost_ret (v := .agg #[r0, r1, r2, r3]) (by simp [results, Tryz.results97, go_sem, z0, z1, z2, z3]) rfl (And.intro rfl ?_)
 refine a0.trans ?_
 have := a0.size
 exact zbc
theorem zhc (n : Int) (m : List Int) (N u v : Nat) (A : Option Addr) (cap : Nat) (w : World) (hN : (N : Int) = 2 * n) (hn : N ≤ 128) (hc : Cells N m) (hu : 2 * u + 1 < N) (hv : 2 * v + 1 < N) (hx : Rd w w.heap.size A m) :
  Calls Tryz.prog 97 #[.agg #[n, false, .slice A m.length cap], (u : Int), (v : Int)] w (zam (sumR N m u v).val w) := by
 by_cases h : u = v
 ·exact zkH n m N u v A cap w hN hn hc hu hv h hx
 ·exact zkS n m N u v A cap w hN hn hc hu hv h hx
end
end Go.Proofs.YtnmpgijiimglcaaGreat
