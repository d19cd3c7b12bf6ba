import Derived.Test.YtnmpgijiimglcaaGreatBSe13
import Derived.Test.YtnmpgijiimglcaaGreatBSe14
namespace Go.Proofs.YtnmpgijiimglcaaGreat
open Go.RowKit
set_option maxRecDepth 100000
set_option maxHeartbeats 8000000
section
attribute [local go_sem ↓] Go.wp_at_zero Go.wp_at_succ
def endV (h : Bool) (n : Int) : Int := if h then n else 0
def zam (v : Value) (w : World) (e : Ending) (w' : World) : Prop := e = .returned v ∧ Below w.heap.size w w'
theorem zbb (an bn : Int) (w : World) : Calls Tryz.prog 173 #[.agg #[an, true], .agg #[bn, true]] w (zam (.agg #[an, bn, true, true]) w) := by
 obtain ⟨p0, p1, p2, a0, a3⟩ := zaj w #[an, true] #[bn, true] #[.int .i64 0, .int .i64 0, false, false] 185 185 49
 go_enter Tryz.func173, Tryz.ntmps173
 obtain ⟨x0, x1, fx⟩ := zai p0
 obtain ⟨y0, y1, fy⟩ := zai p1
 go_wp2
 refine bodyPost_ret (v := .agg #[an, bn, true, true]) (by simp [results, Tryz.results173, go_sem]) rfl (And.intro rfl ?_)
 exact zbc
theorem zi7 (an bn : Int) (w : World) : Calls Tryz.prog 173 #[.agg #[an, true], .agg #[bn, false]] w (zam (.agg #[an, .int .i64 0, true, false]) w) := by
 obtain ⟨p0, p1, p2, a0, a3⟩ := zaj w #[an, true] #[bn, false] #[.int .i64 0, .int .i64 0, false, false] 185 185 49
 go_enter Tryz.func173, Tryz.ntmps173
 obtain ⟨x0, x1, fx⟩ := zai p0
 obtain ⟨y0, y1, fy⟩ := zai p1
 go_wp2
 refine bodyPost_ret (v := .agg #[an, .int .i64 0, true, false]) (by simp [results, Tryz.results173, go_sem]) rfl (And.intro rfl ?_)
 exact zbc
theorem zjD (an bn : Int) (w : World) : Calls Tryz.prog 173 #[.agg #[an, false], .agg #[bn, true]] w (zam (.agg #[.int .i64 0, bn, false, true]) w) := by
 obtain ⟨p0, p1, p2, a0, a3⟩ := zaj w #[an, false] #[bn, true] #[.int .i64 0, .int .i64 0, false, false] 185 185 49
 go_enter Tryz.func173, Tryz.ntmps173
 obtain ⟨x0, x1, fx⟩ := zai p0
 obtain ⟨y0, y1, fy⟩ := zai p1
 go_wp2
 refine bodyPost_ret (v := .agg #[.int .i64 0, bn, false, true]) (by simp [results, Tryz.results173, go_sem]) rfl (And.intro rfl ?_)
 exact zbc
theorem zjU (an bn : Int) (w : World) : Calls Tryz.prog 173 #[.agg #[an, false], .agg #[bn, false]] w (zam (.agg #[.int .i64 0, .int .i64 0, false, false]) w) := by
 obtain ⟨p0, p1, p2, a0, a3⟩ := zaj w #[an, false] #[bn, false] #[.int .i64 0, .int .i64 0, false, false] 185 185 49
 go_enter Tryz.func173, Tryz.ntmps173
 obtain ⟨x0, x1, fx⟩ := zai p0
 obtain ⟨y0, y1, fy⟩ := zai p1
 go_wp2
 refine bodyPost_ret (v := .agg #[.int .i64 0, .int .i64 0, false, false]) (by simp [results, Tryz.results173, go_sem]) rfl (And.intro rfl ?_)
 exact zbc
theorem zeq (an bn : Int) (ah bh : Bool) (w : World) : Calls Tryz.prog 173 #[.agg #[an, ah], .agg #[bn, bh]] w (zam (.agg #[.int .i64 (endV ah an), .int .i64 (endV bh bn), ah, bh]) w) := by
 cases ah <;> cases bh
 ·exact zjU an bn w
 ·exact zjD an bn w
 ·exact zi7 an bn w
 ·exact zbb an bn w
theorem zhl (a : Int) (w : World) : Calls Tryz.prog 175 #[a] w fun e w' => e = .returned (.int .i64 a) ∧ w = w' := by
 go_enter Tryz.func175, Tryz.ntmps175
 go_wp2
 go_ret
 exact ⟨rfl, rfl⟩
theorem ze1 (u d : Int) : za3 u d = ⟨endV (!decide (d = 9223372036854775807)) (lowV d), endV (!decide (u = 9223372036854775807)) u, !decide (d = 9223372036854775807), !decide (u = 9223372036854775807)⟩ := by
 unfold za3 endV lowV
 by_cases h : d = 9223372036854775807 <;> by_cases k : u = 9223372036854775807 <;> simp [h, k]
theorem zfg (n : Int) (m : List Int) (N i j : Nat) (A : Option Addr) (cap : Nat) (w : World) (hN : (N : Int) = 2 * n) (hn : N ≤ 128) (hc : Cells N m) (hi : i < N) (hj : j < N) (hx : Rd w w.heap.size A m) (hm : m.length ≤ 17592186044416) (hlo : -9223372036854775808 < (half (G N m (nx i) (nx j))) ∧ (half (G N m (nx i) (nx j))) ≤ 9223372036854775807) :
  Calls Tryz.prog 174 #[.agg #[n, false, .slice A m.length cap], (i : Int), (j : Int), .func (.func 215) #[] #[]] w (zam (.tuple #[(za3 (half (G N m i j)) (half (G N m (nx i) (nx j)))).val, true, .int .i64 0]) w) := by
 have a5 : nx i < N := nxl (by omega) hi
 have a8 : nx j < N := nxl (by omega) hj
 have b6 := hid (fun W (h : Rd W W.heap.size A m) => zeg n m N i j A cap W hN hn hc hi hj h hm)
 have b0 := hid (fun W (h : Rd W W.heap.size A m) => zeg n m N (nx i) (nx j) A cap W hN hn hc a5 a8 h hm)
 have b3 := zbH (i := i) (by omega)
 have b7 := zbH (i := j) (by omega)
 obtain ⟨p0, p1, a0, a3⟩ := zal w #[n, false, .slice A m.length cap] #[.int .i64 0, .int .i64 0, false, false] 24 49
 have a1 := hx.up a0
 rw [ze1]
 unfold Rg.val
 have b2 := hid (fun W => zcG (G N m i j) W)
 have b5 := hid (fun W => zcG (G N m (nx i) (nx j)) W)
 have b1 := hid (fun W => zgc (half (G N m i j)) W)
 have b4 := hid (fun W => zf3 (half (G N m (nx i) (nx j))) hlo W)
 generalize (half (G N m i j)) = fu at *
 generalize (half (G N m (nx i) (nx j))) = fd at *
 generalize G N m i j = gu at *
 generalize G N m (nx i) (nx j) = gd at *
 generalize nx i = i' at *
 generalize nx j = j' at *
 generalize (!decide (fu = 9223372036854775807)) = hu at *
 generalize (!decide (fd = 9223372036854775807)) = hd at *
 generalize lowV fd = ld at *
 clear a3 hx hlo hN hn hc hi hj hm a5 a8
 go_enter Tryz.func174, Tryz.ntmps174
 have x0 := zaa p0
 go_wp2_with fail
 clear x0
 generalize (w.alloc (Obj.cells #[n, false, .slice A m.length cap] 24)).alloc (Obj.cells #[.int .i64 0, .int .i64 0, false, false] 49) = w0 at *
 (with_reducible refine (b6.out w0 a1).mono ?_)
 rintro e1 w1 ⟨rfl, a2⟩
 replace p0 := p0.later a2
 replace p1 := p1.later a2
 replace a1 := a1.up a2
 replace a0 := bup a0 a2
 have x0 := zaa p0
 go_wp2_with fail
 skip
 clear x0
 (with_reducible refine (b0.out w1 a1).mono ?_)
 rintro e2 w2 ⟨rfl, a6⟩
 replace p1 := p1.later a6
 replace a0 := bup a0 a6
 clear b3 b7 p0 a1
 go_wp2_with fail
 (with_reducible refine (b5.out w2).mono ?_)
 rintro e3 w3 ⟨rfl, rfl⟩
 go_wp2_with fail
 (with_reducible refine (b4.out w2).mono ?_)
 rintro e4 w4 ⟨rfl, a9⟩
 replace p1 := p1.later a9
 replace a0 := bup a0 a9
 go_wp2_with fail
 (with_reducible refine (b2.out w4).mono ?_)
 rintro e5 w5 ⟨rfl, rfl⟩
 go_wp2_with fail
 (with_reducible refine (b1.out w4).mono ?_)
 rintro e6 w6 ⟨rfl, a7⟩
 replace p1 := p1.later a7
 replace a0 := bup a0 a7
 go_wp2_with fail
 (with_reducible refine (zeq ld fu hd hu w6).mono ?_)
 rintro e7 w7 ⟨rfl, a4⟩
 replace p1 := p1.later a4
 replace a0 := bup a0 a4
 generalize endV hd ld = r0 at *
 generalize endV hu fu = r1 at *
 obtain ⟨z0, z1, z2, z3, fz⟩ := zag p1
 go_wp2
 clear z0 z1 z2 z3 fz
 have q := (((p1.set_ 0 (.int .i64 r0)).set_ 1 (.int .i64 r1)).set_ 2 (.bool hd)).set_ 3 (.bool hu)
 obtain ⟨z0, z1, z2, z3, fz⟩ := zag (show Blk _ _ _ #[r0, r1, hd, hu] from q)
 refine bodyPost_ret (v := .tuple #[.agg #[r0, r1, hd, hu], true, .int .i64 0]) (by simp [results, Tryz.results174, go_sem, z0, z1, z2, z3]) rfl (And.intro rfl ?_)
 refine a0.trans ?_
 have := a0.size
 exact zbc
theorem zdl (n : Int) (m : List Int) (N i j : Nat) (A : Option Addr) (cap : Nat) (w : World) (hN : (N : Int) = 2 * n) (hn : N ≤ 128) (hc : Cells N m) (hi : i < N) (hj : j < N) (hx : Rd w w.heap.size A m) (hm : m.length ≤ 17592186044416) (hlo : -9223372036854775808 < ((G N m (nx i) (nx j))) ∧ ((G N m (nx i) (nx j))) ≤ 9223372036854775807) :
  Calls Tryz.prog 174 #[.agg #[n, false, .slice A m.length cap], (i : Int), (j : Int), .func (.func 175) #[] #[]] w (zam (.tuple #[(za3 ((G N m i j)) ((G N m (nx i) (nx j)))).val, true, .int .i64 0]) w) := by
 have a5 : nx i < N := nxl (by omega) hi
 have a8 : nx j < N := nxl (by omega) hj
 have b6 := hid (fun W (h : Rd W W.heap.size A m) => zeg n m N i j A cap W hN hn hc hi hj h hm)
 have b0 := hid (fun W (h : Rd W W.heap.size A m) => zeg n m N (nx i) (nx j) A cap W hN hn hc a5 a8 h hm)
 have b3 := zbH (i := i) (by omega)
 have b7 := zbH (i := j) (by omega)
 obtain ⟨p0, p1, a0, a3⟩ := zal w #[n, false, .slice A m.length cap] #[.int .i64 0, .int .i64 0, false, false] 24 49
 have a1 := hx.up a0
 rw [ze1]
 unfold Rg.val
 have b2 := hid (fun W => zhl (G N m i j) W)
 have b5 := hid (fun W => zhl (G N m (nx i) (nx j)) W)
 have b1 := hid (fun W => zgc ((G N m i j)) W)
 have b4 := hid (fun W => zf3 ((G N m (nx i) (nx j))) hlo W)
 generalize ((G N m i j)) = fu at *
 generalize ((G N m (nx i) (nx j))) = fd at *
 generalize G N m i j = gu at *
 generalize G N m (nx i) (nx j) = gd at *
 generalize nx i = i' at *
 generalize nx j = j' at *
 generalize (!decide (fu = 9223372036854775807)) = hu at *
 generalize (!decide (fd = 9223372036854775807)) = hd at *
 generalize lowV fd = ld at *
 clear a3 hx hlo hN hn hc hi hj hm a5 a8
 go_enter Tryz.func174, Tryz.ntmps174
 have x0 := zaa p0
 go_wp2_with fail
 clear x0
 generalize (w.alloc (Obj.cells #[n, false, .slice A m.length cap] 24)).alloc (Obj.cells #[.int .i64 0, .int .i64 0, false, false] 49) = w0 at *
 (with_reducible refine (b6.out w0 a1).mono ?_)
 rintro e1 w1 ⟨rfl, a2⟩
 replace p0 := p0.later a2
 replace p1 := p1.later a2
 replace a1 := a1.up a2
 replace a0 := bup a0 a2
 have x0 := zaa p0
 go_wp2_with fail
 skip
 clear x0
 (with_reducible refine (b0.out w1 a1).mono ?_)
 rintro e2 w2 ⟨rfl, a6⟩
 replace p1 := p1.later a6
 replace a0 := bup a0 a6
 clear b3 b7 p0 a1
 go_wp2_with fail
 (with_reducible refine (b5.out w2).mono ?_)
 rintro e3 w3 ⟨rfl, rfl⟩
 go_wp2_with fail
 (with_reducible refine (b4.out w2).mono ?_)
 rintro e4 w4 ⟨rfl, a9⟩
 replace p1 := p1.later a9
 replace a0 := bup a0 a9
 go_wp2_with fail
 (with_reducible refine (b2.out w4).mono ?_)
 rintro e5 w5 ⟨rfl, rfl⟩
 go_wp2_with fail
 (with_reducible refine (b1.out w4).mono ?_)
 rintro e6 w6 ⟨rfl, a7⟩
 replace p1 := p1.later a7
 replace a0 := bup a0 a7
 go_wp2_with fail
 (with_reducible refine (zeq ld fu hd hu w6).mono ?_)
 rintro e7 w7 ⟨rfl, a4⟩
 replace p1 := p1.later a4
 replace a0 := bup a0 a4
 generalize endV hd ld = r0 at *
 generalize endV hu fu = r1 at *
 obtain ⟨z0, z1, z2, z3, fz⟩ := zag p1
 go_wp2
 clear z0 z1 z2 z3 fz
 have q := (((p1.set_ 0 (.int .i64 r0)).set_ 1 (.int .i64 r1)).set_ 2 (.bool hd)).set_ 3 (.bool hu)
 obtain ⟨z0, z1, z2, z3, fz⟩ := zag (show Blk _ _ _ #[r0, r1, hd, hu] from q)
 refine bodyPost_ret (v := .tuple #[.agg #[r0, r1, hd, hu], true, .int .i64 0]) (by simp [results, Tryz.results174, go_sem, z0, z1, z2, z3]) rfl (And.intro rfl ?_)
 refine a0.trans ?_
 have := a0.size
 exact zbc
end
section
attribute [local go_sem ↓] Go.wp_at_zero Go.wp_at_succ
theorem zcY {N : Nat} {m : List Int} (hc : Cells N m) {i j : Nat} (hi : i < N) (hj : j < N) : -9223372036854775808 < G N m i j ∧ G N m i j ≤ 9223372036854775807 := by
 have h0 : zaq (G N m i j) = true := hc.bd i j hi hj
 generalize G N m i j = d at *
 unfold zaq at h0
 have h1 := of_decide_eq_true h0
 omega
theorem zcJ (a : Int) : half a ≤ 9223372036854775807 := by
 have h := zfQ a
 unfold half at *
 have : near a ≤ 9223372036854775807 := by
  unfold near; repeat' split
  all_goals omega
 split
 all_goals omega
theorem zdL (n : Int) (m : List Int) (N v : Nat) (A : Option Addr) (cap : Nat) (w : World) (hN : (N : Int) = 2 * n) (hn : N ≤ 128) (hc : Cells N m) (hv : 2 * v + 1 < N) (hx : Rd w w.heap.size A m) (hm : m.length ≤ 17592186044416) :
  Calls Tryz.prog 171 #[.agg #[n, false, .slice A m.length cap], (v : Int)] w (zam (varR N m v).val w) := by
 have HB := hid (fun W (h : Rd W W.heap.size A m) => zfg n m N (2 * v) (2 * v + 1) A cap W hN hn hc (by omega) (by omega) h hm (⟨by have := zc8 (G N m (nx (2 * v)) (nx (2 * v + 1))); omega, zcJ _⟩))
 have e1 : nx (2 * v) = 2 * v + 1 := by unfold nx; split <;> omega
 have e2 : nx (2 * v + 1) = 2 * v := by unfold nx; split <;> omega
 rw [e1, e2] at HB
 have HR : Hid (varR N m v = za3 (half (G N m (2 * v) (2 * v + 1))) (half (G N m (2 * v + 1) (2 * v)))) := hid rfl
 rw [← HR.out] at HB
 clear HR e1 e2
 obtain ⟨r, hr⟩ : ∃ r, r = varR N m v := ⟨_, rfl⟩
 rw [← hr] at HB ⊢
 clear hr
 obtain ⟨r0, r1, r2, r3⟩ := r
 unfold Rg.val at *
 dsimp only at *
 obtain ⟨p0, p1, a0, a4⟩ := zal w #[n, false, .slice A m.length cap] #[.int .i64 0, .int .i64 0, false, false] 125 49
 have a5 := hx.up a0
 have a1 : ((2 * v : Nat) : Int) = 2 * (v : Int) := by omega
 have a2 : ((2 * v + 1 : Nat) : Int) = 2 * (v : Int) + 1 := by omega
 rw [a1, a2] at HB
 clear a1 a2
 have a6 : 0 ≤ (v : Int) ∧ (v : Int) ≤ 64 := by omega
 clear a4 hx hN hn hc hm
 go_enter Tryz.func171, Tryz.ntmps171
 have x0 := zaa p0
 go_wp2_with fail
 clear x0
 generalize (w.alloc (Obj.cells #[n, false, .slice A m.length cap] 125)).alloc (Obj.cells #[.int .i64 0, .int .i64 0, false, false] 49) = w0 at *
 (with_reducible refine (HB.out w0 a5).mono ?_)
 rintro e1 w1 ⟨rfl, a3⟩
 replace p1 := p1.later a3
 replace a0 := bup a0 a3
 have n2 := new1 w1 (.cells #[r0, r1, r2, r3] 49)
 obtain ⟨z0, z1, z2, z3, fz⟩ := zag (p1.later n2)
 go_wp2
 clear z0 z1 z2 z3 fz
 have q := ((((p1.later n2).set_ 0 (.int .i64 r0)).set_ 1 (.int .i64 r1)).set_ 2 (.bool r2)).set_ 3 (.bool r3)
 obtain ⟨z0, z1, z2, z3, fz⟩ := zag (show Blk _ _ _ #[r0, r1, r2, r3] from q)
 refine bodyPost_ret (v := .agg #[r0, r1, r2, r3]) (by simp [results, Tryz.results171, go_sem, z0, z1, z2, z3]) rfl (And.intro rfl ?_)
 refine (bup a0 n2).trans ?_
 have := a0.size
 exact zbc
theorem zhk (n : Int) (m : List Int) (N u v : Nat) (A : Option Addr) (cap : Nat) (w : World) (hN : (N : Int) = 2 * n) (hn : N ≤ 128) (hc : Cells N m) (hu : 2 * u + 1 < N) (hv : 2 * v + 1 < N) (hx : Rd w w.heap.size A m) (hm : m.length ≤ 17592186044416) :
  Calls Tryz.prog 93 #[.agg #[n, false, .slice A m.length cap], (u : Int), (v : Int)] w (zam (sumR N m u v).val w) := by
 have HB := hid (fun W (h : Rd W W.heap.size A m) => zdl n m N (2 * u) (2 * v + 1) A cap W hN hn hc (by omega) (by omega) h hm (zcY hc (nxl (by omega) (by omega)) (nxl (by omega) (by omega))))
 have e1 : nx (2 * u) = 2 * u + 1 := by unfold nx; split <;> omega
 have e2 : nx (2 * v + 1) = 2 * v := by unfold nx; split <;> omega
 rw [e1, e2] at HB
 have HR : Hid (sumR N m u v = za3 ((G N m (2 * u) (2 * v + 1))) ((G N m (2 * u + 1) (2 * v)))) := hid rfl
 rw [← HR.out] at HB
 clear HR e1 e2
 obtain ⟨r, hr⟩ : ∃ r, r = sumR N m u v := ⟨_, rfl⟩
 rw [← hr] at HB ⊢
 clear hr
 obtain ⟨r0, r1, r2, r3⟩ := r
 unfold Rg.val at *
 dsimp only at *
 obtain ⟨p0, p1, a0, a4⟩ := zal w #[n, false, .slice A m.length cap] #[.int .i64 0, .int .i64 0, false, false] 125 49
 have a5 := hx.up a0
 have a1 : ((2 * u : Nat) : Int) = 2 * (u : Int) := by omega
 have a2 : ((2 * v + 1 : Nat) : Int) = 2 * (v : Int) + 1 := by omega
 rw [a1, a2] at HB
 clear a1 a2
 have a7 : 0 ≤ (u : Int) ∧ (u : Int) ≤ 64 := by omega
 have a6 : 0 ≤ (v : Int) ∧ (v : Int) ≤ 64 := by omega
 clear a4 hx hN hn hc hm
 go_enter Tryz.func93, Tryz.ntmps93
 have x0 := zaa p0
 go_wp2_with fail
 clear x0
 generalize (w.alloc (Obj.cells #[n, false, .slice A m.length cap] 125)).alloc (Obj.cells #[.int .i64 0, .int .i64 0, false, false] 49) = w0 at *
 (with_reducible refine (HB.out w0 a5).mono ?_)
 rintro e1 w1 ⟨rfl, a3⟩
 replace p1 := p1.later a3
 replace a0 := bup a0 a3
 have n2 := new1 w1 (.cells #[r0, r1, r2, r3] 49)
 obtain ⟨z0, z1, z2, z3, fz⟩ := zag (p1.later n2)
 go_wp2
 clear z0 z1 z2 z3 fz
 have q := ((((p1.later n2).set_ 0 (.int .i64 r0)).set_ 1 (.int .i64 r1)).set_ 2 (.bool r2)).set_ 3 (.bool r3)
 obtain ⟨z0, z1, z2, z3, fz⟩ := zag (show Blk _ _ _ #[r0, r1, r2, r3] from q)
 refine bodyPost_ret (v := .agg #[r0, r1, r2, r3]) (by simp [results, Tryz.results93, go_sem, z0, z1, z2, z3]) rfl (And.intro rfl ?_)
 refine (bup a0 n2).trans ?_
 have := a0.size
 exact zbc
theorem zhM (n : Int) (m : List Int) (N u v : Nat) (A : Option Addr) (cap : Nat) (w : World) (hN : (N : Int) = 2 * n) (hn : N ≤ 128) (hc : Cells N m) (hu : 2 * u + 1 < N) (hv : 2 * v + 1 < N) (hx : Rd w w.heap.size A m) (hm : m.length ≤ 17592186044416) :
  Calls Tryz.prog 94 #[.agg #[n, false, .slice A m.length cap], (u : Int), (v : Int)] w (zam (diffR N m u v).val w) := by
 have HB := hid (fun W (h : Rd W W.heap.size A m) => zdl n m N (2 * u) (2 * v) A cap W hN hn hc (by omega) (by omega) h hm (zcY hc (nxl (by omega) (by omega)) (nxl (by omega) (by omega))))
 have e1 : nx (2 * u) = 2 * u + 1 := by unfold nx; split <;> omega
 have e2 : nx (2 * v) = 2 * v + 1 := by unfold nx; split <;> omega
 rw [e1, e2] at HB
 have HR : Hid (diffR N m u v = za3 ((G N m (2 * u) (2 * v))) ((G N m (2 * u + 1) (2 * v + 1)))) := hid rfl
 rw [← HR.out] at HB
 clear HR e1 e2
 obtain ⟨r, hr⟩ : ∃ r, r = diffR N m u v := ⟨_, rfl⟩
 rw [← hr] at HB ⊢
 clear hr
 obtain ⟨r0, r1, r2, r3⟩ := r
 unfold Rg.val at *
 dsimp only at *
 obtain ⟨p0, p1, a0, a4⟩ := zal w #[n, false, .slice A m.length cap] #[.int .i64 0, .int .i64 0, false, false] 125 49
 have a5 := hx.up a0
 have a1 : ((2 * u : Nat) : Int) = 2 * (u : Int) := by omega
 have a2 : ((2 * v : Nat) : Int) = 2 * (v : Int) := by omega
 rw [a1, a2] at HB
 clear a1 a2
 have a7 : 0 ≤ (u : Int) ∧ (u : Int) ≤ 64 := by omega
 have a6 : 0 ≤ (v : Int) ∧ (v : Int) ≤ 64 := by omega
 clear a4 hx hN hn hc hm
 go_enter Tryz.func94, Tryz.ntmps94
 have x0 := zaa p0
 go_wp2_with fail
 clear x0
 generalize (w.alloc (Obj.cells #[n, false, .slice A m.length cap] 125)).alloc (Obj.cells #[.int .i64 0, .int .i64 0, false, false] 49) = w0 at *
 (with_reducible refine (HB.out w0 a5).mono ?_)
 rintro e1 w1 ⟨rfl, a3⟩
 replace p1 := p1.later a3
 replace a0 := bup a0 a3
 have n2 := new1 w1 (.cells #[r0, r1, r2, r3] 49)
 obtain ⟨z0, z1, z2, z3, fz⟩ := zag (p1.later n2)
 go_wp2
 clear z0 z1 z2 z3 fz
 have q := ((((p1.later n2).set_ 0 (.int .i64 r0)).set_ 1 (.int .i64 r1)).set_ 2 (.bool r2)).set_ 3 (.bool r3)
 obtain ⟨z0, z1, z2, z3, fz⟩ := zag (show Blk _ _ _ #[r0, r1, r2, r3] from q)
 refine bodyPost_ret (v := .agg #[r0, r1, r2, r3]) (by simp [results, Tryz.results94, go_sem, z0, z1, z2, z3]) rfl (And.intro rfl ?_)
 refine (bup a0 n2).trans ?_
 have := a0.size
 exact zbc
end
section
theorem zjQ (w : World) (cs0 cs1 cs2 cs3 cs4 : Array Value) (t0 t1 t2 t3 t4 : TypeId) : Blk (((((w.alloc (.cells cs0 t0)).alloc (.cells cs1 t1)).alloc (.cells cs2 t2)).alloc (.cells cs3 t3)).alloc (.cells cs4 t4)) w.heap.size t0 cs0 ∧ Blk (((((w.alloc (.cells cs0 t0)).alloc (.cells cs1 t1)).alloc (.cells cs2 t2)).alloc (.cells cs3 t3)).alloc (.cells cs4 t4)) (w.heap.size + 1) t1 cs1 ∧ Blk (((((w.alloc (.cells cs0 t0)).alloc (.cells cs1 t1)).alloc (.cells cs2 t2)).alloc (.cells cs3 t3)).alloc (.cells cs4 t4)) (w.heap.size + 1 + 1) t2 cs2 ∧ Blk (((((w.alloc (.cells cs0 t0)).alloc (.cells cs1 t1)).alloc (.cells cs2 t2)).alloc (.cells cs3 t3)).alloc (.cells cs4 t4)) (w.heap.size + 1 + 1 + 1) t3 cs3 ∧ Blk (((((w.alloc (.cells cs0 t0)).alloc (.cells cs1 t1)).alloc (.cells cs2 t2)).alloc (.cells cs3 t3)).alloc (.cells cs4 t4)) (w.heap.size + 1 + 1 + 1 + 1) t4 cs4 ∧ Below w.heap.size w (((((w.alloc (.cells cs0 t0)).alloc (.cells cs1 t1)).alloc (.cells cs2 t2)).alloc (.cells cs3 t3)).alloc (.cells cs4 t4)) ∧ (((((w.alloc (.cells cs0 t0)).alloc (.cells cs1 t1)).alloc (.cells cs2 t2)).alloc (.cells cs3 t3)).alloc (.cells cs4 t4)).heap.size = w.heap.size + 5 := by
 obtain ⟨h1, h2, h3, h4, h5, h6⟩ := zax w cs0 cs1 cs2 cs3 t0 t1 t2 t3
 have k := Blk.new ((((w.alloc (.cells cs0 t0)).alloc (.cells cs1 t1)).alloc (.cells cs2 t2)).alloc (.cells cs3 t3)) t4 cs4
 rw [h6] at k
 exact ⟨h1.alloc _, h2.alloc _, h3.alloc _, h4.alloc _, k, h5.alloc (by simp; omega) _, by simp⟩
def Sx (w : World) (B : Nat) (A : Option Addr) (m : List Int) : Prop := Rd w B A m ∨ ∃ c, Own w B A c m
section
variable {w w' : World} {B g c : Nat} {A : Option Addr} {m : List Int} {v0 v1 v2 : Value} {t : TypeId} {cs : Array Value}
theorem Sx.later (h : Sx w B A m) (hb : Below w.heap.size w w') (hB : B ≤ w.heap.size) : Sx w' B A m := by
 rcases h with h | ⟨c, h⟩
 ·exact .inl (h.below (hb.mono hB))
 ·exact .inr ⟨c, h.below hb⟩
theorem Sx.far3 (h : Sx w B A m) (hg : B ≤ g) (hk : Blk w g t cs) (ht : t ≠ 2) : Sx (((w.setCell ⟨g, 0, none⟩ v0).setCell ⟨g, 1, none⟩ v1).setCell ⟨g, 2, none⟩ v2) B A m := by
 rcases h with h | ⟨c, h⟩
 ·exact .inl (h.far3 hg)
 ·exact .inr ⟨c, h.far3 (zan h hk ht)⟩
theorem Sx.far1 (h : Sx w B A m) (hg : B ≤ g) (hk : Blk w g t cs) (ht : t ≠ 2) (j : Nat) : Sx (w.setCell ⟨g, j, none⟩ v0) B A m := by
 rcases h with h | ⟨c, h⟩
 ·refine .inl (fun k hk => ?_)
  obtain ⟨b, off, hA, hB, hc⟩ := h k hk
  refine ⟨b, off, hA, hB, ?_⟩
  rw [World.cell?_setCell_other _ _ _ _ (by intro h; simp only [Addr.mk.injEq] at h; omega)]
  exact hc
 ·exact .inr ⟨c, h.far1 (zan h hk ht)⟩
theorem Sx.rd (h : Sx w B A m) (hB : B ≤ w.heap.size) : Rd w w.heap.size A m := by
 rcases h with h | ⟨c, h⟩
 ·exact h.more hB
 ·exact h.rd
theorem Sx.of_own (h : Own w g A c m) (hB : B ≤ g) : Sx w B A m := .inr ⟨c, h.less hB⟩
end
theorem Sx.alias {w w' : World} {B c1 : Nat} {A A1 : Option Addr} {m m1 : List Int} (h : (A1 = A ∧ m1 = m) ∨ Own w' w.heap.size A1 c1 m1) (hx : Sx w B A m) (hb : Below w.heap.size w w') (hB : B ≤ w.heap.size) : Sx w' B A1 m1 := by
 rcases h with ⟨rfl, rfl⟩ | h
 ·exact hx.later hb hB
 ·exact .inr ⟨c1, h.less hB⟩
def zar (w : World) (B : Nat) (o : O) (e : Ending) (w' : World) : Prop := ∃ A1 c1, e = .returned (.agg #[o.n, o.e, .slice A1 o.m.length c1]) ∧ Sx w' B A1 o.m ∧ Below w.heap.size w w'
theorem zaC.sx {w w' : World} {B : Nat} {A : Option Addr} {m : List Int} {o : O} {e : Ending} (h : zaC w A m o e w') (hx : Sx w B A m) (hB : B ≤ w.heap.size) : zar w B o e w' := by
 obtain ⟨A1, c1, he, ho, hb⟩ := h
 exact ⟨A1, c1, he, Sx.alias ho hx hb hB, hb⟩
theorem zbh.sx {w w' : World} {B : Nat} {o : O} {e : Ending} (h : zbh w o e w') (hB : B ≤ w.heap.size) : zar w B o e w' := by
 obtain ⟨A1, c1, he, ho, hb⟩ := h
 exact ⟨A1, c1, he, .inr ⟨c1, ho.less hB⟩, hb⟩
end
end Go.Proofs.YtnmpgijiimglcaaGreat
