import Derived.Test.YtnmpgijiimglcaaGreatBSe23
import Derived.Test.YtnmpgijiimglcaaGreatBSe30
import Derived.Test.YtnmpgijiimglcaaGreatBSe29
import Derived.Test.YtnmpgijiimglcaaGreatBSe15
import Derived.Test.YtnmpgijiimglcaaGreatBSe21
namespace Go.Proofs.YtnmpgijiimglcaaGreat
open Go.RowKit
set_option maxRecDepth 100000
set_option maxHeartbeats 8000000
section
attribute [local go_sem ↓] Go.wp_at_zero Go.wp_at_succ
theorem zk2 (r s : Rg) (_ir : I64 (loR r) ∧ I64 (hiR r)) (_is_ : I64 (loR s) ∧ I64 (hiR s)) (w : World) :
  Calls Tryz.prog 47 #[.int .i64 3, r.val, s.val] w fun e w' => e = .returned (.bool (!(decide (hiR r < loR r) || decide (hiR s < loR s)) && decide (-9223372036854775808 < loR r))) ∧ Below w.heap.size w w' := by
 have H1 := hid (fun W => za5 r W)
 have H2 := hid (fun W => za5 s W)
 rw [Rg.val_eq] at H1 H2
 rw [Rg.val_eq, Rg.val_eq]
 generalize loR r = a at *
 generalize hiR r = b at *
 generalize loR s = c at *
 generalize hiR s = d at *
 obtain ⟨R, hR⟩ : ∃ R, R = (!(decide (b < a) || decide (d < c)) && decide (-9223372036854775808 < a)) := ⟨_, rfl⟩
 rw [← hR]
 have HR := hid hR
 clear hR
 obtain ⟨p0, p1, a2, b3⟩ := zal w #[r.lo, r.hi, r.hl, r.hh] #[s.lo, s.hi, s.hl, s.hh] 49 49
 clear b3
 go_enter Tryz.func47, Tryz.ntmps47
 have a3 := zag p0
 go_wp2_with fail
 clear a3
 generalize (w.alloc (Obj.cells #[r.lo, r.hi, r.hl, r.hh] 49)).alloc (Obj.cells #[s.lo, s.hi, s.hl, s.hh] 49) = w1 at *
 (with_reducible refine (H1.out w1).mono ?_)
 rintro b4 w2 ⟨rfl, a0⟩
 replace p0 := p0.later a0
 replace p1 := p1.later a0
 replace a2 := bup a2 a0
 clear a0 H1
 have a7 := zag p1
 go_wp2_with fail
 clear a7
 (with_reducible refine (H2.out w2).mono ?_)
 rintro b5 w3 ⟨rfl, a1⟩
 replace p0 := p0.later a1
 replace p1 := p1.later a1
 replace a2 := bup a2 a1
 clear a1 H2 p0 p1
 cases t1 : decide (b < a) with
 | true =>
  have HE : Hid (R = false) := hid (by rw [HR.out, t1]; rfl)
  go_wp2; go_ret; exact ⟨by rw [HE.out]; rfl, a2⟩
 | false =>
  cases t2 : decide (d < c) with
  | true =>
   have HE : Hid (R = false) := hid (by rw [HR.out, t1, t2]; rfl)
   go_wp2; go_ret; exact ⟨by rw [HE.out]; rfl, a2⟩
  | false =>
   have HE : Hid (R = decide (-9223372036854775808 < a)) := hid (by rw [HR.out, t1, t2]; rfl)
   go_wp2; go_ret; exact ⟨by rw [HE.out]; rfl, a2⟩
theorem zkZ (r s : Rg) (ir : I64 (loR r) ∧ I64 (hiR r)) (is_ : I64 (loR s) ∧ I64 (hiR s)) (w : World) :
  Calls Tryz.prog 47 #[.int .i64 4, r.val, s.val] w fun e w' => e = .returned (.bool (!(decide (hiR r < loR r) || decide (hiR s < loR s)) && (decide ((addW (loR r) (loR s)).2 = 0) && decide ((addW (hiR r) (hiR s)).2 = 0)))) ∧ Below w.heap.size w w' := by
 have H1 := hid (fun W => za5 r W)
 have H2 := hid (fun W => za5 s W)
 rw [Rg.val_eq] at H1 H2
 rw [Rg.val_eq, Rg.val_eq]
 generalize loR r = a at *
 generalize hiR r = b at *
 generalize loR s = c at *
 generalize hiR s = d at *
 have T1 := hid (fun W => (show Calls Tryz.prog 106 #[.int .i64 6, a, c] W (zbk (decide ((addW a c).2 = 0)) W) from za9 6 a c W ir.1 is_.1))
 have T2 := hid (fun W => (show Calls Tryz.prog 106 #[.int .i64 6, b, d] W (zbk (decide ((addW b d).2 = 0)) W) from za9 6 b d W ir.2 is_.2))
 generalize decide ((addW a c).2 = 0) = z1 at *
 generalize decide ((addW b d).2 = 0) = z2 at *
 obtain ⟨R, hR⟩ : ∃ R, R = (!(decide (b < a) || decide (d < c)) && (z1 && z2)) := ⟨_, rfl⟩
 rw [← hR]
 have HR := hid hR
 clear hR
 obtain ⟨p0, p1, a2, b3⟩ := zal w #[r.lo, r.hi, r.hl, r.hh] #[s.lo, s.hi, s.hl, s.hh] 49 49
 clear b3
 go_enter Tryz.func47, Tryz.ntmps47
 have a3 := zag p0
 go_wp2_with fail
 clear a3
 generalize (w.alloc (Obj.cells #[r.lo, r.hi, r.hl, r.hh] 49)).alloc (Obj.cells #[s.lo, s.hi, s.hl, s.hh] 49) = w1 at *
 (with_reducible refine (H1.out w1).mono ?_)
 rintro b4 w2 ⟨rfl, a0⟩
 replace p0 := p0.later a0
 replace p1 := p1.later a0
 replace a2 := bup a2 a0
 clear a0 H1
 have a7 := zag p1
 go_wp2_with fail
 clear a7
 (with_reducible refine (H2.out w2).mono ?_)
 rintro b5 w3 ⟨rfl, a1⟩
 replace p0 := p0.later a1
 replace p1 := p1.later a1
 replace a2 := bup a2 a1
 clear a1 H2 p0 p1
 cases t1 : decide (b < a) with
 | true =>
  have HE : Hid (R = false) := hid (by rw [HR.out, t1]; rfl)
  go_wp2; go_ret; exact ⟨by rw [HE.out]; rfl, a2⟩
 | false =>
  cases t2 : decide (d < c) with
  | true =>
   have HE : Hid (R = false) := hid (by rw [HR.out, t1, t2]; rfl)
   go_wp2; go_ret; exact ⟨by rw [HE.out]; rfl, a2⟩
  | false =>
   have HE : Hid (R = (z1 && z2)) := hid (by rw [HR.out, t1, t2]; rfl)
   go_wp2_with fail
   (with_reducible refine (T1.out _).mono ?_)
   rintro e1 u1 ⟨rfl, rfl⟩
   clear T1
   cases z1 with
   | false => go_wp2; go_ret; exact ⟨by rw [HE.out]; rfl, a2⟩
   | true =>
    go_wp2_with fail
    (with_reducible refine (T2.out _).mono ?_)
    rintro e2 u2 ⟨rfl, rfl⟩
    clear T2
    go_wp2; go_ret; exact ⟨by rw [HE.out]; first | rfl | (cases z2 <;> rfl), a2⟩
theorem zkX (r s : Rg) (ir : I64 (loR r) ∧ I64 (hiR r)) (is_ : I64 (loR s) ∧ I64 (hiR s)) (w : World) :
  Calls Tryz.prog 47 #[.int .i64 5, r.val, s.val] w fun e w' => e = .returned (.bool (!(decide (hiR r < loR r) || decide (hiR s < loR s)) && (decide ((subW (loR r) (hiR s)).2 = 0) && decide ((subW (hiR r) (loR s)).2 = 0)))) ∧ Below w.heap.size w w' := by
 have H1 := hid (fun W => za5 r W)
 have H2 := hid (fun W => za5 s W)
 rw [Rg.val_eq] at H1 H2
 rw [Rg.val_eq, Rg.val_eq]
 generalize loR r = a at *
 generalize hiR r = b at *
 generalize loR s = c at *
 generalize hiR s = d at *
 have T1 := hid (fun W => (show Calls Tryz.prog 106 #[.int .i64 7, a, d] W (zbk (decide ((subW a d).2 = 0)) W) from za9 7 a d W ir.1 is_.2))
 have T2 := hid (fun W => (show Calls Tryz.prog 106 #[.int .i64 7, b, c] W (zbk (decide ((subW b c).2 = 0)) W) from za9 7 b c W ir.2 is_.1))
 generalize decide ((subW a d).2 = 0) = z1 at *
 generalize decide ((subW b c).2 = 0) = z2 at *
 obtain ⟨R, hR⟩ : ∃ R, R = (!(decide (b < a) || decide (d < c)) && (z1 && z2)) := ⟨_, rfl⟩
 rw [← hR]
 have HR := hid hR
 clear hR
 obtain ⟨p0, p1, a2, b3⟩ := zal w #[r.lo, r.hi, r.hl, r.hh] #[s.lo, s.hi, s.hl, s.hh] 49 49
 clear b3
 go_enter Tryz.func47, Tryz.ntmps47
 have a3 := zag p0
 go_wp2_with fail
 clear a3
 generalize (w.alloc (Obj.cells #[r.lo, r.hi, r.hl, r.hh] 49)).alloc (Obj.cells #[s.lo, s.hi, s.hl, s.hh] 49) = w1 at *
 (with_reducible refine (H1.out w1).mono ?_)
 rintro b4 w2 ⟨rfl, a0⟩
 replace p0 := p0.later a0
 replace p1 := p1.later a0
 replace a2 := bup a2 a0
 clear a0 H1
 have a7 := zag p1
 go_wp2_with fail
 clear a7
 (with_reducible refine (H2.out w2).mono ?_)
 rintro b5 w3 ⟨rfl, a1⟩
 replace p0 := p0.later a1
 replace p1 := p1.later a1
 replace a2 := bup a2 a1
 clear a1 H2 p0 p1
 cases t1 : decide (b < a) with
 | true =>
  have HE : Hid (R = false) := hid (by rw [HR.out, t1]; rfl)
  go_wp2; go_ret; exact ⟨by rw [HE.out]; rfl, a2⟩
 | false =>
  cases t2 : decide (d < c) with
  | true =>
   have HE : Hid (R = false) := hid (by rw [HR.out, t1, t2]; rfl)
   go_wp2; go_ret; exact ⟨by rw [HE.out]; rfl, a2⟩
  | false =>
   have HE : Hid (R = (z1 && z2)) := hid (by rw [HR.out, t1, t2]; rfl)
   go_wp2_with fail
   (with_reducible refine (T1.out _).mono ?_)
   rintro e1 u1 ⟨rfl, rfl⟩
   clear T1
   cases z1 with
   | false => go_wp2; go_ret; exact ⟨by rw [HE.out]; rfl, a2⟩
   | true =>
    go_wp2_with fail
    (with_reducible refine (T2.out _).mono ?_)
    rintro e2 u2 ⟨rfl, rfl⟩
    clear T2
    go_wp2; go_ret; exact ⟨by rw [HE.out]; first | rfl | (cases z2 <;> rfl), a2⟩
theorem zkK (r s : Rg) (ir : I64 (loR r) ∧ I64 (hiR r)) (is_ : I64 (loR s) ∧ I64 (hiR s)) (w : World) :
  Calls Tryz.prog 47 #[.int .i64 6, r.val, s.val] w fun e w' => e = .returned (.bool (!(decide (hiR r < loR r) || decide (hiR s < loR s)) && (((decide ((mulW (loR r) (loR s)).2 = 0) && decide ((mulW (loR r) (hiR s)).2 = 0)) && decide ((mulW (hiR r) (loR s)).2 = 0)) && decide ((mulW (hiR r) (hiR s)).2 = 0)))) ∧ Below w.heap.size w w' := by
 have H1 := hid (fun W => za5 r W)
 have H2 := hid (fun W => za5 s W)
 rw [Rg.val_eq] at H1 H2
 rw [Rg.val_eq, Rg.val_eq]
 generalize loR r = a at *
 generalize hiR r = b at *
 generalize loR s = c at *
 generalize hiR s = d at *
 have T1 := hid (fun W => (show Calls Tryz.prog 106 #[.int .i64 8, a, c] W (zbk (decide ((mulW a c).2 = 0)) W) from za9 8 a c W ir.1 is_.1))
 have T2 := hid (fun W => (show Calls Tryz.prog 106 #[.int .i64 8, a, d] W (zbk (decide ((mulW a d).2 = 0)) W) from za9 8 a d W ir.1 is_.2))
 have T3 := hid (fun W => (show Calls Tryz.prog 106 #[.int .i64 8, b, c] W (zbk (decide ((mulW b c).2 = 0)) W) from za9 8 b c W ir.2 is_.1))
 have T4 := hid (fun W => (show Calls Tryz.prog 106 #[.int .i64 8, b, d] W (zbk (decide ((mulW b d).2 = 0)) W) from za9 8 b d W ir.2 is_.2))
 generalize decide ((mulW a c).2 = 0) = z1 at *
 generalize decide ((mulW a d).2 = 0) = z2 at *
 generalize decide ((mulW b c).2 = 0) = z3 at *
 generalize decide ((mulW b d).2 = 0) = z4 at *
 obtain ⟨R, hR⟩ : ∃ R, R = (!(decide (b < a) || decide (d < c)) && (((z1 && z2) && z3) && z4)) := ⟨_, rfl⟩
 rw [← hR]
 have HR := hid hR
 clear hR
 obtain ⟨p0, p1, a2, b3⟩ := zal w #[r.lo, r.hi, r.hl, r.hh] #[s.lo, s.hi, s.hl, s.hh] 49 49
 clear b3
 go_enter Tryz.func47, Tryz.ntmps47
 have a3 := zag p0
 go_wp2_with fail
 clear a3
 generalize (w.alloc (Obj.cells #[r.lo, r.hi, r.hl, r.hh] 49)).alloc (Obj.cells #[s.lo, s.hi, s.hl, s.hh] 49) = w1 at *
 (with_reducible refine (H1.out w1).mono ?_)
 rintro b4 w2 ⟨rfl, a0⟩
 replace p0 := p0.later a0
 replace p1 := p1.later a0
 replace a2 := bup a2 a0
 clear a0 H1
 have a7 := zag p1
 go_wp2_with fail
 clear a7
 (with_reducible refine (H2.out w2).mono ?_)
 rintro b5 w3 ⟨rfl, a1⟩
 replace p0 := p0.later a1
 replace p1 := p1.later a1
 replace a2 := bup a2 a1
 clear a1 H2 p0 p1
 cases t1 : decide (b < a) with
 | true =>
  have HE : Hid (R = false) := hid (by rw [HR.out, t1]; rfl)
  go_wp2; go_ret; exact ⟨by rw [HE.out]; rfl, a2⟩
 | false =>
  cases t2 : decide (d < c) with
  | true =>
   have HE : Hid (R = false) := hid (by rw [HR.out, t1, t2]; rfl)
   go_wp2; go_ret; exact ⟨by rw [HE.out]; rfl, a2⟩
  | false =>
   have HE : Hid (R = (((z1 && z2) && z3) && z4)) := hid (by rw [HR.out, t1, t2]; rfl)
   go_wp2_with fail
   (with_reducible refine (T1.out _).mono ?_)
   rintro e1 u1 ⟨rfl, rfl⟩
   clear T1
   cases z1 with
   | false => go_wp2; go_ret; exact ⟨by rw [HE.out]; rfl, a2⟩
   | true =>
    go_wp2_with fail
    (with_reducible refine (T2.out _).mono ?_)
    rintro e2 u2 ⟨rfl, rfl⟩
    clear T2
    cases z2 with
    | false => go_wp2; go_ret; exact ⟨by rw [HE.out]; rfl, a2⟩
    | true =>
     go_wp2_with fail
     (with_reducible refine (T3.out _).mono ?_)
     rintro e3 u3 ⟨rfl, rfl⟩
     clear T3
     cases z3 with
     | false => go_wp2; go_ret; exact ⟨by rw [HE.out]; rfl, a2⟩
     | true =>
      go_wp2_with fail
      (with_reducible refine (T4.out _).mono ?_)
      rintro e4 u4 ⟨rfl, rfl⟩
      clear T4
      go_wp2; go_ret; exact ⟨by rw [HE.out]; first | rfl | (cases z4 <;> rfl), a2⟩
theorem zkx (r s : Rg) (_ir : I64 (loR r) ∧ I64 (hiR r)) (_is_ : I64 (loR s) ∧ I64 (hiR s)) (w : World) :
  Calls Tryz.prog 47 #[.int .i64 7, r.val, s.val] w fun e w' => e = .returned (.bool (!(decide (hiR r < loR r) || decide (hiR s < loR s)) && (!(decide (loR s ≤ 0) && decide (0 ≤ hiR s)) && !((loR r == -9223372036854775808) && (decide (loR s ≤ -1) && decide (-1 ≤ hiR s)))))) ∧ Below w.heap.size w w' := by
 have H1 := hid (fun W => za5 r W)
 have H2 := hid (fun W => za5 s W)
 rw [Rg.val_eq] at H1 H2
 rw [Rg.val_eq, Rg.val_eq]
 generalize loR r = a at *
 generalize hiR r = b at *
 generalize loR s = c at *
 generalize hiR s = d at *
 obtain ⟨R, hR⟩ : ∃ R, R = (!(decide (b < a) || decide (d < c)) && (!(decide (c ≤ 0) && decide (0 ≤ d)) && !((a == -9223372036854775808) && (decide (c ≤ -1) && decide (-1 ≤ d))))) := ⟨_, rfl⟩
 rw [← hR]
 have HR := hid hR
 clear hR
 obtain ⟨p0, p1, a2, b3⟩ := zal w #[r.lo, r.hi, r.hl, r.hh] #[s.lo, s.hi, s.hl, s.hh] 49 49
 clear b3
 go_enter Tryz.func47, Tryz.ntmps47
 have a3 := zag p0
 go_wp2_with fail
 clear a3
 generalize (w.alloc (Obj.cells #[r.lo, r.hi, r.hl, r.hh] 49)).alloc (Obj.cells #[s.lo, s.hi, s.hl, s.hh] 49) = w1 at *
 (with_reducible refine (H1.out w1).mono ?_)
 rintro b4 w2 ⟨rfl, a0⟩
 replace p0 := p0.later a0
 replace p1 := p1.later a0
 replace a2 := bup a2 a0
 clear a0 H1
 have a7 := zag p1
 go_wp2_with fail
 clear a7
 (with_reducible refine (H2.out w2).mono ?_)
 rintro b5 w3 ⟨rfl, a1⟩
 replace p0 := p0.later a1
 replace p1 := p1.later a1
 replace a2 := bup a2 a1
 clear a1 H2 p0 p1
 cases t1 : decide (b < a) with
 | true =>
  have HE : Hid (R = false) := hid (by rw [HR.out, t1]; rfl)
  go_wp2; go_ret; exact ⟨by rw [HE.out]; rfl, a2⟩
 | false =>
  cases t2 : decide (d < c) with
  | true =>
   have HE : Hid (R = false) := hid (by rw [HR.out, t1, t2]; rfl)
   go_wp2; go_ret; exact ⟨by rw [HE.out]; rfl, a2⟩
  | false =>
   have HE : Hid (R = (!(decide (c ≤ 0) && decide (0 ≤ d)) && !((a == -9223372036854775808) && (decide (c ≤ -1) && decide (-1 ≤ d))))) := hid (by rw [HR.out, t1, t2]; rfl)
   cases q1 : decide (c ≤ 0) <;> cases q2 : decide (0 ≤ d) <;> cases q3 : (a == -9223372036854775808) <;> cases q4 : decide (c ≤ -1) <;> cases q5 : decide (-1 ≤ d)
   all_goals
    have b6 : Hid (R = _) := hid (HE.out.trans (by rw [q1, q2, q3, q4, q5]))
    have u1 : decide (0 < c) = !decide (c ≤ 0) := by rw [← decide_not]; exact decide_eq_decide.2 Int.not_le.symm
    have u2 : decide (d < 0) = !decide (0 ≤ d) := by rw [← decide_not]; exact decide_eq_decide.2 Int.not_le.symm
    rw [q1] at u1
    rw [q2] at u2
    clear HE HR q1 q2
    simp only [Bool.not_true, Bool.not_false] at u1 u2
    go_wp2; go_ret; exact ⟨by rw [b6.out]; rfl, a2⟩
theorem zkP (r s : Rg) (_ir : I64 (loR r) ∧ I64 (hiR r)) (_is_ : I64 (loR s) ∧ I64 (hiR s)) (w : World) :
  Calls Tryz.prog 47 #[.int .i64 8, r.val, s.val] w fun e w' => e = .returned (.bool (!(decide (hiR r < loR r) || decide (hiR s < loR s)) && (!(decide (loR s ≤ 0) && decide (0 ≤ hiR s)) && !((loR r == -9223372036854775808) && (decide (loR s ≤ -1) && decide (-1 ≤ hiR s)))))) ∧ Below w.heap.size w w' := by
 have H1 := hid (fun W => za5 r W)
 have H2 := hid (fun W => za5 s W)
 rw [Rg.val_eq] at H1 H2
 rw [Rg.val_eq, Rg.val_eq]
 generalize loR r = a at *
 generalize hiR r = b at *
 generalize loR s = c at *
 generalize hiR s = d at *
 obtain ⟨R, hR⟩ : ∃ R, R = (!(decide (b < a) || decide (d < c)) && (!(decide (c ≤ 0) && decide (0 ≤ d)) && !((a == -9223372036854775808) && (decide (c ≤ -1) && decide (-1 ≤ d))))) := ⟨_, rfl⟩
 rw [← hR]
 have HR := hid hR
 clear hR
 obtain ⟨p0, p1, a2, b3⟩ := zal w #[r.lo, r.hi, r.hl, r.hh] #[s.lo, s.hi, s.hl, s.hh] 49 49
 clear b3
 go_enter Tryz.func47, Tryz.ntmps47
 have a3 := zag p0
 go_wp2_with fail
 clear a3
 generalize (w.alloc (Obj.cells #[r.lo, r.hi, r.hl, r.hh] 49)).alloc (Obj.cells #[s.lo, s.hi, s.hl, s.hh] 49) = w1 at *
 (with_reducible refine (H1.out w1).mono ?_)
 rintro b4 w2 ⟨rfl, a0⟩
 replace p0 := p0.later a0
 replace p1 := p1.later a0
 replace a2 := bup a2 a0
 clear a0 H1
 have a7 := zag p1
 go_wp2_with fail
 clear a7
 (with_reducible refine (H2.out w2).mono ?_)
 rintro b5 w3 ⟨rfl, a1⟩
 replace p0 := p0.later a1
 replace p1 := p1.later a1
 replace a2 := bup a2 a1
 clear a1 H2 p0 p1
 cases t1 : decide (b < a) with
 | true =>
  have HE : Hid (R = false) := hid (by rw [HR.out, t1]; rfl)
  go_wp2; go_ret; exact ⟨by rw [HE.out]; rfl, a2⟩
 | false =>
  cases t2 : decide (d < c) with
  | true =>
   have HE : Hid (R = false) := hid (by rw [HR.out, t1, t2]; rfl)
   go_wp2; go_ret; exact ⟨by rw [HE.out]; rfl, a2⟩
  | false =>
   have HE : Hid (R = (!(decide (c ≤ 0) && decide (0 ≤ d)) && !((a == -9223372036854775808) && (decide (c ≤ -1) && decide (-1 ≤ d))))) := hid (by rw [HR.out, t1, t2]; rfl)
   cases q1 : decide (c ≤ 0) <;> cases q2 : decide (0 ≤ d) <;> cases q3 : (a == -9223372036854775808) <;> cases q4 : decide (c ≤ -1) <;> cases q5 : decide (-1 ≤ d)
   all_goals
    have b6 : Hid (R = _) := hid (HE.out.trans (by rw [q1, q2, q3, q4, q5]))
    have u1 : decide (0 < c) = !decide (c ≤ 0) := by rw [← decide_not]; exact decide_eq_decide.2 Int.not_le.symm
    have u2 : decide (d < 0) = !decide (0 ≤ d) := by rw [← decide_not]; exact decide_eq_decide.2 Int.not_le.symm
    rw [q1] at u1
    rw [q2] at u2
    clear HE HR q1 q2
    simp only [Bool.not_true, Bool.not_false] at u1 u2
    go_wp2; go_ret; exact ⟨by rw [b6.out]; rfl, a2⟩
theorem zkz (kd : Int) (h3 : kd ≠ 3) (h4 : kd ≠ 4) (h5 : kd ≠ 5) (h6 : kd ≠ 6) (h7 : kd ≠ 7) (h8 : kd ≠ 8) (r s : Rg) (_ir : I64 (loR r) ∧ I64 (hiR r)) (_is_ : I64 (loR s) ∧ I64 (hiR s)) (w : World) :
  Calls Tryz.prog 47 #[kd, r.val, s.val] w fun e w' => e = .returned (.bool (!(decide (hiR r < loR r) || decide (hiR s < loR s)) && false)) ∧ Below w.heap.size w w' := by
 have t3' : (kd == 3) = false := by simp [h3]
 have t4' : (kd == 4) = false := by simp [h4]
 have t5' : (kd == 5) = false := by simp [h5]
 have t6' : (kd == 6) = false := by simp [h6]
 have t7' : (kd == 7) = false := by simp [h7]
 have t8' : (kd == 8) = false := by simp [h8]
 clear h3 h4 h5 h6 h7 h8
 have H1 := hid (fun W => za5 r W)
 have H2 := hid (fun W => za5 s W)
 rw [Rg.val_eq] at H1 H2
 rw [Rg.val_eq, Rg.val_eq]
 generalize loR r = a at *
 generalize hiR r = b at *
 generalize loR s = c at *
 generalize hiR s = d at *
 obtain ⟨R, hR⟩ : ∃ R, R = (!(decide (b < a) || decide (d < c)) && false) := ⟨_, rfl⟩
 rw [← hR]
 have HR := hid hR
 clear hR
 obtain ⟨p0, p1, a2, b3⟩ := zal w #[r.lo, r.hi, r.hl, r.hh] #[s.lo, s.hi, s.hl, s.hh] 49 49
 clear b3
 go_enter Tryz.func47, Tryz.ntmps47
 have a3 := zag p0
 go_wp2_with fail
 clear a3
 generalize (w.alloc (Obj.cells #[r.lo, r.hi, r.hl, r.hh] 49)).alloc (Obj.cells #[s.lo, s.hi, s.hl, s.hh] 49) = w1 at *
 (with_reducible refine (H1.out w1).mono ?_)
 rintro b4 w2 ⟨rfl, a0⟩
 replace p0 := p0.later a0
 replace p1 := p1.later a0
 replace a2 := bup a2 a0
 clear a0 H1
 have a7 := zag p1
 go_wp2_with fail
 clear a7
 (with_reducible refine (H2.out w2).mono ?_)
 rintro b5 w3 ⟨rfl, a1⟩
 replace p0 := p0.later a1
 replace p1 := p1.later a1
 replace a2 := bup a2 a1
 clear a1 H2 p0 p1
 cases t1 : decide (b < a) with
 | true =>
  have HE : Hid (R = false) := hid (by rw [HR.out, t1]; rfl)
  go_wp2; go_ret; exact ⟨by rw [HE.out]; rfl, a2⟩
 | false =>
  cases t2 : decide (d < c) with
  | true =>
   have HE : Hid (R = false) := hid (by rw [HR.out, t1, t2]; rfl)
   go_wp2; go_ret; exact ⟨by rw [HE.out]; rfl, a2⟩
  | false =>
   have HE : Hid (R = false) := hid (by rw [HR.out, t1, t2]; rfl)
   go_wp2; go_ret; exact ⟨by rw [HE.out]; rfl, a2⟩
end
section
def fitsK (kd : Int) (r s : Rg) : Bool := !(decide (hiR r < loR r) || decide (hiR s < loR s)) &&
 (if kd = 3 then decide (-9223372036854775808 < loR r) else if kd = 4 then (decide ((addW (loR r) (loR s)).2 = 0) && decide ((addW (hiR r) (hiR s)).2 = 0)) else if kd = 5 then (decide ((subW (loR r) (hiR s)).2 = 0) && decide ((subW (hiR r) (loR s)).2 = 0)) else if kd = 6 then (((decide ((mulW (loR r) (loR s)).2 = 0) && decide ((mulW (loR r) (hiR s)).2 = 0)) && decide ((mulW (hiR r) (loR s)).2 = 0)) && decide ((mulW (hiR r) (hiR s)).2 = 0)) else if kd = 7 ∨ kd = 8 then (!(decide (loR s ≤ 0) && decide (0 ≤ hiR s)) && !((loR r == -9223372036854775808) && (decide (loR s ≤ -1) && decide (-1 ≤ hiR s)))) else false)
theorem zbN (kd : Int) (r s : Rg) (ir : I64 (loR r) ∧ I64 (hiR r)) (is_ : I64 (loR s) ∧ I64 (hiR s)) (w : World) :
  Calls Tryz.prog 46 #[kd, r.val, s.val] w fun e w' => e = .returned (.bool (fitsK kd r s)) ∧ Below w.heap.size w w' := by
 unfold fitsK
 by_cases h3 : kd = 3
 ·subst h3; rw [if_pos rfl]; exact zgy r s ir is_ w
 rw [if_neg h3]
 by_cases h4 : kd = 4
 ·subst h4; rw [if_pos rfl]; exact zej r s ir is_ w
 rw [if_neg h4]
 by_cases h5 : kd = 5
 ·subst h5; rw [if_pos rfl]; exact zd8 r s ir is_ w
 rw [if_neg h5]
 by_cases h6 : kd = 6
 ·subst h6; rw [if_pos rfl]; exact zgv r s ir is_ w
 rw [if_neg h6]
 by_cases h7 : kd = 7
 ·subst h7; rw [if_pos (.inl rfl)]; exact zei r s ir is_ w
 by_cases h8 : kd = 8
 ·subst h8; rw [if_pos (.inr rfl)]; exact zgA r s ir is_ w
 rw [if_neg (by omega)]
 exact zgz kd h3 h4 h5 h6 h7 h8 r s ir is_ w
theorem zbV (kd : Int) (r s : Rg) (ir : I64 (loR r) ∧ I64 (hiR r)) (is_ : I64 (loR s) ∧ I64 (hiR s)) (w : World) :
  Calls Tryz.prog 47 #[kd, r.val, s.val] w fun e w' => e = .returned (.bool (fitsK kd r s)) ∧ Below w.heap.size w w' := by
 unfold fitsK
 by_cases h3 : kd = 3
 ·subst h3; rw [if_pos rfl]; exact zk2 r s ir is_ w
 rw [if_neg h3]
 by_cases h4 : kd = 4
 ·subst h4; rw [if_pos rfl]; exact zkZ r s ir is_ w
 rw [if_neg h4]
 by_cases h5 : kd = 5
 ·subst h5; rw [if_pos rfl]; exact zkX r s ir is_ w
 rw [if_neg h5]
 by_cases h6 : kd = 6
 ·subst h6; rw [if_pos rfl]; exact zkK r s ir is_ w
 rw [if_neg h6]
 by_cases h7 : kd = 7
 ·subst h7; rw [if_pos (.inl rfl)]; exact zkx r s ir is_ w
 by_cases h8 : kd = 8
 ·subst h8; rw [if_pos (.inr rfl)]; exact zkP r s ir is_ w
 rw [if_neg (by omega)]
 exact zkz kd h3 h4 h5 h6 h7 h8 r s ir is_ w
end
section
attribute [local go_sem ↓] Go.wp_at_zero Go.wp_at_succ
theorem zfG (n : Int) (e : Bool) (L : Nat) (av an : Int) (A : Option Addr) (cap : Nat) (w : World) (hv : av < 0) :
  Calls Tryz.prog 90 #[.agg #[n, e, .slice A L cap], .agg #[av, an]] w (zam (.agg #[an, an, true, true]) w) := by
 have H1 := hid (fun W => zcZ an W)
 have H2 := hid (fun W => zbb an an W)
 have t1 : decide (0 ≤ av) = false := by rw [decide_eq_false_iff_not]; omega
 clear hv
 obtain ⟨p0, p1, p2, a0, a2⟩ := zaj w #[n, e, .slice A L cap] #[av, an] #[.int .i64 0, .int .i64 0, false, false] 125 26 49
 clear a2 p0
 go_enter Tryz.func90, Tryz.ntmps90
 obtain ⟨x0, x1, fx⟩ := zai p1
 go_upto_region 3 with fail
 clear x0 x1 fx
 generalize ((w.alloc (Obj.cells #[n, e, .slice A L cap] 125)).alloc (Obj.cells #[av, an] 26)).alloc (Obj.cells #[.int .i64 0, .int .i64 0, false, false] 49) = w1 at *
 have f1 := zab (show w1.cell? ⟨w.heap.size + 1, 1, none⟩ = some (.int .i64 an) from p1.cell 1)
 refine zac 5 [Sp.val (.pointer (some ⟨w.heap.size + 1, 1, none⟩)), Sp.val (.int .i64 an), Sp.val (.agg #[an, true]), Sp.val (.pointer (some ⟨w.heap.size + 1, 1, none⟩)), Sp.val (.int .i64 an)] (by kernel_rfl) (by kernel_rfl) ?_
 (refine fe_t (fun _ _ => ?_))
 (refine fe_t (fun _ _ => ?_))
 refine zaf.callFV (by rfl) (fun W hW hf => ⟨172, #[an], by go_simp, H1.out W⟩) (fun _ _ => ?_)
 refine fe_p ?_
 (refine fe_t (fun _ _ => ?_))
 (refine fe_t (fun _ _ => ?_))
 refine zaf.tail (fun W hW hf hd => ?_)
 replace hW : Below w1.heap.size w1 W := Ext.trans (Below.refl _ _).drew hW
 replace p2 := p2.later hW
 replace a0 := bup a0 hW
 clear hW hf hd f1 p1
 go_wp2_with fail
 (with_reducible refine (H1.out _).mono ?_)
 rintro e2 w2 ⟨rfl, a3⟩
 replace p2 := p2.later a3
 replace a0 := bup a0 a3
 clear a3 H1
 go_wp2_with fail
 (with_reducible refine (H2.out _).mono ?_)
 rintro e3 w3 ⟨rfl, a1⟩
 replace p2 := p2.later a1
 replace a0 := bup a0 a1
 clear a1 H2
 obtain ⟨z0, z1, z2, z3, fz⟩ := zag p2
 go_wp2
 clear z0 z1 z2 z3 fz
 have q := (((p2.set_ 0 (.int .i64 an)).set_ 1 (.int .i64 an)).set_ 2 (.bool true)).set_ 3 (.bool true)
 obtain ⟨z0, z1, z2, z3, fz⟩ := zag (show Blk _ _ _ #[an, an, true, true] from q)
 refine bodyPost_ret (v := .agg #[an, an, true, true]) (by simp [results, Tryz.results90, go_sem, z0, z1, z2, z3]) rfl (And.intro rfl ?_)
 refine a0.trans ?_
 have := a0.size
 exact zbc
theorem zfH (n : Int) (m : List Int) (N v : Nat) (an : Int) (A : Option Addr) (cap : Nat) (w : World) (hN : (N : Int) = 2 * n) (hn : N ≤ 128) (hc : Cells N m) (hv : 2 * v + 1 < N) (hx : Rd w w.heap.size A m) (hm : m.length ≤ 17592186044416) :
  Calls Tryz.prog 90 #[.agg #[n, false, .slice A m.length cap], .agg #[(v : Int), an]] w (zam (varR N m v).val w) := by
 have HV := hid (fun W (h : Rd W W.heap.size A m) => zdL n m N v A cap W hN hn hc hv h hm)
 obtain ⟨r, hr⟩ : ∃ r, r = varR N m v := ⟨_, rfl⟩
 rw [← hr] at HV ⊢
 clear hr hN hn hc hv hm
 obtain ⟨r0, r1, r2, r3⟩ := r
 unfold Rg.val at *
 dsimp only at *
 have t1 : decide (0 ≤ (v : Int)) = true := by rw [decide_eq_true_eq]; omega
 obtain ⟨p0, p1, p2, a0, a2⟩ := zaj w #[n, false, .slice A m.length cap] #[(v : Int), an] #[.int .i64 0, .int .i64 0, false, false] 125 26 49
 replace hx := hx.up a0
 clear a2
 go_enter Tryz.func90, Tryz.ntmps90
 obtain ⟨x0, x1, fx⟩ := zai p1
 have y0 := zaa p0
 go_wp2_with fail
 clear x0 x1 fx y0 p0 p1
 generalize ((w.alloc (Obj.cells #[n, false, .slice A m.length cap] 125)).alloc (Obj.cells #[(v : Int), an] 26)).alloc (Obj.cells #[.int .i64 0, .int .i64 0, false, false] 49) = w1 at *
 (with_reducible refine (HV.out w1 hx).mono ?_)
 rintro e3 w3 ⟨rfl, a1⟩
 replace p2 := p2.later a1
 replace a0 := bup a0 a1
 clear a1 HV hx
 obtain ⟨z0, z1, z2, z3, fz⟩ := zag p2
 go_wp2
 clear z0 z1 z2 z3 fz
 have q := (((p2.set_ 0 (.int .i64 r0)).set_ 1 (.int .i64 r1)).set_ 2 (.bool r2)).set_ 3 (.bool r3)
 obtain ⟨z0, z1, z2, z3, fz⟩ := zag (show Blk _ _ _ #[r0, r1, r2, r3] from q)
 refine bodyPost_ret (v := .agg #[r0, r1, r2, r3]) (by simp [results, Tryz.results90, go_sem, z0, z1, z2, z3]) rfl (And.intro rfl ?_)
 refine a0.trans ?_
 have := a0.size
 exact zbc
theorem zaA (n : Int) (m : List Int) (N : Nat) (av an : Int) (A : Option Addr) (cap : Nat) (w : World) (hN : (N : Int) = 2 * n) (hn : N ≤ 128) (hc : Cells N m) (hv : av < n) (hx : Rd w w.heap.size A m) (hm : m.length ≤ 17592186044416) :
  Calls Tryz.prog 90 #[.agg #[n, false, .slice A m.length cap], .agg #[av, an]] w (zam (opdR N m av an).val w) := by
 unfold opdR
 by_cases h : 0 ≤ av
 ·rw [if_pos h]
  obtain ⟨v, rfl⟩ : ∃ v : Nat, av = (v : Int) := ⟨av.toNat, by omega⟩
  exact zfH n m N v an A cap w hN hn hc (by omega) hx hm
 ·rw [if_neg h]
  exact zfG n false m.length av an A cap w (by omega)
end
end Go.Proofs.YtnmpgijiimglcaaGreat
