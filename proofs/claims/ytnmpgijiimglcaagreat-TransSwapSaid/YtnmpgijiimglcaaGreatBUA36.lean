/-
  gnomonref17.Fits: what it answers.
  safe.Fits and gnomonref17.Fits: any kind.
  span.In's Operand: what it answers.
  Two blocks of four cells stored whole, one after the other.
-/
import Derived.Test.YtnmpgijiimglcaaGreatBUA29
import Derived.Test.YtnmpgijiimglcaaGreatBUA35
import Derived.Test.YtnmpgijiimglcaaGreatBUA33
import Derived.Test.YtnmpgijiimglcaaGreatBUA34
import Derived.Test.YtnmpgijiimglcaaGreatBUA16
import Derived.Test.YtnmpgijiimglcaaGreatBUA24
namespace Go.Proofs.YtnmpgijiimglcaaGreat
section
open Go.RowKit
attribute [local go_sem ↓] Go.wp_at_zero Go.wp_at_succ

set_option maxRecDepth 8000 in
set_option maxHeartbeats 4000000 in
theorem rfits_3 (r s : Rg) (_ir : I64 (loR r) ∧ I64 (hiR r)) (_is_ : I64 (loR s) ∧ I64 (hiR s)) (w : World) :
    Calls Tryz.prog 47 #[.int .i64 3, r.val, s.val] w fun e w' => e = .returned (.bool (!(decide (hiR r < loR r) || decide (hiR s < loR s)) && decide (-9223372036854775808 < loR r))) ∧ Below w.heap.size w w' := by
  have H1 := hid (fun W => rends_ok r W)
  have H2 := hid (fun W => rends_ok s W)
  rw [Rg.val_eq] at H1 H2
  rw [Rg.val_eq, Rg.val_eq]
  generalize loR r = a at *
  generalize hiR r = b at *
  generalize loR s = c at *
  generalize hiR s = d at *
  obtain ⟨R, hR⟩ : ∃ R, R = (!(decide (b < a) || decide (d < c)) && decide (-9223372036854775808 < a)) := ⟨_, rfl⟩
  rw [← hR]
  have HR := hid hR
  clear hR
  obtain ⟨p0, p1, hb0, hsz⟩ := new_two w #[.int .i64 r.lo, .int .i64 r.hi, .bool r.hl, .bool r.hh] #[.int .i64 s.lo, .int .i64 s.hi, .bool s.hl, .bool s.hh] 49 49
  clear hsz
  go_enter Tryz.func47, Tryz.ntmps47
  obtain ⟨p0_0, p0_1, p0_2, p0_3, p0_f⟩ := rgbox p0
  go_wp2_with fail
  clear p0_0 p0_1 p0_2 p0_3 p0_f
  generalize (w.alloc (Obj.cells #[.int .i64 r.lo, .int .i64 r.hi, .bool r.hl, .bool r.hh] 49)).alloc (Obj.cells #[.int .i64 s.lo, .int .i64 s.hi, .bool s.hl, .bool s.hh] 49) = w1 at *
  (with_reducible refine (H1.out w1).mono ?_)
  rintro e_w2 w2 ⟨rfl, hb_w2⟩
  replace p0 := p0.later hb_w2
  replace p1 := p1.later hb_w2
  replace hb0 := bup hb0 hb_w2
  clear hb_w2 H1
  obtain ⟨p1_0, p1_1, p1_2, p1_3, p1_f⟩ := rgbox p1
  go_wp2_with fail
  clear p1_0 p1_1 p1_2 p1_3 p1_f
  (with_reducible refine (H2.out w2).mono ?_)
  rintro e_w3 w3 ⟨rfl, hb_w3⟩
  replace p0 := p0.later hb_w3
  replace p1 := p1.later hb_w3
  replace hb0 := bup hb0 hb_w3
  clear hb_w3 H2 p0 p1
  cases t1 : decide (b < a) with
  | true =>
    have HE : Hid (R = false) := hid (by rw [HR.out, t1]; rfl)
    go_wp2; go_ret; exact ⟨by rw [HE.out]; rfl, hb0⟩
  | false =>
    cases t2 : decide (d < c) with
    | true =>
      have HE : Hid (R = false) := hid (by rw [HR.out, t1, t2]; rfl)
      go_wp2; go_ret; exact ⟨by rw [HE.out]; rfl, hb0⟩
    | false =>
      have HE : Hid (R = decide (-9223372036854775808 < a)) := hid (by rw [HR.out, t1, t2]; rfl)
      go_wp2; go_ret; exact ⟨by rw [HE.out]; rfl, hb0⟩

set_option maxRecDepth 8000 in
set_option maxHeartbeats 4000000 in
theorem rfits_4 (r s : Rg) (ir : I64 (loR r) ∧ I64 (hiR r)) (is_ : I64 (loR s) ∧ I64 (hiR s)) (w : World) :
    Calls Tryz.prog 47 #[.int .i64 4, r.val, s.val] w fun e w' => e = .returned (.bool (!(decide (hiR r < loR r) || decide (hiR s < loR s)) && (decide ((addW (loR r) (loR s)).2 = 0) && decide ((addW (hiR r) (hiR s)).2 = 0)))) ∧ Below w.heap.size w w' := by
  have H1 := hid (fun W => rends_ok r W)
  have H2 := hid (fun W => rends_ok s W)
  rw [Rg.val_eq] at H1 H2
  rw [Rg.val_eq, Rg.val_eq]
  generalize loR r = a at *
  generalize hiR r = b at *
  generalize loR s = c at *
  generalize hiR s = d at *
  have T1 := hid (fun W => (show Calls Tryz.prog 106 #[.int .i64 6, .int .i64 a, .int .i64 c] W (BoolRes (decide ((addW a c).2 = 0)) W) from r17well_any 6 a c W ir.1 is_.1))
  have T2 := hid (fun W => (show Calls Tryz.prog 106 #[.int .i64 6, .int .i64 b, .int .i64 d] W (BoolRes (decide ((addW b d).2 = 0)) W) from r17well_any 6 b d W ir.2 is_.2))
  generalize decide ((addW a c).2 = 0) = z1 at *
  generalize decide ((addW b d).2 = 0) = z2 at *
  obtain ⟨R, hR⟩ : ∃ R, R = (!(decide (b < a) || decide (d < c)) && (z1 && z2)) := ⟨_, rfl⟩
  rw [← hR]
  have HR := hid hR
  clear hR
  obtain ⟨p0, p1, hb0, hsz⟩ := new_two w #[.int .i64 r.lo, .int .i64 r.hi, .bool r.hl, .bool r.hh] #[.int .i64 s.lo, .int .i64 s.hi, .bool s.hl, .bool s.hh] 49 49
  clear hsz
  go_enter Tryz.func47, Tryz.ntmps47
  obtain ⟨p0_0, p0_1, p0_2, p0_3, p0_f⟩ := rgbox p0
  go_wp2_with fail
  clear p0_0 p0_1 p0_2 p0_3 p0_f
  generalize (w.alloc (Obj.cells #[.int .i64 r.lo, .int .i64 r.hi, .bool r.hl, .bool r.hh] 49)).alloc (Obj.cells #[.int .i64 s.lo, .int .i64 s.hi, .bool s.hl, .bool s.hh] 49) = w1 at *
  (with_reducible refine (H1.out w1).mono ?_)
  rintro e_w2 w2 ⟨rfl, hb_w2⟩
  replace p0 := p0.later hb_w2
  replace p1 := p1.later hb_w2
  replace hb0 := bup hb0 hb_w2
  clear hb_w2 H1
  obtain ⟨p1_0, p1_1, p1_2, p1_3, p1_f⟩ := rgbox p1
  go_wp2_with fail
  clear p1_0 p1_1 p1_2 p1_3 p1_f
  (with_reducible refine (H2.out w2).mono ?_)
  rintro e_w3 w3 ⟨rfl, hb_w3⟩
  replace p0 := p0.later hb_w3
  replace p1 := p1.later hb_w3
  replace hb0 := bup hb0 hb_w3
  clear hb_w3 H2 p0 p1
  cases t1 : decide (b < a) with
  | true =>
    have HE : Hid (R = false) := hid (by rw [HR.out, t1]; rfl)
    go_wp2; go_ret; exact ⟨by rw [HE.out]; rfl, hb0⟩
  | false =>
    cases t2 : decide (d < c) with
    | true =>
      have HE : Hid (R = false) := hid (by rw [HR.out, t1, t2]; rfl)
      go_wp2; go_ret; exact ⟨by rw [HE.out]; rfl, hb0⟩
    | false =>
      have HE : Hid (R = (z1 && z2)) := hid (by rw [HR.out, t1, t2]; rfl)
      go_wp2_with fail
      (with_reducible refine (T1.out _).mono ?_)
      rintro e1 u1 ⟨rfl, rfl⟩
      clear T1
      cases z1 with
      | false => go_wp2; go_ret; exact ⟨by rw [HE.out]; rfl, hb0⟩
      | true =>
        go_wp2_with fail
        (with_reducible refine (T2.out _).mono ?_)
        rintro e2 u2 ⟨rfl, rfl⟩
        clear T2
        go_wp2; go_ret; exact ⟨by rw [HE.out]; first | rfl | (cases z2 <;> rfl), hb0⟩

set_option maxRecDepth 8000 in
set_option maxHeartbeats 4000000 in
theorem rfits_5 (r s : Rg) (ir : I64 (loR r) ∧ I64 (hiR r)) (is_ : I64 (loR s) ∧ I64 (hiR s)) (w : World) :
    Calls Tryz.prog 47 #[.int .i64 5, r.val, s.val] w fun e w' => e = .returned (.bool (!(decide (hiR r < loR r) || decide (hiR s < loR s)) && (decide ((subW (loR r) (hiR s)).2 = 0) && decide ((subW (hiR r) (loR s)).2 = 0)))) ∧ Below w.heap.size w w' := by
  have H1 := hid (fun W => rends_ok r W)
  have H2 := hid (fun W => rends_ok s W)
  rw [Rg.val_eq] at H1 H2
  rw [Rg.val_eq, Rg.val_eq]
  generalize loR r = a at *
  generalize hiR r = b at *
  generalize loR s = c at *
  generalize hiR s = d at *
  have T1 := hid (fun W => (show Calls Tryz.prog 106 #[.int .i64 7, .int .i64 a, .int .i64 d] W (BoolRes (decide ((subW a d).2 = 0)) W) from r17well_any 7 a d W ir.1 is_.2))
  have T2 := hid (fun W => (show Calls Tryz.prog 106 #[.int .i64 7, .int .i64 b, .int .i64 c] W (BoolRes (decide ((subW b c).2 = 0)) W) from r17well_any 7 b c W ir.2 is_.1))
  generalize decide ((subW a d).2 = 0) = z1 at *
  generalize decide ((subW b c).2 = 0) = z2 at *
  obtain ⟨R, hR⟩ : ∃ R, R = (!(decide (b < a) || decide (d < c)) && (z1 && z2)) := ⟨_, rfl⟩
  rw [← hR]
  have HR := hid hR
  clear hR
  obtain ⟨p0, p1, hb0, hsz⟩ := new_two w #[.int .i64 r.lo, .int .i64 r.hi, .bool r.hl, .bool r.hh] #[.int .i64 s.lo, .int .i64 s.hi, .bool s.hl, .bool s.hh] 49 49
  clear hsz
  go_enter Tryz.func47, Tryz.ntmps47
  obtain ⟨p0_0, p0_1, p0_2, p0_3, p0_f⟩ := rgbox p0
  go_wp2_with fail
  clear p0_0 p0_1 p0_2 p0_3 p0_f
  generalize (w.alloc (Obj.cells #[.int .i64 r.lo, .int .i64 r.hi, .bool r.hl, .bool r.hh] 49)).alloc (Obj.cells #[.int .i64 s.lo, .int .i64 s.hi, .bool s.hl, .bool s.hh] 49) = w1 at *
  (with_reducible refine (H1.out w1).mono ?_)
  rintro e_w2 w2 ⟨rfl, hb_w2⟩
  replace p0 := p0.later hb_w2
  replace p1 := p1.later hb_w2
  replace hb0 := bup hb0 hb_w2
  clear hb_w2 H1
  obtain ⟨p1_0, p1_1, p1_2, p1_3, p1_f⟩ := rgbox p1
  go_wp2_with fail
  clear p1_0 p1_1 p1_2 p1_3 p1_f
  (with_reducible refine (H2.out w2).mono ?_)
  rintro e_w3 w3 ⟨rfl, hb_w3⟩
  replace p0 := p0.later hb_w3
  replace p1 := p1.later hb_w3
  replace hb0 := bup hb0 hb_w3
  clear hb_w3 H2 p0 p1
  cases t1 : decide (b < a) with
  | true =>
    have HE : Hid (R = false) := hid (by rw [HR.out, t1]; rfl)
    go_wp2; go_ret; exact ⟨by rw [HE.out]; rfl, hb0⟩
  | false =>
    cases t2 : decide (d < c) with
    | true =>
      have HE : Hid (R = false) := hid (by rw [HR.out, t1, t2]; rfl)
      go_wp2; go_ret; exact ⟨by rw [HE.out]; rfl, hb0⟩
    | false =>
      have HE : Hid (R = (z1 && z2)) := hid (by rw [HR.out, t1, t2]; rfl)
      go_wp2_with fail
      (with_reducible refine (T1.out _).mono ?_)
      rintro e1 u1 ⟨rfl, rfl⟩
      clear T1
      cases z1 with
      | false => go_wp2; go_ret; exact ⟨by rw [HE.out]; rfl, hb0⟩
      | true =>
        go_wp2_with fail
        (with_reducible refine (T2.out _).mono ?_)
        rintro e2 u2 ⟨rfl, rfl⟩
        clear T2
        go_wp2; go_ret; exact ⟨by rw [HE.out]; first | rfl | (cases z2 <;> rfl), hb0⟩

set_option maxRecDepth 8000 in
set_option maxHeartbeats 4000000 in
theorem rfits_6 (r s : Rg) (ir : I64 (loR r) ∧ I64 (hiR r)) (is_ : I64 (loR s) ∧ I64 (hiR s)) (w : World) :
    Calls Tryz.prog 47 #[.int .i64 6, r.val, s.val] w fun e w' => e = .returned (.bool (!(decide (hiR r < loR r) || decide (hiR s < loR s)) && (((decide ((mulW (loR r) (loR s)).2 = 0) && decide ((mulW (loR r) (hiR s)).2 = 0)) && decide ((mulW (hiR r) (loR s)).2 = 0)) && decide ((mulW (hiR r) (hiR s)).2 = 0)))) ∧ Below w.heap.size w w' := by
  have H1 := hid (fun W => rends_ok r W)
  have H2 := hid (fun W => rends_ok s W)
  rw [Rg.val_eq] at H1 H2
  rw [Rg.val_eq, Rg.val_eq]
  generalize loR r = a at *
  generalize hiR r = b at *
  generalize loR s = c at *
  generalize hiR s = d at *
  have T1 := hid (fun W => (show Calls Tryz.prog 106 #[.int .i64 8, .int .i64 a, .int .i64 c] W (BoolRes (decide ((mulW a c).2 = 0)) W) from r17well_any 8 a c W ir.1 is_.1))
  have T2 := hid (fun W => (show Calls Tryz.prog 106 #[.int .i64 8, .int .i64 a, .int .i64 d] W (BoolRes (decide ((mulW a d).2 = 0)) W) from r17well_any 8 a d W ir.1 is_.2))
  have T3 := hid (fun W => (show Calls Tryz.prog 106 #[.int .i64 8, .int .i64 b, .int .i64 c] W (BoolRes (decide ((mulW b c).2 = 0)) W) from r17well_any 8 b c W ir.2 is_.1))
  have T4 := hid (fun W => (show Calls Tryz.prog 106 #[.int .i64 8, .int .i64 b, .int .i64 d] W (BoolRes (decide ((mulW b d).2 = 0)) W) from r17well_any 8 b d W ir.2 is_.2))
  generalize decide ((mulW a c).2 = 0) = z1 at *
  generalize decide ((mulW a d).2 = 0) = z2 at *
  generalize decide ((mulW b c).2 = 0) = z3 at *
  generalize decide ((mulW b d).2 = 0) = z4 at *
  obtain ⟨R, hR⟩ : ∃ R, R = (!(decide (b < a) || decide (d < c)) && (((z1 && z2) && z3) && z4)) := ⟨_, rfl⟩
  rw [← hR]
  have HR := hid hR
  clear hR
  obtain ⟨p0, p1, hb0, hsz⟩ := new_two w #[.int .i64 r.lo, .int .i64 r.hi, .bool r.hl, .bool r.hh] #[.int .i64 s.lo, .int .i64 s.hi, .bool s.hl, .bool s.hh] 49 49
  clear hsz
  go_enter Tryz.func47, Tryz.ntmps47
  obtain ⟨p0_0, p0_1, p0_2, p0_3, p0_f⟩ := rgbox p0
  go_wp2_with fail
  clear p0_0 p0_1 p0_2 p0_3 p0_f
  generalize (w.alloc (Obj.cells #[.int .i64 r.lo, .int .i64 r.hi, .bool r.hl, .bool r.hh] 49)).alloc (Obj.cells #[.int .i64 s.lo, .int .i64 s.hi, .bool s.hl, .bool s.hh] 49) = w1 at *
  (with_reducible refine (H1.out w1).mono ?_)
  rintro e_w2 w2 ⟨rfl, hb_w2⟩
  replace p0 := p0.later hb_w2
  replace p1 := p1.later hb_w2
  replace hb0 := bup hb0 hb_w2
  clear hb_w2 H1
  obtain ⟨p1_0, p1_1, p1_2, p1_3, p1_f⟩ := rgbox p1
  go_wp2_with fail
  clear p1_0 p1_1 p1_2 p1_3 p1_f
  (with_reducible refine (H2.out w2).mono ?_)
  rintro e_w3 w3 ⟨rfl, hb_w3⟩
  replace p0 := p0.later hb_w3
  replace p1 := p1.later hb_w3
  replace hb0 := bup hb0 hb_w3
  clear hb_w3 H2 p0 p1
  cases t1 : decide (b < a) with
  | true =>
    have HE : Hid (R = false) := hid (by rw [HR.out, t1]; rfl)
    go_wp2; go_ret; exact ⟨by rw [HE.out]; rfl, hb0⟩
  | false =>
    cases t2 : decide (d < c) with
    | true =>
      have HE : Hid (R = false) := hid (by rw [HR.out, t1, t2]; rfl)
      go_wp2; go_ret; exact ⟨by rw [HE.out]; rfl, hb0⟩
    | false =>
      have HE : Hid (R = (((z1 && z2) && z3) && z4)) := hid (by rw [HR.out, t1, t2]; rfl)
      go_wp2_with fail
      (with_reducible refine (T1.out _).mono ?_)
      rintro e1 u1 ⟨rfl, rfl⟩
      clear T1
      cases z1 with
      | false => go_wp2; go_ret; exact ⟨by rw [HE.out]; rfl, hb0⟩
      | true =>
        go_wp2_with fail
        (with_reducible refine (T2.out _).mono ?_)
        rintro e2 u2 ⟨rfl, rfl⟩
        clear T2
        cases z2 with
        | false => go_wp2; go_ret; exact ⟨by rw [HE.out]; rfl, hb0⟩
        | true =>
          go_wp2_with fail
          (with_reducible refine (T3.out _).mono ?_)
          rintro e3 u3 ⟨rfl, rfl⟩
          clear T3
          cases z3 with
          | false => go_wp2; go_ret; exact ⟨by rw [HE.out]; rfl, hb0⟩
          | true =>
            go_wp2_with fail
            (with_reducible refine (T4.out _).mono ?_)
            rintro e4 u4 ⟨rfl, rfl⟩
            clear T4
            go_wp2; go_ret; exact ⟨by rw [HE.out]; first | rfl | (cases z4 <;> rfl), hb0⟩

set_option maxRecDepth 8000 in
set_option maxHeartbeats 4000000 in
theorem rfits_7 (r s : Rg) (_ir : I64 (loR r) ∧ I64 (hiR r)) (_is_ : I64 (loR s) ∧ I64 (hiR s)) (w : World) :
    Calls Tryz.prog 47 #[.int .i64 7, r.val, s.val] w fun e w' => e = .returned (.bool (!(decide (hiR r < loR r) || decide (hiR s < loR s)) && (!(decide (loR s ≤ 0) && decide (0 ≤ hiR s)) && !((loR r == -9223372036854775808) && (decide (loR s ≤ -1) && decide (-1 ≤ hiR s)))))) ∧ Below w.heap.size w w' := by
  have H1 := hid (fun W => rends_ok r W)
  have H2 := hid (fun W => rends_ok s W)
  rw [Rg.val_eq] at H1 H2
  rw [Rg.val_eq, Rg.val_eq]
  generalize loR r = a at *
  generalize hiR r = b at *
  generalize loR s = c at *
  generalize hiR s = d at *
  obtain ⟨R, hR⟩ : ∃ R, R = (!(decide (b < a) || decide (d < c)) && (!(decide (c ≤ 0) && decide (0 ≤ d)) && !((a == -9223372036854775808) && (decide (c ≤ -1) && decide (-1 ≤ d))))) := ⟨_, rfl⟩
  rw [← hR]
  have HR := hid hR
  clear hR
  obtain ⟨p0, p1, hb0, hsz⟩ := new_two w #[.int .i64 r.lo, .int .i64 r.hi, .bool r.hl, .bool r.hh] #[.int .i64 s.lo, .int .i64 s.hi, .bool s.hl, .bool s.hh] 49 49
  clear hsz
  go_enter Tryz.func47, Tryz.ntmps47
  obtain ⟨p0_0, p0_1, p0_2, p0_3, p0_f⟩ := rgbox p0
  go_wp2_with fail
  clear p0_0 p0_1 p0_2 p0_3 p0_f
  generalize (w.alloc (Obj.cells #[.int .i64 r.lo, .int .i64 r.hi, .bool r.hl, .bool r.hh] 49)).alloc (Obj.cells #[.int .i64 s.lo, .int .i64 s.hi, .bool s.hl, .bool s.hh] 49) = w1 at *
  (with_reducible refine (H1.out w1).mono ?_)
  rintro e_w2 w2 ⟨rfl, hb_w2⟩
  replace p0 := p0.later hb_w2
  replace p1 := p1.later hb_w2
  replace hb0 := bup hb0 hb_w2
  clear hb_w2 H1
  obtain ⟨p1_0, p1_1, p1_2, p1_3, p1_f⟩ := rgbox p1
  go_wp2_with fail
  clear p1_0 p1_1 p1_2 p1_3 p1_f
  (with_reducible refine (H2.out w2).mono ?_)
  rintro e_w3 w3 ⟨rfl, hb_w3⟩
  replace p0 := p0.later hb_w3
  replace p1 := p1.later hb_w3
  replace hb0 := bup hb0 hb_w3
  clear hb_w3 H2 p0 p1
  cases t1 : decide (b < a) with
  | true =>
    have HE : Hid (R = false) := hid (by rw [HR.out, t1]; rfl)
    go_wp2; go_ret; exact ⟨by rw [HE.out]; rfl, hb0⟩
  | false =>
    cases t2 : decide (d < c) with
    | true =>
      have HE : Hid (R = false) := hid (by rw [HR.out, t1, t2]; rfl)
      go_wp2; go_ret; exact ⟨by rw [HE.out]; rfl, hb0⟩
    | false =>
      have HE : Hid (R = (!(decide (c ≤ 0) && decide (0 ≤ d)) && !((a == -9223372036854775808) && (decide (c ≤ -1) && decide (-1 ≤ d))))) := hid (by rw [HR.out, t1, t2]; rfl)
      cases q1 : decide (c ≤ 0) <;> cases q2 : decide (0 ≤ d) <;> cases q3 : (a == -9223372036854775808) <;> cases q4 : decide (c ≤ -1) <;> cases q5 : decide (-1 ≤ d)
      all_goals
        have HE2 : Hid (R = _) := hid (HE.out.trans (by rw [q1, q2, q3, q4, q5]))
        have u1 : decide (0 < c) = !decide (c ≤ 0) := by rw [← decide_not]; exact decide_eq_decide.2 Int.not_le.symm
        have u2 : decide (d < 0) = !decide (0 ≤ d) := by rw [← decide_not]; exact decide_eq_decide.2 Int.not_le.symm
        rw [q1] at u1
        rw [q2] at u2
        clear HE HR q1 q2
        simp only [Bool.not_true, Bool.not_false] at u1 u2
        go_wp2; go_ret; exact ⟨by rw [HE2.out]; rfl, hb0⟩

set_option maxRecDepth 8000 in
set_option maxHeartbeats 4000000 in
theorem rfits_8 (r s : Rg) (_ir : I64 (loR r) ∧ I64 (hiR r)) (_is_ : I64 (loR s) ∧ I64 (hiR s)) (w : World) :
    Calls Tryz.prog 47 #[.int .i64 8, r.val, s.val] w fun e w' => e = .returned (.bool (!(decide (hiR r < loR r) || decide (hiR s < loR s)) && (!(decide (loR s ≤ 0) && decide (0 ≤ hiR s)) && !((loR r == -9223372036854775808) && (decide (loR s ≤ -1) && decide (-1 ≤ hiR s)))))) ∧ Below w.heap.size w w' := by
  have H1 := hid (fun W => rends_ok r W)
  have H2 := hid (fun W => rends_ok s W)
  rw [Rg.val_eq] at H1 H2
  rw [Rg.val_eq, Rg.val_eq]
  generalize loR r = a at *
  generalize hiR r = b at *
  generalize loR s = c at *
  generalize hiR s = d at *
  obtain ⟨R, hR⟩ : ∃ R, R = (!(decide (b < a) || decide (d < c)) && (!(decide (c ≤ 0) && decide (0 ≤ d)) && !((a == -9223372036854775808) && (decide (c ≤ -1) && decide (-1 ≤ d))))) := ⟨_, rfl⟩
  rw [← hR]
  have HR := hid hR
  clear hR
  obtain ⟨p0, p1, hb0, hsz⟩ := new_two w #[.int .i64 r.lo, .int .i64 r.hi, .bool r.hl, .bool r.hh] #[.int .i64 s.lo, .int .i64 s.hi, .bool s.hl, .bool s.hh] 49 49
  clear hsz
  go_enter Tryz.func47, Tryz.ntmps47
  obtain ⟨p0_0, p0_1, p0_2, p0_3, p0_f⟩ := rgbox p0
  go_wp2_with fail
  clear p0_0 p0_1 p0_2 p0_3 p0_f
  generalize (w.alloc (Obj.cells #[.int .i64 r.lo, .int .i64 r.hi, .bool r.hl, .bool r.hh] 49)).alloc (Obj.cells #[.int .i64 s.lo, .int .i64 s.hi, .bool s.hl, .bool s.hh] 49) = w1 at *
  (with_reducible refine (H1.out w1).mono ?_)
  rintro e_w2 w2 ⟨rfl, hb_w2⟩
  replace p0 := p0.later hb_w2
  replace p1 := p1.later hb_w2
  replace hb0 := bup hb0 hb_w2
  clear hb_w2 H1
  obtain ⟨p1_0, p1_1, p1_2, p1_3, p1_f⟩ := rgbox p1
  go_wp2_with fail
  clear p1_0 p1_1 p1_2 p1_3 p1_f
  (with_reducible refine (H2.out w2).mono ?_)
  rintro e_w3 w3 ⟨rfl, hb_w3⟩
  replace p0 := p0.later hb_w3
  replace p1 := p1.later hb_w3
  replace hb0 := bup hb0 hb_w3
  clear hb_w3 H2 p0 p1
  cases t1 : decide (b < a) with
  | true =>
    have HE : Hid (R = false) := hid (by rw [HR.out, t1]; rfl)
    go_wp2; go_ret; exact ⟨by rw [HE.out]; rfl, hb0⟩
  | false =>
    cases t2 : decide (d < c) with
    | true =>
      have HE : Hid (R = false) := hid (by rw [HR.out, t1, t2]; rfl)
      go_wp2; go_ret; exact ⟨by rw [HE.out]; rfl, hb0⟩
    | false =>
      have HE : Hid (R = (!(decide (c ≤ 0) && decide (0 ≤ d)) && !((a == -9223372036854775808) && (decide (c ≤ -1) && decide (-1 ≤ d))))) := hid (by rw [HR.out, t1, t2]; rfl)
      cases q1 : decide (c ≤ 0) <;> cases q2 : decide (0 ≤ d) <;> cases q3 : (a == -9223372036854775808) <;> cases q4 : decide (c ≤ -1) <;> cases q5 : decide (-1 ≤ d)
      all_goals
        have HE2 : Hid (R = _) := hid (HE.out.trans (by rw [q1, q2, q3, q4, q5]))
        have u1 : decide (0 < c) = !decide (c ≤ 0) := by rw [← decide_not]; exact decide_eq_decide.2 Int.not_le.symm
        have u2 : decide (d < 0) = !decide (0 ≤ d) := by rw [← decide_not]; exact decide_eq_decide.2 Int.not_le.symm
        rw [q1] at u1
        rw [q2] at u2
        clear HE HR q1 q2
        simp only [Bool.not_true, Bool.not_false] at u1 u2
        go_wp2; go_ret; exact ⟨by rw [HE2.out]; rfl, hb0⟩

set_option maxRecDepth 8000 in
set_option maxHeartbeats 4000000 in
theorem rfits_o (kd : Int) (h3 : kd ≠ 3) (h4 : kd ≠ 4) (h5 : kd ≠ 5) (h6 : kd ≠ 6) (h7 : kd ≠ 7) (h8 : kd ≠ 8) (r s : Rg) (_ir : I64 (loR r) ∧ I64 (hiR r)) (_is_ : I64 (loR s) ∧ I64 (hiR s)) (w : World) :
    Calls Tryz.prog 47 #[.int .i64 kd, r.val, s.val] w fun e w' => e = .returned (.bool (!(decide (hiR r < loR r) || decide (hiR s < loR s)) && false)) ∧ Below w.heap.size w w' := by
  have t3' : (kd == 3) = false := by simp [h3]
  have t4' : (kd == 4) = false := by simp [h4]
  have t5' : (kd == 5) = false := by simp [h5]
  have t6' : (kd == 6) = false := by simp [h6]
  have t7' : (kd == 7) = false := by simp [h7]
  have t8' : (kd == 8) = false := by simp [h8]
  clear h3 h4 h5 h6 h7 h8
  have H1 := hid (fun W => rends_ok r W)
  have H2 := hid (fun W => rends_ok s W)
  rw [Rg.val_eq] at H1 H2
  rw [Rg.val_eq, Rg.val_eq]
  generalize loR r = a at *
  generalize hiR r = b at *
  generalize loR s = c at *
  generalize hiR s = d at *
  obtain ⟨R, hR⟩ : ∃ R, R = (!(decide (b < a) || decide (d < c)) && false) := ⟨_, rfl⟩
  rw [← hR]
  have HR := hid hR
  clear hR
  obtain ⟨p0, p1, hb0, hsz⟩ := new_two w #[.int .i64 r.lo, .int .i64 r.hi, .bool r.hl, .bool r.hh] #[.int .i64 s.lo, .int .i64 s.hi, .bool s.hl, .bool s.hh] 49 49
  clear hsz
  go_enter Tryz.func47, Tryz.ntmps47
  obtain ⟨p0_0, p0_1, p0_2, p0_3, p0_f⟩ := rgbox p0
  go_wp2_with fail
  clear p0_0 p0_1 p0_2 p0_3 p0_f
  generalize (w.alloc (Obj.cells #[.int .i64 r.lo, .int .i64 r.hi, .bool r.hl, .bool r.hh] 49)).alloc (Obj.cells #[.int .i64 s.lo, .int .i64 s.hi, .bool s.hl, .bool s.hh] 49) = w1 at *
  (with_reducible refine (H1.out w1).mono ?_)
  rintro e_w2 w2 ⟨rfl, hb_w2⟩
  replace p0 := p0.later hb_w2
  replace p1 := p1.later hb_w2
  replace hb0 := bup hb0 hb_w2
  clear hb_w2 H1
  obtain ⟨p1_0, p1_1, p1_2, p1_3, p1_f⟩ := rgbox p1
  go_wp2_with fail
  clear p1_0 p1_1 p1_2 p1_3 p1_f
  (with_reducible refine (H2.out w2).mono ?_)
  rintro e_w3 w3 ⟨rfl, hb_w3⟩
  replace p0 := p0.later hb_w3
  replace p1 := p1.later hb_w3
  replace hb0 := bup hb0 hb_w3
  clear hb_w3 H2 p0 p1
  cases t1 : decide (b < a) with
  | true =>
    have HE : Hid (R = false) := hid (by rw [HR.out, t1]; rfl)
    go_wp2; go_ret; exact ⟨by rw [HE.out]; rfl, hb0⟩
  | false =>
    cases t2 : decide (d < c) with
    | true =>
      have HE : Hid (R = false) := hid (by rw [HR.out, t1, t2]; rfl)
      go_wp2; go_ret; exact ⟨by rw [HE.out]; rfl, hb0⟩
    | false =>
      have HE : Hid (R = false) := hid (by rw [HR.out, t1, t2]; rfl)
      go_wp2; go_ret; exact ⟨by rw [HE.out]; rfl, hb0⟩
end
section
open Go.RowKit

/-- Do numbers of two ranges fit? -/
def fitsK (kd : Int) (r s : Rg) : Bool := !(decide (hiR r < loR r) || decide (hiR s < loR s)) &&
  (if kd = 3 then decide (-9223372036854775808 < loR r) else if kd = 4 then (decide ((addW (loR r) (loR s)).2 = 0) && decide ((addW (hiR r) (hiR s)).2 = 0)) else if kd = 5 then (decide ((subW (loR r) (hiR s)).2 = 0) && decide ((subW (hiR r) (loR s)).2 = 0)) else if kd = 6 then (((decide ((mulW (loR r) (loR s)).2 = 0) && decide ((mulW (loR r) (hiR s)).2 = 0)) && decide ((mulW (hiR r) (loR s)).2 = 0)) && decide ((mulW (hiR r) (hiR s)).2 = 0)) else if kd = 7 ∨ kd = 8 then (!(decide (loR s ≤ 0) && decide (0 ≤ hiR s)) && !((loR r == -9223372036854775808) && (decide (loR s ≤ -1) && decide (-1 ≤ hiR s)))) else false)

theorem safefits_any (kd : Int) (r s : Rg) (ir : I64 (loR r) ∧ I64 (hiR r)) (is_ : I64 (loR s) ∧ I64 (hiR s)) (w : World) :
    Calls Tryz.prog 46 #[.int .i64 kd, r.val, s.val] w fun e w' => e = .returned (.bool (fitsK kd r s)) ∧ Below w.heap.size w w' := by
  unfold fitsK
  by_cases h3 : kd = 3
  · subst h3; rw [if_pos rfl]; exact safefits_3 r s ir is_ w
  rw [if_neg h3]
  by_cases h4 : kd = 4
  · subst h4; rw [if_pos rfl]; exact safefits_4 r s ir is_ w
  rw [if_neg h4]
  by_cases h5 : kd = 5
  · subst h5; rw [if_pos rfl]; exact safefits_5 r s ir is_ w
  rw [if_neg h5]
  by_cases h6 : kd = 6
  · subst h6; rw [if_pos rfl]; exact safefits_6 r s ir is_ w
  rw [if_neg h6]
  by_cases h7 : kd = 7
  · subst h7; rw [if_pos (.inl rfl)]; exact safefits_7 r s ir is_ w
  by_cases h8 : kd = 8
  · subst h8; rw [if_pos (.inr rfl)]; exact safefits_8 r s ir is_ w
  rw [if_neg (by omega)]
  exact safefits_o kd h3 h4 h5 h6 h7 h8 r s ir is_ w

theorem rfits_any (kd : Int) (r s : Rg) (ir : I64 (loR r) ∧ I64 (hiR r)) (is_ : I64 (loR s) ∧ I64 (hiR s)) (w : World) :
    Calls Tryz.prog 47 #[.int .i64 kd, r.val, s.val] w fun e w' => e = .returned (.bool (fitsK kd r s)) ∧ Below w.heap.size w w' := by
  unfold fitsK
  by_cases h3 : kd = 3
  · subst h3; rw [if_pos rfl]; exact rfits_3 r s ir is_ w
  rw [if_neg h3]
  by_cases h4 : kd = 4
  · subst h4; rw [if_pos rfl]; exact rfits_4 r s ir is_ w
  rw [if_neg h4]
  by_cases h5 : kd = 5
  · subst h5; rw [if_pos rfl]; exact rfits_5 r s ir is_ w
  rw [if_neg h5]
  by_cases h6 : kd = 6
  · subst h6; rw [if_pos rfl]; exact rfits_6 r s ir is_ w
  rw [if_neg h6]
  by_cases h7 : kd = 7
  · subst h7; rw [if_pos (.inl rfl)]; exact rfits_7 r s ir is_ w
  by_cases h8 : kd = 8
  · subst h8; rw [if_pos (.inr rfl)]; exact rfits_8 r s ir is_ w
  rw [if_neg (by omega)]
  exact rfits_o kd h3 h4 h5 h6 h7 h8 r s ir is_ w

theorem ends_i64 {r : Rg} (h : I64 r.lo ∧ I64 r.hi) : I64 (loR r) ∧ I64 (hiR r) := by
  unfold loR hiR
  obtain ⟨h1, h2⟩ := h
  unfold I64 at *
  constructor <;> split <;> omega
end
section
open Go.RowKit
attribute [local go_sem ↓] Go.wp_at_zero Go.wp_at_succ

set_option maxRecDepth 8000 in
set_option maxHeartbeats 2000000 in
theorem operand_num (n : Int) (e : Bool) (L : Nat) (av an : Int) (A : Option Addr) (cap : Nat) (w : World) (hv : av < 0) :
    Calls Tryz.prog 90 #[.agg #[.int .i64 n, .bool e, .slice A L cap], .agg #[.int .i64 av, .int .i64 an]] w (BelVal (.agg #[.int .i64 an, .int .i64 an, .bool true, .bool true]) w) := by
  have H1 := hid (fun W => endat_ok an W)
  have H2 := hid (fun W => endto_tt an an W)
  have t1 : decide (0 ≤ av) = false := by rw [decide_eq_false_iff_not]; omega
  clear hv
  obtain ⟨p0, p1, p2, hb0, hsz⟩ := new_three w #[.int .i64 n, .bool e, .slice A L cap] #[.int .i64 av, .int .i64 an] #[.int .i64 0, .int .i64 0, .bool false, .bool false] 125 26 49
  clear hsz p0
  go_enter Tryz.func90, Tryz.ntmps90
  obtain ⟨x0, x1, fx⟩ := opbox p1
  go_upto_region 3 with fail
  clear x0 x1 fx
  generalize ((w.alloc (Obj.cells #[.int .i64 n, .bool e, .slice A L cap] 125)).alloc (Obj.cells #[.int .i64 av, .int .i64 an] 26)).alloc (Obj.cells #[.int .i64 0, .int .i64 0, .bool false, .bool false] 49) = w1 at *
  have f1 := laterE (show w1.cell? ⟨w.heap.size + 1, 1, none⟩ = some (.int .i64 an) from p1.cell 1)
  refine wp_region_flowE 5 [Sp.val (.pointer (some ⟨w.heap.size + 1, 1, none⟩)), Sp.val (.int .i64 an), Sp.val (.agg #[.int .i64 an, .bool true]), Sp.val (.pointer (some ⟨w.heap.size + 1, 1, none⟩)), Sp.val (.int .i64 an)] (by kernel_rfl) (by kernel_rfl) ?_
  (refine FlowE.take (by rfl) (fun W hW R hR => ?_) (fun _ _ => ?_); (go_simp; (try go_bits); with_reducible exact hR); simp only [Act.put, List.setIfInBounds_toArray, List.set_cons_zero, List.set_cons_succ])
  (refine FlowE.take (by rfl) (fun W hW R hR => ?_) (fun _ _ => ?_); (go_simp; (try go_bits); with_reducible exact hR); simp only [Act.put, List.setIfInBounds_toArray, List.set_cons_zero, List.set_cons_succ])
  refine FlowE.callFV (by rfl) (fun W hW hf => ⟨172, #[.int .i64 an], by go_simp, H1.out W⟩) (fun _ _ => ?_)
  simp only [Act.put, List.setIfInBounds_toArray, List.set_cons_zero, List.set_cons_succ]
  (refine FlowE.take (by rfl) (fun W hW R hR => ?_) (fun _ _ => ?_); (go_simp; (try go_bits); with_reducible exact hR); simp only [Act.put, List.setIfInBounds_toArray, List.set_cons_zero, List.set_cons_succ])
  (refine FlowE.take (by rfl) (fun W hW R hR => ?_) (fun _ _ => ?_); (go_simp; (try go_bits); with_reducible exact hR); simp only [Act.put, List.setIfInBounds_toArray, List.set_cons_zero, List.set_cons_succ])
  refine FlowE.tail (fun W hW hf hd => ?_)
  replace hW : Below w1.heap.size w1 W := Ext.trans (Below.refl _ _).drew hW
  replace p2 := p2.later hW
  replace hb0 := bup hb0 hW
  clear hW hf hd f1 p1
  go_wp2_with fail
  (with_reducible refine (H1.out _).mono ?_)
  rintro e2 w2 ⟨rfl, hb2⟩
  replace p2 := p2.later hb2
  replace hb0 := bup hb0 hb2
  clear hb2 H1
  go_wp2_with fail
  (with_reducible refine (H2.out _).mono ?_)
  rintro e3 w3 ⟨rfl, hb3⟩
  replace p2 := p2.later hb3
  replace hb0 := bup hb0 hb3
  clear hb3 H2
  obtain ⟨z0, z1, z2, z3, fz⟩ := rgbox p2
  go_wp2
  clear z0 z1 z2 z3 fz
  have q := (((p2.set_ 0 (.int .i64 an)).set_ 1 (.int .i64 an)).set_ 2 (.bool true)).set_ 3 (.bool true)
  obtain ⟨z0, z1, z2, z3, fz⟩ := rgbox (show Blk _ _ _ #[.int .i64 an, .int .i64 an, .bool true, .bool true] from q)
  refine bodyPost_ret (v := .agg #[.int .i64 an, .int .i64 an, .bool true, .bool true]) (by simp [results, Tryz.results90, go_sem, z0, z1, z2, z3]) rfl (And.intro rfl ?_)
  refine hb0.trans ?_
  have := hb0.size
  repeat (first | exact Below.refl _ _ | refine Below.setCell ?_ (by simp; try omega) _ | refine Below.alloc ?_ (by simp; try omega) _)

set_option maxRecDepth 8000 in
set_option maxHeartbeats 2000000 in
theorem operand_var (n : Int) (m : List Int) (N v : Nat) (an : Int) (A : Option Addr) (cap : Nat) (w : World) (hN : (N : Int) = 2 * n) (hn : N ≤ 128) (hc : Cells N m) (hv : 2 * v + 1 < N) (hx : Rd w w.heap.size A m) (hm : m.length ≤ 17592186044416) :
    Calls Tryz.prog 90 #[.agg #[.int .i64 n, .bool false, .slice A m.length cap], .agg #[.int .i64 (v : Int), .int .i64 an]] w (BelVal (varR N m v).val w) := by
  have HV := hid (fun W (h : Rd W W.heap.size A m) => var_ok n m N v A cap W hN hn hc hv h hm)
  obtain ⟨r, hr⟩ : ∃ r, r = varR N m v := ⟨_, rfl⟩
  rw [← hr] at HV ⊢
  clear hr hN hn hc hv hm
  obtain ⟨r0, r1, r2, r3⟩ := r
  unfold Rg.val at *
  dsimp only at *
  have t1 : decide (0 ≤ (v : Int)) = true := by rw [decide_eq_true_eq]; omega
  obtain ⟨p0, p1, p2, hb0, hsz⟩ := new_three w #[.int .i64 n, .bool false, .slice A m.length cap] #[.int .i64 (v : Int), .int .i64 an] #[.int .i64 0, .int .i64 0, .bool false, .bool false] 125 26 49
  replace hx := hx.up hb0
  clear hsz
  go_enter Tryz.func90, Tryz.ntmps90
  obtain ⟨x0, x1, fx⟩ := opbox p1
  obtain ⟨y0, y1, y2, fy⟩ := octbox p0
  go_wp2_with fail
  clear x0 x1 fx y0 y1 y2 fy p0 p1
  generalize ((w.alloc (Obj.cells #[.int .i64 n, .bool false, .slice A m.length cap] 125)).alloc (Obj.cells #[.int .i64 (v : Int), .int .i64 an] 26)).alloc (Obj.cells #[.int .i64 0, .int .i64 0, .bool false, .bool false] 49) = w1 at *
  (with_reducible refine (HV.out w1 hx).mono ?_)
  rintro e3 w3 ⟨rfl, hb3⟩
  replace p2 := p2.later hb3
  replace hb0 := bup hb0 hb3
  clear hb3 HV hx
  obtain ⟨z0, z1, z2, z3, fz⟩ := rgbox p2
  go_wp2
  clear z0 z1 z2 z3 fz
  have q := (((p2.set_ 0 (.int .i64 r0)).set_ 1 (.int .i64 r1)).set_ 2 (.bool r2)).set_ 3 (.bool r3)
  obtain ⟨z0, z1, z2, z3, fz⟩ := rgbox (show Blk _ _ _ #[.int .i64 r0, .int .i64 r1, .bool r2, .bool r3] from q)
  refine bodyPost_ret (v := .agg #[.int .i64 r0, .int .i64 r1, .bool r2, .bool r3]) (by simp [results, Tryz.results90, go_sem, z0, z1, z2, z3]) rfl (And.intro rfl ?_)
  refine hb0.trans ?_
  have := hb0.size
  repeat (first | exact Below.refl _ _ | refine Below.setCell ?_ (by simp; try omega) _ | refine Below.alloc ?_ (by simp; try omega) _)

/-- What an operand is read as. -/
theorem operand_ok (n : Int) (m : List Int) (N : Nat) (av an : Int) (A : Option Addr) (cap : Nat) (w : World) (hN : (N : Int) = 2 * n) (hn : N ≤ 128) (hc : Cells N m) (hv : av < n) (hx : Rd w w.heap.size A m) (hm : m.length ≤ 17592186044416) :
    Calls Tryz.prog 90 #[.agg #[.int .i64 n, .bool false, .slice A m.length cap], .agg #[.int .i64 av, .int .i64 an]] w (BelVal (opdR N m av an).val w) := by
  unfold opdR
  by_cases h : 0 ≤ av
  · rw [if_pos h]
    obtain ⟨v, rfl⟩ : ∃ v : Nat, av = (v : Int) := ⟨av.toNat, by omega⟩
    exact operand_var n m N v an A cap w hN hn hc (by omega) hx hm
  · rw [if_neg h]
    exact operand_num n false m.length av an A cap w (by omega)
end
section
open Go.RowKit

theorem below4 {W : World} {B g : Nat} {v0 v1 v2 v3 : Value} (hg : B ≤ g) (hB : B ≤ W.heap.size) : Below B W ((((W.setCell ⟨g, 0, none⟩ v0).setCell ⟨g, 1, none⟩ v1).setCell ⟨g, 2, none⟩ v2).setCell ⟨g, 3, none⟩ v3) := by
  have a0 := below1 (W := W) (i := 0) (v := v0) hg hB
  have s0 := Nat.le_trans hB a0.size
  have a1 := below1 (W := W.setCell ⟨g, 0, none⟩ v0) (i := 1) (v := v1) hg s0
  have s1 := Nat.le_trans s0 a1.size
  have a2 := below1 (W := (W.setCell ⟨g, 0, none⟩ v0).setCell ⟨g, 1, none⟩ v1) (i := 2) (v := v2) hg s1
  have s2 := Nat.le_trans s1 a2.size
  exact ((a0.trans a1).trans a2).trans (below1 hg s2)
theorem two_sets {w W : World} {B g8 g9 : Nat} {t8 t9 : TypeId} {a0 a1 a2 a3 b0 b1 b2 b3 : Value} (k8 : Blk W g8 t8 #[a0, a1, a2, a3]) (k9 : Blk W g9 t9 #[b0, b1, b2, b3]) (hne : g8 ≠ g9) (hb : Below B w W) (hB : B ≤ w.heap.size) (h8 : B ≤ g8) (h9 : B ≤ g9) (v0 v1 v2 v3 u0 u1 u2 u3 : Value) :
    Blk ((((((((W.setCell ⟨g8, 0, none⟩ v0).setCell ⟨g8, 1, none⟩ v1).setCell ⟨g8, 2, none⟩ v2).setCell ⟨g8, 3, none⟩ v3).setCell ⟨g9, 0, none⟩ u0).setCell ⟨g9, 1, none⟩ u1).setCell ⟨g9, 2, none⟩ u2).setCell ⟨g9, 3, none⟩ u3) g8 t8 #[v0, v1, v2, v3] ∧
    Blk ((((((((W.setCell ⟨g8, 0, none⟩ v0).setCell ⟨g8, 1, none⟩ v1).setCell ⟨g8, 2, none⟩ v2).setCell ⟨g8, 3, none⟩ v3).setCell ⟨g9, 0, none⟩ u0).setCell ⟨g9, 1, none⟩ u1).setCell ⟨g9, 2, none⟩ u2).setCell ⟨g9, 3, none⟩ u3) g9 t9 #[u0, u1, u2, u3] ∧
    Below B w ((((((((W.setCell ⟨g8, 0, none⟩ v0).setCell ⟨g8, 1, none⟩ v1).setCell ⟨g8, 2, none⟩ v2).setCell ⟨g8, 3, none⟩ v3).setCell ⟨g9, 0, none⟩ u0).setCell ⟨g9, 1, none⟩ u1).setCell ⟨g9, 2, none⟩ u2).setCell ⟨g9, 3, none⟩ u3) ∧
    ∀ q t cs, Blk W q t cs → g8 ≠ q → g9 ≠ q → Blk ((((((((W.setCell ⟨g8, 0, none⟩ v0).setCell ⟨g8, 1, none⟩ v1).setCell ⟨g8, 2, none⟩ v2).setCell ⟨g8, 3, none⟩ v3).setCell ⟨g9, 0, none⟩ u0).setCell ⟨g9, 1, none⟩ u1).setCell ⟨g9, 2, none⟩ u2).setCell ⟨g9, 3, none⟩ u3) q t cs := by
  refine ⟨?_, ?_, ?_, fun q t cs h n8 n9 => ?_⟩
  · exact ((((((((k8.set_ 0 v0).set_ 1 v1).set_ 2 v2).set_ 3 v3).far (p := ⟨g9, 0, none⟩) (fun e => hne e.symm) u0).far (p := ⟨g9, 1, none⟩) (fun e => hne e.symm) u1).far (p := ⟨g9, 2, none⟩) (fun e => hne e.symm) u2).far (p := ⟨g9, 3, none⟩) (fun e => hne e.symm) u3)
  · exact ((((((((k9.far (p := ⟨g8, 0, none⟩) hne v0).far (p := ⟨g8, 1, none⟩) hne v1).far (p := ⟨g8, 2, none⟩) hne v2).far (p := ⟨g8, 3, none⟩) hne v3).set_ 0 u0).set_ 1 u1).set_ 2 u2).set_ 3 u3)
  · have s8 := below4 (W := W) (g := g8) (v0 := v0) (v1 := v1) (v2 := v2) (v3 := v3) h8 (Nat.le_trans hB hb.size)
    exact (hb.trans s8).trans (below4 h9 (Nat.le_trans (Nat.le_trans hB hb.size) s8.size))
  · exact ((((((((h.far (p := ⟨g8, 0, none⟩) n8 v0).far (p := ⟨g8, 1, none⟩) n8 v1).far (p := ⟨g8, 2, none⟩) n8 v2).far (p := ⟨g8, 3, none⟩) n8 v3).far (p := ⟨g9, 0, none⟩) n9 u0).far (p := ⟨g9, 1, none⟩) n9 u1).far (p := ⟨g9, 2, none⟩) n9 u2).far (p := ⟨g9, 3, none⟩) n9 u3)
end
end Go.Proofs.YtnmpgijiimglcaaGreat
