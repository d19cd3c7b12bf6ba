/-
  safe.fits: two pairs of ends, each added, or taken from one another.
  safe.size: how large a number is without its sign.
  math/bits.Mul64 at this program.
  The library's iterator over a map's keys at this program: the table of numbers.
  FlowIn: the law of Flow inside the wide fence, in a round of a range over a function or outside of one.
  maps.Keys of a map with one key: its iterator asks once, with that key.
-/
import Derived.Test.YtnmpgijiimglcaaGreatBUA29
import Derived.Shelf.Bits.Mul64
import Derived.Shelf.SlIterI.Stops
import Derived.Test.YtnmpgijiimglcaaGreatRows
import Derived.Test.YtnmpgijiimglcaaGreatBUA00
import Derived.OrdersIn
import Derived.TacticsIn
import Derived.RangeFuncCalls
import Derived.RangeFuncNested
import Derived.RangeFuncKeeps
namespace Go.Proofs.YtnmpgijiimglcaaGreat
section
open Go.RowKit
attribute [local go_sem ↓] Go.wp_at_zero Go.wp_at_succ
set_option maxHeartbeats 2000000 in
theorem sfits_add (a b c d : Int) (ia : I64 a) (ib : I64 b) (ic : I64 c) (id : I64 d) (g cp : Nat) (w : World) (hg : Blk w g 135 #[.int .i64 a, .int .i64 b, .int .i64 c, .int .i64 d]) :
    Calls Tryz.prog 100 #[.func (.func 101) #[] #[], .slice (some ⟨g, 0, none⟩) 2 cp] w fun e w' => e = .returned (.bool (decide ((addW a b).2 = 0) && decide ((addW c d).2 = 0))) ∧ Below w.heap.size w w' := by
  have H1 := hid (fun W => nadd_any a b W ia ib)
  have H2 := hid (fun W => nadd_any c d W ic id)
  generalize addW a b = p at *
  generalize addW c d = q at *
  obtain ⟨p1, p2⟩ := p
  obtain ⟨q1, q2⟩ := q
  unfold PairRes pairV at H1 H2
  dsimp only at *
  obtain ⟨R, hR⟩ : ∃ R, R = (decide (p2 = 0) && decide (q2 = 0)) := ⟨_, rfl⟩
  rw [← hR]
  have HR := hid hR
  clear hR
  go_enter Tryz.func100, Tryz.ntmps100
  go_wp2
  go_loopw [11] (fun t wq => Below w.heap.size w wq ∧ (t = .int .i64 0 ∨ (t = .int .i64 1 ∧ p2 = 0) ∨ (t = .int .i64 2 ∧ p2 = 0 ∧ q2 = 0))) (fun t _ => 3 - (Go.RowKit.intOf t).toNat)
  case atStart => exact ⟨Below.refl _ _, .inl rfl⟩
  case round =>
    obtain ⟨hb, rfl | ⟨rfl, h1⟩ | ⟨rfl, h1, h2⟩⟩ := hrel
    · have k := hg.later hb
      have c0 : wr.cell? ⟨g, 0, none⟩ = some (.int .i64 a) := k.cell 0
      have c1 : wr.cell? ⟨g, 1, none⟩ = some (.int .i64 b) := k.cell 1
      have hb2 := bup hb (new1 wr (Obj.cells #[.int .i64 a, .int .i64 b] 135))
      go_wp2_with fail
      clear c0 c1 k
      generalize wr.alloc (Obj.cells #[.int .i64 a, .int .i64 b] 135) = w2 at *
      (with_reducible refine (H1.out w2).mono ?_)
      rintro e3 w3 ⟨rfl, hw3⟩
      subst w3
      by_cases h : p2 = 0
      · have t1 : (p2 != 0) = false := by rw [h]; rfl
        have HH := hid h
        clear h
        go_wp2
        go_roundw
        case rel => exact ⟨hb2, .inr (.inl ⟨by go_num, HH.out⟩)⟩
        case measure => simp [Go.RowKit.intOf]
      · have t1 : (p2 != 0) = true := by rw [bne_iff_ne]; exact h
        have HE : Hid (R = false) := hid (by rw [HR.out, decide_eq_false h]; rfl)
        clear h
        go_wp2
        go_ret
        exact ⟨by rw [HE.out]; rfl, hb2⟩
    · have k := hg.later hb
      have c0 : wr.cell? ⟨g, 2, none⟩ = some (.int .i64 c) := k.cell 2
      have c1 : wr.cell? ⟨g, 3, none⟩ = some (.int .i64 d) := k.cell 3
      have hb2 := bup hb (new1 wr (Obj.cells #[.int .i64 c, .int .i64 d] 135))
      have HH1 := hid h1
      clear h1
      go_wp2_with fail
      clear c0 c1 k
      generalize wr.alloc (Obj.cells #[.int .i64 c, .int .i64 d] 135) = w2 at *
      (with_reducible refine (H2.out w2).mono ?_)
      rintro e3 w3 ⟨rfl, hw3⟩
      subst w3
      by_cases h : q2 = 0
      · have t1 : (q2 != 0) = false := by rw [h]; rfl
        have HH := hid h
        clear h
        go_wp2
        go_roundw
        case rel => exact ⟨hb2, .inr (.inr ⟨by go_num, HH1.out, HH.out⟩)⟩
        case measure => simp [Go.RowKit.intOf]
      · have t1 : (q2 != 0) = true := by rw [bne_iff_ne]; exact h
        have HE : Hid (R = false) := hid (by rw [HR.out, decide_eq_false h, Bool.and_false])
        clear h
        go_wp2
        go_ret
        exact ⟨by rw [HE.out]; rfl, hb2⟩
    · have HE : Hid (R = true) := hid (by rw [HR.out, h1, h2]; rfl)
      clear h1 h2
      go_wp2
      go_ret
      exact ⟨by rw [HE.out]; rfl, hb⟩
set_option maxHeartbeats 2000000 in
theorem sfits_sub (a b c d : Int) (ia : I64 a) (ib : I64 b) (ic : I64 c) (id : I64 d) (g cp : Nat) (w : World) (hg : Blk w g 135 #[.int .i64 a, .int .i64 b, .int .i64 c, .int .i64 d]) :
    Calls Tryz.prog 100 #[.func (.func 102) #[] #[], .slice (some ⟨g, 0, none⟩) 2 cp] w fun e w' => e = .returned (.bool (decide ((subW a b).2 = 0) && decide ((subW c d).2 = 0))) ∧ Below w.heap.size w w' := by
  have H1 := hid (fun W => nsub_any a b W ia ib)
  have H2 := hid (fun W => nsub_any c d W ic id)
  generalize subW a b = p at *
  generalize subW c d = q at *
  obtain ⟨p1, p2⟩ := p
  obtain ⟨q1, q2⟩ := q
  unfold PairRes pairV at H1 H2
  dsimp only at *
  obtain ⟨R, hR⟩ : ∃ R, R = (decide (p2 = 0) && decide (q2 = 0)) := ⟨_, rfl⟩
  rw [← hR]
  have HR := hid hR
  clear hR
  go_enter Tryz.func100, Tryz.ntmps100
  go_wp2
  go_loopw [11] (fun t wq => Below w.heap.size w wq ∧ (t = .int .i64 0 ∨ (t = .int .i64 1 ∧ p2 = 0) ∨ (t = .int .i64 2 ∧ p2 = 0 ∧ q2 = 0))) (fun t _ => 3 - (Go.RowKit.intOf t).toNat)
  case atStart => exact ⟨Below.refl _ _, .inl rfl⟩
  case round =>
    obtain ⟨hb, rfl | ⟨rfl, h1⟩ | ⟨rfl, h1, h2⟩⟩ := hrel
    · have k := hg.later hb
      have c0 : wr.cell? ⟨g, 0, none⟩ = some (.int .i64 a) := k.cell 0
      have c1 : wr.cell? ⟨g, 1, none⟩ = some (.int .i64 b) := k.cell 1
      have hb2 := bup hb (new1 wr (Obj.cells #[.int .i64 a, .int .i64 b] 135))
      go_wp2_with fail
      clear c0 c1 k
      generalize wr.alloc (Obj.cells #[.int .i64 a, .int .i64 b] 135) = w2 at *
      (with_reducible refine (H1.out w2).mono ?_)
      rintro e3 w3 ⟨rfl, hw3⟩
      subst w3
      by_cases h : p2 = 0
      · have t1 : (p2 != 0) = false := by rw [h]; rfl
        have HH := hid h
        clear h
        go_wp2
        go_roundw
        case rel => exact ⟨hb2, .inr (.inl ⟨by go_num, HH.out⟩)⟩
        case measure => simp [Go.RowKit.intOf]
      · have t1 : (p2 != 0) = true := by rw [bne_iff_ne]; exact h
        have HE : Hid (R = false) := hid (by rw [HR.out, decide_eq_false h]; rfl)
        clear h
        go_wp2
        go_ret
        exact ⟨by rw [HE.out]; rfl, hb2⟩
    · have k := hg.later hb
      have c0 : wr.cell? ⟨g, 2, none⟩ = some (.int .i64 c) := k.cell 2
      have c1 : wr.cell? ⟨g, 3, none⟩ = some (.int .i64 d) := k.cell 3
      have hb2 := bup hb (new1 wr (Obj.cells #[.int .i64 c, .int .i64 d] 135))
      have HH1 := hid h1
      clear h1
      go_wp2_with fail
      clear c0 c1 k
      generalize wr.alloc (Obj.cells #[.int .i64 c, .int .i64 d] 135) = w2 at *
      (with_reducible refine (H2.out w2).mono ?_)
      rintro e3 w3 ⟨rfl, hw3⟩
      subst w3
      by_cases h : q2 = 0
      · have t1 : (q2 != 0) = false := by rw [h]; rfl
        have HH := hid h
        clear h
        go_wp2
        go_roundw
        case rel => exact ⟨hb2, .inr (.inr ⟨by go_num, HH1.out, HH.out⟩)⟩
        case measure => simp [Go.RowKit.intOf]
      · have t1 : (q2 != 0) = true := by rw [bne_iff_ne]; exact h
        have HE : Hid (R = false) := hid (by rw [HR.out, decide_eq_false h, Bool.and_false])
        clear h
        go_wp2
        go_ret
        exact ⟨by rw [HE.out]; rfl, hb2⟩
    · have HE : Hid (R = true) := hid (by rw [HR.out, h1, h2]; rfl)
      clear h1 h2
      go_wp2
      go_ret
      exact ⟨by rw [HE.out]; rfl, hb⟩
end
section
open Go.RowKit
attribute [local go_sem ↓] Go.wp_at_zero Go.wp_at_succ

theorem ssize_ok (n : Int) (hn : I64 n) (w : World) : Calls Tryz.prog 182 #[.int .i64 n] w fun e w' => e = .returned (.int .u64 (if n < 0 then -n else n)) ∧ w' = w := by
  unfold I64 at hn
  obtain ⟨n0, n1⟩ := hn
  by_cases h : n < 0
  · rw [if_pos h]
    have t1 : decide (n < 0) = true := by rw [decide_eq_true_eq]; exact h
    have u0 : (n + 18446744073709551616 : Int) % 18446744073709551616 = n + 18446744073709551616 := by omega
    have u1 : n % 18446744073709551616 = n + 18446744073709551616 := by omega
    go_enter Tryz.func182, Tryz.ntmps182
    go_wp2
    have hw : IntKind.u64.wrap (-IntKind.u64.wrap n) = -n := by
      have e1 : IntKind.u64.wrap n = n + 18446744073709551616 := u1
      rw [e1]
      show (-(n + 18446744073709551616)) % 18446744073709551616 = -n
      omega
    rw [hw]
    go_ret
    exact ⟨rfl, rfl⟩
  · rw [if_neg h]
    have t1 : decide (n < 0) = false := by rw [decide_eq_false_iff_not]; exact h
    have u1 : n % 18446744073709551616 = n := by omega
    go_enter Tryz.func182, Tryz.ntmps182
    go_wp2
    go_ret
    exact ⟨rfl, rfl⟩
end
section
open Go.RowKit Go.Lib Go.Proofs
attribute [local go_sem ↓] Go.wp_at_zero Go.wp_at_succ

set_option maxHeartbeats 2000000 in
theorem mul64_ok (x y : Nat) (hx : x < 18446744073709551616) (hy : y < 18446744073709551616) (w : World) :
    Calls Tryz.prog 181 #[.int .u64 x, .int .u64 y] w fun e w' => e = .returned (.tuple #[.int .u64 ((x * y / 18446744073709551616 : Nat) : Int), .int .u64 ((x * y % 18446744073709551616 : Nat) : Int)]) ∧ w' = w := by
  obtain ⟨bd, bt, bw, hhi⟩ := Lib.mul64_hi x y hx hy
  have ba := Lib.half_mul_le (a := x / 4294967296) (b := y / 4294967296) (by omega) (by omega)
  have bb := Lib.half_mul_le (a := x / 4294967296) (b := y % 4294967296) (by omega) (by omega)
  have bc := Lib.half_mul_le (a := x % 4294967296) (b := y / 4294967296) (by omega) (by omega)
  have ba' : x / 4294967296 * (y / 4294967296) < 18446744073709551616 := by omega
  have bb' : x / 4294967296 * (y % 4294967296) < 18446744073709551616 := by omega
  have bc' : x % 4294967296 * (y / 4294967296) < 18446744073709551616 := by omega
  have bh1 : x / 4294967296 * (y / 4294967296) + (x / 4294967296 * (y % 4294967296) + x % 4294967296 * (y % 4294967296) / 4294967296) / 4294967296 < 18446744073709551616 := by omega
  have bh : x / 4294967296 * (y / 4294967296) + (x / 4294967296 * (y % 4294967296) + x % 4294967296 * (y % 4294967296) / 4294967296) / 4294967296 + ((x / 4294967296 * (y % 4294967296) + x % 4294967296 * (y % 4294967296) / 4294967296) % 4294967296 + x % 4294967296 * (y / 4294967296)) / 4294967296 < 18446744073709551616 := by omega
  go_enter Tryz.func181, Tryz.ntmps181
  go_wp2
  simp only [Mul64.maskN x hx, Mul64.maskN y hy, Mul64.divN, Mul64.mulN, Mul64.addN, Mul64.wrapN _ bd, Mul64.wrapN _ bb', Mul64.wrapN _ bt, Mul64.maskN _ bt, Mul64.wrapN _ bc', Mul64.wrapN _ bw, Mul64.wrapN _ ba', Mul64.wrapN _ bh1, Mul64.wrapN _ bh, Mul64.wrapM (x * y)]
  rw [hhi]
  go_ret2
  exact ⟨rfl, rfl⟩

theorem size_abs (a : Int) : (if a < 0 then -a else a) = ((a.natAbs : Nat) : Int) := by split <;> omega
theorem times_fits (a b : Int) : (mulW a b).2 = 0 ↔ a.natAbs * b.natAbs ≤ (if decide (a < 0) != decide (b < 0) then 9223372036854775808 else 9223372036854775807) := by
  have e : ((a.natAbs * b.natAbs : Nat) : Int) = if decide (a < 0) != decide (b < 0) then -(a * b) else a * b := by
    rw [Int.natCast_mul]
    by_cases ha : a < 0 <;> by_cases hb : b < 0
    · rw [show (a.natAbs : Int) = -a by omega, show (b.natAbs : Int) = -b by omega]; simp [ha, hb]; exact Int.neg_mul_neg a b
    · rw [show (a.natAbs : Int) = -a by omega, show (b.natAbs : Int) = b by omega]; simp [ha, hb]; exact Int.neg_mul a b
    · rw [show (a.natAbs : Int) = a by omega, show (b.natAbs : Int) = -b by omega]; simp [ha, hb]; exact Int.mul_neg a b
    · rw [show (a.natAbs : Int) = a by omega, show (b.natAbs : Int) = b by omega]; simp [ha, hb]
  unfold mulW
  have hf : (fit (a * b)).2 = 0 ↔ (-9223372036854775808 ≤ a * b ∧ a * b ≤ 9223372036854775807) := by
    by_cases h : -9223372036854775808 ≤ a * b ∧ a * b ≤ 9223372036854775807
    · rw [fit_in h]; simp [h]
    · rw [fit_out (by omega)]; simp [h]
  rw [hf]
  cases hs : (decide (a < 0) != decide (b < 0))
  · rw [hs] at e; simp only [Bool.false_eq_true, if_false] at e ⊢; omega
  · rw [hs] at e; simp only [if_true] at e ⊢; omega
set_option maxHeartbeats 2000000 in
theorem stimes_ok (a b : Int) (ia : I64 a) (ib : I64 b) (w : World) : Calls Tryz.prog 103 #[.int .i64 a, .int .i64 b] w fun e w' => e = .returned (.bool (decide ((mulW a b).2 = 0))) ∧ w' = w := by
  have HF := hid (times_fits a b)
  have S1 := hid (fun W => ssize_ok a ia W)
  have S2 := hid (fun W => ssize_ok b ib W)
  rw [size_abs] at S1 S2
  have hA : a.natAbs < 18446744073709551616 := by unfold I64 at ia; omega
  have hB : b.natAbs < 18446744073709551616 := by unfold I64 at ib; omega
  have S3 := hid (fun W => mul64_ok a.natAbs b.natAbs hA hB W)
  clear ia ib hA hB
  generalize a.natAbs = A at *
  generalize b.natAbs = B at *
  obtain ⟨R, hR⟩ : ∃ R, R = decide ((mulW a b).2 = 0) := ⟨_, rfl⟩
  rw [← hR]
  have HR := hid hR
  clear hR
  obtain ⟨M, hM⟩ : ∃ M, M = A * B := ⟨_, rfl⟩
  rw [← hM] at S3 HF
  clear hM
  obtain ⟨h, hh⟩ : ∃ h, h = M / 18446744073709551616 := ⟨_, rfl⟩
  obtain ⟨l, hl⟩ : ∃ l, l = M % 18446744073709551616 := ⟨_, rfl⟩
  rw [← hh, ← hl] at S3
  have HH := hid (And.intro hh hl)
  have l1 : (l : Int) ≤ 18446744073709551615 := by omega
  clear hh hl
  go_enter Tryz.func103, Tryz.ntmps103
  go_wp2_with fail
  (with_reducible refine (S1.out w).mono ?_)
  rintro e1 w1 ⟨rfl, hw⟩; subst w1
  go_wp2_with fail
  (with_reducible refine (S2.out w).mono ?_)
  rintro e2 w2 ⟨rfl, hw⟩; subst w2
  go_wp2_with fail
  (with_reducible refine (S3.out w).mono ?_)
  rintro e3 w3 ⟨rfl, hw⟩; subst w3
  clear S1 S2 S3
  cases t1 : decide (a < 0) <;> cases t2 : decide (b < 0)
  all_goals
    by_cases h0 : h = 0
    · have t3 : ((h : Int) == 0) = true := by rw [h0]; rfl
      have HZ := hid h0
      clear h0
      have HT := hid (And.intro t1 t2)
      go_wp2
      go_ret
      refine ⟨?_, rfl⟩
      have e1 := HF.out
      rw [HT.out.1, HT.out.2] at e1
      have e2 := HH.out
      have e3 := HZ.out
      rw [HR.out]
      congr 2
      simp at e1 ⊢
      rw [e1]
      omega
    · have t3 : ((h : Int) == 0) = false := by rw [beq_eq_false_iff_ne]; omega
      have HZ := hid h0
      clear h0
      have HT := hid (And.intro t1 t2)
      go_wp2
      go_ret
      refine ⟨?_, rfl⟩
      have e1 := HF.out
      rw [HT.out.1, HT.out.2] at e1
      have e2 := HH.out
      have e3 := HZ.out
      rw [HR.out]
      congr 2
      simp at e1 ⊢
      rw [e1]
      omega
end
section
open Go.Shelf
end
section
/-- The wide fence, in a round or outside. -/
def wideAt (ro : Option Nat) : Fence := { Fence.wide with round := ro }
@[simp, go_sem] theorem wideAt_round (ro : Option Nat) : (wideAt ro).round = ro := rfl
@[simp, go_sem] theorem wideAt_depth (ro : Option Nat) : (wideAt ro).depth = none := rfl
@[simp, go_sem] theorem wideAt_fn (ro : Option Nat) (f : FuncId) : (wideAt ro).fn f = True := rfl

section
variable {P : Program} {ops : Array Oper} {Q : Exit → Act → World → Prop} {S : World → Prop} {md : Region.Mode} {ro : Option Nat} {n : Nat}
theorem callsIn_at {f : FuncId} {args : Array Value} {w : World} {R : Ending → World → Prop} (h : Calls P f args w R) : CallsIn (wideAt ro) n P f args w R := (callsIn_wide (n := n)).2 h
theorem rowsIn_at {row : String} {args : Array Value} {w : World} {R : Value → World → Prop} (h : Rows P row args w R) : RowsIn (wideAt ro) n P row args w R := fun c cs _ => by
  obtain ⟨v, w', r, s⟩ := h c cs
  exact ⟨v, w', r, stepsIn_wide.2 s⟩
theorem wpIn_of_wp {o : Oper} {a : Act} {w : World} {K : Act → World → Prop} (hd : ∀ c, o.op ≠ .defer c) (h : o.wp P a w K Never) (hQ : ∀ e a w, Never e a w → Q e a w) : o.wpIn (wideAt ro) n P a w K Q := by
  refine ⟨fun _ _ => trivial, ?_⟩
  rw [Oper.semAt_eq _ _ _ hd]
  unfold Oper.wp at h
  generalize (execOp a.eval o).run P w = r at *
  cases r with
  | ok x w' =>
    cases x <;> simp only [Oper.upon, Oper.uponIn] at h ⊢ <;> try exact h
    case enter f args =>
      refine ⟨(fun k => by cases k), callsIn_at (h.mono fun e w'' he => ?_)⟩
      cases e with
      | returned u => exact he
      | panicked c => exact he.elim
      | outgrown => exact he.elim (fun _ h => h.elim (fun _ h => h.elim))
    case row row args => exact ⟨(fun k => by cases k), rowsIn_at h⟩
  | halt x w' =>
    cases x <;> simp only [Oper.upon, Oper.uponIn] at h ⊢
    case panic u => exact hQ _ _ _ h

theorem StepS.wpOpIn {i : Nat} {o : Oper} {v : Value} {a : Act} (hi : ops[i]? = some o) (hd : ∀ c, o.op ≠ .defer c) (h : StepS P ops S o v a) {K : Act → World → Prop} {w : World} (hS : S w)
    (hK : ∀ w2, S w2 → K (a.put o.dst v) w2) (hQ : ∀ e a w, Never e a w → Q e a w) : Go.wpOpIn (wideAt ro) n P ops Q i K a w := by
  unfold Go.wpOpIn
  simp only [hi]
  rcases h with ⟨hw, h⟩ | ⟨hw, rfl⟩
  · simp only [hw, if_true]
    exact wpIn_of_wp hd (h w hS K (fun a2 w2 e k => e ▸ hK w2 k)) hQ
  · simp only [hw, Bool.false_eq_true, if_false]
    exact ⟨fun _ _ => trivial, hK w hS⟩

/-- No operation defers. -/
def noDefer (ops : Array Oper) : Bool := (List.range ops.size).all fun i => match ops[i]? with
  | some o => (match o.op with | .defer _ => false | _ => true)
  | none => true
theorem noDefer_spec (h : noDefer ops = true) {i : Nat} {o : Oper} (hi : ops[i]? = some o) : ∀ c, o.op ≠ .defer c := by
  intro c hc
  have h1 := List.all_eq_true.1 h i (List.mem_range.2 (Array.getElem?_eq_some_iff.1 hi).1)
  simp [hi, hc] at h1
/-- Whatever order is picked: every one of the first m steps; when they are through the rest goes on from any world that meets S. -/
def AnyI (ro : Option Nat) (n : Nat) (P : Program) (md : Region.Mode) (ops : Array Oper) (Q : Exit → Act → World → Prop) (S : World → Prop) (m : Nat) : Nat → Array Bool → Act → Prop
  | 0, listed, a => earlyDone m listed ∧ ∀ w, S w → wpAnyIn (wideAt ro) n P md ops Q 0 listed a w
  | fuel + 1, listed, a => (earlyDone m listed ∧ ∀ w, S w → wpAnyIn (wideAt ro) n P md ops Q (fuel + 1) listed a w) ∨
    (Region.ready md ops listed ≠ [] ∧ ∀ i ∈ Region.ready md ops listed, i < m ∧ ∃ o v, ops[i]? = some o ∧ StepS P ops S o v a ∧ AnyI ro n P md ops Q S m fuel (listed.setIfInBounds i true) (a.put o.dst v))

theorem AnyI.wpAny (hnd : noDefer ops = true) (hQ : ∀ e a w, Never e a w → Q e a w) {m : Nat} : ∀ (fuel : Nat) (listed : Array Bool) (a : Act), AnyI ro n P md ops Q S m fuel listed a → ∀ w, S w → Go.wpAnyIn (wideAt ro) n P md ops Q fuel listed a w
  | 0, _, _, h, w, hS => h.2 w hS
  | fuel + 1, listed, a, h, w, hS => by
    rcases h with ⟨_, h⟩ | ⟨hne, h⟩
    · exact h w hS
    · refine ⟨fun h0 => absurd h0 hne, fun i hi => ?_⟩
      obtain ⟨_, o, v, ho, hst, hrest⟩ := h i hi
      exact hst.wpOpIn ho (noDefer_spec hnd ho) hS (fun w2 hS2 => AnyI.wpAny hnd hQ fuel _ _ hrest w2 hS2) hQ

theorem AnyI.first (hsel : ∀ (j : Nat) (o : Oper) cs b, ops[j]? = some o → o.op ≠ .select cs b) {m : Nat} (htail : tailOk md ops m = true) {i : Nat} {oi : Oper} {v : Value} (hi : ops[i]? = some oi) (him : i < m) :
    ∀ (fuel : Nat) (listed : Array Bool) (a : Act), closedL md ops listed →
      (∀ j oj, ops[j]? = some oj → j ≠ i → listed.getD j true = false → (∀ e ∈ oj.after, Region.binds md e = true → e.on ≠ i) → oi.apart ops oj = true) →
      i ∈ Region.ready md ops listed → StepS P ops S oi v a →
      AnyI ro n P md ops Q S m fuel (listed.setIfInBounds i true) (a.put oi.dst v) → AnyI ro n P md ops Q S m (fuel + 1) listed a := by
  intro fuel
  induction fuel with
  | zero =>
    intro listed a hc hfree hr hy H
    refine .inr ⟨fun h => (by rw [h] at hr; cases hr), fun j hj => ?_⟩
    by_cases hji : j = i
    · subst hji; exact ⟨him, oi, v, hi, hy, H⟩
    · exfalso
      have hjm : j < m := by
        rcases Nat.lt_or_ge j m with h | h
        · exact h
        · exfalso
          obtain ⟨_, oj, hoj, hall⟩ := mem_ready.1 hj
          have hjs : j < ops.size := (Array.getElem?_eq_some_iff.1 hoj).1
          have h1 := List.all_eq_true.1 htail j (List.mem_range.2 hjs)
          simp only [Bool.or_eq_true, decide_eq_true_eq] at h1
          have h2 := List.all_eq_true.1 (h1.resolve_left (by omega)) i (List.mem_range.2 him)
          have h3 := reachB_spec hc _ _ h2 (fun o ho e he hb => by rw [hoj] at ho; injection ho with ho; subst ho; exact hall e he hb)
          have h4 := (mem_ready.1 hr).1
          rcases Nat.lt_or_ge i listed.size with h' | h'
          · simp [h'] at h3 h4; rw [h4] at h3; cases h3
          · simp [Array.getElem?_eq_none h'] at h3
      have h1 := H.1 j hjm
      rw [getD_set_ne false (Ne.symm hji)] at h1
      have h4 := (mem_ready.1 hj).1
      rcases Nat.lt_or_ge j listed.size with h' | h'
      · simp [h'] at h1 h4; rw [h4] at h1; cases h1
      · simp [Array.getElem?_eq_none h'] at h1
  | succ fuel ih =>
    intro listed a hc hfree hr hy H
    refine .inr ⟨fun h => (by rw [h] at hr; cases hr), fun j hj => ?_⟩
    by_cases hji : j = i
    · subst hji; exact ⟨him, oi, v, hi, hy, H⟩
    · have hjm : j < m := by
        rcases Nat.lt_or_ge j m with h | h
        · exact h
        · exfalso
          obtain ⟨_, oj, hoj, hall⟩ := mem_ready.1 hj
          have hjs : j < ops.size := (Array.getElem?_eq_some_iff.1 hoj).1
          have h1 := List.all_eq_true.1 htail j (List.mem_range.2 hjs)
          simp only [Bool.or_eq_true, decide_eq_true_eq] at h1
          have h2 := List.all_eq_true.1 (h1.resolve_left (by omega)) i (List.mem_range.2 him)
          have h3 := reachB_spec hc _ _ h2 (fun o ho e he hb => by rw [hoj] at ho; injection ho with ho; subst ho; exact hall e he hb)
          have h4 := (mem_ready.1 hr).1
          rcases Nat.lt_or_ge i listed.size with h' | h'
          · simp [h'] at h3 h4; rw [h4] at h3; cases h3
          · simp [Array.getElem?_eq_none h'] at h3
      rcases H with ⟨hd, _⟩ | ⟨_, H⟩
      · exfalso
        have h1 := hd j hjm
        rw [getD_set_ne false (Ne.symm hji)] at h1
        have h4 := (mem_ready.1 hj).1
        rcases Nat.lt_or_ge j listed.size with h' | h'
        · simp [h'] at h1 h4; rw [h4] at h1; cases h1
        · simp [Array.getElem?_eq_none h'] at h1
      · obtain ⟨_, oj, u, hoj, hst, hrest⟩ := H j (ready_mono hj hji)
        obtain ⟨hjun, oj', hoj', hall⟩ := mem_ready.1 hj
        rw [hoj] at hoj'; injection hoj' with hoj'; subst hoj'
        have hnot : ∀ e ∈ oj.after, Region.binds md e = true → e.on ≠ i := fun e he hb heq => by
          have h1 := hall e he hb
          have h0 := (mem_ready.1 hr).1
          rw [heq] at h1
          rcases Nat.lt_or_ge i listed.size with h' | h'
          · simp [h'] at h0 h1; rw [h0] at h1; cases h1
          · simp [Array.getElem?_eq_none h'] at h1
        obtain ⟨h1, h2, h3⟩ := Oper.apart_spec (hfree j oj hoj hji hjun hnot)
        refine ⟨hjm, oj, u, hoj, hst.unputApart (hsel j oj · · hoj) _ _ h1, ih _ _ (hc.set hj) ?_ (ready_mono hr (Ne.symm hji)) (hy.putApart (hsel i oi · · hi) _ _ h3) ?_⟩
        · intro k ok hk hki hun hno
          refine hfree k ok hk hki ?_ hno
          by_cases hjk : j = k
          · subst hjk; exact hjun
          · rw [getD_set_ne true hjk] at hun; exact hun
        · rw [Array.setIfInBounds_comm _ _ hji, ← Act.put_comm a v u h2]
          exact hrest

/-- The region's first m operations, in the order of the text, each a step in every world that meets S; then the rest. -/
def FlowI (F : Fence) (n : Nat) (P : Program) (ops : Array Oper) (Q : Exit → Act → World → Prop) (S : World → Prop) : Nat → List Oper → Act → Prop
  | 0, l, a => ∀ w, S w → wpListIn F n P ops Q l a w
  | _ + 1, [], a => ∀ w, S w → Q .normal a w
  | m + 1, o :: rest, a => ∃ v, StepS P ops S o v a ∧ FlowI F n P ops Q S m rest (a.put o.dst v)

theorem wpAnyI_tail {m : Nat} (hf : ∀ i, i < ops.size → m ≤ i → Region.ready .any ops (pre ops.size i) = [i]) (hend : Region.ready .any ops (pre ops.size ops.size) = []) :
    ∀ (k' k : Nat) (l : List Oper), m ≤ k → k + k' = ops.size → (∀ j, l[j]? = ops[k + j]?) → ∀ (a : Act) (w : World), wpListIn (wideAt ro) n P ops Q l a w → Go.wpAnyIn (wideAt ro) n P .any ops Q k' (pre ops.size k) a w
  | 0, k, l, _, hn, hl, a, w, h => by
    have hk : k = ops.size := by omega
    subst hk
    have : l = [] := by
      cases l with
      | nil => rfl
      | cons o l => have := hl 0; simp at this
    subst this
    exact ⟨hend, h⟩
  | k' + 1, k, l, hmk, hn, hl, a, w, h => by
    have hks : k < ops.size := by omega
    have hr := hf k hks hmk
    cases l with
    | nil => have := hl 0; simp [Array.getElem?_eq_getElem hks] at this
    | cons o l =>
      have ho : ops[k]? = some o := by simpa using (hl 0).symm
      have hl' : ∀ j, l[j]? = ops[k + 1 + j]? := fun j => by have := hl (j + 1); simpa [Nat.add_assoc, Nat.add_comm 1 j] using this
      refine ⟨fun h0 => (by rw [hr] at h0; cases h0), fun i hi => ?_⟩
      rw [hr] at hi
      have hik : i = k := by simpa using hi
      subst hik
      rw [pre_set _ _ hks]
      unfold wpListIn at h
      unfold Go.wpOpIn
      simp only [ho]
      split
      · rename_i hw
        rw [if_pos hw] at h
        exact Oper.wpIn_mono (fun a w => wpAnyI_tail hf hend k' (i + 1) l (by omega) (by omega) hl' a w) h
      · rename_i hw
        rw [if_neg hw] at h
        exact ⟨h.1, wpAnyI_tail hf hend k' (i + 1) l (by omega) (by omega) hl' _ _ h.2⟩

/-! The moves. -/
theorem FlowI.quiet {m : Nat} {o : Oper} {rest : List Oper} {a : Act} (v : Value) (hw : Region.wanted o (yielded ops a.tmps) = true) (h : ∀ w, S w → (execOp a.eval o).run P w = .ok (.value v) w) (hr : FlowI (wideAt ro) n P ops Q S m rest (a.put o.dst v)) :
    FlowI (wideAt ro) n P ops Q S (m + 1) (o :: rest) a :=
  ⟨v, .inl ⟨hw, fun w hS K hK => by unfold Oper.wp; rw [h w hS]; exact hK _ _ rfl hS⟩, hr⟩
theorem FlowI.take {m : Nat} {o : Oper} {rest : List Oper} {a : Act} (v : Value) (hw : Region.wanted o (yielded ops a.tmps) = true) (h : ∀ w, S w → ∀ R : Value → Prop, R v → Yl R w ((execOp a.eval o).run P w)) (hr : FlowI (wideAt ro) n P ops Q S m rest (a.put o.dst v)) :
    FlowI (wideAt ro) n P ops Q S (m + 1) (o :: rest) a :=
  FlowI.quiet v hw (fun w hS => by
    have h1 := h w hS (fun x => x = v) rfl
    generalize (execOp a.eval o).run P w = r at *
    cases r with
    | ok n w' =>
      cases n with
      | value x => obtain ⟨e1, e2⟩ := h1; subst e1; subst e2; rfl
      | _ => exact h1.elim
    | halt x w' => exact h1.elim) hr
theorem FlowI.skip {m : Nat} {o : Oper} {rest : List Oper} {a : Act} (hw : Region.wanted o (yielded ops a.tmps) = false) (hr : FlowI (wideAt ro) n P ops Q S m rest (a.put o.dst undef)) :
    FlowI (wideAt ro) n P ops Q S (m + 1) (o :: rest) a :=
  ⟨undef, .inr ⟨hw, rfl⟩, hr⟩
theorem FlowI.step {m : Nat} {o : Oper} {rest : List Oper} {a : Act} (v : Value) (hw : Region.wanted o (yielded ops a.tmps) = true)
    (h : ∀ w, S w → ∀ K : Act → World → Prop, (∀ a2 w2, a2 = a.put o.dst v → S w2 → K a2 w2) → o.wp P a w K Never) (hr : FlowI (wideAt ro) n P ops Q S m rest (a.put o.dst v)) :
    FlowI (wideAt ro) n P ops Q S (m + 1) (o :: rest) a :=
  ⟨v, .inl ⟨hw, h⟩, hr⟩
/-- A call of a Go function of the program, by its contract. -/
theorem FlowI.call {m : Nat} {o : Oper} {rest : List Oper} {a : Act} (f : FuncId) (args : Array Value) (v : Value) (hw : Region.wanted o (yielded ops a.tmps) = true)
    (he : ∀ w, S w → (execOp a.eval o).run P w = .ok (.enter f args) w) (h : ∀ w, S w → Calls P f args w fun e w2 => e = .returned v ∧ S w2) (hr : FlowI (wideAt ro) n P ops Q S m rest (a.put o.dst v)) :
    FlowI (wideAt ro) n P ops Q S (m + 1) (o :: rest) a :=
  ⟨v, .inl ⟨hw, fun w hS K hK => by
    unfold Oper.wp; rw [he w hS]
    exact (h w hS).mono fun e w2 ⟨he, h2⟩ => by subst he; exact hK _ _ rfl h2⟩, hr⟩
end
end
section
open Go.RowKit Go.Maps Go.Sort Go.Shelf

theorem one_has {H : Type} (v : Int) (d : DataW H) (kl : Lit) : has (.map [(.int .i64 v, d)]) kl = (Lit.int .i64 v).sameKey kl := by simp [has]
theorem one_same {v x : Int} : (Lit.int .i64 v).sameKey (.int .i64 x) = decide (v = x) := by
  cases h : decide (v = x) with
  | true => have := of_decide_eq_true h; subst this; simp [Lit.sameKey]
  | false => have := of_decide_eq_false h; simp [Lit.sameKey, this]
set_option maxRecDepth 100000 in
set_option maxHeartbeats 1000000 in
/-- The iterator over the keys of a map with one key. -/
theorem keys1_one {H : Type} (n : Nat) (hn : 1 ≤ n) (l Bm b nn : Nat) (v : Int) (d : DataW H) {R : Value → Option (DataW H × List MemPlace)} (J Jx : List Unit → World → Prop)
    (hY : ∀ pre x W, J pre W → pre.length < 1 → YieldAt (wideAt none) (n - 1) Tryz.prog l #[.int .i64 v] W fun e W' =>
      (e = .returned (.bool true) ∧ J (pre ++ [x]) W' ∧ KeepsWalks W W') ∨ (e = .returned (.bool false) ∧ Jx (pre ++ [x]) W'))
    (W : World) (hJ : AbidesFrom W.heap.size J) (hm : W.cell? ⟨Bm, 0, none⟩ = some (.map (some b))) (hown : W.ownsMap Tryz.prog 3 R b nn (.map [(.int .i64 v, d)])) (h0 : J [] W) :
    CallsIn (wideAt none) n Tryz.prog 252 #[.func (.yield l) #[] #[], .pointer (some ⟨Bm, 0, none⟩)] W fun e W' => (∃ v, e = .returned v) ∧
      ((∃ ss : List Unit, ss.length = 1 ∧ J ss W') ∨ (∃ pre : List Unit, pre.length = 1 ∧ Jx pre W')) := by
  have ht26 : Tryz.prog.underlying 3 = some (.int .i64) := Tryz.underlying3
  refine callsIn_of_wp Tryz.func252 rfl trivial ?_ rfl
  simp only [Tryz.ntmps252, List.size_toArray, List.length_cons, List.length_nil, Nat.reduceAdd, Nat.reduceSub, Array.replicate_succ, Array.replicate_zero, List.push_toArray, List.append_toArray, List.nil_append, List.cons_append]
  gi_wp2_with (first
    | (gi_at_range; refine wpListIn_range_own _ rfl _ 221 rfl 3 220 (int_keyed ht26) Tryz.underlying221 _ b nn _ rfl hown ?_; intro w0 hrg0 hg0 hs0)
    | gi_in)
  go_frame
  gi_loopw [3] (fun _ wr => ∃ (left : Lit → Bool) (cnt : Nat) (ss : List Unit), wr.ranges Tryz.prog 3 R b W.heap.size nn (.map [(.int .i64 v, d)]) left cnt ∧ ss.length + cnt ≤ 1 ∧ (cnt = 0 → ss.length = 1) ∧ (∀ x, left (.int .i64 x) = true → x = v) ∧ J ss wr)
    (fun _ wr => wr.rangeLeft b W.heap.size)
  case atStart =>
    refine ⟨_, _, [], hrg0, ?_, ?_, ?_, hJ [] W w0 none h0 hg0 (fun r e => by cases e)⟩
    · simp [Maps.size]
    · simp [Maps.size]
    · intro x hx
      rw [one_has, one_same] at hx
      exact (of_decide_eq_true hx).symm
  case round =>
    obtain ⟨left, cnt, ss, hrg, hcs, hc1, hl1, hJs⟩ := hrel
    gi_wp2_with (first
      | (gi_at_next; refine wpListIn_next_ranges _ rfl _ rfl 3 (int_keyed ht26) R encZ id (fun key kl hk => by obtain ⟨x, hx, _⟩ := Maps.keyOf_i64 ht26 hk; exact ⟨x, hx⟩) (fun v _ _ => ⟨v, rfl⟩) b W.heap.size nn _ _ _ rfl hrg ?_ ?_)
      | gi_in)
    · intro hc0 hl0
      gi_wp2
      go_end0
      exact ⟨⟨_, rfl⟩, .inl ⟨ss, hc1 hc0, hJs⟩⟩
    · intro x c kl yd yp w2 cnt2 hkey hlk hv hat hrg2 hlt hg2 hs2 hen
      obtain ⟨x', ex, rfl, _⟩ := Maps.keyOf_i64 ht26 hkey
      obtain rfl : x = x' := encZ_inj ex
      obtain rfl := hl1 x hlk
      have hJ2 : J ss w2 := hJ ss wr w2 (some W.heap.size) hJs hg2 (fun r e => by cases e; exact ⟨Nat.le_refl _, hrg.iter_walk⟩)
      obtain ⟨fn, tmps, assign, body, hy, hR⟩ := hY ss () w2 hJ2 (by omega)
      clear hs2
      gi_wp2
      refine hR.mono ?_
      rintro e W3 (⟨rfl, hJ3, hk3⟩ | ⟨rfl, hJx3⟩)
      · gi_wp2
        have hrg3 := hrg2.of_walks hk3
        go_roundw
        case rel => exact ⟨_, cnt2, ss ++ [()], hrg3, by simp; omega, fun _ => by rw [List.length_append]; show ss.length + 1 = 1; omega, fun y hy => by simp only [Bool.and_eq_true] at hy; exact hl1 y hy.1, hJ3⟩
        case measure => rw [hrg3.left_eq, hrg.left_eq]; exact hlt
      · gi_wp2
        refine bodyPost_ret (results_none rfl _ _ _) rfl ?_
        exact ⟨⟨_, rfl⟩, .inr ⟨ss ++ [()], by rw [List.length_append]; show ss.length + 1 = 1; omega, hJx3⟩⟩
/-- .. as a range over a function wants it. -/
theorem keys_one {H : Type} (n : Nat) (hn : 1 ≤ n) (Bm b nn : Nat) (v : Int) (d : DataW H) {R : Value → Option (DataW H × List MemPlace)} (w : World) (hBm : Bm < w.heap.size)
    (hm : w.cell? ⟨Bm, 0, none⟩ = some (.map (some b))) (hown : w.ownsMap Tryz.prog 3 R b nn (.map [(.int .i64 v, d)])) :
    SeqStopsK (wideAt none) n Tryz.prog 252 #[.pointer (some ⟨Bm, 0, none⟩)] (fun _ : Unit => #[.int .i64 v]) KeepsWalks (fun ss => ss.length = 1) (fun pre => pre.length = 1) 1 w := fun l J Jx W hW hJ _ hY h0 => by
  have hown' : W.ownsMap Tryz.prog 3 R b nn (.map [(.int .i64 v, d)]) := by
    have hbl := hown.lt
    obtain ⟨es, clock, hb, Ft, hs, hD⟩ := hown
    exact ⟨es, clock, (hW.block b hbl).trans hb, Ft, hs, hD⟩
  exact keys1_one n hn l Bm b nn v d J Jx hY W hJ ((hW.cell (p := ⟨Bm, 0, none⟩) hBm).trans hm) hown' h0
set_option maxHeartbeats 400000 in
theorem mkeys_ok (b : Option Nat) (w : World) : Calls Tryz.prog 242 #[.map b] w fun e w' => e = .returned (.func (.func 252) #[] #[.pointer (some ⟨w.heap.size, 0, none⟩)]) ∧ w' = w.alloc (.cells #[.map b] 221) := by
  go_enter Tryz.func242, Tryz.ntmps242
  go_wp2
  go_ret
  exact ⟨rfl, rfl⟩
end
end Go.Proofs.YtnmpgijiimglcaaGreat
