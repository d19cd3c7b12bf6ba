/-
  gnomonref23.vars: which variables stand in an edge.
-/
import Derived.Test.YtofmidhkiobldaaOwnInt
import Derived.Test.YtofmidhkiobldaaPG45
namespace Go.Proofs.Ytofmidhkiobldaa
open Go.RowKit
attribute [local go_sem ↓] Go.wp_at_zero Go.wp_at_succ

def varsE (e : Edg) : List Int := (trio e).filter (fun v => decide (0 ≤ v))
theorem blk_rd1 {w : World} {g : Nat} {t : TypeId} {x : Int} (h : Blk w g t #[.int .i64 x]) (hg : g < w.heap.size) : Rd w w.heap.size (some ⟨g, 0, none⟩) [x] := by
  intro k hk
  obtain rfl : k = 0 := by simpa using hk
  exact ⟨g, 0, rfl, hg, h.cell 0⟩
/-- An append of one number that was just laid. -/
theorem AtInt.wpList_append_one {ops : Array Oper} {rest : List Oper} {o : Oper} {a : Act} {Q : Exit → Act → World → Prop} {w : World} (s x : Operand) (t : TypeId)
    (ho : o.op = .call { callee := .builtin .append, args := #[s, x], argTypes := #[t, t] }) (hgd : o.guard = none) (ht : Try.prog.underlying t = some (.slice 3))
    (base : Nat) (A0 : Option Addr) (c0 : Nat) (xs : List Int) (hs : a.eval s = .slice A0 xs.length c0) (hown : AtInt.Own w base A0 c0 xs)
    (g : Nat) (y : Int) (zs : List Int) (hx : a.eval x = .slice (some ⟨g, 0, none⟩) 1 1) (hr : Blk w g 3 #[.int .i64 y]) (hz : xs ++ [y] = zs) (hl : zs.length ≤ 17592186044416) (hbase : base ≤ w.heap.size)
    (h : ∀ A' cap' w', AtInt.Own w' base A' cap' zs → Below base w w' → wpList Try.prog ops Q rest (a.put o.dst (.slice A' zs.length cap')) w') :
    wpList Try.prog ops Q (o :: rest) a w :=
  AtInt.wpList_append_ints s x t ho hgd ht base A0 c0 xs hs hown w.heap.size (some ⟨g, 0, none⟩) 1 [y] zs hx (blk_rd1 hr hr.lt) hz hl hbase fun A' c' w' h2 h3 _ => h A' c' w' h2 (below_grown h3 (fun k hk => by
    rcases hown.form with ⟨rfl, _⟩ | ⟨g', rfl, hg, _⟩
    · simp [Value.ownBlock] at hk
    · simp [Value.ownBlock] at hk; omega) hbase)

set_option maxRecDepth 8000 in
set_option maxHeartbeats 2000000 in
theorem rvars_any (e : Edg) (w : World) :
    Calls Try.prog 33 #[e.val] w fun en w' => ∃ A c, en = .returned (.slice A (varsE e).length c) ∧ AtInt.Own w' w.heap.size A c (varsE e) ∧ Below w.heap.size w w' := by
  have HV : Hid (varsE e = (trio e).filter (fun v => decide (0 ≤ v))) := hid rfl
  unfold trio at HV
  unfold Edg.val
  have n0 := new1 w (.cells #[.int .i64 e.fr, .int .i64 e.to, .int .i64 e.kd, .int .i64 e.dst, .int .i64 e.arr, .int .i64 e.op, .int .i64 e.av, .int .i64 e.an, .int .i64 e.bv, .int .i64 e.bn] 56)
  have k0 := Blk.new w 56 #[.int .i64 e.fr, .int .i64 e.to, .int .i64 e.kd, .int .i64 e.dst, .int .i64 e.arr, .int .i64 e.op, .int .i64 e.av, .int .i64 e.an, .int .i64 e.bv, .int .i64 e.bn]
  have x3 := later (k0.cell 3)
  have x6 := later (k0.cell 6)
  have x8 := later (k0.cell 8)
  have r0 : Below (w.alloc (.cells #[.int .i64 e.fr, .int .i64 e.to, .int .i64 e.kd, .int .i64 e.dst, .int .i64 e.arr, .int .i64 e.op, .int .i64 e.av, .int .i64 e.an, .int .i64 e.bv, .int .i64 e.bn] 56)).heap.size (w.alloc (.cells #[.int .i64 e.fr, .int .i64 e.to, .int .i64 e.kd, .int .i64 e.dst, .int .i64 e.arr, .int .i64 e.op, .int .i64 e.av, .int .i64 e.an, .int .i64 e.bv, .int .i64 e.bn] 56)) (w.alloc (.cells #[.int .i64 e.fr, .int .i64 e.to, .int .i64 e.kd, .int .i64 e.dst, .int .i64 e.arr, .int .i64 e.op, .int .i64 e.av, .int .i64 e.an, .int .i64 e.bv, .int .i64 e.bn] 56)) := Below.refl _ _
  have x3' := x3 _ r0
  have x6' := x6 _ r0
  have x8' := x8 _ r0
  clear k0
  go_enter Try.func33, Try.ntmps33
  go_upto_region 2 with fail
  generalize w.alloc (.cells #[.int .i64 e.fr, .int .i64 e.to, .int .i64 e.kd, .int .i64 e.dst, .int .i64 e.arr, .int .i64 e.op, .int .i64 e.av, .int .i64 e.an, .int .i64 e.bv, .int .i64 e.bn] 56) = w0 at *
  have hw0 : Hid (w.heap.size ≤ w0.heap.size) := hid n0.size
  generalize e.dst = v3 at *
  generalize e.av = v6 at *
  generalize e.bv = v8 at *
  by_cases c0 : 0 ≤ v3
  · skip
    have b0 : Hid (0 ≤ v3) := hid c0
    have t0 : decide (0 ≤ v3) = true := decide_eq_true c0
    clear c0
    have k1 := Blk.new w0 3 #[.int .i64 v3]
    have n1 := new1 w0 (.cells #[.int .i64 v3] 3)
    have oo := hid (show AtInt.Own (w0.alloc (.cells #[.int .i64 v3] 3)) w0.heap.size none 0 [] from World.ownsRow_nil _ _ _ _)
    have rr := hid (r0.trans (n1.mono r0.size))
    go_upto_region 4 with (at_builtin; go_loud (refine AtInt.wpList_append_one _ _ _ rfl rfl Try.underlying48 w0.heap.size none 0 [] rfl oo.out w0.heap.size v3 [v3] rfl k1 rfl (by simp) rr.out.size ?_); intro A1_0 c1_0 w1_0 own1_0 rb)
    replace r0 := rr.out.trans rb
    clear k1 n1 oo rr rb
    clear t0 x3'
    replace x6' := x6 _ r0
    replace x8' := x8 _ r0
    by_cases c1 : 0 ≤ v6
    · skip
      have b1 : Hid (0 ≤ v6) := hid c1
      have t1 : decide (0 ≤ v6) = true := decide_eq_true c1
      clear c1
      have k1 := Blk.new w1_0 3 #[.int .i64 v6]
      have n1 := new1 w1_0 (.cells #[.int .i64 v6] 3)
      have oo := hid (own1_0.below n1)
      have rr := hid (r0.trans (n1.mono r0.size))
      go_upto_region 6 with (at_builtin; go_loud (refine AtInt.wpList_append_one _ _ _ rfl rfl Try.underlying48 w0.heap.size A1_0 c1_0 [v3] rfl oo.out w1_0.heap.size v6 [v3, v6] rfl k1 rfl (by simp) rr.out.size ?_); intro A2_1 c2_1 w2_1 own2_1 rb)
      replace r0 := rr.out.trans rb
      clear k1 n1 oo rr rb own1_0
      clear t1 x6'
      replace x8' := x8 _ r0
      by_cases c2 : 0 ≤ v8
      · skip
        have b2 : Hid (0 ≤ v8) := hid c2
        have t2 : decide (0 ≤ v8) = true := decide_eq_true c2
        clear c2
        have k1 := Blk.new w2_1 3 #[.int .i64 v8]
        have n1 := new1 w2_1 (.cells #[.int .i64 v8] 3)
        have oo := hid (own2_1.below n1)
        have rr := hid (r0.trans (n1.mono r0.size))
        go_upto_region 8 with (at_builtin; go_loud (refine AtInt.wpList_append_one _ _ _ rfl rfl Try.underlying48 w0.heap.size A2_1 c2_1 [v3, v6] rfl oo.out w2_1.heap.size v8 [v3, v6, v8] rfl k1 rfl (by simp) rr.out.size ?_); intro A3_2 c3_2 w3_2 own3_2 rb)
        replace r0 := rr.out.trans rb
        clear k1 n1 oo rr rb own2_1
        clear t2 x8'
        go_wp2
        go_ret
        have hl : varsE e = [v3, v6, v8] := by rw [HV.out]; simp [b0.out, b1.out, b2.out]
        rw [hl]
        exact ⟨A3_2, c3_2, rfl, AtInt.Own.less own3_2 hw0.out, n0.trans (r0.mono hw0.out)⟩
      · skip
        have b2 : Hid (¬ (0 ≤ v8)) := hid c2
        have t2 : decide (0 ≤ v8) = false := decide_eq_false c2
        clear c2
        go_upto_region 8 with fail
        clear t2 x8'
        go_wp2
        go_ret
        have hl : varsE e = [v3, v6] := by rw [HV.out]; simp [b0.out, b1.out, b2.out]
        rw [hl]
        exact ⟨A2_1, c2_1, rfl, AtInt.Own.less own2_1 hw0.out, n0.trans (r0.mono hw0.out)⟩
    · skip
      have b1 : Hid (¬ (0 ≤ v6)) := hid c1
      have t1 : decide (0 ≤ v6) = false := decide_eq_false c1
      clear c1
      go_upto_region 6 with fail
      clear t1 x6'
      by_cases c2 : 0 ≤ v8
      · skip
        have b2 : Hid (0 ≤ v8) := hid c2
        have t2 : decide (0 ≤ v8) = true := decide_eq_true c2
        clear c2
        have k1 := Blk.new w1_0 3 #[.int .i64 v8]
        have n1 := new1 w1_0 (.cells #[.int .i64 v8] 3)
        have oo := hid (own1_0.below n1)
        have rr := hid (r0.trans (n1.mono r0.size))
        go_upto_region 8 with (at_builtin; go_loud (refine AtInt.wpList_append_one _ _ _ rfl rfl Try.underlying48 w0.heap.size A1_0 c1_0 [v3] rfl oo.out w1_0.heap.size v8 [v3, v8] rfl k1 rfl (by simp) rr.out.size ?_); intro A2_2 c2_2 w2_2 own2_2 rb)
        replace r0 := rr.out.trans rb
        clear k1 n1 oo rr rb own1_0
        clear t2 x8'
        go_wp2
        go_ret
        have hl : varsE e = [v3, v8] := by rw [HV.out]; simp [b0.out, b1.out, b2.out]
        rw [hl]
        exact ⟨A2_2, c2_2, rfl, AtInt.Own.less own2_2 hw0.out, n0.trans (r0.mono hw0.out)⟩
      · skip
        have b2 : Hid (¬ (0 ≤ v8)) := hid c2
        have t2 : decide (0 ≤ v8) = false := decide_eq_false c2
        clear c2
        go_upto_region 8 with fail
        clear t2 x8'
        go_wp2
        go_ret
        have hl : varsE e = [v3] := by rw [HV.out]; simp [b0.out, b1.out, b2.out]
        rw [hl]
        exact ⟨A1_0, c1_0, rfl, AtInt.Own.less own1_0 hw0.out, n0.trans (r0.mono hw0.out)⟩
  · skip
    have b0 : Hid (¬ (0 ≤ v3)) := hid c0
    have t0 : decide (0 ≤ v3) = false := decide_eq_false c0
    clear c0
    go_upto_region 4 with fail
    clear t0 x3'
    by_cases c1 : 0 ≤ v6
    · skip
      have b1 : Hid (0 ≤ v6) := hid c1
      have t1 : decide (0 ≤ v6) = true := decide_eq_true c1
      clear c1
      have k1 := Blk.new w0 3 #[.int .i64 v6]
      have n1 := new1 w0 (.cells #[.int .i64 v6] 3)
      have oo := hid (show AtInt.Own (w0.alloc (.cells #[.int .i64 v6] 3)) w0.heap.size none 0 [] from World.ownsRow_nil _ _ _ _)
      have rr := hid (r0.trans (n1.mono r0.size))
      go_upto_region 6 with (at_builtin; go_loud (refine AtInt.wpList_append_one _ _ _ rfl rfl Try.underlying48 w0.heap.size none 0 [] rfl oo.out w0.heap.size v6 [v6] rfl k1 rfl (by simp) rr.out.size ?_); intro A1_1 c1_1 w1_1 own1_1 rb)
      replace r0 := rr.out.trans rb
      clear k1 n1 oo rr rb
      clear t1 x6'
      replace x8' := x8 _ r0
      by_cases c2 : 0 ≤ v8
      · skip
        have b2 : Hid (0 ≤ v8) := hid c2
        have t2 : decide (0 ≤ v8) = true := decide_eq_true c2
        clear c2
        have k1 := Blk.new w1_1 3 #[.int .i64 v8]
        have n1 := new1 w1_1 (.cells #[.int .i64 v8] 3)
        have oo := hid (own1_1.below n1)
        have rr := hid (r0.trans (n1.mono r0.size))
        go_upto_region 8 with (at_builtin; go_loud (refine AtInt.wpList_append_one _ _ _ rfl rfl Try.underlying48 w0.heap.size A1_1 c1_1 [v6] rfl oo.out w1_1.heap.size v8 [v6, v8] rfl k1 rfl (by simp) rr.out.size ?_); intro A2_2 c2_2 w2_2 own2_2 rb)
        replace r0 := rr.out.trans rb
        clear k1 n1 oo rr rb own1_1
        clear t2 x8'
        go_wp2
        go_ret
        have hl : varsE e = [v6, v8] := by rw [HV.out]; simp [b0.out, b1.out, b2.out]
        rw [hl]
        exact ⟨A2_2, c2_2, rfl, AtInt.Own.less own2_2 hw0.out, n0.trans (r0.mono hw0.out)⟩
      · skip
        have b2 : Hid (¬ (0 ≤ v8)) := hid c2
        have t2 : decide (0 ≤ v8) = false := decide_eq_false c2
        clear c2
        go_upto_region 8 with fail
        clear t2 x8'
        go_wp2
        go_ret
        have hl : varsE e = [v6] := by rw [HV.out]; simp [b0.out, b1.out, b2.out]
        rw [hl]
        exact ⟨A1_1, c1_1, rfl, AtInt.Own.less own1_1 hw0.out, n0.trans (r0.mono hw0.out)⟩
    · skip
      have b1 : Hid (¬ (0 ≤ v6)) := hid c1
      have t1 : decide (0 ≤ v6) = false := decide_eq_false c1
      clear c1
      go_upto_region 6 with fail
      clear t1 x6'
      by_cases c2 : 0 ≤ v8
      · skip
        have b2 : Hid (0 ≤ v8) := hid c2
        have t2 : decide (0 ≤ v8) = true := decide_eq_true c2
        clear c2
        have k1 := Blk.new w0 3 #[.int .i64 v8]
        have n1 := new1 w0 (.cells #[.int .i64 v8] 3)
        have oo := hid (show AtInt.Own (w0.alloc (.cells #[.int .i64 v8] 3)) w0.heap.size none 0 [] from World.ownsRow_nil _ _ _ _)
        have rr := hid (r0.trans (n1.mono r0.size))
        go_upto_region 8 with (at_builtin; go_loud (refine AtInt.wpList_append_one _ _ _ rfl rfl Try.underlying48 w0.heap.size none 0 [] rfl oo.out w0.heap.size v8 [v8] rfl k1 rfl (by simp) rr.out.size ?_); intro A1_2 c1_2 w1_2 own1_2 rb)
        replace r0 := rr.out.trans rb
        clear k1 n1 oo rr rb
        clear t2 x8'
        go_wp2
        go_ret
        have hl : varsE e = [v8] := by rw [HV.out]; simp [b0.out, b1.out, b2.out]
        rw [hl]
        exact ⟨A1_2, c1_2, rfl, AtInt.Own.less own1_2 hw0.out, n0.trans (r0.mono hw0.out)⟩
      · skip
        have b2 : Hid (¬ (0 ≤ v8)) := hid c2
        have t2 : decide (0 ≤ v8) = false := decide_eq_false c2
        clear c2
        go_upto_region 8 with fail
        clear t2 x8'
        go_wp2
        go_ret
        have hl : varsE e = [] := by rw [HV.out]; simp [b0.out, b1.out, b2.out]
        rw [hl]
        exact ⟨none, 0, rfl, World.ownsRow_nil _ _ _ _, n0.trans (r0.mono hw0.out)⟩
end Go.Proofs.Ytofmidhkiobldaa
