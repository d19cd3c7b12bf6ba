/-
  thin.Needed, gnomonref28.Needed: what they answer.
-/
import Derived.Test.YtanbplidigokgaaThinLaw
import Derived.Test.YtanbplidigokgaaROpen
import Derived.Test.YtanbplidigokgaaRef13
namespace Go.Proofs.Ytanbplidigokgaa
open Go.RowKit
attribute [local go_sem ↓] Go.wp_at_zero Go.wp_at_succ

section
variable {P : Program} {ops : Array Oper} {Q : Exit → Act → World → Prop} {w0 : World}
/-- A call whose operands are known by the facts of the steps that it waits for. -/
theorem FlowE.callF {m k : Nat} {p : Value → World → World → Prop} {sl : List Sp} {o : Oper} {rest : List Oper} {a : Act} {fs : Nat → World → Prop} {iv : Nat → Nat × Nat} (hw : Region.wanted o (yielded ops a.tmps) = true)
    (h : ∀ w, Ext w0 w → (∀ i, reachB .any ops i ops.size k = true → fs i w) → ∃ f args, (execOp a.eval o).run P w = .ok (.enter f args) w ∧ Calls P f args w fun e w2 => ∃ v, e = .returned v ∧ Ext w w2 ∧ p v w w2) (hr : ∀ v lo hi, FlowE P ops Q w0 m sl rest (k + 1) (a.put o.dst v) (upd fs k (Sp.fact w0 (Sp.any p) v lo hi)) (updI iv k (lo, hi))) :
    FlowE P ops Q w0 (m + 1) (Sp.any p :: sl) (o :: rest) k a fs iv :=
  FlowE.stepF hw (fun w hS hf K hK => by
    obtain ⟨f, args, he, hc⟩ := h w hS hf
    unfold Oper.wp; rw [he]
    exact hc.mono fun e w2 ⟨v, he, h1, h2⟩ => by subst he; exact hK _ _ h1 h2) hr
end

def badCell (o : O) (i j : Int) : Bool := o.e || ((i == j) || (decide (i < 0) || (decide (2 * o.n ≤ i) || (decide (j < 0) || decide (2 * o.n ≤ j)))))
/-- Whether a cell does not come back; the error. -/
def needAns (o : O) (i j : Int) : Bool × Int :=
  if check o = 0 then (if badCell o i j then (false, 122) else (!eqO (closeO ⟨o.n, false, openM (2 * o.n).toNat i.toNat j.toNat o.m⟩) (closeO o), 0)) else (false, check o)
def NeedRes (w : World) (x : Bool × Int) (e : Ending) (w' : World) : Prop := e = .returned (.tuple #[.bool x.1, .int .i64 x.2]) ∧ Below w.heap.size w w'
theorem needAns_bad {o : O} {i j : Int} (hk : check o = 0) (hb : badCell o i j = true) : needAns o i j = (false, 122) := by unfold needAns; rw [if_pos hk, if_pos hb]
theorem needAns_er {o : O} {i j : Int} (hk : check o ≠ 0) : needAns o i j = (false, check o) := by unfold needAns; rw [if_neg hk]
theorem eqO_comm (a b : O) : eqO a b = eqO b a := by unfold eqO; rw [Bool.eq_iff_iff]; simp only [Bool.and_eq_true, decide_eq_true_eq]; constructor <;> (intro h; simp_all)

set_option maxRecDepth 8000 in
set_option maxHeartbeats 1000000 in
theorem tneed_er (o : O) (i j : Int) (A : Option Addr) (c : Nat) (w : World) (hx : Rd w w.heap.size A o.m) (hm : o.m.length ≤ 17592186044416) (hk : check o ≠ 0) :
    Calls Try.prog 26 #[.agg #[.int .i64 o.n, .bool o.e, .slice A o.m.length c], .int .i64 i, .int .i64 j] w (NeedRes w (false, check o)) := by
  have hb0 : Below w.heap.size w (w.alloc (Obj.cells #[.int .i64 o.n, .bool o.e, .slice A o.m.length c] 24)) := new1 _ _
  have HC := hid (check_any o A c _ (hx.up hb0) (by omega))
  have tk : (check o != 0) = true := by simpa using hk
  go_enter Try.func26, Try.ntmps26
  go_wp2_with fail
  refine HC.out.mono ?_
  clear HC
  rintro e1 w1 ⟨rfl, hb1⟩
  generalize check o = er at *
  clear hk
  go_wp2
  refine bodyPost_ret (v := .tuple #[.bool false, .int .i64 er]) (by simp [results, Try.results26, go_sem]) rfl ⟨rfl, bup hb0 hb1⟩

set_option maxRecDepth 8000 in
set_option maxHeartbeats 4000000 in
theorem tneed_bad (n : Int) (e : Bool) (m : List Int) (i j : Int) (A : Option Addr) (c : Nat) (w : World) (hx : Rd w w.heap.size A m) (hm : m.length ≤ 17592186044416) (hk : check ⟨n, e, m⟩ = 0) (hb : badCell ⟨n, e, m⟩ i j = true) :
    Calls Try.prog 26 #[.agg #[.int .i64 n, .bool e, .slice A m.length c], .int .i64 i, .int .i64 j] w (NeedRes w (false, 122)) := by
  obtain ⟨n0, n1, -, -⟩ := check_ok hk
  dsimp only at n0 n1
  have hn0 : 0 ≤ 2 * n := by omega
  have hn1 : 2 * n ≤ 128 := by omega
  have HK := hid hk
  have HB := hid hb
  clear hk hb
  cases e
  rotate_left
  ·
    have HC := hid (check_any ⟨n, true, m⟩ A c _ (hx.up (new1 w (Obj.cells #[.int .i64 n, .bool true, .slice A m.length c] 24))) (by dsimp only; omega))
    dsimp only at HC
    go_enter Try.func26, Try.ntmps26
    go_wp2_with fail
    refine HC.out.mono ?_
    clear HC
    rw [HK.out]
    have hb0 := new1 w (Obj.cells #[.int .i64 n, .bool true, .slice A m.length c] 24)
    have p0 := Blk.new w 24 #[.int .i64 n, .bool true, .slice A m.length c]
    rintro e1 w1 ⟨rfl, hb1⟩
    replace p0 := p0.later hb1
    obtain ⟨x0, x1, x2, fx⟩ := octbox p0
    go_wp2
    refine bodyPost_ret (v := .tuple #[.bool false, .int .i64 122]) (by simp [results, Try.results26, go_sem]) rfl ⟨rfl, bup hb0 hb1⟩
  cases tQ : (i == j)
  rotate_left
  ·
    have HC := hid (check_any ⟨n, false, m⟩ A c _ (hx.up (new1 w (Obj.cells #[.int .i64 n, .bool false, .slice A m.length c] 24))) (by dsimp only; omega))
    dsimp only at HC
    go_enter Try.func26, Try.ntmps26
    go_wp2_with fail
    refine HC.out.mono ?_
    clear HC
    rw [HK.out]
    have hb0 := new1 w (Obj.cells #[.int .i64 n, .bool false, .slice A m.length c] 24)
    have p0 := Blk.new w 24 #[.int .i64 n, .bool false, .slice A m.length c]
    rintro e1 w1 ⟨rfl, hb1⟩
    replace p0 := p0.later hb1
    obtain ⟨x0, x1, x2, fx⟩ := octbox p0
    go_wp2
    refine bodyPost_ret (v := .tuple #[.bool false, .int .i64 122]) (by simp [results, Try.results26, go_sem]) rfl ⟨rfl, bup hb0 hb1⟩
  cases tA : decide (i < 0)
  rotate_left
  ·
    have HC := hid (check_any ⟨n, false, m⟩ A c _ (hx.up (new1 w (Obj.cells #[.int .i64 n, .bool false, .slice A m.length c] 24))) (by dsimp only; omega))
    dsimp only at HC
    go_enter Try.func26, Try.ntmps26
    go_wp2_with fail
    refine HC.out.mono ?_
    clear HC
    rw [HK.out]
    have hb0 := new1 w (Obj.cells #[.int .i64 n, .bool false, .slice A m.length c] 24)
    have p0 := Blk.new w 24 #[.int .i64 n, .bool false, .slice A m.length c]
    rintro e1 w1 ⟨rfl, hb1⟩
    replace p0 := p0.later hb1
    obtain ⟨x0, x1, x2, fx⟩ := octbox p0
    go_wp2
    refine bodyPost_ret (v := .tuple #[.bool false, .int .i64 122]) (by simp [results, Try.results26, go_sem]) rfl ⟨rfl, bup hb0 hb1⟩
  cases tB : decide (2 * n ≤ i)
  rotate_left
  ·
    have HC := hid (check_any ⟨n, false, m⟩ A c _ (hx.up (new1 w (Obj.cells #[.int .i64 n, .bool false, .slice A m.length c] 24))) (by dsimp only; omega))
    dsimp only at HC
    go_enter Try.func26, Try.ntmps26
    go_wp2_with fail
    refine HC.out.mono ?_
    clear HC
    rw [HK.out]
    have hb0 := new1 w (Obj.cells #[.int .i64 n, .bool false, .slice A m.length c] 24)
    have p0 := Blk.new w 24 #[.int .i64 n, .bool false, .slice A m.length c]
    rintro e1 w1 ⟨rfl, hb1⟩
    replace p0 := p0.later hb1
    obtain ⟨x0, x1, x2, fx⟩ := octbox p0
    go_wp2
    refine bodyPost_ret (v := .tuple #[.bool false, .int .i64 122]) (by simp [results, Try.results26, go_sem]) rfl ⟨rfl, bup hb0 hb1⟩
  cases tC : decide (j < 0)
  rotate_left
  ·
    have HC := hid (check_any ⟨n, false, m⟩ A c _ (hx.up (new1 w (Obj.cells #[.int .i64 n, .bool false, .slice A m.length c] 24))) (by dsimp only; omega))
    dsimp only at HC
    go_enter Try.func26, Try.ntmps26
    go_wp2_with fail
    refine HC.out.mono ?_
    clear HC
    rw [HK.out]
    have hb0 := new1 w (Obj.cells #[.int .i64 n, .bool false, .slice A m.length c] 24)
    have p0 := Blk.new w 24 #[.int .i64 n, .bool false, .slice A m.length c]
    rintro e1 w1 ⟨rfl, hb1⟩
    replace p0 := p0.later hb1
    obtain ⟨x0, x1, x2, fx⟩ := octbox p0
    go_wp2
    refine bodyPost_ret (v := .tuple #[.bool false, .int .i64 122]) (by simp [results, Try.results26, go_sem]) rfl ⟨rfl, bup hb0 hb1⟩
  cases tD : decide (2 * n ≤ j)
  rotate_left
  ·
    have HC := hid (check_any ⟨n, false, m⟩ A c _ (hx.up (new1 w (Obj.cells #[.int .i64 n, .bool false, .slice A m.length c] 24))) (by dsimp only; omega))
    dsimp only at HC
    go_enter Try.func26, Try.ntmps26
    go_wp2_with fail
    refine HC.out.mono ?_
    clear HC
    rw [HK.out]
    have hb0 := new1 w (Obj.cells #[.int .i64 n, .bool false, .slice A m.length c] 24)
    have p0 := Blk.new w 24 #[.int .i64 n, .bool false, .slice A m.length c]
    rintro e1 w1 ⟨rfl, hb1⟩
    replace p0 := p0.later hb1
    obtain ⟨x0, x1, x2, fx⟩ := octbox p0
    go_wp2
    refine bodyPost_ret (v := .tuple #[.bool false, .int .i64 122]) (by simp [results, Try.results26, go_sem]) rfl ⟨rfl, bup hb0 hb1⟩
  exact absurd HB.out (by unfold badCell; simp only [*]; decide)

set_option maxRecDepth 8000 in
set_option maxHeartbeats 4000000 in
theorem tneed_ok (n : Int) (m : List Int) (N i j : Nat) (A : Option Addr) (c : Nat) (w : World) (hx : Rd w w.heap.size A m) (hm : m.length ≤ 17592186044416) (hk : check ⟨n, false, m⟩ = 0) (hN : (N : Int) = 2 * n) (hi : i < N) (hj : j < N) (hij : i ≠ j) :
    Calls Try.prog 26 #[.agg #[.int .i64 n, .bool false, .slice A m.length c], .int .i64 (i : Int), .int .i64 (j : Int)] w (NeedRes w (!eqO (closeO ⟨n, false, openM N i j m⟩) (closeO ⟨n, false, m⟩), 0)) := by
  obtain ⟨n0, n1, -, -⟩ := check_ok hk
  dsimp only at n0 n1
  have hn0 : 0 ≤ 2 * n := by omega
  have hn1 : 2 * n ≤ 128 := by omega
  have hnN : N ≤ 128 := by omega
  have hC := cells_of hN hk
  have hC2 := openM_cells (by omega) hC hi hj hij
  have hk2 := check_of hN hnN hC2
  have HE : Hid (equalB (closedO ⟨n, false, openM N i j m⟩) (closedO ⟨n, false, m⟩) = eqO (closeO ⟨n, false, openM N i j m⟩) (closeO ⟨n, false, m⟩)) := hid (by rw [closedO_ok hk2, closedO_ok hk]; exact equalB_ok (closeO_check hk2) (closeO_check hk))
  have hml : (openM N i j m).length ≤ 17592186044416 := by rw [openM_len]; exact hm
  have HK := hid hk
  have HL := hid hC.len
  have HN := hid hN
  have tQ : (((i : Nat) : Int) == ((j : Nat) : Int)) = false := by rw [beq_eq_false_iff_ne]; omega
  have tA : decide (((i : Nat) : Int) < 0) = false := by rw [decide_eq_false_iff_not]; omega
  have tB : decide (2 * n ≤ ((i : Nat) : Int)) = false := by rw [decide_eq_false_iff_not]; omega
  have tC : decide (((j : Nat) : Int) < 0) = false := by rw [decide_eq_false_iff_not]; omega
  have tD : decide (2 * n ≤ ((j : Nat) : Int)) = false := by rw [decide_eq_false_iff_not]; omega
  have HC := hid (check_any ⟨n, false, m⟩ A c _ (hx.up (new1 w (Obj.cells #[.int .i64 n, .bool false, .slice A m.length c] 24))) (by dsimp only; omega))
  dsimp only at HC
  clear hk hk2 hC hC2 hN
  go_enter Try.func26, Try.ntmps26
  go_wp2_with fail
  refine HC.out.mono ?_
  clear HC
  rw [HK.out]
  have hb0 := new1 w (Obj.cells #[.int .i64 n, .bool false, .slice A m.length c] 24)
  have p0 := Blk.new w 24 #[.int .i64 n, .bool false, .slice A m.length c]
  rintro e1 w1 ⟨rfl, hb1⟩
  replace p0 := p0.later hb1
  replace hx := hx.up (bup hb0 hb1)
  replace hb0 := bup hb0 hb1
  clear hb1
  obtain ⟨x0, x1, x2, fx⟩ := octbox p0
  go_upto_region 6 with fail
  have f0 := laterE x0
  have f1 := laterE x1
  have f2 := laterE x2
  clear x0 x1 x2 fx
  generalize hz1 : closedO ⟨n, false, openM N i j m⟩ = z1 at HE
  generalize hz2 : closedO ⟨n, false, m⟩ = z2 at HE
  have hzm1 : z1.m.length ≤ 17592186044416 := by rw [← hz1]; exact Nat.le_trans (closedO_m_le _) hml
  have hzm2 : z2.m.length ≤ 17592186044416 := by rw [← hz2]; exact Nat.le_trans (closedO_m_le _) hm
  refine wp_region_flowE 6 [Sp.val (.agg #[.int .i64 n, .bool false, .slice A m.length c]), Sp.val (.int .i64 (i : Int)), Sp.val (.int .i64 (j : Int)), Sp.any (IsOct ⟨n, false, openM N i j m⟩), Sp.any (IsOct z1), Sp.val (.agg #[.int .i64 n, .bool false, .slice A m.length c])] (by kernel_rfl) (by kernel_rfl) ?_
  (refine FlowE.take (by rfl) (fun W hW R hR => ?_) (fun _ _ => ?_); (go_simp; (try go_bits); with_reducible exact hR); simp only [Act.put, List.setIfInBounds_toArray, List.set_cons_zero, List.set_cons_succ])
  (refine FlowE.take (by rfl) (fun W hW R hR => ?_) (fun _ _ => ?_); (go_simp; (try go_bits); with_reducible exact hR); simp only [Act.put, List.setIfInBounds_toArray, List.set_cons_zero, List.set_cons_succ])
  (refine FlowE.take (by rfl) (fun W hW R hR => ?_) (fun _ _ => ?_); (go_simp; (try go_bits); with_reducible exact hR); simp only [Act.put, List.setIfInBounds_toArray, List.set_cons_zero, List.set_cons_succ])
  refine FlowE.call 59 #[.agg #[.int .i64 n, .bool false, .slice A m.length c], .int .i64 (i : Int), .int .i64 (j : Int)] (by rfl) (fun W hW => by go_simp) (fun W hW => (without_any n false m N i j A c W (hx.up (Ext.trans (Below.refl _ _).drew hW)) hm HN.out hnN HL.out hi hj).mono fun _ _ ⟨A1, c1, he, ho, hb⟩ => ⟨_, he, hb, A1, c1, rfl, ho⟩) (fun v3 l3 h3 => ?_)
  simp only [Act.put, List.setIfInBounds_toArray, List.set_cons_zero, List.set_cons_succ]
  refine FlowE.callF (by rfl) (fun W hW hf => ?_) (fun v4 l4 h4 => ?_)
  · obtain ⟨A1, c1, rfl, o1, _, _, _⟩ := fact_oct (show Sp.fact w1.drew (Sp.any (IsOct ⟨n, false, openM N i j m⟩)) v3 l3 h3 W from hf 3 (by kernel_rfl))
    refine ⟨58, #[.agg #[.int .i64 n, .bool false, .slice A1 (openM N i j m).length c1]], by go_simp, ?_⟩
    exact (thclosed_any ⟨n, false, openM N i j m⟩ A1 c1 W o1.rd hml).mono fun _ _ ⟨A1, c1, he, ho, hb⟩ => ⟨_, he, hb, A1, c1, by rw [← hz1], by rw [← hz1]; exact ho⟩
  simp only [Act.put, List.setIfInBounds_toArray, List.set_cons_zero, List.set_cons_succ]
  (refine FlowE.take (by rfl) (fun W hW R hR => ?_) (fun _ _ => ?_); (go_simp; (try go_bits); with_reducible exact hR); simp only [Act.put, List.setIfInBounds_toArray, List.set_cons_zero, List.set_cons_succ])
  refine FlowE.tail (fun W hW hf hd => ?_)
  replace hW : Below w1.heap.size w1 W := Ext.trans (Below.refl _ _).drew hW
  obtain ⟨A4, c4, rfl, o4, _, _, _⟩ := fact_oct (show Sp.fact w1.drew (Sp.any (IsOct z1)) v4 l4 h4 W from hf 4)
  clear hf hd f0 f1 f2
  replace hb0 := bup hb0 hW
  have HC := hid (thclosed_any ⟨n, false, m⟩ A c W (hx.up hW) hm)
  rw [hz2] at HC
  dsimp only at HC
  go_wp2_with fail
  refine HC.out.mono ?_
  clear HC
  rintro e5 w5 ⟨A5, c5, rfl, o5, hb5⟩
  go_wp2_with fail
  refine (dequal_any z1 z2 A4 A5 c4 c5 w5 (o4.rd.up hb5) o5.rd hzm1 hzm2).mono ?_
  rw [HE.out]
  rintro e6 w6 ⟨rfl, hb6⟩
  generalize eqO (closeO ⟨n, false, openM N i j m⟩) (closeO ⟨n, false, m⟩) = b at *
  clear HE
  go_wp2
  refine bodyPost_ret (v := .tuple #[.bool (!b), .int .i64 0]) (by simp [results, Try.results26, go_sem]) rfl ⟨rfl, bup (bup hb0 hb5) hb6⟩

theorem tneed_any (o : O) (i j : Int) (A : Option Addr) (c : Nat) (w : World) (hx : Rd w w.heap.size A o.m) (hm : o.m.length ≤ 17592186044416) :
    Calls Try.prog 26 #[.agg #[.int .i64 o.n, .bool o.e, .slice A o.m.length c], .int .i64 i, .int .i64 j] w (NeedRes w (needAns o i j)) := by
  by_cases hk : check o = 0
  · cases hb : badCell o i j
    · obtain ⟨n, e, m⟩ := o
      have hb' := hb
      unfold badCell at hb
      simp only [Bool.or_eq_false_iff, decide_eq_false_iff_not, beq_eq_false_iff_ne] at hb
      obtain ⟨rfl, hij, h1, h2, h3, h4⟩ := hb
      obtain ⟨i, rfl⟩ : ∃ k : Nat, i = (k : Int) := ⟨i.toNat, by omega⟩
      obtain ⟨j, rfl⟩ : ∃ k : Nat, j = (k : Int) := ⟨j.toNat, by omega⟩
      have e : needAns ⟨n, false, m⟩ (i : Int) (j : Int) = (!eqO (closeO ⟨n, false, openM (2 * n).toNat i j m⟩) (closeO ⟨n, false, m⟩), 0) := by unfold needAns; rw [if_pos hk, if_neg (by rw [hb']; decide)]; rfl
      rw [e]
      exact tneed_ok n m (2 * n).toNat i j A c w hx hm hk (by omega) (by omega) (by omega) (by omega)
    · rw [needAns_bad hk hb]
      exact tneed_bad o.n o.e o.m i j A c w hx hm hk hb
  · rw [needAns_er hk]
    exact tneed_er o i j A c w hx hm hk

set_option maxRecDepth 8000 in
set_option maxHeartbeats 1000000 in
theorem rneed_er (o : O) (i j : Int) (A : Option Addr) (c : Nat) (w : World) (hx : Rd w w.heap.size A o.m) (hm : o.m.length ≤ 17592186044416) (hk : check o ≠ 0) :
    Calls Try.prog 27 #[.agg #[.int .i64 o.n, .bool o.e, .slice A o.m.length c], .int .i64 i, .int .i64 j] w (NeedRes w (false, check o)) := by
  have hb0 : Below w.heap.size w (w.alloc (Obj.cells #[.int .i64 o.n, .bool o.e, .slice A o.m.length c] 24)) := new1 _ _
  have HC := hid (rcheck_any o A c _ (hx.up hb0) (by omega))
  have tk : (check o != 0) = true := by simpa using hk
  go_enter Try.func27, Try.ntmps27
  go_wp2_with fail
  refine HC.out.mono ?_
  clear HC
  rintro e1 w1 ⟨rfl, hb1⟩
  generalize check o = er at *
  clear hk
  go_wp2
  refine bodyPost_ret (v := .tuple #[.bool false, .int .i64 er]) (by simp [results, Try.results27, go_sem]) rfl ⟨rfl, bup hb0 hb1⟩

set_option maxRecDepth 8000 in
set_option maxHeartbeats 4000000 in
theorem rneed_bad (n : Int) (e : Bool) (m : List Int) (i j : Int) (A : Option Addr) (c : Nat) (w : World) (hx : Rd w w.heap.size A m) (hm : m.length ≤ 17592186044416) (hk : check ⟨n, e, m⟩ = 0) (hb : badCell ⟨n, e, m⟩ i j = true) :
    Calls Try.prog 27 #[.agg #[.int .i64 n, .bool e, .slice A m.length c], .int .i64 i, .int .i64 j] w (NeedRes w (false, 122)) := by
  obtain ⟨n0, n1, -, -⟩ := check_ok hk
  dsimp only at n0 n1
  have hn0 : 0 ≤ 2 * n := by omega
  have hn1 : 2 * n ≤ 128 := by omega
  have HK := hid hk
  have HB := hid hb
  clear hk hb
  cases tA : decide (i < 0)
  rotate_left
  ·
    have HC := hid (rcheck_any ⟨n, e, m⟩ A c _ (hx.up (new1 w (Obj.cells #[.int .i64 n, .bool e, .slice A m.length c] 24))) (by dsimp only; omega))
    dsimp only at HC
    go_enter Try.func27, Try.ntmps27
    go_wp2_with fail
    refine HC.out.mono ?_
    clear HC
    rw [HK.out]
    have hb0 := new1 w (Obj.cells #[.int .i64 n, .bool e, .slice A m.length c] 24)
    have p0 := Blk.new w 24 #[.int .i64 n, .bool e, .slice A m.length c]
    rintro e1 w1 ⟨rfl, hb1⟩
    replace p0 := p0.later hb1
    obtain ⟨x0, x1, x2, fx⟩ := octbox p0
    go_wp2
    refine bodyPost_ret (v := .tuple #[.bool false, .int .i64 122]) (by simp [results, Try.results27, go_sem]) rfl ⟨rfl, bup hb0 hb1⟩
  cases tB : decide (2 * n ≤ i)
  rotate_left
  ·
    have HC := hid (rcheck_any ⟨n, e, m⟩ A c _ (hx.up (new1 w (Obj.cells #[.int .i64 n, .bool e, .slice A m.length c] 24))) (by dsimp only; omega))
    dsimp only at HC
    go_enter Try.func27, Try.ntmps27
    go_wp2_with fail
    refine HC.out.mono ?_
    clear HC
    rw [HK.out]
    have hb0 := new1 w (Obj.cells #[.int .i64 n, .bool e, .slice A m.length c] 24)
    have p0 := Blk.new w 24 #[.int .i64 n, .bool e, .slice A m.length c]
    rintro e1 w1 ⟨rfl, hb1⟩
    replace p0 := p0.later hb1
    obtain ⟨x0, x1, x2, fx⟩ := octbox p0
    go_wp2
    refine bodyPost_ret (v := .tuple #[.bool false, .int .i64 122]) (by simp [results, Try.results27, go_sem]) rfl ⟨rfl, bup hb0 hb1⟩
  cases tC : decide (j < 0)
  rotate_left
  ·
    have HC := hid (rcheck_any ⟨n, e, m⟩ A c _ (hx.up (new1 w (Obj.cells #[.int .i64 n, .bool e, .slice A m.length c] 24))) (by dsimp only; omega))
    dsimp only at HC
    go_enter Try.func27, Try.ntmps27
    go_wp2_with fail
    refine HC.out.mono ?_
    clear HC
    rw [HK.out]
    have hb0 := new1 w (Obj.cells #[.int .i64 n, .bool e, .slice A m.length c] 24)
    have p0 := Blk.new w 24 #[.int .i64 n, .bool e, .slice A m.length c]
    rintro e1 w1 ⟨rfl, hb1⟩
    replace p0 := p0.later hb1
    obtain ⟨x0, x1, x2, fx⟩ := octbox p0
    go_wp2
    refine bodyPost_ret (v := .tuple #[.bool false, .int .i64 122]) (by simp [results, Try.results27, go_sem]) rfl ⟨rfl, bup hb0 hb1⟩
  cases tD : decide (2 * n ≤ j)
  rotate_left
  ·
    have HC := hid (rcheck_any ⟨n, e, m⟩ A c _ (hx.up (new1 w (Obj.cells #[.int .i64 n, .bool e, .slice A m.length c] 24))) (by dsimp only; omega))
    dsimp only at HC
    go_enter Try.func27, Try.ntmps27
    go_wp2_with fail
    refine HC.out.mono ?_
    clear HC
    rw [HK.out]
    have hb0 := new1 w (Obj.cells #[.int .i64 n, .bool e, .slice A m.length c] 24)
    have p0 := Blk.new w 24 #[.int .i64 n, .bool e, .slice A m.length c]
    rintro e1 w1 ⟨rfl, hb1⟩
    replace p0 := p0.later hb1
    obtain ⟨x0, x1, x2, fx⟩ := octbox p0
    go_wp2
    refine bodyPost_ret (v := .tuple #[.bool false, .int .i64 122]) (by simp [results, Try.results27, go_sem]) rfl ⟨rfl, bup hb0 hb1⟩
  cases tQ : (i == j)
  rotate_left
  ·
    have HC := hid (rcheck_any ⟨n, e, m⟩ A c _ (hx.up (new1 w (Obj.cells #[.int .i64 n, .bool e, .slice A m.length c] 24))) (by dsimp only; omega))
    dsimp only at HC
    go_enter Try.func27, Try.ntmps27
    go_wp2_with fail
    refine HC.out.mono ?_
    clear HC
    rw [HK.out]
    have hb0 := new1 w (Obj.cells #[.int .i64 n, .bool e, .slice A m.length c] 24)
    have p0 := Blk.new w 24 #[.int .i64 n, .bool e, .slice A m.length c]
    rintro e1 w1 ⟨rfl, hb1⟩
    replace p0 := p0.later hb1
    obtain ⟨x0, x1, x2, fx⟩ := octbox p0
    go_wp2
    refine bodyPost_ret (v := .tuple #[.bool false, .int .i64 122]) (by simp [results, Try.results27, go_sem]) rfl ⟨rfl, bup hb0 hb1⟩
  cases e
  · exact absurd HB.out (by unfold badCell; simp only [*]; decide)
  ·
    have HC := hid (rcheck_any ⟨n, true, m⟩ A c _ (hx.up (new1 w (Obj.cells #[.int .i64 n, .bool true, .slice A m.length c] 24))) (by dsimp only; omega))
    dsimp only at HC
    go_enter Try.func27, Try.ntmps27
    go_wp2_with fail
    refine HC.out.mono ?_
    clear HC
    rw [HK.out]
    have hb0 := new1 w (Obj.cells #[.int .i64 n, .bool true, .slice A m.length c] 24)
    have p0 := Blk.new w 24 #[.int .i64 n, .bool true, .slice A m.length c]
    rintro e1 w1 ⟨rfl, hb1⟩
    replace p0 := p0.later hb1
    obtain ⟨x0, x1, x2, fx⟩ := octbox p0
    go_wp2
    refine bodyPost_ret (v := .tuple #[.bool false, .int .i64 122]) (by simp [results, Try.results27, go_sem]) rfl ⟨rfl, bup hb0 hb1⟩

set_option maxRecDepth 8000 in
set_option maxHeartbeats 4000000 in
theorem rneed_ok (n : Int) (m : List Int) (N i j : Nat) (A : Option Addr) (c : Nat) (w : World) (hx : Rd w w.heap.size A m) (hm : m.length ≤ 17592186044416) (hk : check ⟨n, false, m⟩ = 0) (hN : (N : Int) = 2 * n) (hi : i < N) (hj : j < N) (hij : i ≠ j) :
    Calls Try.prog 27 #[.agg #[.int .i64 n, .bool false, .slice A m.length c], .int .i64 (i : Int), .int .i64 (j : Int)] w (NeedRes w (!eqO (closeO ⟨n, false, openM N i j m⟩) (closeO ⟨n, false, m⟩), 0)) := by
  obtain ⟨n0, n1, -, -⟩ := check_ok hk
  dsimp only at n0 n1
  have hn0 : 0 ≤ 2 * n := by omega
  have hn1 : 2 * n ≤ 128 := by omega
  have hnN : N ≤ 128 := by omega
  have hC := cells_of hN hk
  have hC2 := openM_cells (by omega) hC hi hj hij
  have HK2 := hid (check_of hN hnN hC2)
  have hml : (openM N i j m).length ≤ 17592186044416 := by rw [openM_len]; exact hm
  rw [eqO_comm]
  have HK := hid hk
  have HL := hid hC.len
  have HN := hid hN
  have tQ : (((i : Nat) : Int) == ((j : Nat) : Int)) = false := by rw [beq_eq_false_iff_ne]; omega
  have tA : decide (((i : Nat) : Int) < 0) = false := by rw [decide_eq_false_iff_not]; omega
  have tB : decide (2 * n ≤ ((i : Nat) : Int)) = false := by rw [decide_eq_false_iff_not]; omega
  have tC : decide (((j : Nat) : Int) < 0) = false := by rw [decide_eq_false_iff_not]; omega
  have tD : decide (2 * n ≤ ((j : Nat) : Int)) = false := by rw [decide_eq_false_iff_not]; omega
  have HC := hid (rcheck_any ⟨n, false, m⟩ A c _ (hx.up (new1 w (Obj.cells #[.int .i64 n, .bool false, .slice A m.length c] 24))) (by dsimp only; omega))
  dsimp only at HC
  clear hk hC hC2 hN
  go_enter Try.func27, Try.ntmps27
  go_wp2_with fail
  refine HC.out.mono ?_
  clear HC
  rw [HK.out]
  have hb0 := new1 w (Obj.cells #[.int .i64 n, .bool false, .slice A m.length c] 24)
  have p0 := Blk.new w 24 #[.int .i64 n, .bool false, .slice A m.length c]
  rintro e1 w1 ⟨rfl, hb1⟩
  replace p0 := p0.later hb1
  replace hx := hx.up (bup hb0 hb1)
  replace hb0 := bup hb0 hb1
  clear hb1
  obtain ⟨x0, x1, x2, fx⟩ := octbox p0
  have HR := hid (r13_any ⟨n, false, m⟩ A c w1 hx hm HK.out)
  try dsimp only at HR
  go_wp2_with fail
  clear x0 x1 x2 fx
  refine HR.out.mono ?_
  clear HR
  rintro e2 w2 ⟨A2, c2, b2, rfl, o2, hb2⟩
  replace p0 := p0.later hb2
  replace hx := hx.up hb2
  have HZ1 := hid (Nat.le_trans (closeO_m_le (o := ⟨n, false, m⟩)) hm)
  generalize closeO ⟨n, false, m⟩ = z1 at *
  have n3 := new1 w2 (Obj.cells #[.int .i64 z1.n, .bool z1.e, .slice A2 z1.m.length c2] 24)
  have k3 := Blk.new w2 24 #[.int .i64 z1.n, .bool z1.e, .slice A2 z1.m.length c2]
  have o3 := o2.below n3
  replace hb0 := bup (bup hb0 hb2) n3
  replace p0 := p0.later n3
  replace hx := hx.up n3
  obtain ⟨x0, x1, x2, fx⟩ := octbox p0
  have HR := hid (ropen_any n false m N i j A c _ hx hm HN.out hnN HL.out hi hj)
  try dsimp only at HR
  go_wp2_with fail
  clear x0 x1 x2 fx
  refine HR.out.mono ?_
  clear HR
  generalize w2.alloc (Obj.cells #[.int .i64 z1.n, .bool z1.e, .slice A2 z1.m.length c2] 24) = w3 at *
  generalize w2.heap.size = g3 at *
  rintro e4 w4 ⟨A4, c4, rfl, o4, hb4⟩
  have HR := hid (r13_any ⟨n, false, openM N i j m⟩ A4 c4 w4 o4.rd hml HK2.out)
  try dsimp only at HR
  try dsimp only
  go_wp2_with fail
  refine HR.out.mono ?_
  clear HR
  rintro e5 w5 ⟨A5, c5, b5, rfl, o5, hb5⟩
  have HZ2 := hid (Nat.le_trans (closeO_m_le (o := ⟨n, false, openM N i j m⟩)) hml)
  generalize closeO ⟨n, false, openM N i j m⟩ = z2 at *
  have n6 := new1 w5 (Obj.cells #[.int .i64 z2.n, .bool z2.e, .slice A5 z2.m.length c5] 24)
  have k6 := Blk.new w5 24 #[.int .i64 z2.n, .bool z2.e, .slice A5 z2.m.length c5]
  replace k3 := ((k3.later hb4).later hb5).later n6
  replace hb0 := bup (bup (bup hb0 hb4) hb5) n6
  replace o3 := ((o3.below hb4).below hb5).below n6
  replace o5 := o5.below n6
  obtain ⟨x0, x1, x2, fx⟩ := octbox k3
  obtain ⟨y0, y1, y2, fy⟩ := octbox k6
  have HS := hid (rsame_any z1 z2 A2 A5 c2 c5 _ o3.rd o5.rd HZ1.out HZ2.out)
  go_wp2_with fail
  clear x0 x1 x2 fx y0 y1 y2 fy
  refine HS.out.mono ?_
  generalize eqO z1 z2 = b at *
  clear HS
  rintro e6 w6 ⟨rfl, hb6⟩
  go_wp2
  refine bodyPost_ret (v := .tuple #[.bool (!b), .int .i64 0]) (by simp [results, Try.results27, go_sem]) rfl ⟨rfl, bup hb0 hb6⟩

theorem rneed_any (o : O) (i j : Int) (A : Option Addr) (c : Nat) (w : World) (hx : Rd w w.heap.size A o.m) (hm : o.m.length ≤ 17592186044416) :
    Calls Try.prog 27 #[.agg #[.int .i64 o.n, .bool o.e, .slice A o.m.length c], .int .i64 i, .int .i64 j] w (NeedRes w (needAns o i j)) := by
  by_cases hk : check o = 0
  · cases hb : badCell o i j
    · obtain ⟨n, e, m⟩ := o
      have hb' := hb
      unfold badCell at hb
      simp only [Bool.or_eq_false_iff, decide_eq_false_iff_not, beq_eq_false_iff_ne] at hb
      obtain ⟨rfl, hij, h1, h2, h3, h4⟩ := hb
      obtain ⟨i, rfl⟩ : ∃ k : Nat, i = (k : Int) := ⟨i.toNat, by omega⟩
      obtain ⟨j, rfl⟩ : ∃ k : Nat, j = (k : Int) := ⟨j.toNat, by omega⟩
      have e : needAns ⟨n, false, m⟩ (i : Int) (j : Int) = (!eqO (closeO ⟨n, false, openM (2 * n).toNat i j m⟩) (closeO ⟨n, false, m⟩), 0) := by unfold needAns; rw [if_pos hk, if_neg (by rw [hb']; decide)]; rfl
      rw [e]
      exact rneed_ok n m (2 * n).toNat i j A c w hx hm hk (by omega) (by omega) (by omega) (by omega)
    · rw [needAns_bad hk hb]
      exact rneed_bad o.n o.e o.m i j A c w hx hm hk hb
  · rw [needAns_er hk]
    exact rneed_er o i j A c w hx hm hk
end Go.Proofs.Ytanbplidigokgaa
