/-
  trans.Edge: a variable and a number added to itself.
  FlowE: a step that leans on what the steps yielded that it waits for; an octagon built out of a fresh slice; a fresh box.
  Drawn regions: calls whose operands are known by the facts of earlier steps; a slice that is built.
-/
import Derived.Test.YtnmpgijiimglcaaGreatTEdgeO
import Derived.Test.YtnmpgijiimglcaaGreatLawWX
import Derived.Test.YtnmpgijiimglcaaGreatBox3
namespace Go.Proofs.YtnmpgijiimglcaaGreat
section
open Go.RowKit

theorem edge_self {n : Int} {m : List Int} {fr te arr op an bv bn : Int} {d : Nat} (hb : bv < 0) (hk : -2305843009213693952 ≤ bn ∧ bn ≤ 2305843009213693952) : edgeO ⟨n, false, m⟩ ⟨fr, te, 4, (d : Int), arr, op, (d : Int), an, bv, bn⟩ = closeO ⟨n, false, shiftM (2 * n).toNat d bn m⟩ := by
  unfold edgeO
  dsimp only
  rw [if_neg (by omega), if_neg (by omega), if_neg (by omega), if_neg (by omega), if_neg (by omega), if_pos (by omega), if_neg (by omega)]
  rw [show decide ((4 : Int) = 5) = false from rfl]
  unfold addsO
  rw [if_pos (by omega), if_neg (by omega), if_neg (by decide)]
  unfold shiftO
  rw [if_neg (by omega), if_neg (by simp)]
  simp
theorem shift_sx {n : Int} {m : List Int} {N : Nat} (hN : (N : Int) = 2 * n) (hn : N ≤ 128) (hc : Cells N m) {d : Nat} (hd : (d : Int) < n) {k : Int} (hk : -2305843009213693952 ≤ k ∧ k ≤ 2305843009213693952) {A : Option Addr} {cap B : Nat} {W : World} (hm : m.length ≤ 17592186044416) (hB : B ≤ W.heap.size) (hx : Sx W B A m) :
    Calls Tryz.prog 197 #[.agg #[.int .i64 n, .bool false, .slice A m.length cap], .int .i64 (d : Int), .int .i64 (d : Int), .int .i64 k] W (SxRes W B (closeO ⟨n, false, shiftM N d k m⟩)) :=
  (tshift_self n m N hN hn hc d hd k hk A cap W (hx.rd hB) hm).mono fun _ _ h => h.sx hB
/-- KAdd of a variable and a number, to the variable itself. -/
theorem tEdge_self (o : O) (fr te arr op an bv bn : Int) (d : Nat) (ia : I64 an) (hb : bv < 0) (hk : -2305843009213693952 ≤ bn ∧ bn ≤ 2305843009213693952) (hd : (d : Int) < o.n) (A : Option Addr) (cap : Nat) (w : World) (hx : Rd w w.heap.size A o.m) (hm : o.m.length ≤ 17592186044416) (B : Nat) (hB : B ≤ w.heap.size) :
    Calls Tryz.prog 28 #[.agg #[.int .i64 o.n, .bool o.e, .slice A o.m.length cap], .agg #[.int .i64 fr, .int .i64 te, .int .i64 4, .int .i64 (d : Int), .int .i64 arr, .int .i64 op, .int .i64 (d : Int), .int .i64 an, .int .i64 bv, .int .i64 bn]] w (ErrSx w B (transAns o ⟨fr, te, 4, (d : Int), arr, op, (d : Int), an, bv, bn⟩) (transErr o ⟨fr, te, 4, (d : Int), arr, op, (d : Int), an, bv, bn⟩)) := by
  have ib : I64 bn := by unfold I64; omega
  refine tEdge_any o fr te 4 (d : Int) arr op (d : Int) an bv bn A cap w hx hm B hB fun _ N cm Ac cc W hN hn hc _ hBW hsx hmc => ?_
  rw [edge_self hb hk, show (2 * o.n).toNat = N by omega]
  refine tedge_4vn o.n cm fr te d arr op d an bv bn ia ib (by omega) Ac cc W B hBW hsx _ fun W2 hB2 hx2 => ?_
  exact tadds_4 o.n cm fr te d arr op d an bv bn ia ib (by omega) hb Ac cc W2 B hB2 hx2 _ fun W3 hB3 hx3 => shift_sx hN hn hc hd hk hmc hB3 hx3
end
section
open Go.RowKit

section
variable {P : Program} {ops : Array Oper} {Q : Exit → Act → World → Prop} {w0 : World}
end
end
section
open Go.RowKit

section
variable {P : Program} {ops : Array Oper} {Q : Exit → Act → World → Prop} {w0 : World}
/-- A call whose operands are known by the facts of the steps that it waits for, and whose value is known. -/
theorem FlowE.callFV {m k : Nat} {x : Value} {sl : List Sp} {o : Oper} {rest : List Oper} {a : Act} {fs : Nat → World → Prop} {iv : Nat → Nat × Nat} (hw : Region.wanted o (yielded ops a.tmps) = true)
    (h : ∀ w, Ext w0 w → (∀ i, reachB .any ops i ops.size k = true → fs i w) → ∃ f args, (execOp a.eval o).run P w = .ok (.enter f args) w ∧ Calls P f args w fun e w2 => e = .returned x ∧ Ext w w2) (hr : ∀ lo hi, FlowE P ops Q w0 m sl rest (k + 1) (a.put o.dst x) (upd fs k (Sp.fact w0 (Sp.val x) x lo hi)) (updI iv k (lo, hi))) :
    FlowE P ops Q w0 (m + 1) (Sp.val x :: sl) (o :: rest) k a fs iv := by
  refine ⟨.inl ⟨hw, fun w1 h1 hf K hK => ?_⟩, fun v lo hi hfit => ?_⟩
  · obtain ⟨f, args, he, hc⟩ := h w1 h1 hf
    unfold Oper.wp; rw [he]
    exact hc.mono fun e w2 ⟨he2, h2⟩ => by subst he2; exact hK _ x w2 rfl h2 rfl
  · obtain rfl : v = x := hfit
    exact hr lo hi
/-- An operation whose guard says no. -/
theorem FlowE.skip {m k : Nat} {sl : List Sp} {o : Oper} {rest : List Oper} {a : Act} {fs : Nat → World → Prop} {iv : Nat → Nat × Nat} (hw : Region.wanted o (yielded ops a.tmps) = false)
    (hr : ∀ lo hi, FlowE P ops Q w0 m sl rest (k + 1) (a.put o.dst undef) (upd fs k (Sp.fact w0 (Sp.val undef) undef lo hi)) (updI iv k (lo, hi))) :
    FlowE P ops Q w0 (m + 1) (Sp.val undef :: sl) (o :: rest) k a fs iv :=
  ⟨.inr ⟨hw, rfl⟩, fun v lo hi hfit => by
    obtain rfl : v = undef := hfit
    exact hr lo hi⟩
end
/-- A new block, and a slice over all of it. -/
def IsNew (t : TypeId) (cs : Array Value) (n : Nat) (v : Value) (_ wb : World) : Prop := ∃ g, v = .slice (some ⟨g, 0, none⟩) n n ∧ Blk wb g t cs
theorem fact_new {w0 W : World} {t : TypeId} {cs : Array Value} {n : Nat} {v : Value} {lo hi : Nat} (h : Sp.fact w0 (Sp.any (IsNew t cs n)) v lo hi W) : ∃ g, v = .slice (some ⟨g, 0, none⟩) n n ∧ Blk W g t cs := by
  obtain ⟨wa, wb, _, _, h3, _, _, g, e, k⟩ := h
  exact ⟨g, e, k.later h3⟩
end
end Go.Proofs.YtnmpgijiimglcaaGreat
