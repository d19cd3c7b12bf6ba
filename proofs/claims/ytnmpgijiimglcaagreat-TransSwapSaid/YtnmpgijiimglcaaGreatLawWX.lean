/-
  gnomonlaw22.WidenExact: the law's own walk.
-/
import Derived.Test.YtnmpgijiimglcaaGreatBTS05
import Derived.Test.YtnmpgijiimglcaaGreatFlowE
import Derived.Test.YtnmpgijiimglcaaGreatBox3
namespace Go.Proofs.YtnmpgijiimglcaaGreat
open Go.RowKit
attribute [local go_sem ↓] Go.wp_at_zero Go.wp_at_succ

theorem laterE {w : World} {p : Addr} {v : Value} (h : w.cell? p = some v) : ∀ W, Ext w.drew W → W.cell? p = some v := fun _ hb => cell_later (w := w.drew) hb h
def IsOct (o : O) (v : Value) (wa wb : World) : Prop := ∃ A1 c1, v = .agg #[.int .i64 o.n, .bool o.e, .slice A1 o.m.length c1] ∧ Own wb wa.heap.size A1 c1 o.m
theorem fact_oct {w0 W : World} {o : O} {v : Value} {lo hi : Nat} (h : Sp.fact w0 (Sp.any (IsOct o)) v lo hi W) :
    ∃ A1 c1, v = .agg #[.int .i64 o.n, .bool o.e, .slice A1 o.m.length c1] ∧ Own W lo A1 c1 o.m ∧ w0.heap.size ≤ lo ∧ (∀ g, A1 = some ⟨g, 0, none⟩ → lo ≤ g ∧ g < hi) ∧ hi ≤ W.heap.size := by
  obtain ⟨wa, wb, e1, e2, e3, rfl, rfl, A1, c1, rfl, own⟩ := h
  refine ⟨A1, c1, rfl, own.below e3, e1.size, fun g hg => ?_, e3.size⟩
  rcases own.form with ⟨h, _⟩ | ⟨g', h, h1, h2⟩
  · rw [h] at hg; cases hg
  · rw [h] at hg; injection hg with hg; injection hg with hg; omega
theorem longs_self (xs : List Int) (A A' : Option Addr) (c c' : Nat) (w : World) (hx : Rd w w.heap.size A xs) (hy : Rd w w.heap.size A' xs) (hm : xs.length ≤ 17592186044416) :
    Calls Tryz.prog 55 #[.slice A xs.length c, .slice A' xs.length c'] w fun e w' => e = .returned (.bool true) ∧ Below w.heap.size w w' :=
  (longs_any xs xs A A' c c' w hx hy hm).mono fun _ _ ⟨he, hb⟩ => ⟨he.trans (retb (by simp)), hb⟩
end Go.Proofs.YtnmpgijiimglcaaGreat
