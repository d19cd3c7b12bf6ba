/-
  FlowE: a step that leans on what the steps yielded that it waits for; an octagon built out of a fresh slice; a fresh box.
-/
import Derived.Test.YtanbplidigokgaaLawWX
namespace Go.Proofs.Ytanbplidigokgaa
open Go.RowKit

theorem own_blk {w : World} {base cap g k : Nat} {xs : List Int} {t : TypeId} {cs : Array Value} (h : Own w base (some ⟨g, 0, none⟩) cap xs) (hk : Blk w k t cs) (ht : t ≠ 2) : g ≠ k := by
  rintro rfl
  rcases h.2 with ⟨h0, _⟩ | ⟨g', cap', cur, h1, _, h3, _⟩
  · cases h0
  · simp only [Value.slice.injEq, Option.some.injEq, Addr.mk.injEq] at h1
    obtain ⟨⟨rfl, _⟩, _⟩ := h1
    unfold Blk at hk
    rw [h3] at hk
    injection hk with hk
    injection hk with _ hk
    exact ht hk.symm
theorem own_blk' {w : World} {base cap k : Nat} {A : Option Addr} {xs : List Int} {t : TypeId} {cs : Array Value} (h : Own w base A cap xs) (hk : Blk w k t cs) (ht : t ≠ 2) : ∀ g, A = some ⟨g, 0, none⟩ → g ≠ k := by
  rintro g rfl
  exact own_blk h hk ht

section
variable {P : Program} {ops : Array Oper} {Q : Exit → Act → World → Prop} {w0 : World}
/-- Any value of which p holds; it may lean on the facts of the steps that it waits for. -/
theorem FlowE.stepF {m k : Nat} {p : Value → World → World → Prop} {sl : List Sp} {o : Oper} {rest : List Oper} {a : Act} {fs : Nat → World → Prop} {iv : Nat → Nat × Nat} (hw : Region.wanted o (yielded ops a.tmps) = true)
    (h : ∀ w, Ext w0 w → (∀ i, reachB .any ops i ops.size k = true → fs i w) → ∀ K : Act → World → Prop, (∀ v w2, Ext w w2 → p v w w2 → K (a.put o.dst v) w2) → o.wp P a w K Never) (hr : ∀ v lo hi, FlowE P ops Q w0 m sl rest (k + 1) (a.put o.dst v) (upd fs k (Sp.fact w0 (Sp.any p) v lo hi)) (updI iv k (lo, hi))) :
    FlowE P ops Q w0 (m + 1) (Sp.any p :: sl) (o :: rest) k a fs iv := by
  unfold FlowE
  exact ⟨.inl ⟨hw, fun w hS hf K hK => h w hS hf K (fun v w2 hx hp => hK _ v w2 rfl hx hp)⟩, fun v lo hi _ => hr v lo hi⟩
end

/-- An octagon value over a slice of the region's own. -/
def IsOctB (B : Nat) (o : O) (v : Value) (_ wb : World) : Prop := ∃ A1 c1, v = .agg #[.int .i64 o.n, .bool o.e, .slice A1 o.m.length c1] ∧ Own wb B A1 c1 o.m
theorem fact_octB {w0 W : World} {B : Nat} {o : O} {v : Value} {lo hi : Nat} (h : Sp.fact w0 (Sp.any (IsOctB B o)) v lo hi W) : ∃ A1 c1, v = .agg #[.int .i64 o.n, .bool o.e, .slice A1 o.m.length c1] ∧ Own W B A1 c1 o.m := by
  obtain ⟨wa, wb, e1, e2, e3, rfl, rfl, A1, c1, rfl, own⟩ := h
  exact ⟨A1, c1, rfl, own.below e3⟩
def IsIntsB (B : Nat) (xs : List Int) (v : Value) (_ wb : World) : Prop := ∃ A1 c1, v = .slice A1 xs.length c1 ∧ Own wb B A1 c1 xs
theorem fact_intsB {w0 W : World} {B : Nat} {xs : List Int} {v : Value} {lo hi : Nat} (h : Sp.fact w0 (Sp.any (IsIntsB B xs)) v lo hi W) : ∃ A1 c1, v = .slice A1 xs.length c1 ∧ Own W B A1 c1 xs := by
  obtain ⟨wa, wb, e1, e2, e3, rfl, rfl, A1, c1, rfl, own⟩ := h
  exact ⟨A1, c1, rfl, own.below e3⟩
end Go.Proofs.Ytanbplidigokgaa
