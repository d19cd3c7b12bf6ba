/-
  For every kind, every two ranges and two numbers: SafeRanges returns true. No condition.
-/
import Derived.Test.YtnmpgijiimglcaaGreatRows
import Derived.Test.YtnmpgijiimglcaaGreatBUA38
namespace Go.Proofs.YtnmpgijiimglcaaGreat
open Go.ChangeShapes Go.WideShapes Go.ChangeAt Go.RowKit

set_option maxRecDepth 100000 in
theorem safeRanges_lifted (os : Os) (started : os.Started) (H : Type) (enc : TypeId × Value → H) :
    ReturnsInHanded {} Tryz.checked os 14 .any (Rows.safeRangesSpec.pre6 enc Tryz.prog Tryz.f14 Rows.safeRangesRow.domain false) (Rows.safeRangesSpec.post enc Tryz.prog Tryz.f14 false true false false) := by
  refine returnsInHanded_of_change_sized (C := Tryz.checked) Tryz.own started (by kernel_rfl) Tryz.func14
    (ChangeSpec.witness6 (enc := enc) (C := Tryz.checked) false ⟨#[], #[.int .i64 0, .agg #[.int .i64 0, .int .i64 0, .bool false, .bool false], .agg #[.int .i64 0, .int .i64 0, .bool false, .bool false], .int .i64 0, .int .i64 0], []⟩ 8 (by kernel_rfl) (by kernel_rfl) (by kernel_rfl) (by kernel_rfl)) ?_
  intro W base args ds gs before hval0 hW hcnd hsz0 _
  have hval : ∀ (j : Nat) t v, Tryz.f14.params[j]? = some t → args[j]? = some v → Value.okWide Tryz.prog W .any base t v := hval0
  have hW' := hW
  obtain ⟨p, q, hA0, hV, rfl, hfz, hnd⟩ := hW
  have hA : DataW.TrodAll enc Tryz.prog W 0 (fun _ => true) true Tryz.f14.params.toList args.toList ds p := hA0
  have hsz : (DataW.weightsEach Tryz.prog (Tryz.f14.params.toList ++ []) (ds ++ gs)).all (· ≤ reachBytes) = true := hsz0
  rw [Tryz.params14] at hA hval hsz
  obtain ⟨v0, v1, v2, v3, v4, d0, d1, d2, d3, d4, p0, p1, p2, p3, p4, rfl, rfl, rfl, h0, h1, h2, h3, h4⟩ := trodAll_five hA
  obtain ⟨rfl, rfl⟩ := trodVars_none hV
  have e : p0 ++ p1 ++ p2 ++ p3 ++ p4 ++ [] = p0 ++ (p1 ++ (p2 ++ (p3 ++ p4))) := by simp
  rw [e] at hW'
  have hlt : ∀ x ∈ p0 ++ (p1 ++ (p2 ++ (p3 ++ p4))), x.block < W.heap.size := fun x hx => hW'.lt x hx
  have wt : ∀ {j : Nat} {t : TypeId} {d : DataW H}, [3, 49, 49, 2, 2][j]? = some t → [d0, d1, d2, d3, d4][j]? = some d → ∀ n ∈ d.weights Tryz.prog t, n ≤ reachBytes := fun ht hd n hn => by
    have := List.all_eq_true.1 hsz n (DataW.weights_mem_each (by simpa using ht) (by simpa using hd) n hn)
    simpa using this
  obtain ⟨a0, rfl, rfl, rfl, wn0⟩ := open_int Tryz.underlying3 (hval 0 3 v0 rfl rfl) h0
  obtain ⟨a1, rfl, ia1, ib1, rfl⟩ := open_rg (hval 1 49 v1 rfl rfl) h1
  obtain ⟨a2, rfl, ia2, ib2, rfl⟩ := open_rg (hval 2 49 v2 rfl rfl) h2
  obtain ⟨a3, rfl, rfl, rfl, wn3⟩ := open_int Tryz.underlying2 (hval 3 2 v3 rfl rfl) h3
  obtain ⟨a4, rfl, rfl, rfl, wn4⟩ := open_int Tryz.underlying2 (hval 4 2 v4 rfl rfl) h4
  refine (safeRanges_walk a0 a1 a2 a3 a4 (wf_i64 wn3) (wf_i64 wn4) ia1 ib1 ia2 ib2 W).mono fun ee W' ⟨he, hb⟩ => ?_
  subst he
  refine ⟨_, rfl, post_true hW' rfl rfl rfl (trodAll_mk5 (Below.trod Tryz.laidOut (by kernel_rfl) (of_decide_eq_true (by kernel_rfl)) h0 hb fun x hx => hlt x (by simp at hx)) (Below.trod Tryz.laidOut (by kernel_rfl) (of_decide_eq_true (by kernel_rfl)) h1 hb fun x hx => hlt x (by simp at hx)) (Below.trod Tryz.laidOut (by kernel_rfl) (of_decide_eq_true (by kernel_rfl)) h2 hb fun x hx => hlt x (by simp at hx)) (Below.trod Tryz.laidOut (by kernel_rfl) (of_decide_eq_true (by kernel_rfl)) h3 hb fun x hx => hlt x (by simp at hx)) (Below.trod Tryz.laidOut (by kernel_rfl) (of_decide_eq_true (by kernel_rfl)) h4 hb fun x hx => hlt x (by simp at hx))) hb⟩

theorem and_t {a b : Bool} (h : a = true) (k : b = true) : (a && b) = true := by rw [h, k]; rfl
set_option maxHeartbeats 8000000 in
theorem safeRanges_closed : joinedFacts Tryz.prog 14 Tryz.f14 Rows.safeRangesSpec Rows.safeRangesRow = true := by
  unfold joinedFacts
  repeat (refine and_t ?_ (by as_aux_lemma => kernel_rfl))
  as_aux_lemma => kernel_rfl

theorem safeRanges_holds : Rows.SafeRangesSaid :=
  OpenClaim.holds_of_wide 14 Tryz.f14 rfl rfl rfl rfl rfl rfl rfl ⟨rfl, rfl, rfl, rfl, rfl⟩ rfl rfl rfl rfl rfl (by kernel_rfl) Tryz.func14 safeRanges_closed
    (of_decide_eq_true (by kernel_rfl)) (by unfold Func.isWrapper; first | (rw [if_pos (by decide +kernel)]; kernel_rfl) | (rw [if_neg (by decide +kernel)]; exact ⟨rfl, rfl⟩))
    (fun os started H enc _ => safeRanges_lifted os started H enc)
#print axioms safeRanges_holds
end Go.Proofs.YtnmpgijiimglcaaGreat
