import Derived.Test.YtnmpgijiimglcaaGreatRows
import Derived.Test.YtnmpgijiimglcaaGreatBSe47
namespace Go.Proofs.YtnmpgijiimglcaaGreat
set_option maxRecDepth 100000
set_option maxHeartbeats 8000000
open Go.ChangeShapes Go.WideShapes Go.ChangeAt Go.RowKit
theorem safeExact_lifted (os : Os) (started : os.Started) (H : Type) (enc : TypeId × Value → H) :
  ReturnsInHanded {} Tryz.checked os 12 .any (Rows.safeExactSpec.pre6 enc Tryz.prog Tryz.f12 Rows.safeExactRow.domain false) (Rows.safeExactSpec.post enc Tryz.prog Tryz.f12 false true false false) := by
 refine returnsInHanded_of_change_sized (C := Tryz.checked) Tryz.own started (by kernel_rfl) Tryz.func12
  (ChangeSpec.witness6 (enc := enc) (C := Tryz.checked) false ⟨#[], #[.agg #[.int .i64 0, false, .slice none 0 0], .agg #[.int .i64 0, .int .i64 0, .int .i64 0, .int .i64 0, .int .i64 0, .int .i64 0, .int .i64 0, .int .i64 0, .int .i64 0, .int .i64 0], .int .i64 0], []⟩ 8 (by kernel_rfl) (by kernel_rfl) (by kernel_rfl) (by kernel_rfl)) ?_
 intro W base args ds gs before a4 hW hcnd a5 _
 have a3 : ∀ (j : Nat) t v, Tryz.f12.params[j]? = some t → args[j]? = some v → Value.okWide Tryz.prog W .any base t v := a4
 have hW' := hW
 obtain ⟨p, q, hA0, hV, rfl, hfz, hnd⟩ := hW
 have hA : DataW.TrodAll enc Tryz.prog W 0 (fun _ => true) true Tryz.f12.params.toList args.toList ds p := hA0
 have hsz : (DataW.weightsEach Tryz.prog (Tryz.f12.params.toList ++ []) (ds ++ gs)).all (· ≤ reachBytes) = true := a5
 rw [Tryz.params12] at hA a3 hsz
 obtain ⟨v0, v1, v2, d0, d1, d2, p0, p1, p2, rfl, rfl, rfl, h0, h1, h2⟩ := trodAll_three hA
 obtain ⟨rfl, rfl⟩ := trodVars_none hV
 have e : p0 ++ p1 ++ p2 ++ [] = p0 ++ (p1 ++ p2) := by simp
 rw [e] at hW'
 have a6 : ∀ x ∈ p0 ++ (p1 ++ p2), x.block < W.heap.size := fun x hx => hW'.lt x hx
 have wt : ∀ {j : Nat} {t : TypeId} {d : DataW H}, [24, 44, 3][j]? = some t → [d0, d1, d2][j]? = some d → ∀ n ∈ d.weights Tryz.prog t, n ≤ reachBytes := fun ht hd n hn => by
  have := List.all_eq_true.1 hsz n (DataW.weights_mem_each (by simpa using ht) (by simpa using hd) n hn)
  simpa using this
 obtain ⟨A0, c0, a0, rfl, ra0, wa0⟩ := zi4 (a3 0 24 v0 rfl rfl) h0
 obtain ⟨a1, rfl, ia1, ib1⟩ := zjE (a3 1 44 v1 rfl rfl) h1
 obtain ⟨a2, rfl, rfl, rfl, wn2⟩ := open_int Tryz.underlying3 (a3 2 3 v2 rfl rfl) h2
 refine (zdA a0 a1 a2 ia1 ib1 A0 c0 W ra0 (wa0 (wt (j := 0) rfl rfl))).mono fun ee W' ⟨he, hb⟩ => ?_
 subst he
 refine ⟨_, rfl, zg2 hW' rfl rfl rfl (trodAll_mk3 (Below.trod Tryz.laidOut (by kernel_rfl) (of_decide_eq_true (by kernel_rfl)) h0 hb fun x hx => a6 x (by simp [hx])) (Below.trod Tryz.laidOut (by kernel_rfl) (of_decide_eq_true (by kernel_rfl)) h1 hb fun x hx => a6 x (by simp [hx])) (Below.trod Tryz.laidOut (by kernel_rfl) (of_decide_eq_true (by kernel_rfl)) h2 hb fun x hx => a6 x (by simp at hx))) hb⟩
theorem zlT {a b : Bool} (h : a = true) (k : b = true) : (a && b) = true := by rw [h, k]; rfl
theorem safeExact_closed : joinedFacts Tryz.prog 12 Tryz.f12 Rows.safeExactSpec Rows.safeExactRow = true := by
 unfold joinedFacts
 repeat (refine zlT ?_ (by as_aux_lemma => kernel_rfl))
 as_aux_lemma => kernel_rfl
theorem safeExact_holds : Rows.SafeExactSaid :=
 OpenClaim.holds_of_wide 12 Tryz.f12 rfl rfl rfl rfl rfl rfl rfl ⟨rfl, rfl, rfl, rfl, rfl⟩ rfl rfl rfl rfl rfl (by kernel_rfl) Tryz.func12 safeExact_closed
  (of_decide_eq_true (by kernel_rfl)) (by unfold Func.isWrapper; first | (rw [if_pos (by decide +kernel)]; kernel_rfl) | (rw [if_neg (by decide +kernel)]; exact ⟨rfl, rfl⟩))
  (fun os started H enc _ => safeExact_lifted os started H enc)
#print axioms safeExact_holds
end Go.Proofs.YtnmpgijiimglcaaGreat
