import Derived.Test.YtnmpgijiimglcaaGreatRows
import Derived.Test.YtnmpgijiimglcaaGreatBTt47
namespace Go.Proofs.YtnmpgijiimglcaaGreat
set_option maxRecDepth 100000
set_option maxHeartbeats 8000000
open Go.ChangeShapes Go.WideShapes Go.ChangeAt Go.RowKit
theorem transTight_lifted (os : Os) (started : os.Started) (H : Type) (enc : TypeId × Value → H) :
  ReturnsInHanded {} Tryz.checked os 9 .any (Rows.transTightSpec.pre6 enc Tryz.prog Tryz.f9 Rows.transTightRow.domain false) (Rows.transTightSpec.post enc Tryz.prog Tryz.f9 false true false false) := by
 refine returnsInHanded_of_change_sized (C := Tryz.checked) Tryz.own started (by kernel_rfl) Tryz.func9
  (ChangeSpec.witness6 (enc := enc) (C := Tryz.checked) false ⟨#[], #[.agg #[.int .i8 0, .int .i8 0, .int .i8 0, .int .i8 0, .int .i8 0, .int .i8 0, .int .i8 0, .int .i8 0], .agg #[.int .i64 0, .int .i64 0, .int .i64 0, .int .i64 0, .int .i64 0, .int .i64 0, .int .i64 0, .int .i64 0, .int .i64 0, .int .i64 0]], []⟩ 8 (by kernel_rfl) (by kernel_rfl) (by kernel_rfl) (by kernel_rfl)) ?_
 intro W base args ds gs before a2 hW hcnd a9 _
 have a0 : ∀ (j : Nat) t v, Tryz.f9.params[j]? = some t → args[j]? = some v → Value.okWide Tryz.prog W .any base t v := a2
 have hW' := hW
 obtain ⟨p, q, hA0, hV, rfl, hfz, hnd⟩ := hW
 have hA : DataW.TrodAll enc Tryz.prog W 0 (fun _ => true) true Tryz.f9.params.toList args.toList ds p := hA0
 have hsz : (DataW.weightsEach Tryz.prog (Tryz.f9.params.toList ++ []) (ds ++ gs)).all (· ≤ reachBytes) = true := a9
 rw [Tryz.params9] at hA a0 hsz
 obtain ⟨v0, v1, d0, d1, p0, p1, rfl, rfl, rfl, h0, h1⟩ := trodAll_two hA
 obtain ⟨rfl, rfl⟩ := trodVars_none hV
 have e : p0 ++ p1 ++ [] = p0 ++ p1 := by simp
 rw [e] at hW'
 have hlt : ∀ x ∈ p0 ++ p1, x.block < W.heap.size := fun x hx => hW'.lt x hx
 have wt : ∀ {j : Nat} {t : TypeId} {d : DataW H}, [68, 44][j]? = some t → [d0, d1][j]? = some d → ∀ n ∈ d.weights Tryz.prog t, n ≤ reachBytes := fun ht hd n hn => by
  have := List.all_eq_true.1 hsz n (DataW.weights_mem_each (by simpa using ht) (by simpa using hd) n hn)
  simpa using this
 obtain ⟨a3, b0, a8, a4, b1, a6, a5, a7, rfl, ia0⟩ := zkE (a0 0 68 v0 rfl rfl) h0
 obtain ⟨a1, rfl, ia1, ib1⟩ := zma (a0 1 44 v1 rfl rfl) h1
 refine (zeh a3 b0 a8 a4 b1 a6 a5 a7 a1 ia0 ia1 ib1 W).mono fun ee W' ⟨he, hb⟩ => ?_
 subst he
 refine ⟨_, rfl, zjD hW' rfl rfl rfl (trodAll_mk2 (Below.trod Tryz.laidOut (by kernel_rfl) (of_decide_eq_true (by kernel_rfl)) h0 hb fun x hx => hlt x (by simp [hx])) (Below.trod Tryz.laidOut (by kernel_rfl) (of_decide_eq_true (by kernel_rfl)) h1 hb fun x hx => hlt x (by simp [hx]))) hb⟩
theorem zpu {a b : Bool} (h : a = true) (k : b = true) : (a && b) = true := by rw [h, k]; rfl
theorem transTight_closed : joinedFacts Tryz.prog 9 Tryz.f9 Rows.transTightSpec Rows.transTightRow = true := by
 unfold joinedFacts
 repeat (refine zpu ?_ (by as_aux_lemma => kernel_rfl))
 as_aux_lemma => kernel_rfl
theorem transTight_holds : Rows.TransTightSaid :=
 OpenClaim.holds_of_wide 9 Tryz.f9 rfl rfl rfl rfl rfl rfl rfl ⟨rfl, rfl, rfl, rfl, rfl⟩ rfl rfl rfl rfl rfl (by kernel_rfl) Tryz.func9 transTight_closed
  (of_decide_eq_true (by kernel_rfl)) (by unfold Func.isWrapper; first | (rw [if_pos (by decide +kernel)]; kernel_rfl) | (rw [if_neg (by decide +kernel)]; exact ⟨rfl, rfl⟩))
  (fun os started H enc _ => transTight_lifted os started H enc)
#print axioms transTight_holds
end Go.Proofs.YtnmpgijiimglcaaGreat
