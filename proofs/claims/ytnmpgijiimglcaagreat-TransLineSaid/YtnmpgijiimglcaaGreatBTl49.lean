import Derived.Test.YtnmpgijiimglcaaGreatRows
import Derived.Test.YtnmpgijiimglcaaGreatBTl47
namespace Go.Proofs.YtnmpgijiimglcaaGreat
set_option maxRecDepth 100000
set_option maxHeartbeats 8000000
open Go.ChangeShapes Go.WideShapes Go.ChangeAt Go.RowKit
theorem transLine_lifted (os : Os) (started : os.Started) (H : Type) (enc : TypeId × Value → H) :
  ReturnsInHanded {} Tryz.checked os 8 .any (Rows.transLineSpec.pre6 enc Tryz.prog Tryz.f8 Rows.transLineRow.domain false) (Rows.transLineSpec.post enc Tryz.prog Tryz.f8 false true false false) := by
 refine returnsInHanded_of_change_sized (C := Tryz.checked) Tryz.own started (by kernel_rfl) Tryz.func8
  (ChangeSpec.witness6 (enc := enc) (C := Tryz.checked) false ⟨#[], #[.slice none 0 0, .slice none 0 0], []⟩ 8 (by kernel_rfl) (by kernel_rfl) (by kernel_rfl) (by kernel_rfl)) ?_
 intro W base args ds gs before a3 hW hcnd a4 _
 have a2 : ∀ (j : Nat) t v, Tryz.f8.params[j]? = some t → args[j]? = some v → Value.okWide Tryz.prog W .any base t v := a3
 have hW' := hW
 obtain ⟨p, q, hA0, hV, rfl, hfz, hnd⟩ := hW
 have hA : DataW.TrodAll enc Tryz.prog W 0 (fun _ => true) true Tryz.f8.params.toList args.toList ds p := hA0
 have hsz : (DataW.weightsEach Tryz.prog (Tryz.f8.params.toList ++ []) (ds ++ gs)).all (· ≤ reachBytes) = true := a4
 rw [Tryz.params8] at hA a2 hsz
 obtain ⟨v0, v1, d0, d1, p0, p1, rfl, rfl, rfl, h0, h1⟩ := trodAll_two hA
 obtain ⟨rfl, rfl⟩ := trodVars_none hV
 have e : p0 ++ p1 ++ [] = p0 ++ p1 := by simp
 rw [e] at hW'
 have hlt : ∀ x ∈ p0 ++ p1, x.block < W.heap.size := fun x hx => hW'.lt x hx
 have wt : ∀ {j : Nat} {t : TypeId} {d : DataW H}, [22, 57][j]? = some t → [d0, d1][j]? = some d → ∀ n ∈ d.weights Tryz.prog t, n ≤ reachBytes := fun ht hd n hn => by
  have := List.all_eq_true.1 hsz n (DataW.weights_mem_each (by simpa using ht) (by simpa using hd) n hn)
  simpa using this
 obtain ⟨A0, c0, a0, rfl, ra0, wa0⟩ := open_longs (a2 0 22 v0 rfl rfl) h0
 obtain ⟨A1, c1, a1, rfl, ra1, wa1⟩ := open_edges (a2 1 57 v1 rfl rfl) h1
 refine (transLine_walkE a0 a1 A0 A1 c0 c1 W ra0 ra1 (wa0 (wt (j := 0) rfl rfl)) (wa1 (wt (j := 1) rfl rfl))).mono fun ee W' ⟨he, hb⟩ => ?_
 subst he
 refine ⟨_, rfl, post_true hW' rfl rfl rfl (trodAll_mk2 (Below.trod Tryz.laidOut (by kernel_rfl) (of_decide_eq_true (by kernel_rfl)) h0 hb fun x hx => hlt x (by simp [hx])) (Below.trod Tryz.laidOut (by kernel_rfl) (of_decide_eq_true (by kernel_rfl)) h1 hb fun x hx => hlt x (by simp [hx]))) hb⟩
theorem and_t {a b : Bool} (h : a = true) (k : b = true) : (a && b) = true := by rw [h, k]; rfl
theorem transLine_closed : joinedFacts Tryz.prog 8 Tryz.f8 Rows.transLineSpec Rows.transLineRow = true := by
 unfold joinedFacts
 repeat (refine and_t ?_ (by as_aux_lemma => kernel_rfl))
 as_aux_lemma => kernel_rfl
theorem transLine_holds : Rows.TransLineSaid :=
 OpenClaim.holds_of_wide 8 Tryz.f8 rfl rfl rfl rfl rfl rfl rfl ⟨rfl, rfl, rfl, rfl, rfl⟩ rfl rfl rfl rfl rfl (by kernel_rfl) Tryz.func8 transLine_closed
  (of_decide_eq_true (by kernel_rfl)) (by unfold Func.isWrapper; first | (rw [if_pos (by decide +kernel)]; kernel_rfl) | (rw [if_neg (by decide +kernel)]; exact ⟨rfl, rfl⟩))
  (fun os started H enc _ => transLine_lifted os started H enc)
#print axioms transLine_holds
end Go.Proofs.YtnmpgijiimglcaaGreat
