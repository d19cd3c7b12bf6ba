import Derived.Test.YtnmpgijiimglcaaGreatRows
import Derived.Test.YtnmpgijiimglcaaGreatBSt46
import Derived.Test.YtnmpgijiimglcaaGreatBSt47
namespace Go.Proofs.YtnmpgijiimglcaaGreat
set_option maxRecDepth 100000
set_option maxHeartbeats 8000000
open Go.ChangeShapes Go.WideShapes Go.ChangeAt Go.RowKit
theorem safeStays_lifted (os : Os) (started : os.Started) (H : Type) (enc : TypeId × Value → H) :
  ReturnsInHanded {} Tryz.checked os 15 .any (Rows.safeStaysSpec.pre6 enc Tryz.prog Tryz.f15 Rows.safeStaysRow.domain false) (Rows.safeStaysSpec.post enc Tryz.prog Tryz.f15 false true false false) := by
 refine returnsInHanded_of_change_sized (C := Tryz.checked) Tryz.own started (by kernel_rfl) Tryz.func15
  (ChangeSpec.witness6 (enc := enc) (C := Tryz.checked) false ⟨#[], #[.agg #[.int .i64 0, false, .slice none 0 0], .agg #[.int .i64 0, .int .i64 0, .int .i64 0, .int .i64 0, .int .i64 0, .int .i64 0, .int .i64 0, .int .i64 0, .int .i64 0, .int .i64 0], .int .i64 0, .int .i64 0, .int .i64 0, .int .i64 0], []⟩ 8 (by kernel_rfl) (by kernel_rfl) (by kernel_rfl) (by kernel_rfl)) ?_
 intro W base args ds gs before a8 hW hcnd a9 _
 have a6 : ∀ (j : Nat) t v, Tryz.f15.params[j]? = some t → args[j]? = some v → Value.okWide Tryz.prog W .any base t v := a8
 have hW' := hW
 obtain ⟨p, q, hA0, hV, rfl, hfz, hnd⟩ := hW
 have hA : DataW.TrodAll enc Tryz.prog W 0 (fun _ => true) true Tryz.f15.params.toList args.toList ds p := hA0
 have hsz : (DataW.weightsEach Tryz.prog (Tryz.f15.params.toList ++ []) (ds ++ gs)).all (· ≤ reachBytes) = true := a9
 rw [Tryz.params15] at hA a6 hsz
 obtain ⟨v0, v1, v2, v3, v4, v5, d0, d1, d2, d3, d4, d5, p0, p1, p2, p3, p4, p5, rfl, rfl, rfl, h0, h1, h2, h3, h4, h5⟩ := trodAll_six hA
 obtain ⟨rfl, rfl⟩ := trodVars_none hV
 have e : p0 ++ p1 ++ p2 ++ p3 ++ p4 ++ p5 ++ [] = p0 ++ (p1 ++ (p2 ++ (p3 ++ (p4 ++ p5)))) := by simp
 rw [e] at hW'
 have a7 : ∀ x ∈ p0 ++ (p1 ++ (p2 ++ (p3 ++ (p4 ++ p5)))), x.block < W.heap.size := fun x hx => hW'.lt x hx
 have wt : ∀ {j : Nat} {t : TypeId} {d : DataW H}, [24, 44, 3, 3, 3, 2][j]? = some t → [d0, d1, d2, d3, d4, d5][j]? = some d → ∀ n ∈ d.weights Tryz.prog t, n ≤ reachBytes := fun ht hd n hn => by
  have := List.all_eq_true.1 hsz n (DataW.weights_mem_each (by simpa using ht) (by simpa using hd) n hn)
  simpa using this
 obtain ⟨A0, c0, a0, rfl, ra0, wa0⟩ := open_oct (a6 0 24 v0 rfl rfl) h0
 obtain ⟨a1, rfl, ia1, ib1⟩ := open_edg (a6 1 44 v1 rfl rfl) h1
 obtain ⟨a2, rfl, rfl, rfl, wn2⟩ := open_int Tryz.underlying3 (a6 2 3 v2 rfl rfl) h2
 obtain ⟨a3, rfl, rfl, rfl, wn3⟩ := open_int Tryz.underlying3 (a6 3 3 v3 rfl rfl) h3
 obtain ⟨a4, rfl, rfl, rfl, wn4⟩ := open_int Tryz.underlying3 (a6 4 3 v4 rfl rfl) h4
 obtain ⟨a5, rfl, rfl, rfl, wn5⟩ := open_int Tryz.underlying2 (a6 5 2 v5 rfl rfl) h5
 refine (safeStays_walkE a0 a1 a2 a3 a4 a5 (wf_i64 wn5) ia1 ib1 A0 c0 W ra0 (wa0 (wt (j := 0) rfl rfl))).mono fun ee W' ⟨he, hb⟩ => ?_
 subst he
 refine ⟨_, rfl, post_true hW' rfl rfl rfl (trodAll_mk6 (Below.trod Tryz.laidOut (by kernel_rfl) (of_decide_eq_true (by kernel_rfl)) h0 hb fun x hx => a7 x (by simp [hx])) (Below.trod Tryz.laidOut (by kernel_rfl) (of_decide_eq_true (by kernel_rfl)) h1 hb fun x hx => a7 x (by simp [hx])) (Below.trod Tryz.laidOut (by kernel_rfl) (of_decide_eq_true (by kernel_rfl)) h2 hb fun x hx => a7 x (by simp at hx)) (Below.trod Tryz.laidOut (by kernel_rfl) (of_decide_eq_true (by kernel_rfl)) h3 hb fun x hx => a7 x (by simp at hx)) (Below.trod Tryz.laidOut (by kernel_rfl) (of_decide_eq_true (by kernel_rfl)) h4 hb fun x hx => a7 x (by simp at hx)) (Below.trod Tryz.laidOut (by kernel_rfl) (of_decide_eq_true (by kernel_rfl)) h5 hb fun x hx => a7 x (by simp at hx))) hb⟩
theorem and_t {a b : Bool} (h : a = true) (k : b = true) : (a && b) = true := by rw [h, k]; rfl
theorem safeStays_closed : joinedFacts Tryz.prog 15 Tryz.f15 Rows.safeStaysSpec Rows.safeStaysRow = true := by
 unfold joinedFacts
 repeat (refine and_t ?_ (by as_aux_lemma => kernel_rfl))
 as_aux_lemma => kernel_rfl
theorem safeStays_holds : Rows.SafeStaysSaid :=
 OpenClaim.holds_of_wide 15 Tryz.f15 rfl rfl rfl rfl rfl rfl rfl ⟨rfl, rfl, rfl, rfl, rfl⟩ rfl rfl rfl rfl rfl (by kernel_rfl) Tryz.func15 safeStays_closed
  (of_decide_eq_true (by kernel_rfl)) (by unfold Func.isWrapper; first | (rw [if_pos (by decide +kernel)]; kernel_rfl) | (rw [if_neg (by decide +kernel)]; exact ⟨rfl, rfl⟩))
  (fun os started H enc _ => safeStays_lifted os started H enc)
#print axioms safeStays_holds
end Go.Proofs.YtnmpgijiimglcaaGreat
