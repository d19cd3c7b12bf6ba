import Derived.Test.YtnmpgijiimglcaaGreatRows
import Derived.Test.YtnmpgijiimglcaaGreatBSo47
namespace Go.Proofs.YtnmpgijiimglcaaGreat
set_option maxRecDepth 100000
set_option maxHeartbeats 8000000
open Go.ChangeShapes Go.WideShapes Go.ChangeAt Go.RowKit
theorem safeSound_lifted (os : Os) (started : os.Started) (H : Type) (enc : TypeId × Value → H) :
  ReturnsInHanded {} Tryz.checked os 18 .any (Rows.safeSoundSpec.pre6 enc Tryz.prog Tryz.f18 Rows.safeSoundRow.domain false) (Rows.safeSoundSpec.post enc Tryz.prog Tryz.f18 false true false false) := by
 refine returnsInHanded_of_change_sized (C := Tryz.checked) Tryz.own started (by kernel_rfl) Tryz.func18
  (ChangeSpec.witness6 (enc := enc) (C := Tryz.checked) false ⟨#[], #[.agg #[.int .i64 0, false, .slice none 0 0], .agg #[.int .i64 0, .int .i64 0, .int .i64 0, .int .i64 0, .int .i64 0, .int .i64 0, .int .i64 0, .int .i64 0, .int .i64 0, .int .i64 0], .int .i64 0, .slice none 0 0, .int .i64 0], []⟩ 8 (by kernel_rfl) (by kernel_rfl) (by kernel_rfl) (by kernel_rfl)) ?_
 intro W base args ds gs before a7 hW hcnd a8 _
 have a5 : ∀ (j : Nat) t v, Tryz.f18.params[j]? = some t → args[j]? = some v → Value.okWide Tryz.prog W .any base t v := a7
 have hW' := hW
 obtain ⟨p, q, hA0, hV, rfl, hfz, hnd⟩ := hW
 have hA : DataW.TrodAll enc Tryz.prog W 0 (fun _ => true) true Tryz.f18.params.toList args.toList ds p := hA0
 have hsz : (DataW.weightsEach Tryz.prog (Tryz.f18.params.toList ++ []) (ds ++ gs)).all (· ≤ reachBytes) = true := a8
 rw [Tryz.params18] at hA a5 hsz
 obtain ⟨v0, v1, v2, v3, v4, d0, d1, d2, d3, d4, p0, p1, p2, p3, p4, rfl, rfl, rfl, h0, h1, h2, h3, h4⟩ := trodAll_five hA
 obtain ⟨rfl, rfl⟩ := trodVars_none hV
 have e : p0 ++ p1 ++ p2 ++ p3 ++ p4 ++ [] = p0 ++ (p1 ++ (p2 ++ (p3 ++ p4))) := by simp
 rw [e] at hW'
 have a6 : ∀ x ∈ p0 ++ (p1 ++ (p2 ++ (p3 ++ p4))), x.block < W.heap.size := fun x hx => hW'.lt x hx
 have wt : ∀ {j : Nat} {t : TypeId} {d : DataW H}, [24, 44, 3, 22, 2][j]? = some t → [d0, d1, d2, d3, d4][j]? = some d → ∀ n ∈ d.weights Tryz.prog t, n ≤ reachBytes := fun ht hd n hn => by
  have := List.all_eq_true.1 hsz n (DataW.weights_mem_each (by simpa using ht) (by simpa using hd) n hn)
  simpa using this
 obtain ⟨A0, c0, a0, rfl, ra0, wa0⟩ := open_oct (a5 0 24 v0 rfl rfl) h0
 obtain ⟨a1, rfl, ia1, ib1⟩ := open_edg (a5 1 44 v1 rfl rfl) h1
 obtain ⟨a2, rfl, rfl, rfl, wn2⟩ := open_int Tryz.underlying3 (a5 2 3 v2 rfl rfl) h2
 obtain ⟨A3, c3, a3, rfl, ra3, ii3, wa3⟩ := open_longsI (a5 3 22 v3 rfl rfl) h3
 obtain ⟨a4, rfl, rfl, rfl, wn4⟩ := open_int Tryz.underlying2 (a5 4 2 v4 rfl rfl) h4
 refine (safeSound_walkE a0 a1 a2 a3 a4 (wf_i64 wn4) ia1 ib1 A0 A3 c0 c3 W ra0 ra3 (wa0 (wt (j := 0) rfl rfl)) (wa3 (wt (j := 3) rfl rfl)) ii3).mono fun ee W' ⟨he, hb⟩ => ?_
 subst he
 refine ⟨_, rfl, post_true hW' rfl rfl rfl (trodAll_mk5 (Below.trod Tryz.laidOut (by kernel_rfl) (of_decide_eq_true (by kernel_rfl)) h0 hb fun x hx => a6 x (by simp [hx])) (Below.trod Tryz.laidOut (by kernel_rfl) (of_decide_eq_true (by kernel_rfl)) h1 hb fun x hx => a6 x (by simp [hx])) (Below.trod Tryz.laidOut (by kernel_rfl) (of_decide_eq_true (by kernel_rfl)) h2 hb fun x hx => a6 x (by simp at hx)) (Below.trod Tryz.laidOut (by kernel_rfl) (of_decide_eq_true (by kernel_rfl)) h3 hb fun x hx => a6 x (by simp [hx])) (Below.trod Tryz.laidOut (by kernel_rfl) (of_decide_eq_true (by kernel_rfl)) h4 hb fun x hx => a6 x (by simp at hx))) hb⟩
theorem and_t {a b : Bool} (h : a = true) (k : b = true) : (a && b) = true := by rw [h, k]; rfl
theorem safeSound_closed : joinedFacts Tryz.prog 18 Tryz.f18 Rows.safeSoundSpec Rows.safeSoundRow = true := by
 unfold joinedFacts
 repeat (refine and_t ?_ (by as_aux_lemma => kernel_rfl))
 as_aux_lemma => kernel_rfl
theorem safeSound_holds : Rows.SafeSoundSaid :=
 OpenClaim.holds_of_wide 18 Tryz.f18 rfl rfl rfl rfl rfl rfl rfl ⟨rfl, rfl, rfl, rfl, rfl⟩ rfl rfl rfl rfl rfl (by kernel_rfl) Tryz.func18 safeSound_closed
  (of_decide_eq_true (by kernel_rfl)) (by unfold Func.isWrapper; first | (rw [if_pos (by decide +kernel)]; kernel_rfl) | (rw [if_neg (by decide +kernel)]; exact ⟨rfl, rfl⟩))
  (fun os started H enc _ => safeSound_lifted os started H enc)
#print axioms safeSound_holds
end Go.Proofs.YtnmpgijiimglcaaGreat
