/-
  gnomonlaw27.WatchExact: the row.
-/
import Derived.Test.YtkncebcekhfnfaaGreatRows
import Derived.Test.YtkncebcekhfnfaaGreatBWE47
namespace Go.Proofs.YtkncebcekhfnfaaGreat
open Go.ChangeShapes Go.WideShapes Go.ChangeAt Go.RowKit

set_option maxRecDepth 100000 in
theorem watchExact_lifted (os : Os) (started : os.Started) (H : Type) (enc : TypeId × Value → H) :
    ReturnsInHanded {} Tryz.checked os 3 .any (Rows.watchExactSpec.pre6 enc Tryz.prog Tryz.f3 Rows.watchExactRow.domain false) (Rows.watchExactSpec.post enc Tryz.prog Tryz.f3 false true false false) := by
  refine returnsInHanded_of_change_sized (C := Tryz.checked) Tryz.own started (by kernel_rfl) Tryz.func3
    (ChangeSpec.witness6 (enc := enc) (C := Tryz.checked) false ⟨#[], #[.agg #[.slice none 0 0, .int .i64 0, .slice none 0 0, .int .i64 0, .int .i64 0, .slice none 0 0], .slice none 0 0, .slice none 0 0, .int .i64 0], []⟩ 8 (by kernel_rfl) (by kernel_rfl) (by kernel_rfl) (by kernel_rfl)) ?_
  intro W base args ds gs before hval0 hW hcnd hsz0 _
  have hval : ∀ (j : Nat) t v, Tryz.f3.params[j]? = some t → args[j]? = some v → Value.okWide Tryz.prog W .any base t v := hval0
  have hW' := hW
  obtain ⟨p, q, hA0, hV, rfl, hfz, hnd⟩ := hW
  have hA : DataW.TrodAll enc Tryz.prog W 0 (fun _ => true) true Tryz.f3.params.toList args.toList ds p := hA0
  have hsz : (DataW.weightsEach Tryz.prog (Tryz.f3.params.toList ++ []) (ds ++ gs)).all (· ≤ reachBytes) = true := hsz0
  rw [Tryz.params3] at hA hval hsz
  obtain ⟨v0, v1, v2, v3, d0, d1, d2, d3, p0, p1, p2, p3, rfl, rfl, rfl, h0, h1, h2, h3⟩ := trodAll_four hA
  obtain ⟨rfl, rfl⟩ := trodVars_none hV
  have e : p0 ++ p1 ++ p2 ++ p3 ++ [] = p0 ++ (p1 ++ (p2 ++ p3)) := by simp
  rw [e] at hW'
  have hlt : ∀ x ∈ p0 ++ (p1 ++ (p2 ++ p3)), x.block < W.heap.size := fun x hx => hW'.lt x hx
  have wt : ∀ {j : Nat} {t : TypeId} {d : DataW H}, [26, 27, 28, 3][j]? = some t → [d0, d1, d2, d3][j]? = some d → ∀ n ∈ d.weights Tryz.prog t, n ≤ reachBytes := fun ht hd n hn => by
    have := List.all_eq_true.1 hsz n (DataW.weights_mem_each (by simpa using ht) (by simpa using hd) n hn)
    simpa using this
  obtain ⟨g0, V0, D0, E0, cv0, cd0, ce0, rfl, wa0⟩ := open_cfg (hval 0 26 v0 rfl rfl) h0
  obtain ⟨A1, c1, a1, rfl, wa1⟩ := open_row (hval 1 27 v1 rfl rfl) h1
  obtain ⟨ra1, wa1⟩ := wa1 (wt (j := 1) rfl rfl)
  obtain ⟨A2, c2, a2, rfl, ra2, ii2, wa2⟩ := open_scr (hval 2 28 v2 rfl rfl) h2
  obtain ⟨a3, rfl, rfl, rfl, wn3⟩ := open_int Tryz.underlying3 (hval 3 3 v3 rfl rfl) h3
  obtain ⟨zs1, rfl, hz1⟩ := RowZ.of_rd ra1
  refine (watchExact_walk g0 zs1 a2 a3 V0 D0 E0 A1 A2 cv0 cd0 ce0 c1 c2 W (wa0 (wt (j := 0) rfl rfl)) hz1 wa1 ra2 (wa2 (wt (j := 2) rfl rfl)) ii2.1 ii2.2).mono fun ee W' ⟨he, hb⟩ => ?_
  subst he
  refine ⟨_, rfl, post_true hW' rfl rfl rfl (trodAll_mk4 (Below.trod Tryz.laidOut (by kernel_rfl) (of_decide_eq_true (by kernel_rfl)) h0 hb fun x hx => hlt x (by simp [hx])) (Below.trod Tryz.laidOut (by kernel_rfl) (of_decide_eq_true (by kernel_rfl)) h1 hb fun x hx => hlt x (by simp [hx])) (Below.trod Tryz.laidOut (by kernel_rfl) (of_decide_eq_true (by kernel_rfl)) h2 hb fun x hx => hlt x (by simp [hx])) (Below.trod Tryz.laidOut (by kernel_rfl) (of_decide_eq_true (by kernel_rfl)) h3 hb fun x hx => hlt x (by simp at hx))) hb⟩

theorem and_t {a b : Bool} (h : a = true) (k : b = true) : (a && b) = true := by rw [h, k]; rfl
set_option maxHeartbeats 8000000 in
theorem watchExact_closed : joinedFacts Tryz.prog 3 Tryz.f3 Rows.watchExactSpec Rows.watchExactRow = true := by
  unfold joinedFacts
  repeat (refine and_t ?_ (by as_aux_lemma => kernel_rfl))
  as_aux_lemma => kernel_rfl

theorem watchExact_holds : Rows.WatchExactSaid :=
  OpenClaim.holds_of_wide 3 Tryz.f3 rfl rfl rfl rfl rfl rfl rfl ⟨rfl, rfl, rfl, rfl, rfl⟩ rfl rfl rfl rfl rfl (by kernel_rfl) Tryz.func3 watchExact_closed
    (of_decide_eq_true (by kernel_rfl)) (by unfold Func.isWrapper; first | (rw [if_pos (by decide +kernel)]; kernel_rfl) | (rw [if_neg (by decide +kernel)]; exact ⟨rfl, rfl⟩))
    (fun os started H enc _ => watchExact_lifted os started H enc)
#print axioms watchExact_holds
end Go.Proofs.YtkncebcekhfnfaaGreat
