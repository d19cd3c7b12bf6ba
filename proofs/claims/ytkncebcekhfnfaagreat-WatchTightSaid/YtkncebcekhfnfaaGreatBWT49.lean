/-
  gnomonlaw27.WatchTight: the row.
-/
import Derived.Test.YtkncebcekhfnfaaGreatRows
import Derived.Test.YtkncebcekhfnfaaGreatBWT46
import Derived.Test.YtkncebcekhfnfaaGreatBWT47
namespace Go.Proofs.YtkncebcekhfnfaaGreat
open Go.ChangeShapes Go.WideShapes Go.ChangeAt Go.RowKit

set_option maxRecDepth 100000 in
theorem watchTight_lifted (os : Os) (started : os.Started) (H : Type) (enc : TypeId × Value → H) :
    ReturnsInHanded {} Tryz.checked os 5 .any (Rows.watchTightSpec.pre6 enc Tryz.prog Tryz.f5 Rows.watchTightRow.domain false) (Rows.watchTightSpec.post enc Tryz.prog Tryz.f5 false true false false) := by
  refine returnsInHanded_of_change_sized (C := Tryz.checked) Tryz.own started (by kernel_rfl) Tryz.func5
    (ChangeSpec.witness6 (enc := enc) (C := Tryz.checked) false ⟨#[], #[.agg #[.slice none 0 0, .int .i64 0, .slice none 0 0, .int .i64 0, .int .i64 0, .slice none 0 0], .slice none 0 0, .int .i64 0, .slice none 0 0], []⟩ 8 (by kernel_rfl) (by kernel_rfl) (by kernel_rfl) (by kernel_rfl)) ?_
  intro W base args ds gs before hval0 hW hcnd hsz0 _
  have hval : ∀ (j : Nat) t v, Tryz.f5.params[j]? = some t → args[j]? = some v → Value.okWide Tryz.prog W .any base t v := hval0
  have hW' := hW
  obtain ⟨p, q, hA0, hV, rfl, hfz, hnd⟩ := hW
  have hA : DataW.TrodAll enc Tryz.prog W 0 (fun _ => true) true Tryz.f5.params.toList args.toList ds p := hA0
  have hsz : (DataW.weightsEach Tryz.prog (Tryz.f5.params.toList ++ []) (ds ++ gs)).all (· ≤ reachBytes) = true := hsz0
  rw [Tryz.params5] at hA hval hsz
  obtain ⟨v0, v1, v2, v3, d0, d1, d2, d3, p0, p1, p2, p3, rfl, rfl, rfl, h0, h1, h2, h3⟩ := trodAll_four hA
  obtain ⟨rfl, rfl⟩ := trodVars_none hV
  have e : p0 ++ p1 ++ p2 ++ p3 ++ [] = p0 ++ (p1 ++ (p2 ++ p3)) := by simp
  rw [e] at hW'
  have hlt : ∀ x ∈ p0 ++ (p1 ++ (p2 ++ p3)), x.block < W.heap.size := fun x hx => hW'.lt x hx
  have wt : ∀ {j : Nat} {t : TypeId} {d : DataW H}, [26, 45, 3, 27][j]? = some t → [d0, d1, d2, d3][j]? = some d → ∀ n ∈ d.weights Tryz.prog t, n ≤ reachBytes := fun ht hd n hn => by
    have := List.all_eq_true.1 hsz n (DataW.weights_mem_each (by simpa using ht) (by simpa using hd) n hn)
    simpa using this
  obtain ⟨g0, V0, D0, E0, cv0, cd0, ce0, rfl, wa0⟩ := open_cfg (hval 0 26 v0 rfl rfl) h0
  obtain ⟨A1, c1, l1, rfl, wa1⟩ := open_scrs (hval 1 45 v1 rfl rfl) h1
  obtain ⟨rr1, wa1⟩ := wa1 (wt (j := 1) rfl rfl)
  obtain ⟨a1, rfl, ra1, ii1, il1⟩ := RdRC.of_rows rr1
  obtain ⟨a2, rfl, rfl, rfl, wn2⟩ := open_int Tryz.underlying3 (hval 2 3 v2 rfl rfl) h2
  obtain ⟨A3, c3, a3, rfl, wa3⟩ := open_row (hval 3 27 v3 rfl rfl) h3
  obtain ⟨ra3, wa3⟩ := wa3 (wt (j := 3) rfl rfl)
  obtain ⟨zs3, rfl, hz3⟩ := RowZ.of_rd ra3
  refine (watchTight_walk g0 a1 a2 zs3 V0 D0 E0 A1 A3 cv0 cd0 ce0 c1 c3 W (wa0 (wt (j := 0) rfl rfl)) ra1 wa1 ii1 il1 hz3 wa3).mono fun ee W' ⟨he, hb⟩ => ?_
  subst he
  refine ⟨_, rfl, post_true hW' rfl rfl rfl (trodAll_mk4 (Below.trod Tryz.laidOut (by kernel_rfl) (of_decide_eq_true (by kernel_rfl)) h0 hb fun x hx => hlt x (by simp [hx])) (Below.trod Tryz.laidOut (by kernel_rfl) (of_decide_eq_true (by kernel_rfl)) h1 hb fun x hx => hlt x (by simp [hx])) (Below.trod Tryz.laidOut (by kernel_rfl) (of_decide_eq_true (by kernel_rfl)) h2 hb fun x hx => hlt x (by simp at hx)) (Below.trod Tryz.laidOut (by kernel_rfl) (of_decide_eq_true (by kernel_rfl)) h3 hb fun x hx => hlt x (by simp [hx]))) hb⟩

theorem and_t {a b : Bool} (h : a = true) (k : b = true) : (a && b) = true := by rw [h, k]; rfl
set_option maxHeartbeats 8000000 in
theorem watchTight_closed : joinedFacts Tryz.prog 5 Tryz.f5 Rows.watchTightSpec Rows.watchTightRow = true := by
  unfold joinedFacts
  repeat (refine and_t ?_ (by as_aux_lemma => kernel_rfl))
  as_aux_lemma => kernel_rfl

theorem watchTight_holds : Rows.WatchTightSaid :=
  OpenClaim.holds_of_wide 5 Tryz.f5 rfl rfl rfl rfl rfl rfl rfl ⟨rfl, rfl, rfl, rfl, rfl⟩ rfl rfl rfl rfl rfl (by kernel_rfl) Tryz.func5 watchTight_closed
    (of_decide_eq_true (by kernel_rfl)) (by unfold Func.isWrapper; first | (rw [if_pos (by decide +kernel)]; kernel_rfl) | (rw [if_neg (by decide +kernel)]; exact ⟨rfl, rfl⟩))
    (fun os started H enc _ => watchTight_lifted os started H enc)
#print axioms watchTight_holds
end Go.Proofs.YtkncebcekhfnfaaGreat
