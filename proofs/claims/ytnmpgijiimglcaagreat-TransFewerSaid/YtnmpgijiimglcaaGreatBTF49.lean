/-
  From the row to the walk: numbers, operands, ranges as they come in.
  From the row to the walk: five parameters; a slice of int64 whose cells are such numbers.
  For every octagon, every number of a comparison, every two operands and every numbers: TransFewer returns true, and leaves what it was handed as it was. No condition.
-/
import Derived.Test.YtnmpgijiimglcaaGreatOpen
import Derived.Test.YtnmpgijiimglcaaGreatBTF19
import Derived.Test.YtnmpgijiimglcaaGreatBTF15
import Derived.Test.YtnmpgijiimglcaaGreatRows
import Derived.Test.YtnmpgijiimglcaaGreatLawTF
namespace Go.Proofs.YtnmpgijiimglcaaGreat
section
open Go.ChangeShapes Go.WideShapes Go.ChangeAt Go.RowKit Go.Joins

theorem wf_i64 {n : Int} (h : (Lit.int .i64 n).wf = true) : I64 n := range_i64 (zs := [n]) (fun k hk => by simp at hk; subst hk; exact h) 0
section
variable {H : Type} {enc : TypeId × Value → H} {W : World} {base : Nat} {held : Bool} {spare : Nat → Bool} {r : Reach} {b0 : Nat} {v : Value} {d : DataW H} {p : List MemPlace}
set_option maxRecDepth 100000 in
theorem open_opd (hv : Value.okWide Tryz.prog W r b0 26 v) (h : DataW.Trod enc Tryz.prog W base spare held 26 v d p) :
    ∃ (a b : Int), v = .agg #[.int .i64 a, .int .i64 b] ∧ I64 a ∧ I64 b ∧ p = [] := by
  obtain ⟨v0, v1, y0, y1, n, rfl, rfl, rfl, h0, h1⟩ := open_agg2 Tryz.underlying26 (by kernel_rfl) (by kernel_rfl) hv h
  obtain ⟨k0, hk0, rfl, w0⟩ := DataW.trod_int Tryz.underlying3 h0
  obtain ⟨k1, hk1, rfl, w1⟩ := DataW.trod_int Tryz.underlying2 h1
  injection hk0 with hk0; subst hk0
  injection hk1 with hk1; subst hk1
  exact ⟨k0, k1, rfl, wf_i64 w0, wf_i64 w1, rfl⟩
end
end
section
open Go.ChangeShapes Go.WideShapes Go.ChangeAt Go.RowKit Go.Joins

section
variable {H : Type} {enc : TypeId × Value → H} {P : Program} {w : World} {base : Nat} {held : Bool} {spare : Nat → Bool}
theorem trodAll_five {t0 t1 t2 t3 t4 : TypeId} {args : Array Value} {ds : List (DataW H)} {ps : List MemPlace} (h : DataW.TrodAll enc P w base spare held [t0, t1, t2, t3, t4] args.toList ds ps) :
    ∃ v0 v1 v2 v3 v4 d0 d1 d2 d3 d4 p0 p1 p2 p3 p4, args = #[v0, v1, v2, v3, v4] ∧ ds = [d0, d1, d2, d3, d4] ∧ ps = p0 ++ p1 ++ p2 ++ p3 ++ p4 ∧ DataW.Trod enc P w base spare held t0 v0 d0 p0 ∧ DataW.Trod enc P w base spare held t1 v1 d1 p1 ∧ DataW.Trod enc P w base spare held t2 v2 d2 p2 ∧ DataW.Trod enc P w base spare held t3 v3 d3 p3 ∧ DataW.Trod enc P w base spare held t4 v4 d4 p4 := by
  obtain ⟨v, vs, d, ds', p, q, hargs, rfl, rfl, hd, hrest⟩ := trodAll_cons h
  obtain ⟨v', vs', d', ds'', p', q', rfl, rfl, rfl, hd', hrest'⟩ := trodAll_cons hrest
  obtain ⟨v'', vs'', d'', ds''', p'', q'', rfl, rfl, rfl, hd'', hrest''⟩ := trodAll_cons hrest'
  obtain ⟨v3, vs3, d3, ds3, p3, q3, rfl, rfl, rfl, hd3, hrest3⟩ := trodAll_cons hrest''
  obtain ⟨v4, vs4, d4, ds4, p4, q4, rfl, rfl, rfl, hd4, hrest4⟩ := trodAll_cons hrest3
  obtain ⟨rfl, rfl, rfl⟩ := trodAll_nil hrest4
  exact ⟨v, v', v'', v3, v4, d, d', d'', d3, d4, p, p', p'', p3, p4, by cases args; simp_all, rfl, by simp, hd, hd', hd'', hd3, hd4⟩
theorem trodAll_mk5 {t0 t1 t2 t3 t4 : TypeId} {v0 v1 v2 v3 v4 : Value} {d0 d1 d2 d3 d4 : DataW H} {p0 p1 p2 p3 p4 : List MemPlace} (h0 : DataW.Trod enc P w base spare held t0 v0 d0 p0) (h1 : DataW.Trod enc P w base spare held t1 v1 d1 p1)
    (h2 : DataW.Trod enc P w base spare held t2 v2 d2 p2) (h3 : DataW.Trod enc P w base spare held t3 v3 d3 p3) (h4 : DataW.Trod enc P w base spare held t4 v4 d4 p4) : DataW.TrodAll enc P w base spare held [t0, t1, t2, t3, t4] [v0, v1, v2, v3, v4] [d0, d1, d2, d3, d4] (p0 ++ (p1 ++ (p2 ++ (p3 ++ p4)))) :=
  ⟨p0, p1 ++ (p2 ++ (p3 ++ p4)), h0, trodAll_mk4 h1 h2 h3 h4, rfl⟩
end
section
variable {H : Type} {enc : TypeId × Value → H} {W : World} {base : Nat} {held : Bool} {spare : Nat → Bool} {r : Reach} {b0 : Nat} {v : Value} {d : DataW H} {p : List MemPlace}
theorem row_intsI {spare : Nat → Bool} {fuel : Nat} {cs : List Value} {x : DataW H × List MemPlace} (h : DataW.trod enc Tryz.prog W base spare held fuel 22 cs = some x) :
    ∃ (A : Option Addr) (c : Nat) (m : List Int), cs = [.slice A m.length c] ∧ Rd W W.heap.size A m ∧ ((∀ n ∈ x.1.weights Tryz.prog 22, n ≤ reachBytes) → m.length ≤ 17592186044416) ∧ ∀ i : Nat, I64 (gI m (i : Int)) := by
  rcases open_ints Tryz.underlying22 Tryz.underlying2 cells_i64 h with ⟨rfl, rfl⟩ | ⟨a, len, cap, zs, rfl, _, hl, _, hzl, rfl, hc, hwf⟩
  · exact ⟨none, 0, [], rfl, fun k hk => absurd hk (by simp), fun _ => by simp, fun i => by simp [gI, I64]⟩
  · have hle : len ≤ zs.length := by rw [hzl]; split <;> omega
    have hml : (zs.take len).length = len := by simp; omega
    refine ⟨some a, cap, zs.take len, by rw [hml], fun k hk => ?_, fun hw => ?_, fun i => (range_i64 (zs := zs.take len) (fun n hn => hwf n (List.mem_of_mem_take hn)) i)⟩
    · rw [hml] at hk
      have h0 := cell_lt (hc 0 (by omega))
      have hk' := hc k (by omega)
      obtain ⟨b, off, sp⟩ := a
      have hsp : sp = none := by simpa [Addr.add] using h0.2
      subst hsp
      have hb : b < W.heap.size := by simpa [Addr.add] using h0.1
      refine ⟨b, off, rfl, hb, ?_⟩
      have e : (⟨b, off, none⟩ : Addr).add k = ⟨b, off + k, none⟩ := by unfold Addr.add; split <;> simp_all
      rw [← e, hk']
      unfold gI
      rw [getD_take_lt zs len _ 0 (by simpa using hk)]
      rfl
    · have := hw (((lits (H := H) IntKind.i64 (zs.take len)).length + (lits (H := H) IntKind.i64 (zs.drop len)).length) * Tryz.prog.bytesOf 2) (by simp [DataW.weights, Tryz.underlying22])
      rw [bytes_i64] at this
      have hr := reachBytes_lt
      simp [lits] at this
      omega
set_option maxRecDepth 100000 in
theorem open_longsI (hv : Value.okWide Tryz.prog W r b0 22 v) (h : DataW.Trod enc Tryz.prog W base spare held 22 v d p) :
    ∃ (A : Option Addr) (c : Nat) (m : List Int), v = .slice A m.length c ∧ Rd W W.heap.size A m ∧ (∀ k : Nat, I64 (gI m (k : Int))) ∧ ((∀ n ∈ d.weights Tryz.prog 22, n ≤ reachBytes) → m.length ≤ 17592186044416) := by
  obtain ⟨a, len, cap, rfl⟩ := okWide_slice Tryz.underlying22 hv
  obtain ⟨fuel, hf⟩ := h
  obtain ⟨A, c, m, he, hr, hw, hI⟩ := row_intsI hf
  simp [Value.cells] at he
  obtain ⟨rfl, rfl, rfl⟩ := he
  exact ⟨_, _, m, rfl, hr, hI, hw⟩
end
end
section
open Go.ChangeShapes Go.WideShapes Go.ChangeAt Go.RowKit

set_option maxRecDepth 100000 in
theorem transFewer_lifted (os : Os) (started : os.Started) (H : Type) (enc : TypeId × Value → H) :
    ReturnsInHanded {} Tryz.checked os 11 .any (Rows.transFewerSpec.pre6 enc Tryz.prog Tryz.f11 Rows.transFewerRow.domain false) (Rows.transFewerSpec.post enc Tryz.prog Tryz.f11 false true false false) := by
  refine returnsInHanded_of_change_sized (C := Tryz.checked) Tryz.own started (by kernel_rfl) Tryz.func11
    (ChangeSpec.witness6 (enc := enc) (C := Tryz.checked) false ⟨#[], #[.agg #[.int .i64 0, .bool false, .slice none 0 0], .int .i64 0, .agg #[.int .i64 0, .int .i64 0], .agg #[.int .i64 0, .int .i64 0], .slice none 0 0], []⟩ 8 (by kernel_rfl) (by kernel_rfl) (by kernel_rfl) (by kernel_rfl)) ?_
  intro W base args ds gs before hval0 hW hcnd hsz0 _
  have hval : ∀ (j : Nat) t v, Tryz.f11.params[j]? = some t → args[j]? = some v → Value.okWide Tryz.prog W .any base t v := hval0
  have hW' := hW
  obtain ⟨p, q, hA0, hV, rfl, hfz, hnd⟩ := hW
  have hA : DataW.TrodAll enc Tryz.prog W 0 (fun _ => true) true Tryz.f11.params.toList args.toList ds p := hA0
  have hsz : (DataW.weightsEach Tryz.prog (Tryz.f11.params.toList ++ []) (ds ++ gs)).all (· ≤ reachBytes) = true := hsz0
  rw [Tryz.params11] at hA hval hsz
  obtain ⟨v0, v1, v2, v3, v4, d0, d1, d2, d3, d4, p0, p1, p2, p3, p4, rfl, rfl, rfl, h0, h1, h2, h3, h4⟩ := trodAll_five hA
  obtain ⟨rfl, rfl⟩ := trodVars_none hV
  have e : p0 ++ p1 ++ p2 ++ p3 ++ p4 ++ [] = p0 ++ (p1 ++ (p2 ++ (p3 ++ p4))) := by simp
  rw [e] at hW'
  have hlt : ∀ x ∈ p0 ++ (p1 ++ (p2 ++ (p3 ++ p4))), x.block < W.heap.size := fun x hx => hW'.lt x hx
  have wt : ∀ {j : Nat} {t : TypeId} {d : DataW H}, [24, 3, 26, 26, 22][j]? = some t → [d0, d1, d2, d3, d4][j]? = some d → ∀ n ∈ d.weights Tryz.prog t, n ≤ reachBytes := fun ht hd n hn => by
    have := List.all_eq_true.1 hsz n (DataW.weights_mem_each (by simpa using ht) (by simpa using hd) n hn)
    simpa using this
  obtain ⟨A0, c0, a0, rfl, ra0, wa0⟩ := open_oct (hval 0 24 v0 rfl rfl) h0
  obtain ⟨a1, rfl, rfl, rfl, wn1⟩ := open_int Tryz.underlying3 (hval 1 3 v1 rfl rfl) h1
  obtain ⟨a2, b2, rfl, ia2, ib2, rfl⟩ := open_opd (hval 2 26 v2 rfl rfl) h2
  obtain ⟨a3, b3, rfl, ia3, ib3, rfl⟩ := open_opd (hval 3 26 v3 rfl rfl) h3
  obtain ⟨A4, c4, a4, rfl, ra4, ii4, wa4⟩ := open_longsI (hval 4 22 v4 rfl rfl) h4
  refine (transFewer_walk a0 a1 a2 b2 a3 b3 a4 ia2 ib2 ia3 ib3 A0 A4 c0 c4 W ra0 ra4 (wa0 (wt (j := 0) rfl rfl)) (wa4 (wt (j := 4) rfl rfl)) ii4).mono fun ee W' ⟨he, hb⟩ => ?_
  subst he
  refine ⟨_, rfl, post_true hW' rfl rfl rfl (trodAll_mk5 (Below.trod Tryz.laidOut (by kernel_rfl) (of_decide_eq_true (by kernel_rfl)) h0 hb fun x hx => hlt x (by simp [hx])) (Below.trod Tryz.laidOut (by kernel_rfl) (of_decide_eq_true (by kernel_rfl)) h1 hb fun x hx => hlt x (by simp at hx)) (Below.trod Tryz.laidOut (by kernel_rfl) (of_decide_eq_true (by kernel_rfl)) h2 hb fun x hx => hlt x (by simp at hx)) (Below.trod Tryz.laidOut (by kernel_rfl) (of_decide_eq_true (by kernel_rfl)) h3 hb fun x hx => hlt x (by simp at hx)) (Below.trod Tryz.laidOut (by kernel_rfl) (of_decide_eq_true (by kernel_rfl)) h4 hb fun x hx => hlt x (by simp [hx]))) hb⟩

theorem and_t {a b : Bool} (h : a = true) (k : b = true) : (a && b) = true := by rw [h, k]; rfl
set_option maxHeartbeats 8000000 in
theorem transFewer_closed : joinedFacts Tryz.prog 11 Tryz.f11 Rows.transFewerSpec Rows.transFewerRow = true := by
  unfold joinedFacts
  repeat (refine and_t ?_ (by as_aux_lemma => kernel_rfl))
  as_aux_lemma => kernel_rfl

theorem transFewer_holds : Rows.TransFewerSaid :=
  OpenClaim.holds_of_wide 11 Tryz.f11 rfl rfl rfl rfl rfl rfl rfl ⟨rfl, rfl, rfl, rfl, rfl⟩ rfl rfl rfl rfl rfl (by kernel_rfl) Tryz.func11 transFewer_closed
    (of_decide_eq_true (by kernel_rfl)) (by unfold Func.isWrapper; first | (rw [if_pos (by decide +kernel)]; kernel_rfl) | (rw [if_neg (by decide +kernel)]; exact ⟨rfl, rfl⟩))
    (fun os started H enc _ => transFewer_lifted os started H enc)
#print axioms transFewer_holds
end
end Go.Proofs.YtnmpgijiimglcaaGreat
