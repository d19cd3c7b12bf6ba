/-
  A certificate as it comes in.
  For every certificate: ThinCerts returns true, and leaves what it was handed as it was. No condition.
-/
import Derived.Test.YtanbplidigokgaaOpenRow
import Derived.Test.YtanbplidigokgaaThinC
import Derived.Test.YtanbplidigokgaaRows
namespace Go.Proofs.Ytanbplidigokgaa
section
open Go.ChangeShapes Go.WideShapes Go.ChangeAt Go.RowKit Go.Joins

theorem cells_cert : Try.prog.cellsOf 60 = 3 := by kernel_rfl
section
variable {H : Type} {enc : TypeId × Value → H} {W : World} {base : Nat} {held : Bool}

set_option maxRecDepth 100000 in
theorem row_rows {spare : Nat → Bool} {fuel : Nat} {cs0 : List Value} {x : DataW H × List MemPlace} (hf : DataW.trod enc Try.prog W base spare held fuel 37 cs0 = some x) :
    ∃ (A : Option Addr) (c len : Nat), cs0 = [.slice A len c] ∧ ((∀ n ∈ x.1.weights Try.prog 37, n ≤ reachBytes) → RowRd W A len ∧ len ≤ 17592186044416) := by
  rcases DataW.trod_slice Try.underlying37 hf with ⟨h0, _⟩ | ⟨a', len, cap, elems, rest, n, _, hcs, hx, _, hl, _, hlen, hel, _⟩
  · subst h0
    exact ⟨none, 0, 0, rfl, fun _ => ⟨fun k hk => absurd hk (by simp), by simp⟩⟩
  · subst hcs
    subst hx
    refine ⟨some a', cap, len, rfl, fun hw => ?_⟩
    have hwt : ∀ y ∈ elems, ∀ q ∈ y.1.weights Try.prog 24, q ≤ reachBytes := fun y hy q hq => hw q (by
      simp only [DataW.weights, Try.underlying37, List.mem_cons, List.mem_append]
      exact .inr (.inl (weightsAll_in (List.mem_map_of_mem hy) q hq)))
    refine ⟨fun k hk => ?_, ?_⟩
    · have hk' := hel k hk
      have hke : k < elems.length := by omega
      rw [cells_oct, List.getElem?_eq_getElem hke, Option.bind_eq_some_iff] at hk'
      obtain ⟨cs, hcs, hy⟩ := hk'
      obtain ⟨vn, e, A, c, m, rfl, hr, hm, hg⟩ := row_oct hy
      obtain ⟨_, _, hcell⟩ := World.cells?_some hcs
      have t0 := hcell 0 (by omega)
      have t1 := hcell 1 (by omega)
      have t2 := hcell 2 (by omega)
      simp only [List.getElem?_cons_zero, List.getElem?_cons_succ] at t0 t1 t2
      have s0 := cell_lt t0
      obtain ⟨b, off, sp⟩ := a'
      have hb : b < W.heap.size := by simpa [block_add] using s0.1
      have hsp : sp = none := by
        have := s0.2
        by_cases hk0 : k = 0
        · subst hk0; simpa [Addr.add] using this
        · exact ((by
            have h0 := hel 0 (by omega)
            have h0e : 0 < elems.length := by omega
            rw [cells_oct, List.getElem?_eq_getElem h0e, Option.bind_eq_some_iff] at h0
            obtain ⟨cs', hcs', hy'⟩ := h0
            obtain ⟨vn', e', A', c', m', rfl, _⟩ := row_oct hy'
            have t := (World.cells?_some hcs').2.2 0 (by omega)
            simp only [List.getElem?_cons_zero] at t
            simpa [Addr.add] using (cell_lt t).2) : sp = none)
      subst hsp
      have ea : (⟨b, off, none⟩ : Addr).add (k * 3) = ⟨b, off + k * 3, none⟩ := add_mk _ _ _
      rw [ea, add_mk] at t0 t1 t2
      exact ⟨b, off, vn, e, A, c, m, rfl, hb, t0, t1, t2, hr, hm (hwt _ (List.getElem_mem hke)), hg⟩
    · have := hw (((elems.map (·.1)).length + (rest.map (·.1)).length) * Try.prog.bytesOf 24) (by simp [DataW.weights, Try.underlying37])
      rw [bytes_oct] at this
      have hr := reachBytes_lt
      simp at this
      omega

set_option maxRecDepth 100000 in
theorem open_cert {r : Reach} {b0 : Nat} {spare : Nat → Bool} {v : Value} {d : DataW H} {p : List MemPlace} (hv : Value.okWide Try.prog W r b0 60 v) (h : DataW.Trod enc Try.prog W base spare held 60 v d p) :
    ∃ (A : Option Addr) (c len : Nat) (x n : Int), v = .agg #[.int .u64 x, .int .i64 n, .slice A len c] ∧ ((∀ n ∈ d.weights Try.prog 60, n ≤ reachBytes) → RowRd W A len ∧ len ≤ 17592186044416) := by
  obtain ⟨v0, v1, v2, y0, y1, y2, n, rfl, rfl, rfl, h0, h1, h2⟩ := open_agg3 Try.underlying60 (by kernel_rfl) cells_cert hv h
  obtain ⟨k, hk, rfl, _⟩ := DataW.trod_int Try.underlying58 h0
  obtain ⟨k1, hk1, rfl, _⟩ := DataW.trod_int Try.underlying3 h1
  obtain ⟨A, c, len, he, hw⟩ := row_rows h2
  injection hk with hk; subst hk
  injection hk1 with hk1; subst hk1
  injection he with he; subst he
  refine ⟨A, c, len, k, k1, rfl, fun hn => hw fun q hq => hn q ?_⟩
  have e := Try.underlying60
  simp only [DataW.weights, e, DataW.weightsEach, List.map_cons, List.map_nil, List.mem_append]
  exact .inr (.inr (.inl hq))
end
end

section
open Go.ChangeShapes Go.WideShapes Go.ChangeAt Go.RowKit

set_option maxRecDepth 100000 in
theorem thinCerts_lifted (os : Os) (started : os.Started) (H : Type) (enc : TypeId × Value → H) :
    ReturnsInHanded {} Try.checked os 9 .any (Rows.thinCertsSpec.pre6 enc Try.prog Try.f9 Rows.thinCertsRow.domain false) (Rows.thinCertsSpec.post enc Try.prog Try.f9 false true false false) := by
  refine returnsInHanded_of_change_sized (C := Try.checked) Try.own started (by kernel_rfl) Try.func9
    (ChangeSpec.witness6 (enc := enc) (C := Try.checked) false ⟨#[], #[.agg #[.int .u64 0, .int .i64 0, .slice none 0 0]], []⟩ 8 (by kernel_rfl) (by kernel_rfl) (by kernel_rfl) (by kernel_rfl)) ?_
  intro W base args ds gs before hval0 hW hcnd hsz0 _
  have hval : ∀ (j : Nat) t v, Try.f9.params[j]? = some t → args[j]? = some v → Value.okWide Try.prog W .any base t v := hval0
  have hW' := hW
  obtain ⟨p, q, hA0, hV, rfl, hfz, hnd⟩ := hW
  have hA : DataW.TrodAll enc Try.prog W 0 (fun _ => true) true Try.f9.params.toList args.toList ds p := hA0
  have hsz : (DataW.weightsEach Try.prog (Try.f9.params.toList ++ []) (ds ++ gs)).all (· ≤ reachBytes) = true := hsz0
  rw [Try.params9] at hA hval hsz
  obtain ⟨v0, d0, rfl, rfl, h0⟩ := trodAll_one hA
  obtain ⟨rfl, rfl⟩ := trodVars_none hV
  have e : p ++ [] = p := by simp
  rw [e] at hW'
  have hlt : ∀ x ∈ p, x.block < W.heap.size := fun x hx => hW'.lt x hx
  have wt : ∀ {j : Nat} {t : TypeId} {d : DataW H}, [60][j]? = some t → [d0][j]? = some d → ∀ n ∈ d.weights Try.prog t, n ≤ reachBytes := fun ht hd n hn => by
    have := List.all_eq_true.1 hsz n (DataW.weights_mem_each (by simpa using ht) (by simpa using hd) n hn)
    simpa using this
  obtain ⟨A0, c0, l0, x0, n0, rfl, wa0⟩ := open_cert (hval 0 60 v0 rfl rfl) h0
  obtain ⟨ra0, wl0⟩ := wa0 (wt (j := 0) rfl rfl)
  obtain ⟨zs, rfl, rz⟩ := RowZ.of_rd ra0
  refine (thinCerts_walk x0 n0 zs A0 c0 W rz wl0).mono fun ee W' ⟨he, hb⟩ => ?_
  subst he
  refine ⟨_, rfl, post_true hW' rfl rfl rfl (trodAll_mk1 (Below.trod Try.laidOut (by kernel_rfl) (of_decide_eq_true (by kernel_rfl)) h0 hb fun x hx => hlt x (by simp [hx]))) hb⟩

theorem thinCerts_holds : Rows.ThinCertsSaid :=
  OpenClaim.holds_of_wide 9 Try.f9 rfl rfl rfl rfl rfl rfl rfl ⟨rfl, rfl, rfl, rfl, rfl⟩ rfl rfl rfl rfl rfl (by kernel_rfl) Try.func9 (by kernel_rfl)
    (of_decide_eq_true (by kernel_rfl)) (by unfold Func.isWrapper; first | (rw [if_pos (by decide +kernel)]; kernel_rfl) | (rw [if_neg (by decide +kernel)]; exact ⟨rfl, rfl⟩))
    (fun os started H enc _ => thinCerts_lifted os started H enc)
#print axioms thinCerts_holds
end
end Go.Proofs.Ytanbplidigokgaa
