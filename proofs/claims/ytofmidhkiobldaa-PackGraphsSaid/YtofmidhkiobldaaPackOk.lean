/-
  The packs of a graph are packs of its variables.
-/
import Derived.Test.YtofmidhkiobldaaPG45
import Derived.Test.YtofmidhkiobldaaPacks
namespace Go.Proofs.Ytofmidhkiobldaa
open Go.RowKit

theorem gI_get {l : List Int} {j : Nat} (h : j < l.length) : gI l j = l[j] := by unfold gI; simp [h]
theorem gI_get0 {l : List Int} (h : 0 < l.length) : gI l 0 = l[0] := gI_get (j := 0) h
theorem row_mem {L : Nat → Nat} {N v : Nat} {x : Int} : x ∈ refRow L N v ↔ ∃ w, w < N ∧ v ≤ w ∧ L w = v ∧ x = (w : Int) := by
  unfold refRow
  simp only [List.mem_map, List.mem_filter, List.mem_range, decide_eq_true_eq]
  constructor
  · rintro ⟨w, ⟨h1, h2, h3⟩, rfl⟩; exact ⟨w, h1, h2, h3, rfl⟩
  · rintro ⟨w, h1, h2, h3, rfl⟩; exact ⟨w, ⟨h1, h2, h3⟩, rfl⟩
theorem row_lt (L : Nat → Nat) (N v : Nat) : (refRow L N v).Pairwise (· < ·) := by
  unfold refRow
  rw [List.pairwise_map]
  have h : List.Pairwise (fun a b => a < b) ((List.range N).filter (fun w => decide (v ≤ w ∧ L w = v))) := List.Pairwise.filter _ List.pairwise_lt_range
  exact h.imp (fun h => Int.ofNat_lt.2 h)
theorem row_head {L : Nat → Nat} {N v : Nat} (hv : v < N) (hl : L v = v) : 0 < (refRow L N v).length ∧ gI (refRow L N v) 0 = v := by
  have hm : (v : Int) ∈ refRow L N v := row_mem.2 ⟨v, hv, Nat.le_refl _, hl, rfl⟩
  have hp : 0 < (refRow L N v).length := List.length_pos_of_mem hm
  refine ⟨hp, ?_⟩
  obtain ⟨k, hk, e⟩ := List.getElem_of_mem hm
  obtain ⟨w, _, h2, _, h4⟩ := row_mem.1 (List.getElem_mem hp)
  rw [gI_get0 hp]
  rcases Nat.eq_zero_or_pos k with rfl | hk0
  · exact e
  · have := (List.pairwise_iff_getElem.1 (row_lt L N v)) 0 k hp hk hk0
    omega
def labs (L : Nat → Nat) (N : Nat) : List Nat := (List.range N).filter (fun v => decide (L v = v))
theorem labs_lt (L : Nat → Nat) (N : Nat) : (labs L N).Pairwise (· < ·) := List.Pairwise.filter _ List.pairwise_lt_range
theorem labs_mem {L : Nat → Nat} {N v : Nat} : v ∈ labs L N ↔ v < N ∧ L v = v := by unfold labs; simp
theorem flat_nodup (L : Nat → Nat) (N : Nat) : (refPacks L N).flatten.Nodup := by
  rw [List.nodup_iff_pairwise_ne, List.pairwise_flatten]
  constructor
  · intro l hl
    obtain ⟨v, _, rfl⟩ := List.mem_map.1 hl
    exact (row_lt L N v).imp (fun h => Int.ne_of_lt h)
  · unfold refPacks
    rw [List.pairwise_map]
    refine (labs_lt L N).imp ?_
    intro a b hab x hx y hy e
    obtain ⟨u, _, _, h1, h2⟩ := row_mem.1 hx
    obtain ⟨v, _, _, h3, h4⟩ := row_mem.1 hy
    have : u = v := by omega
    subst this
    omega
theorem flat_len {L : Nat → Nat} {N : Nat} (ho : LbOk L N) : (refPacks L N).flatten.length = N := by
  have hp : (refPacks L N).flatten.Perm ((List.range N).map Int.ofNat) := by
    rw [List.perm_ext_iff_of_nodup (flat_nodup L N)]
    · intro x
      simp only [List.mem_flatten, List.mem_map, List.mem_range, refPacks]
      constructor
      · rintro ⟨l, ⟨v, _, rfl⟩, hx⟩
        obtain ⟨w, h1, _, _, rfl⟩ := row_mem.1 hx
        exact ⟨w, h1, rfl⟩
      · rintro ⟨w, hw, rfl⟩
        have := ho w hw
        exact ⟨_, ⟨L w, labs_mem.2 ⟨by omega, this.2⟩, rfl⟩, row_mem.2 ⟨w, hw, this.1, rfl, rfl⟩⟩
    · rw [List.nodup_iff_pairwise_ne, List.pairwise_map]
      refine (List.pairwise_lt_range (n := N)).imp ?_
      intro a b hab e
      have : a = b := Int.ofNat.inj e
      omega
  rw [hp.length_eq]; simp
theorem acc_prefix {ps : List (List Int)} {i j : Nat} (hi : i < ps.length) : accL ps i j <+: ps.flatten := by
  have e : ps.flatten = (ps.take i).flatten ++ (rowL ps i ++ (ps.drop (i + 1)).flatten) := by
    have h1 : ps = ps.take i ++ (ps[i] :: ps.drop (i + 1)) := by
      rw [← List.drop_eq_getElem_cons hi, List.take_append_drop]
    have h2 : rowL ps i = ps[i] := by unfold rowL; simp [hi]
    rw [h2]
    calc ps.flatten = (ps.take i ++ (ps[i] :: ps.drop (i + 1))).flatten := congrArg _ h1
      _ = _ := by rw [List.flatten_append, List.flatten_cons]
  rw [e]
  unfold accL
  exact (List.prefix_append_right_inj _).2 ((List.take_prefix _ _).trans (List.prefix_append _ _))
theorem packs_ok {L : Nat → Nat} {N : Nat} (ho : LbOk L N) (hN : N ≤ 64) : packErr (N : Int) (refPacks L N) = 0 := by
  have hlen : (refPacks L N).length = (labs L N).length := by unfold refPacks labs; simp
  have hrow : ∀ i (hi : i < (labs L N).length), rowL (refPacks L N) i = refRow L N (labs L N)[i] := fun i hi => by
    have hi' : i < ((labs L N).map (refRow L N)).length := by simpa using hi
    show ((labs L N).map (refRow L N)).getD i [] = _
    rw [List.getD_eq_getElem?_getD, List.getElem?_eq_getElem hi', Option.getD_some, List.getElem_map]
  have hlab : ∀ i (hi : i < (labs L N).length), (labs L N)[i] < N ∧ L (labs L N)[i] = (labs L N)[i] := fun i hi => labs_mem.1 (List.getElem_mem hi)
  rw [packErr_ok ⟨by omega, by omega⟩]
  · rw [flat_len ho]; simp
  rw [List.all_eq_true]
  intro i hi
  have hi := List.mem_range.1 hi
  have hi' : i < (labs L N).length := by omega
  have hh := row_head (hlab i hi').1 (hlab i hi').2
  unfold rowP headP
  rw [hrow i hi']
  rw [Bool.and_eq_true, Bool.and_eq_true, List.all_eq_true]
  refine ⟨⟨decide_eq_true hh.1, ?_⟩, ?_⟩
  · rw [hh.2]
    rcases Nat.eq_zero_or_pos i with rfl | hi0
    · rfl
    · rw [hrow (i - 1) (by omega), (row_head (hlab (i - 1) (by omega)).1 (hlab (i - 1) (by omega)).2).2]
      have := (List.pairwise_iff_getElem.1 (labs_lt L N)) (i - 1) i (by omega) hi' (by omega)
      rw [Bool.or_eq_true]
      exact .inr (decide_eq_true (by omega))
  · intro j hj
    have hj := List.mem_range.1 hj
    unfold cellP
    rw [hrow i hi']
    obtain ⟨w, h1, _, _, h4⟩ := row_mem.1 (List.getElem_mem hj)
    have e := gI_get hj
    rw [Bool.and_eq_true, Bool.and_eq_true, Bool.or_eq_true]
    refine ⟨⟨decide_eq_true (by omega), ?_⟩, ?_⟩
    · have hn : (accL (refPacks L N) i (j + 1)).Nodup := (flat_nodup L N).sublist (acc_prefix hi).sublist
      rw [accL_succ (by rw [hrow i hi']; exact hj), hrow i hi', List.nodup_append] at hn
      have : gI (refRow L N (labs L N)[i]) j ∉ accL (refPacks L N) i j := fun hm => hn.2.2 _ hm _ (by simp) rfl
      simpa using this
    · rcases Nat.eq_zero_or_pos j with rfl | hj0
      · exact .inl rfl
      · refine .inr (decide_eq_true ?_)
        rw [e, gI_get (show j - 1 < _ by omega)]
        exact (List.pairwise_iff_getElem.1 (row_lt L N _)) (j - 1) j (by omega) hj (by omega)
end Go.Proofs.Ytofmidhkiobldaa
