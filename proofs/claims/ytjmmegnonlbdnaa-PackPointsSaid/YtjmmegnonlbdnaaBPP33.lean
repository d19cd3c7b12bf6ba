/-
  The packs of roots, in the order of their least members, in plain words.
  slices.SortFunc at a row of slices that are not empty, by their first numbers.
-/
import Derived.Test.YtjmmegnonlbdnaaBPP30
import Derived.Test.YtjmmegnonlbdnaaLibs
import Derived.Shelf.SlSortCmp.Whole1
import Derived.Shelf.SlSortCmp.NoneTotal
namespace Go.Proofs.Ytjmmegnonlbdnaa
section
open Go.RowKit

/-- No lesser variable has its root. -/
def isMin (R : Nat → Nat) (v : Nat) : Bool := (List.range v).all (fun u => decide (R u ≠ R v))
def minsR (R : Nat → Nat) (N : Nat) : List Nat := (List.range N).filter (isMin R)
/-- The packs. -/
def packsR (R : Nat → Nat) (N : Nat) : List (List Int) := (minsR R N).map (fun v => classL R N (R v))
/-- The roots that have a member. -/
def rootsL (R : Nat → Nat) (N : Nat) : List Nat := (List.range 64).filter (fun p => decide (0 < (classL R N p).length))

theorem class_mem {R : Nat → Nat} {N p : Nat} : 0 < (classL R N p).length ↔ ∃ v, v < N ∧ R v = p := by
  unfold classL
  rw [List.length_map, List.length_pos_iff_exists_mem]
  simp
theorem class_first {R : Nat → Nat} {N v : Nat} (hv : v < N) (hm : isMin R v = true) : gI (classL R N (R v)) 0 = v := by
  have h1 : (List.range N).find? (fun u => decide (R u = R v)) = some v := by
    rw [List.find?_range_eq_some]
    refine ⟨by simp, List.mem_range.2 hv, fun j hj => ?_⟩
    have := List.all_eq_true.1 hm j (List.mem_range.2 hj)
    simpa using this
  rw [← List.head?_filter] at h1
  unfold classL gI
  cases h : (List.range N).filter (fun u => decide (R u = R v)) with
  | nil => rw [h] at h1; simp at h1
  | cons a l => rw [h] at h1; simp at h1; subst h1; rfl
theorem min_of_mem {R : Nat → Nat} {N p : Nat} (h : ∃ v, v < N ∧ R v = p) : ∃ v, v < N ∧ R v = p ∧ isMin R v = true := by
  obtain ⟨v, hv, hp⟩ := h
  induction v using Nat.strongRecOn with
  | _ v ih =>
    cases hm : isMin R v
    · unfold isMin at hm
      rw [List.all_eq_false] at hm
      obtain ⟨u, hu, hr⟩ := hm
      have hu' := List.mem_range.1 hu
      exact ih u hu' (by omega) (by simp at hr; omega)
    · exact ⟨v, hv, hp, hm⟩
theorem roots_perm {R : Nat → Nat} {N : Nat} (hN : N ≤ 64) (hR : ∀ v, v < N → R v < N) : ((minsR R N).map R).Perm (rootsL R N) := by
  rw [List.perm_ext_iff_of_nodup]
  · intro p
    unfold minsR rootsL
    simp only [List.mem_map, List.mem_filter, List.mem_range, decide_eq_true_eq, class_mem]
    constructor
    · rintro ⟨v, ⟨hv, hm⟩, rfl⟩
      exact ⟨by have := hR v hv; omega, v, hv, rfl⟩
    · rintro ⟨hp, h⟩
      obtain ⟨v, hv, hr, hm⟩ := min_of_mem h
      exact ⟨v, ⟨hv, hm⟩, hr⟩
  · unfold minsR
    rw [List.nodup_iff_pairwise_ne, List.pairwise_map]
    have h1 : List.Pairwise (fun a b => a < b) ((List.range N).filter (isMin R)) := List.Pairwise.filter _ List.pairwise_lt_range
    refine h1.imp_of_mem ?_
    intro a b ha hb hab e
    have hm := (List.mem_filter.1 hb).2
    have := List.all_eq_true.1 hm a (List.mem_range.2 hab)
    simp [e] at this
  · exact List.Pairwise.filter _ List.nodup_range
/-- Sorted by their first numbers, the roots are in the order of the least members. -/
theorem sorted_roots {R : Nat → Nat} {N : Nat} (hN : N ≤ 64) (hR : ∀ v, v < N → R v < N) {Q : List Nat} (hp : Q.Perm (rootsL R N)) (hs : ∀ i j (hij : i < j) (hj : j < Q.length), gI (classL R N (Q[i]'(by omega))) 0 ≤ gI (classL R N Q[j]) 0) :
    Q.map (fun p => classL R N p) = packsR R N := by
  have hQ : Q = (minsR R N).map R := by
    refine List.Perm.eq_of_pairwise (le := fun a b => gI (classL R N a) 0 ≤ gI (classL R N b) 0) ?_ ?_ ?_ (hp.trans (roots_perm hN hR).symm)
    · intro a b ha hb h1 h2
      have ha' := (hp.trans (roots_perm hN hR).symm).mem_iff.1 ha
      simp only [List.mem_map] at ha' hb
      obtain ⟨u, hu, rfl⟩ := ha'
      obtain ⟨v, hv, rfl⟩ := hb
      have hu2 := List.mem_filter.1 hu
      have hv2 := List.mem_filter.1 hv
      rw [class_first (List.mem_range.1 hu2.1) hu2.2, class_first (List.mem_range.1 hv2.1) hv2.2] at h1 h2
      have : u = v := by omega
      rw [this]
    · rw [List.pairwise_iff_getElem]
      intro i j hi hj hij
      exact hs i j hij hj
    · rw [List.pairwise_map]
      have h1 : List.Pairwise (fun a b => a < b) (minsR R N) := List.Pairwise.filter _ List.pairwise_lt_range
      refine h1.imp_of_mem ?_
      intro a b ha hb hab
      have ha2 := List.mem_filter.1 ha
      have hb2 := List.mem_filter.1 hb
      rw [class_first (List.mem_range.1 ha2.1) ha2.2, class_first (List.mem_range.1 hb2.1) hb2.2]
      omega
  rw [hQ, List.map_map]
  rfl

theorem slD_list (f : Nat → Value) : (slD f).toList = (List.range 64).map (fun p => slOf (f p)) := by
  unfold slD
  rw [Array.toList_ofFn]
  apply List.ext_getElem
  · rw [List.length_ofFn, List.length_map, List.length_range]
  · intro i h1 h2
    simp only [List.getElem_ofFn, List.getElem_map, List.getElem_range]
theorem kept_eq {f : Nat → Value} {R : Nat → Nat} {N : Nat} (h : ∀ p, p < 64 → (slOf (f p)).l = (classL R N p).length) : keptS (slD f).toList = (rootsL R N).map (fun p => slOf (f p)) := by
  unfold keptS rootsL
  rw [slD_list, List.filter_map]
  congr 1
  apply List.filter_congr
  intro p hp
  have := h p (List.mem_range.1 hp)
  simp only [Function.comp, noneS, this]
  rw [Bool.eq_iff_iff]
  simp only [Bool.not_eq_true', decide_eq_false_iff_not, decide_eq_true_eq]
  omega
theorem packs_len {R : Nat → Nat} {N : Nat} (hN : N ≤ 64) (hR : ∀ v, v < N → R v < N) : (packsR R N).length = (rootsL R N).length := by
  rw [← (roots_perm hN hR).length_eq]; simp [packsR]
/-- What pack.Of leaves. -/
def PackRes (w : World) (ps : List (List Int)) (e : Ending) (w' : World) : Prop :=
  ∃ G cap, e = .returned (.tuple #[.slice (some ⟨G, 0, none⟩) ps.length cap, .int .i64 0]) ∧ RdL w' w'.heap.size (some ⟨G, 0, none⟩) ps ∧ Below w.heap.size w w'
end
section
open Go.RowKit Go.Shelf Go.Lib Go.Sort

theorem cmp_lt (x y : Int) : decide (cmpI x y < 0) = decide (x < y) := by
  unfold cmpI
  by_cases h1 : x < y
  · simp [h1]
  · by_cases h2 : y < x <;> simp [h1, h2]
theorem swo_cmp {α : Type} (fs : α → Int) : SWO (ltOf (fun x y => cmpI (fs x) (fs y))) where
  irrefl x := by unfold ltOf; rw [cmp_lt]; simp
  trans x y z h1 h2 := by unfold ltOf at *; rw [cmp_lt] at *; simp at *; omega
  ntrans x y z h1 h2 := by unfold ltOf at *; rw [cmp_lt] at *; simp at *; omega

set_option maxHeartbeats 2000000 in
theorem psort_any (P : List Nat) (gg : Nat → SlP) (fs : Nat → Int) (w : World) (G cap : Nat) (hcells : ∀ j (h : j < P.length), w.cell? ⟨G, j, none⟩ = some (encS (gg P[j]))) (hfr : ∀ j, j < P.length → w.frozen? ⟨G, j, none⟩ = false) (hG : G < w.heap.size)
    (hv : ∀ p ∈ P, ∃ b, (gg p).a = some ⟨b, 0, none⟩ ∧ b ≠ G ∧ b < w.heap.size ∧ 0 < (gg p).l ∧ w.cell? ⟨b, 0, none⟩ = some (.int .i64 (fs p))) (hlen : P.length ≤ 64) :
    Calls Try.prog 27 #[.slice (some ⟨G, 0, none⟩) P.length cap, .func (.func 28) #[] #[]] w fun e w' => e = .returned (.tuple #[]) ∧ w.grownBy w' (some G) ∧
      ∃ Q : List Nat, Q.Perm P ∧ (∀ i j (hij : i < j) (hj : j < Q.length), fs (Q[i]'(by omega)) ≤ fs Q[j]) ∧ ∀ j (h : j < Q.length), w'.cell? ⟨G, j, none⟩ = some (encS (gg Q[j])) := by
  by_cases hne : P = []
  · subst hne
    have L0 : Go.Proofs.SlLaysF0.n6 Try.prog Try.laySort_ren := { Try.laySort with }
    refine (AnyF.slices_SortFunc_none L0 (some ⟨G, 0, none⟩) cap (.func (.func 28) #[] #[]) w).mono ?_
    rintro e w' ⟨rfl, rfl⟩
    exact ⟨rfl, World.grownBy.refl _ _, [], List.Perm.refl _, fun i j _ hj => absurd hj (by simp), fun j hj => absurd hj (by simp)⟩
  obtain ⟨p0, hp0⟩ : ∃ p, p ∈ P := List.exists_mem_of_ne_nil P hne
  let _i : Inhabited {p // p ∈ P} := ⟨⟨p0, hp0⟩⟩
  have eg : ∀ args w, (callFunc 28 args).run Try.prog w = .ok (.enter 28 args) w := enters_of Try.func28 (by kernel_rfl) rfl
  have hds : P.attach.toArray.size = P.length := by simp
  have hH : Holds (fun p : {p // p ∈ P} => encS (gg p.1)) w G 0 P.attach.toArray := fun j hj => by
    rw [hds] at hj
    rw [Nat.zero_add]
    refine ⟨?_, hfr j hj⟩
    rw [hcells j hj, getElem!_pos _ j (by rw [hds]; exact hj)]
    simp
  have hcmp : CmpLays1 Try.prog 28 #[] (fun p : {p // p ∈ P} => encS (gg p.1)) (fun x y => cmpI (fs x.1) (fs y.1)) G 0 P.attach.toArray.size w := by
    intro m os dk hdk x y
    obtain ⟨b1, e1, n1, l1, z1, c1⟩ := hv x.1 x.2
    obtain ⟨b2, e2, n2, l2, z2, c2⟩ := hv y.1 y.2
    have hc : ∀ b v, b ≠ G → b < w.heap.size → w.cell? ⟨b, 0, none⟩ = some v → (sortWorld (fun p : {p // p ∈ P} => encS (gg p.1)) w G 0 m dk os).cell? ⟨b, 0, none⟩ = some v := fun b v hb hlt h => by
      rw [← h]
      exact World.cell?_of_block (a := ⟨b, 0, none⟩) ((grown_putRow _ w m G dk os).block b hlt (fun e => hb (by injection e)))
    have := closure2 b1 (gg x.1).l (gg x.1).c b2 (gg y.1).l (gg y.1).c (fs x.1) (fs y.1) _ z1 z2 (hc b1 _ n1 l1 c1) (hc b2 _ n2 l2 c2)
    have ex : encS (gg x.1) = .slice (some ⟨b1, 0, none⟩) (gg x.1).l (gg x.1).c := by unfold encS; rw [e1]
    have ey : encS (gg y.1) = .slice (some ⟨b2, 0, none⟩) (gg y.1).l (gg y.1).c := by unfold encS; rw [e2]
    show Calls Try.prog 28 #[encS (gg x.1), encS (gg y.1)] _ _
    rw [ex, ey]
    refine this.mono ?_
    rintro e w' ⟨rfl, rfl⟩
    exact ⟨rfl, 1, #[], by rw [grow_empty]; rfl⟩
  have h := Any.slices_SortFunc Try.laySort (fun p : {p // p ∈ P} => encS (gg p.1)) (fun _ => rfl) (fun x y => cmpI (fs x.1) (fs y.1)) (swo_cmp (fun x : {p // p ∈ P} => fs x.1)) 28 #[] G 0 cap P.attach.toArray w eg hcmp hH hG (by rw [hds]; omega)
  rw [hds] at h
  refine h.mono ?_
  rintro e w' ⟨rfl, d', n, os, hp, hs, rfl⟩
  have hd' : d'.size = P.length := by rw [hp.1, hds]
  refine ⟨rfl, grown_putRow _ w n G d' os, d'.toList.map (·.1), ?_, ?_, ?_⟩
  · have h1 := hp.2.2
    have h2 : (d'.extract 0 P.length).toList = d'.toList := by rw [← hd']; simp
    have h3 : (P.attach.toArray.extract 0 P.length).toList = P.attach := by simp; exact List.take_of_length_le (by simp)
    rw [h2, h3] at h1
    have h4 := h1.map (fun x : {p // p ∈ P} => x.1)
    rw [List.attach_map_subtype_val] at h4
    exact h4
  · intro i j hij hj
    simp only [List.length_map, Array.length_toList, hd'] at hj
    have := hs i j (by omega) hij hj
    unfold ltOf at this
    rw [cmp_lt] at this
    simp only [decide_eq_false_iff_not] at this
    rw [getElem!_pos d' j (by omega), getElem!_pos d' i (by omega)] at this
    simp only [List.getElem_map, Array.getElem_toList]
    omega
  · intro j hj
    simp only [List.length_map, Array.length_toList, hd'] at hj
    have h5 : (sortWorld (fun p : {p // p ∈ P} => encS (gg p.1)) w G 0 n d' os).cell? ⟨G, j, none⟩ = (putRow (fun p : {p // p ∈ P} => encS (gg p.1)) (Sort.ahead w n) G 0 d').cell? ⟨G, j, none⟩ := by
      unfold sortWorld
      rw [cell?_grow _ _ _ (by rw [size_putRow]; exact hG)]
    rw [h5]
    have := cell?_putRow (fun p : {p // p ∈ P} => encS (gg p.1)) (Sort.ahead w n) G 0 P.attach.toArray d' (show Holds _ (Sort.ahead w n) G 0 _ from hH) (by rw [hd', hds]) j (by omega)
    rw [Nat.zero_add] at this
    rw [this, getElem!_pos d' j (by omega)]
    simp
end
end Go.Proofs.Ytjmmegnonlbdnaa
