/-
  The packs of roots, in the order of their least members, in plain words.
  slices.SortFunc at a row of slices that are not empty, by their first numbers.
  pack.Of of a graph that is one: what it answers (under way).
  gnomonhelp.Ints, gnomonhelp.Lists at equal lists: true.
  gnomonlaw23.known answers true.
-/
import Derived.Test.YtofmidhkiobldaaPackOf
import Derived.Test.YtofmidhkiobldaaLibs
import Derived.Shelf.SlSortCmp.Whole1
import Derived.Test.YtofmidhkiobldaaPacks
import Derived.Test.YtofmidhkiobldaaFlowE
namespace Go.Proofs.Ytofmidhkiobldaa
section
open Go.RowKit

/-- No lesser variable has its root. -/
def isMin (R : Nat → Nat) (v : Nat) : Bool := (List.range v).all (fun u => decide (R u ≠ R v))
def minsR (R : Nat → Nat) (N : Nat) : List Nat := (List.range N).filter (isMin R)
/-- The packs. -/
def packsR (R : Nat → Nat) (N : Nat) : List (List Int) := (minsR R N).map (fun v => classL R N (R v))
/-- The roots that have a member. -/
def rootsL (R : Nat → Nat) (N : Nat) : List Nat := (List.range 64).filter (fun p => decide (0 < (classL R N p).length))

theorem class_mem {R : Nat → Nat} {N p : Nat} : 0 < (classL R N p).length ↔ ∃ v, v < N ∧ R v = p := by
  unfold classL
  rw [List.length_map, List.length_pos_iff_exists_mem]
  simp
theorem class_first {R : Nat → Nat} {N v : Nat} (hv : v < N) (hm : isMin R v = true) : gI (classL R N (R v)) 0 = v := by
  have h1 : (List.range N).find? (fun u => decide (R u = R v)) = some v := by
    rw [List.find?_range_eq_some]
    refine ⟨by simp, List.mem_range.2 hv, fun j hj => ?_⟩
    have := List.all_eq_true.1 hm j (List.mem_range.2 hj)
    simpa using this
  rw [← List.head?_filter] at h1
  unfold classL gI
  cases h : (List.range N).filter (fun u => decide (R u = R v)) with
  | nil => rw [h] at h1; simp at h1
  | cons a l => rw [h] at h1; simp at h1; subst h1; rfl
theorem min_of_mem {R : Nat → Nat} {N p : Nat} (h : ∃ v, v < N ∧ R v = p) : ∃ v, v < N ∧ R v = p ∧ isMin R v = true := by
  obtain ⟨v, hv, hp⟩ := h
  induction v using Nat.strongRecOn with
  | _ v ih =>
    cases hm : isMin R v
    · unfold isMin at hm
      rw [List.all_eq_false] at hm
      obtain ⟨u, hu, hr⟩ := hm
      have hu' := List.mem_range.1 hu
      exact ih u hu' (by omega) (by simp at hr; omega)
    · exact ⟨v, hv, hp, hm⟩
theorem roots_perm {R : Nat → Nat} {N : Nat} (hN : N ≤ 64) (hR : ∀ v, v < N → R v < N) : ((minsR R N).map R).Perm (rootsL R N) := by
  rw [List.perm_ext_iff_of_nodup]
  · intro p
    unfold minsR rootsL
    simp only [List.mem_map, List.mem_filter, List.mem_range, decide_eq_true_eq, class_mem]
    constructor
    · rintro ⟨v, ⟨hv, hm⟩, rfl⟩
      exact ⟨by have := hR v hv; omega, v, hv, rfl⟩
    · rintro ⟨hp, h⟩
      obtain ⟨v, hv, hr, hm⟩ := min_of_mem h
      exact ⟨v, ⟨hv, hm⟩, hr⟩
  · unfold minsR
    rw [List.nodup_iff_pairwise_ne, List.pairwise_map]
    have h1 : List.Pairwise (fun a b => a < b) ((List.range N).filter (isMin R)) := List.Pairwise.filter _ List.pairwise_lt_range
    refine h1.imp_of_mem ?_
    intro a b ha hb hab e
    have hm := (List.mem_filter.1 hb).2
    have := List.all_eq_true.1 hm a (List.mem_range.2 hab)
    simp [e] at this
  · exact List.Pairwise.filter _ List.nodup_range
/-- Sorted by their first numbers, the roots are in the order of the least members. -/
theorem sorted_roots {R : Nat → Nat} {N : Nat} (hN : N ≤ 64) (hR : ∀ v, v < N → R v < N) {Q : List Nat} (hp : Q.Perm (rootsL R N)) (hs : ∀ i j (hij : i < j) (hj : j < Q.length), gI (classL R N (Q[i]'(by omega))) 0 ≤ gI (classL R N Q[j]) 0) :
    Q.map (fun p => classL R N p) = packsR R N := by
  have hQ : Q = (minsR R N).map R := by
    refine List.Perm.eq_of_pairwise (le := fun a b => gI (classL R N a) 0 ≤ gI (classL R N b) 0) ?_ ?_ ?_ (hp.trans (roots_perm hN hR).symm)
    · intro a b ha hb h1 h2
      have ha' := (hp.trans (roots_perm hN hR).symm).mem_iff.1 ha
      simp only [List.mem_map] at ha' hb
      obtain ⟨u, hu, rfl⟩ := ha'
      obtain ⟨v, hv, rfl⟩ := hb
      have hu2 := List.mem_filter.1 hu
      have hv2 := List.mem_filter.1 hv
      rw [class_first (List.mem_range.1 hu2.1) hu2.2, class_first (List.mem_range.1 hv2.1) hv2.2] at h1 h2
      have : u = v := by omega
      rw [this]
    · rw [List.pairwise_iff_getElem]
      intro i j hi hj hij
      exact hs i j hij hj
    · rw [List.pairwise_map]
      have h1 : List.Pairwise (fun a b => a < b) (minsR R N) := List.Pairwise.filter _ List.pairwise_lt_range
      refine h1.imp_of_mem ?_
      intro a b ha hb hab
      have ha2 := List.mem_filter.1 ha
      have hb2 := List.mem_filter.1 hb
      rw [class_first (List.mem_range.1 ha2.1) ha2.2, class_first (List.mem_range.1 hb2.1) hb2.2]
      omega
  rw [hQ, List.map_map]
  rfl

theorem slD_list (f : Nat → Value) : (slD f).toList = (List.range 64).map (fun p => slOf (f p)) := by
  unfold slD
  rw [Array.toList_ofFn]
  apply List.ext_getElem
  · rw [List.length_ofFn, List.length_map, List.length_range]
  · intro i h1 h2
    simp only [List.getElem_ofFn, List.getElem_map, List.getElem_range]
theorem kept_eq {f : Nat → Value} {R : Nat → Nat} {N : Nat} (h : ∀ p, p < 64 → (slOf (f p)).l = (classL R N p).length) : keptS (slD f).toList = (rootsL R N).map (fun p => slOf (f p)) := by
  unfold keptS rootsL
  rw [slD_list, List.filter_map]
  congr 1
  apply List.filter_congr
  intro p hp
  have := h p (List.mem_range.1 hp)
  simp only [Function.comp, noneS, this]
  rw [Bool.eq_iff_iff]
  simp only [Bool.not_eq_true', decide_eq_false_iff_not, decide_eq_true_eq]
  omega
theorem packs_len {R : Nat → Nat} {N : Nat} (hN : N ≤ 64) (hR : ∀ v, v < N → R v < N) : (packsR R N).length = (rootsL R N).length := by
  rw [← (roots_perm hN hR).length_eq]; simp [packsR]
/-- What pack.Of leaves. -/
def PackRes (w : World) (ps : List (List Int)) (e : Ending) (w' : World) : Prop :=
  ∃ G cap, e = .returned (.tuple #[.slice (some ⟨G, 0, none⟩) ps.length cap, .int .i64 0]) ∧ RdL w' w'.heap.size (some ⟨G, 0, none⟩) ps ∧ Below w.heap.size w w'
end

section
open Go.RowKit Go.Shelf Go.Lib Go.Sort

theorem cmp_lt (x y : Int) : decide (cmpI x y < 0) = decide (x < y) := by
  unfold cmpI
  by_cases h1 : x < y
  · simp [h1]
  · by_cases h2 : y < x <;> simp [h1, h2]
theorem swo_cmp {α : Type} (fs : α → Int) : SWO (ltOf (fun x y => cmpI (fs x) (fs y))) where
  irrefl x := by unfold ltOf; rw [cmp_lt]; simp
  trans x y z h1 h2 := by unfold ltOf at *; rw [cmp_lt] at *; simp at *; omega
  ntrans x y z h1 h2 := by unfold ltOf at *; rw [cmp_lt] at *; simp at *; omega

set_option maxHeartbeats 2000000 in
theorem psort_any (P : List Nat) (hne : P ≠ []) (gg : Nat → Sl) (fs : Nat → Int) (w : World) (G cap : Nat) (hcells : ∀ j (h : j < P.length), w.cell? ⟨G, j, none⟩ = some (encS (gg P[j]))) (hfr : ∀ j, j < P.length → w.frozen? ⟨G, j, none⟩ = false) (hG : G < w.heap.size)
    (hv : ∀ p ∈ P, ∃ b, (gg p).a = some ⟨b, 0, none⟩ ∧ b ≠ G ∧ b < w.heap.size ∧ 0 < (gg p).l ∧ w.cell? ⟨b, 0, none⟩ = some (.int .i64 (fs p))) (hlen : P.length ≤ 64) :
    Calls Try.prog 27 #[.slice (some ⟨G, 0, none⟩) P.length cap, .func (.func 28) #[] #[]] w fun e w' => e = .returned (.tuple #[]) ∧ w.grownBy w' (some G) ∧
      ∃ Q : List Nat, Q.Perm P ∧ (∀ i j (hij : i < j) (hj : j < Q.length), fs (Q[i]'(by omega)) ≤ fs Q[j]) ∧ ∀ j (h : j < Q.length), w'.cell? ⟨G, j, none⟩ = some (encS (gg Q[j])) := by
  obtain ⟨p0, hp0⟩ : ∃ p, p ∈ P := List.exists_mem_of_ne_nil P hne
  let _i : Inhabited {p // p ∈ P} := ⟨⟨p0, hp0⟩⟩
  have eg : ∀ args w, (callFunc 28 args).run Try.prog w = .ok (.enter 28 args) w := enters_of Try.func28 (by kernel_rfl) rfl
  have hds : P.attach.toArray.size = P.length := by simp
  have hH : Holds (fun p : {p // p ∈ P} => encS (gg p.1)) w G 0 P.attach.toArray := fun j hj => by
    rw [hds] at hj
    rw [Nat.zero_add]
    refine ⟨?_, hfr j hj⟩
    rw [hcells j hj, getElem!_pos _ j (by rw [hds]; exact hj)]
    simp
  have hcmp : CmpLays1 Try.prog 28 #[] (fun p : {p // p ∈ P} => encS (gg p.1)) (fun x y => cmpI (fs x.1) (fs y.1)) G 0 P.attach.toArray.size w := by
    intro m os dk hdk x y
    obtain ⟨b1, e1, n1, l1, z1, c1⟩ := hv x.1 x.2
    obtain ⟨b2, e2, n2, l2, z2, c2⟩ := hv y.1 y.2
    have hc : ∀ b v, b ≠ G → b < w.heap.size → w.cell? ⟨b, 0, none⟩ = some v → (sortWorld (fun p : {p // p ∈ P} => encS (gg p.1)) w G 0 m dk os).cell? ⟨b, 0, none⟩ = some v := fun b v hb hlt h => by
      rw [← h]
      exact World.cell?_of_block (a := ⟨b, 0, none⟩) ((grown_putRow _ w m G dk os).block b hlt (fun e => hb (by injection e)))
    have := closure2 b1 (gg x.1).l (gg x.1).c b2 (gg y.1).l (gg y.1).c (fs x.1) (fs y.1) _ z1 z2 (hc b1 _ n1 l1 c1) (hc b2 _ n2 l2 c2)
    have ex : encS (gg x.1) = .slice (some ⟨b1, 0, none⟩) (gg x.1).l (gg x.1).c := by unfold encS; rw [e1]
    have ey : encS (gg y.1) = .slice (some ⟨b2, 0, none⟩) (gg y.1).l (gg y.1).c := by unfold encS; rw [e2]
    show Calls Try.prog 28 #[encS (gg x.1), encS (gg y.1)] _ _
    rw [ex, ey]
    refine this.mono ?_
    rintro e w' ⟨rfl, rfl⟩
    exact ⟨rfl, 1, #[], by rw [grow_empty]; rfl⟩
  have h := Any.slices_SortFunc Try.laySort (fun p : {p // p ∈ P} => encS (gg p.1)) (fun _ => rfl) (fun x y => cmpI (fs x.1) (fs y.1)) (swo_cmp (fun x : {p // p ∈ P} => fs x.1)) 28 #[] G 0 cap P.attach.toArray w eg hcmp hH hG (by rw [hds]; omega)
  rw [hds] at h
  refine h.mono ?_
  rintro e w' ⟨rfl, d', n, os, hp, hs, rfl⟩
  have hd' : d'.size = P.length := by rw [hp.1, hds]
  refine ⟨rfl, grown_putRow _ w n G d' os, d'.toList.map (·.1), ?_, ?_, ?_⟩
  · have h1 := hp.2.2
    have h2 : (d'.extract 0 P.length).toList = d'.toList := by rw [← hd']; simp
    have h3 : (P.attach.toArray.extract 0 P.length).toList = P.attach := by simp; exact List.take_of_length_le (by simp)
    rw [h2, h3] at h1
    have h4 := h1.map (fun x : {p // p ∈ P} => x.1)
    rw [List.attach_map_subtype_val] at h4
    exact h4
  · intro i j hij hj
    simp only [List.length_map, Array.length_toList, hd'] at hj
    have := hs i j (by omega) hij hj
    unfold ltOf at this
    rw [cmp_lt] at this
    simp only [decide_eq_false_iff_not] at this
    rw [getElem!_pos d' j (by omega), getElem!_pos d' i (by omega)] at this
    simp only [List.getElem_map, Array.getElem_toList]
    omega
  · intro j hj
    simp only [List.length_map, Array.length_toList, hd'] at hj
    have h5 : (sortWorld (fun p : {p // p ∈ P} => encS (gg p.1)) w G 0 n d' os).cell? ⟨G, j, none⟩ = (putRow (fun p : {p // p ∈ P} => encS (gg p.1)) (Sort.ahead w n) G 0 d').cell? ⟨G, j, none⟩ := by
      unfold sortWorld
      rw [cell?_grow _ _ _ (by rw [size_putRow]; exact hG)]
    rw [h5]
    have := cell?_putRow (fun p : {p // p ∈ P} => encS (gg p.1)) (Sort.ahead w n) G 0 P.attach.toArray d' (show Holds _ (Sort.ahead w n) G 0 _ from hH) (by rw [hd', hds]) j (by omega)
    rw [Nat.zero_add] at this
    rw [this, getElem!_pos d' j (by omega)]
    simp
end

section
open Go.RowKit
attribute [local go_sem ↓] Go.wp_at_zero Go.wp_at_succ

set_option maxRecDepth 8000 in
set_option maxHeartbeats 8000000 in
theorem packof_any (g : Gr) (V D E : Option Addr) (cv cd ce : Nat) (w : World) (hD : RdD w w.heap.size D g.sz) (hE : RdE w w.heap.size E g.es) (lv : g.nv ≤ 17592186044416) (ls : g.sz.length ≤ 17592186044416) (le : g.es.length ≤ 17592186044416) (hk : chk g = 0) (N : Nat) (hN : g.all = (N : Int)) (hN0 : 0 < N) :
    Calls Try.prog 7 #[grV g V D E cv cd ce] w (PackRes w (packsR (rootsOf g.es g.es.length) N)) := by
  have n0 := new1 w (.cells #[.slice V g.nv cv, .int .i64 g.tm, .slice D g.sz.length cd, .int .i64 g.pts, .int .i64 g.ex, .slice E g.es.length ce] 26)
  have k0 := Blk.new w 26 #[.slice V g.nv cv, .int .i64 g.tm, .slice D g.sz.length cd, .int .i64 g.pts, .int .i64 g.ex, .slice E g.es.length ce]
  replace hD := hD.up n0
  replace hE := hE.up n0
  have HC := hid (gcheck_any g V D E cv cd ce _ hD hE lv ls le)
  obtain ⟨tm0, tm1, al1, es1, hvars⟩ := chk_zero hk
  have HVARS := hid hvars
  have HK := hid hk
  rw [hk] at HC
  clear hk hvars
  unfold grV at *
  have HN := hid hN
  have hN64 : N ≤ 64 := by omega
  clear hN
  obtain ⟨x0, x1, x2, x3, x4, x5, fx⟩ := blk6 k0
  go_enter Try.func7, Try.ntmps7
  go_wp2_with fail
  refine HC.out.mono ?_
  clear HC x0 x1 x2 x3 x4 x5 fx
  generalize w.alloc (.cells #[.slice V g.nv cv, .int .i64 g.tm, .slice D g.sz.length cd, .int .i64 g.pts, .int .i64 g.ex, .slice E g.es.length ce] 26) = w0 at *
  rintro e1 w1 ⟨rfl, hb1⟩
  replace k0 := k0.later hb1
  replace hE := hE.up hb1
  replace n0 := bup n0 hb1
  clear hb1 hD
  have hnt : (g.nv : Int) + g.tm = (N : Int) := HN.out
  have r9 := links_start w1
  have n9 := new1 w1 (.cells #[.int .i64 0, .int .i64 0, .int .i64 0, .int .i64 0, .int .i64 0, .int .i64 0, .int .i64 0, .int .i64 0, .int .i64 0, .int .i64 0, .int .i64 0, .int .i64 0, .int .i64 0, .int .i64 0, .int .i64 0, .int .i64 0, .int .i64 0, .int .i64 0, .int .i64 0, .int .i64 0, .int .i64 0, .int .i64 0, .int .i64 0, .int .i64 0, .int .i64 0, .int .i64 0, .int .i64 0, .int .i64 0, .int .i64 0, .int .i64 0, .int .i64 0, .int .i64 0, .int .i64 0, .int .i64 0, .int .i64 0, .int .i64 0, .int .i64 0, .int .i64 0, .int .i64 0, .int .i64 0, .int .i64 0, .int .i64 0, .int .i64 0, .int .i64 0, .int .i64 0, .int .i64 0, .int .i64 0, .int .i64 0, .int .i64 0, .int .i64 0, .int .i64 0, .int .i64 0, .int .i64 0, .int .i64 0, .int .i64 0, .int .i64 0, .int .i64 0, .int .i64 0, .int .i64 0, .int .i64 0, .int .i64 0, .int .i64 0, .int .i64 0, .int .i64 0] 59)
  obtain ⟨x0, x1, x2, x3, x4, x5, fx⟩ := blk6 k0
  go_wp2
  clear x0 x1 x2 x3 x4 x5 fx hnt
  have hs9 : Hid ((w1.alloc (.cells #[.int .i64 0, .int .i64 0, .int .i64 0, .int .i64 0, .int .i64 0, .int .i64 0, .int .i64 0, .int .i64 0, .int .i64 0, .int .i64 0, .int .i64 0, .int .i64 0, .int .i64 0, .int .i64 0, .int .i64 0, .int .i64 0, .int .i64 0, .int .i64 0, .int .i64 0, .int .i64 0, .int .i64 0, .int .i64 0, .int .i64 0, .int .i64 0, .int .i64 0, .int .i64 0, .int .i64 0, .int .i64 0, .int .i64 0, .int .i64 0, .int .i64 0, .int .i64 0, .int .i64 0, .int .i64 0, .int .i64 0, .int .i64 0, .int .i64 0, .int .i64 0, .int .i64 0, .int .i64 0, .int .i64 0, .int .i64 0, .int .i64 0, .int .i64 0, .int .i64 0, .int .i64 0, .int .i64 0, .int .i64 0, .int .i64 0, .int .i64 0, .int .i64 0, .int .i64 0, .int .i64 0, .int .i64 0, .int .i64 0, .int .i64 0, .int .i64 0, .int .i64 0, .int .i64 0, .int .i64 0, .int .i64 0, .int .i64 0, .int .i64 0, .int .i64 0] 59)).heap.size = w1.heap.size + 1) := hid (by simp)
  generalize w1.alloc (.cells #[.int .i64 0, .int .i64 0, .int .i64 0, .int .i64 0, .int .i64 0, .int .i64 0, .int .i64 0, .int .i64 0, .int .i64 0, .int .i64 0, .int .i64 0, .int .i64 0, .int .i64 0, .int .i64 0, .int .i64 0, .int .i64 0, .int .i64 0, .int .i64 0, .int .i64 0, .int .i64 0, .int .i64 0, .int .i64 0, .int .i64 0, .int .i64 0, .int .i64 0, .int .i64 0, .int .i64 0, .int .i64 0, .int .i64 0, .int .i64 0, .int .i64 0, .int .i64 0, .int .i64 0, .int .i64 0, .int .i64 0, .int .i64 0, .int .i64 0, .int .i64 0, .int .i64 0, .int .i64 0, .int .i64 0, .int .i64 0, .int .i64 0, .int .i64 0, .int .i64 0, .int .i64 0, .int .i64 0, .int .i64 0, .int .i64 0, .int .i64 0, .int .i64 0, .int .i64 0, .int .i64 0, .int .i64 0, .int .i64 0, .int .i64 0, .int .i64 0, .int .i64 0, .int .i64 0, .int .i64 0, .int .i64 0, .int .i64 0, .int .i64 0, .int .i64 0] 59) = w9 at *
  go_loopw [29] (fun i wr => ∃ k : Nat, k ≤ N ∧ i = .int .i64 k ∧ wr.rowIs w1.heap.size 59 64 (fun v => .int .i64 ((if v < k then v else 0 : Nat) : Int)) ∧ Below w1.heap.size w9 wr) (fun i _ => N - (intOf i).toNat)
  case atStart => exact ⟨0, by omega, rfl, r9.congr (fun _ _ => by simp), Below.refl _ _⟩
  case round =>
    clear r9
    obtain ⟨k, hk, rfl, hrow, hb⟩ := hrel
    by_cases hlt : k < N
    · have hlt' : (k : Int) < (N : Int) := by omega
      have hk64 : k < 64 := by omega
      have hk64' : (k : Int) < 64 := by omega
      have hcell := hrow.cell hk64
      have hfr := hrow.frozen
      have HROW := hid hrow
      clear hrow
      simp only [Nat.lt_irrefl, if_false] at hcell
      go_wp2
      go_roundw
      case rel =>
        refine ⟨k + 1, by omega, by go_num, World.rowIs.congr (HROW.out.set k (.int .i64 (k : Nat))) ?_, hb.setCell (by simp) _⟩
        intro i hi
        by_cases e : i = k
        · subst e; simp
        · rw [if_neg e]
          by_cases e2 : i < k
          · rw [if_pos e2, if_pos (by omega)]
          · rw [if_neg e2, if_neg (by omega)]
      case measure => simp [intOf]; omega
    · obtain rfl : k = N := by omega
      have hE1 := hid hE
      have L0 : Links k (fun v => if v < k then v else 0) (fun x => x) := ⟨fun x hx => by simp [hx], fun x hx => ⟨0, .here (by simp [hx])⟩⟩
      have B0 : ∀ x, x < 64 → (if x < k then x else 0) < 64 := fun x hx => by split <;> omega
      have HL0 := hid L0
      have HB0 := hid B0
      have HR0 := hid hrow
      have hb0 := hid hb
      have k1 := (k0.later n9).below hb (by have := k0.lt; exact this)
      obtain ⟨x0, x1, x2, x3, x4, x5, fx⟩ := blk6 k1
      clear hrow hb L0 B0
      go_wp2
      clear x0 x1 x2 x3 x4 x5 fx
      go_loopw [39] (fun i wr => ∃ (j : Nat) (f : Nat → Nat), j ≤ g.es.length ∧ i = .int .i64 j ∧ Hid (Links k f (rootsOf g.es j)) ∧ Hid (∀ x, x < 64 → f x < 64) ∧ Hid (wr.rowIs w1.heap.size 59 64 (fun v => .int .i64 (f v : Nat))) ∧ Below w1.heap.size w9 wr) (fun i _ => g.es.length - (intOf i).toNat)
      case atStart => exact ⟨0, _, by omega, rfl, HL0, HB0, HR0, hb0.out⟩
      case round =>
        clear HL0 HB0 HR0
        obtain ⟨j, f, hj, rfl, HLK, HBD, HROW, hb⟩ := hrel
        by_cases hlt : j < g.es.length
        · have hlt' : (j : Int) < (g.es.length : Int) := by omega
          have HSU := hid (rootsOf_succ g.es j hlt)
          obtain ⟨hv1, hv2, hv3⟩ := HVARS.out j hlt
          have hEw : RdE wr w1.heap.size E g.es := (hE1.out.below n9).below hb
          obtain ⟨x, hx⟩ : ∃ x, g.es[j] = x := ⟨_, rfl⟩
          obtain ⟨b, off, rfl, hB, p0, p1, p2, p3, p4, p5, p6, p7, p8, p9⟩ := hEw.get hlt hx
          rw [hx] at HSU hv1 hv2 hv3
          rw [HN.out] at hv1 hv2 hv3
          have HV : Hid (∀ m : Nat, m < 3 → gI (trio x) m = -1 ∨ (0 ≤ gI (trio x) m ∧ gI (trio x) m < (k : Int))) := hid (fun m hm => by
            have : m = 0 ∨ m = 1 ∨ m = 2 := by omega
            rcases this with rfl | rfl | rfl
            · exact hv1
            · exact hv2
            · exact hv3)
          have hB' : b < wr.heap.size := by have := HROW.out.lt; omega
          have n8 := new1 wr (.cells (ecs x) 56)
          have HROW8 := hid (HROW.out.alloc (.cells (ecs x) 56))
          have hb8 : Below w1.heap.size w9 (wr.alloc (.cells (ecs x) 56)) := hb.trans (n8.mono (by have := HROW.out.lt; omega))
          clear hEw hx hv1 hv2 hv3 n8 hb
          unfold ecs at *
          go_wp2
          clear p0 p1 p2 p3 p4 p5 p6 p7 p8 p9
          generalize wr.alloc (.cells _ 56) = w5 at *
          go_loopw [10, 52] (fun fi ix wr => ∃ (m : Nat) (f : Nat → Nat), m ≤ 3 ∧ ix = .int .i64 m ∧ fi = .int .i64 (stepsV (rootsOf g.es j) x m).2 ∧ Hid ((stepsV (rootsOf g.es j) x m).2 = -1 ∨ (0 ≤ (stepsV (rootsOf g.es j) x m).2 ∧ (stepsV (rootsOf g.es j) x m).2 < (k : Int))) ∧ Hid (Links k f (stepsV (rootsOf g.es j) x m).1) ∧ Hid (∀ x, x < 64 → f x < 64) ∧ Hid (wr.rowIs w1.heap.size 59 64 (fun v => .int .i64 (f v : Nat))) ∧ Below w1.heap.size w9 wr) (fun _ ix _ => 3 - (intOf ix).toNat)
          case atStart => exact ⟨0, f, by omega, rfl, rfl, hid (.inl rfl), HLK, HBD, HROW8, hb8⟩
          case round =>
            clear HLK HBD HROW HROW8 hb8
            obtain ⟨m, f, hm, rfl, rfl, HFI, HLK, HBD, HROW, hb⟩ := hrel
            by_cases hlt2 : m < 3
            · have hlt3 : (m : Int) < 3 := by omega
              have hix := idx3 hlt2 x.dst x.av x.bv
              have HST := hid (stepsV_succ (rootsOf g.es j) x m hlt2)
              have hvm := HV.out m hlt2
              unfold trio at hvm HST
              generalize gI [x.dst, x.av, x.bv] m = v at *
              generalize stepsV (rootsOf g.es j) x m = S at *
              obtain ⟨R, fi⟩ := S
              dsimp only at HFI HLK ⊢
              by_cases hv0 : v < 0
              · have HS2 : Hid (stepsV (rootsOf g.es j) x (m + 1) = (R, fi)) := hid (by rw [HST.out]; unfold stepV; rw [if_pos hv0])
                clear HST hvm
                go_wp2
                go_roundw
                case rel => exact ⟨m + 1, f, by omega, by go_num, by rw [HS2.out], by rw [HS2.out]; exact HFI, by rw [HS2.out]; exact HLK, HBD, HROW, hb⟩
                case measure => simp [intOf]; omega
              · obtain ⟨q, rfl⟩ : ∃ q : Nat, v = (q : Int) := ⟨v.toNat, by omega⟩
                have hq : q < k := by omega
                clear hvm
                by_cases hf0 : 0 ≤ fi
                · obtain ⟨a, ha⟩ : ∃ a : Nat, fi = (a : Int) := ⟨fi.toNat, by omega⟩
                  have hak : a < k := by have := HFI.out; omega
                  subst ha
                  have HS2 : Hid (stepsV (rootsOf g.es j) x (m + 1) = (joinR R a q, (q : Int))) := hid (by rw [HST.out]; unfold stepV; rw [if_neg hv0]; simp)
                  have HJ := hid (join_any w1.heap.size k f R a q _ HLK.out hak hq hN64 HBD.out HROW.out)
                  clear HST HFI hv0
                  go_wp2_with fail
                  refine HJ.out.mono ?_
                  clear HJ
                  rintro e5 w5 ⟨rfl, hrow5, hb5⟩
                  go_wp2
                  go_roundw
                  case rel =>
                    refine ⟨m + 1, _, by omega, by go_num, by rw [HS2.out], by rw [HS2.out]; exact hid (.inr ⟨by omega, by show (q : Int) < _; omega⟩), by rw [HS2.out]; exact hid (HLK.out.join hak hq), hid ?_, hid hrow5, hb.trans hb5⟩
                    intro y hy
                    show (if y = R a then R q else f y) < 64
                    split
                    · exact Nat.lt_of_lt_of_le (HLK.out.rlt hq) hN64
                    · exact HBD.out y hy
                  case measure => simp [intOf]; omega
                · have HS2 : Hid (stepsV (rootsOf g.es j) x (m + 1) = (R, (q : Int))) := hid (by rw [HST.out]; unfold stepV; rw [if_neg hv0, if_neg hf0])
                  clear HST HFI hv0
                  go_wp2
                  go_roundw
                  case rel => exact ⟨m + 1, f, by omega, by go_num, by rw [HS2.out], by rw [HS2.out]; exact hid (.inr ⟨by omega, by show (q : Int) < _; omega⟩), by rw [HS2.out]; exact HLK, HBD, HROW, hb⟩
                  case measure => simp [intOf]; omega
            · obtain rfl : m = 3 := by omega
              have HS2 : Hid (rootsOf g.es (j + 1) = (stepsV (rootsOf g.es j) x 3).1) := hid (by rw [HSU.out]; rfl)
              clear HFI
              generalize stepsV (rootsOf g.es j) x 3 = S at *
              go_wp2
              go_roundw
              case rel => exact ⟨j + 1, f, by omega, by go_num, by rw [HS2.out]; exact HLK, HBD, HROW, hb⟩
              case measure => simp [intOf]; omega
        · obtain rfl : j = g.es.length := by omega
          have L6 := with_start wr
          have n6 := new1 wr (.cells #[.slice none 0 0, .slice none 0 0, .slice none 0 0, .slice none 0 0, .slice none 0 0, .slice none 0 0, .slice none 0 0, .slice none 0 0, .slice none 0 0, .slice none 0 0, .slice none 0 0, .slice none 0 0, .slice none 0 0, .slice none 0 0, .slice none 0 0, .slice none 0 0, .slice none 0 0, .slice none 0 0, .slice none 0 0, .slice none 0 0, .slice none 0 0, .slice none 0 0, .slice none 0 0, .slice none 0 0, .slice none 0 0, .slice none 0 0, .slice none 0 0, .slice none 0 0, .slice none 0 0, .slice none 0 0, .slice none 0 0, .slice none 0 0, .slice none 0 0, .slice none 0 0, .slice none 0 0, .slice none 0 0, .slice none 0 0, .slice none 0 0, .slice none 0 0, .slice none 0 0, .slice none 0 0, .slice none 0 0, .slice none 0 0, .slice none 0 0, .slice none 0 0, .slice none 0 0, .slice none 0 0, .slice none 0 0, .slice none 0 0, .slice none 0 0, .slice none 0 0, .slice none 0 0, .slice none 0 0, .slice none 0 0, .slice none 0 0, .slice none 0 0, .slice none 0 0, .slice none 0 0, .slice none 0 0, .slice none 0 0, .slice none 0 0, .slice none 0 0, .slice none 0 0, .slice none 0 0] 62)
          have hwl : w1.heap.size < wr.heap.size := HROW.out.lt
          have HROW6 := hid (HROW.out.alloc (.cells #[.slice none 0 0, .slice none 0 0, .slice none 0 0, .slice none 0 0, .slice none 0 0, .slice none 0 0, .slice none 0 0, .slice none 0 0, .slice none 0 0, .slice none 0 0, .slice none 0 0, .slice none 0 0, .slice none 0 0, .slice none 0 0, .slice none 0 0, .slice none 0 0, .slice none 0 0, .slice none 0 0, .slice none 0 0, .slice none 0 0, .slice none 0 0, .slice none 0 0, .slice none 0 0, .slice none 0 0, .slice none 0 0, .slice none 0 0, .slice none 0 0, .slice none 0 0, .slice none 0 0, .slice none 0 0, .slice none 0 0, .slice none 0 0, .slice none 0 0, .slice none 0 0, .slice none 0 0, .slice none 0 0, .slice none 0 0, .slice none 0 0, .slice none 0 0, .slice none 0 0, .slice none 0 0, .slice none 0 0, .slice none 0 0, .slice none 0 0, .slice none 0 0, .slice none 0 0, .slice none 0 0, .slice none 0 0, .slice none 0 0, .slice none 0 0, .slice none 0 0, .slice none 0 0, .slice none 0 0, .slice none 0 0, .slice none 0 0, .slice none 0 0, .slice none 0 0, .slice none 0 0, .slice none 0 0, .slice none 0 0, .slice none 0 0, .slice none 0 0, .slice none 0 0, .slice none 0 0] 62))
          have hb6 : Below w1.heap.size w9 (wr.alloc (.cells #[.slice none 0 0, .slice none 0 0, .slice none 0 0, .slice none 0 0, .slice none 0 0, .slice none 0 0, .slice none 0 0, .slice none 0 0, .slice none 0 0, .slice none 0 0, .slice none 0 0, .slice none 0 0, .slice none 0 0, .slice none 0 0, .slice none 0 0, .slice none 0 0, .slice none 0 0, .slice none 0 0, .slice none 0 0, .slice none 0 0, .slice none 0 0, .slice none 0 0, .slice none 0 0, .slice none 0 0, .slice none 0 0, .slice none 0 0, .slice none 0 0, .slice none 0 0, .slice none 0 0, .slice none 0 0, .slice none 0 0, .slice none 0 0, .slice none 0 0, .slice none 0 0, .slice none 0 0, .slice none 0 0, .slice none 0 0, .slice none 0 0, .slice none 0 0, .slice none 0 0, .slice none 0 0, .slice none 0 0, .slice none 0 0, .slice none 0 0, .slice none 0 0, .slice none 0 0, .slice none 0 0, .slice none 0 0, .slice none 0 0, .slice none 0 0, .slice none 0 0, .slice none 0 0, .slice none 0 0, .slice none 0 0, .slice none 0 0, .slice none 0 0, .slice none 0 0, .slice none 0 0, .slice none 0 0, .slice none 0 0, .slice none 0 0, .slice none 0 0, .slice none 0 0, .slice none 0 0] 62)) := hb.trans (n6.mono (by omega))
          go_wp2
          generalize hR : rootsOf g.es g.es.length = R at *
          generalize hF : wr.heap.size = F at *
          generalize wr.alloc (.cells #[.slice none 0 0, .slice none 0 0, .slice none 0 0, .slice none 0 0, .slice none 0 0, .slice none 0 0, .slice none 0 0, .slice none 0 0, .slice none 0 0, .slice none 0 0, .slice none 0 0, .slice none 0 0, .slice none 0 0, .slice none 0 0, .slice none 0 0, .slice none 0 0, .slice none 0 0, .slice none 0 0, .slice none 0 0, .slice none 0 0, .slice none 0 0, .slice none 0 0, .slice none 0 0, .slice none 0 0, .slice none 0 0, .slice none 0 0, .slice none 0 0, .slice none 0 0, .slice none 0 0, .slice none 0 0, .slice none 0 0, .slice none 0 0, .slice none 0 0, .slice none 0 0, .slice none 0 0, .slice none 0 0, .slice none 0 0, .slice none 0 0, .slice none 0 0, .slice none 0 0, .slice none 0 0, .slice none 0 0, .slice none 0 0, .slice none 0 0, .slice none 0 0, .slice none 0 0, .slice none 0 0, .slice none 0 0, .slice none 0 0, .slice none 0 0, .slice none 0 0, .slice none 0 0, .slice none 0 0, .slice none 0 0, .slice none 0 0, .slice none 0 0, .slice none 0 0, .slice none 0 0, .slice none 0 0, .slice none 0 0, .slice none 0 0, .slice none 0 0, .slice none 0 0, .slice none 0 0] 62) = w6 at *
          go_loopw [66] (fun i wr => ∃ (v : Nat) (ff : Nat → Value), v ≤ k ∧ i = .int .i64 v ∧ LL enc1 wr F F 64 62 3 1 ff (fun p => classL R v p) ∧ Hid (wr.rowIs w1.heap.size 59 64 (fun v => .int .i64 (f v : Nat))) ∧ Below F w6 wr) (fun i _ => k - (intOf i).toNat)
          case atStart => exact ⟨0, _, by omega, rfl, L6.congr (fun p _ => by simp [classL]), HROW6, Below.refl _ _⟩
          case round =>
            have HB6 := hid hb6
            clear L6 HROW6 hb HROW hb6 n6
            obtain ⟨v, ff, hv, rfl, hL, HROW, hb⟩ := hrel
            by_cases hlt : v < k
            · have hlt' : (v : Int) < (k : Int) := by omega
              obtain ⟨kv, hkv⟩ := HLK.out.root v hlt
              have hRv : R v < 64 := Nat.lt_of_lt_of_le (HLK.out.rlt hlt) hN64
              have HLA := hid (last_any w1.heap.size f kv v (R v) wr (by omega) HBD.out HROW.out hkv)
              have HCS := hid (fun p => classL_succ R v p)
              have hcl := classL_len R v (R v)
              clear hkv
              generalize hr : R v = r at *
              have HRV := hid hr
              clear hr
              have hr64 : (r : Int) < 64 := by omega
              have hcell := hL.row.cell hRv
              have hfr0 := hL.row.frozen
              have k9 := Blk.new wr 3 #[.int .i64 (v : Int)]
              have n9 := new1 wr (.cells #[.int .i64 (v : Int)] 3)
              have L9 := hid (hL.below n9)
              have hFw : F ≤ wr.heap.size := by have := hL.row.lt; omega
              clear hfr0
              go_wp2_with (first | (go_at_call 23; refine HLA.out.mono ?_; rintro e5 w5 ⟨rfl, rfl⟩) | (at_builtin; go_loud (refine wpList_append_int1 _ _ rfl rfl F (ff r) _ _ (v : Int) rfl (L9.out.own r hRv) wr.heap.size rfl k9 (by omega) (by simp; omega) ?_); intro g2 cap2 w' ho hg hv2; have hR2 : w'.rowIs F 62 64 ff := L9.out.row.of_block (hg.block _ L9.out.row.lt (fun e => L9.out.ne r hRv e.symm)); have hF2 := hR2.cell hRv; have hFr := hR2.frozen; have L10 := hid (LL.put (y := (v : Int)) L9.out hRv hg ho hv2); have hb10 := hid (LL.put_below (v := .slice (some ⟨g2, 0, none⟩) ((classL R v r).length + 1) cap2) L9.out (Nat.le_refl _) (by simp; omega) hRv hg); clear hR2 ho hg hv2))
              go_roundw
              case rel =>
                refine ⟨v + 1, _, by omega, by go_num, L10.out.congr ?_, hid ?_, (hb.trans (n9.mono hFw)).trans hb10.out⟩
                · intro p hp
                  rw [HCS.out p]
                  by_cases e : p = r
                  · subst e; simp [HRV.out]
                  · simp only [if_neg e]; rw [if_neg (fun h => e h.symm)]; simp
                · exact World.rowIs.of_block HROW.out (((n9.mono hFw).trans hb10.out).block _ (by omega))
              case measure => simp [intOf]; omega
            · obtain rfl : v = k := by omega
              have HLL := hid hL
              have HCL := hid (pclone_any F (fun p => slOf (ff p)) 62 wr (World.rowIs.congr hL.row (fun p hp => (hL.sl hp).1)))
              have hFw : F < wr.heap.size := hL.row.lt
              clear hL
              go_wp2_with fail
              refine HCL.out.mono ?_
              clear HCL
              rintro e7 w7 ⟨G, cap, rfl, own7, hb7⟩
              obtain ⟨hH, hcap, hG1, hG2⟩ := holds_clone (f := ff) own7
              have HDL := hid (pdelete_any G cap (slD ff) w7 hH (slD_size ff) hcap)
              clear own7 hH
              generalize hLk : keptS (slD ff).toList = Lk at *
              go_wp2_with fail
              refine HDL.out.mono ?_
              clear HDL
              rintro e8 w8 ⟨rfl, hg8, hs8, hcells, hfr⟩
              have hLs : ∀ p, p < 64 → (slOf (ff p)).l = (classL R v p).length := fun p hp => (HLL.out.sl hp).2.1
              rw [kept_eq hLs] at hLk
              have HLT : ∀ x, x < v → R x < v := fun x hx => HLK.out.rlt hx
              have hPl : (rootsL R v).length ≤ 64 := by unfold rootsL; exact Nat.le_trans (List.length_filter_le _ _) (by simp)
              have hb78 : Below wr.heap.size w7 w8 := below_grown hg8 (fun k hk => by injection hk with hk; omega) hb7.size
              have hb8 := hb7.trans hb78
              have hne : rootsL R v ≠ [] := by
                intro h
                have h1 : R 0 ∈ rootsL R v := by
                  unfold rootsL
                  rw [List.mem_filter]
                  have := HLT 0 hN0
                  exact ⟨List.mem_range.2 (by omega), by rw [decide_eq_true_eq, class_mem]; exact ⟨0, hN0, rfl⟩⟩
                rw [h] at h1; simp at h1
              have hLlen : Lk.length = (rootsL R v).length := by rw [← hLk]; simp
              have HSF := hid (psort_any (rootsL R v) hne (fun p => slOf (ff p)) (fun p => gI (classL R v p) 0) w8 G cap
                (fun j h => by
                  rw [hcells j (by omega)]
                  subst hLk
                  simp)
                (fun j h => hfr j (by omega)) (by omega)
                (fun p hp => by
                  unfold rootsL at hp
                  rw [List.mem_filter, List.mem_range, decide_eq_true_eq] at hp
                  obtain ⟨h1, h2, h3, h4⟩ := HLL.out.sl hp.1
                  obtain ⟨b, h5, h6, h7⟩ := h4 hp.2
                  refine ⟨b, h5, by omega, by have := hb8.size; omega, by rw [h2]; exact hp.2, ?_⟩
                  obtain ⟨b', o', e', _, hc⟩ := h3 0 hp.2
                  rw [h5] at e'; injection e' with e'; injection e' with e1 e2; subst e1; subst e2
                  exact (hb8.cell (p := ⟨b, 0, none⟩) h7).trans hc) hPl)
              have HPK := hid (packs_len hN64 HLT)
              clear hcells hfr hLs
              rw [hLlen]
              go_wp2_with fail
              refine HSF.out.mono ?_
              clear HSF
              rintro e9 w10 ⟨rfl, hg9, Q, hperm, hsort, hcell9⟩
              have HQ := hid (sorted_roots hN64 HLT hperm hsort)
              have hQl : Q.length = (rootsL R v).length := hperm.length_eq
              have hb9 : Below wr.heap.size wr w10 := hb8.trans (below_grown hg9 (fun k hk => by injection hk with hk; omega) hb8.size)
              have hGs : G < w10.heap.size := by have := hg9.size; have := hg8.size; omega
              go_wp2
              refine bodyPost_ret (v := .tuple #[.slice (some ⟨G, 0, none⟩) (rootsL R v).length cap, .int .i64 0]) (by simp [results, Try.results7, go_sem]) rfl ?_
              refine ⟨G, cap, by rw [HPK.out], ?_, ?_⟩
              · intro i hi
                rw [HPK.out, ← hQl] at hi
                have hQi : Q[i] ∈ rootsL R v := hperm.mem_iff.1 (List.getElem_mem hi)
                unfold rootsL at hQi
                rw [List.mem_filter, List.mem_range, decide_eq_true_eq] at hQi
                obtain ⟨h1, h2, h3, h4⟩ := HLL.out.sl hQi.1
                have hrow : rowL (packsR R v) i = classL R v Q[i] := by rw [← HQ.out]; unfold rowL; simp [hi]
                refine ⟨G, 0, (slOf (ff Q[i])).a, (slOf (ff Q[i])).c, rfl, hGs, ?_, ?_, ?_⟩
                · rw [Nat.zero_add, hcell9 i hi, hrow]
                  unfold encS
                  rw [h2]
                · rw [hrow]; exact h3.up hb9
                · rw [hrow]; have := classL_len R v Q[i]; omega
              · have h1 := hb.trans (hb9.mono (by omega))
                have h2 := HB6.out.trans (h1.mono (by omega))
                exact n0.trans ((n9.mono (Nat.le_refl _)).trans h2 |>.mono n0.size)
end

section
open Go.RowKit
attribute [local go_sem ↓] Go.wp_at_zero Go.wp_at_succ

def SomeT (w : World) (e : Ending) (w' : World) : Prop := e = .returned (.bool true) ∧ Below w.heap.size w w'
set_option maxHeartbeats 2000000 in
theorem ints_same (xs : List Int) (A A' : Option Addr) (c c' : Nat) (w : World) (hx : Rd w w.heap.size A xs) (hy : Rd w w.heap.size A' xs) (hm : xs.length ≤ 17592186044416) :
    Calls Try.prog 32 #[.slice A xs.length c, .slice A' xs.length c'] w (SomeT w) := by
  go_enter Try.func32, Try.ntmps32
  go_wp2
  go_loopw [5] (fun i wr => ∃ k : Nat, k ≤ xs.length ∧ i = .int .i64 k ∧ Below w.heap.size w wr) (fun i _ => xs.length - (intOf i).toNat)
  case atStart => exact ⟨0, by omega, rfl, Below.refl _ _⟩
  case round =>
    obtain ⟨k, hk, rfl, hb⟩ := hrel
    by_cases hlt : k < xs.length
    · have hlt' : (k : Int) < (xs.length : Int) := by omega
      obtain ⟨b1, o1, rfl, hB1, d1⟩ := (hx.up hb) k hlt
      obtain ⟨b2, o2, rfl, hB2, d2⟩ := (hy.up hb) k hlt
      have f1 := later d1
      have f2 := later d2
      clear d1 d2
      generalize gI xs k = v at *
      go_upto_region 6 with fail
      refine wp_region_flow 8 (fun W => Below wr.heap.size wr W) (by kernel_rfl) (by kernel_rfl) (Below.refl _ _).drew ?_
      (repeat (first | (refine Flow.skip (by rfl) ?_; simp only [Act.put, List.setIfInBounds_toArray, List.set_cons_zero, List.set_cons_succ]) | (refine' Flow.take _ (by rfl) (fun W hW R hR => ?_) ?_; rotate_left; (go_simp; (try go_bits); with_reducible exact hR); simp only [Act.put, List.setIfInBounds_toArray, List.set_cons_zero, List.set_cons_succ])))
      intro w4 hb4
      clear f1 f2
      go_wp2
      go_roundw
      case rel => exact ⟨k + 1, by omega, by go_num, bup hb hb4⟩
      case measure => simp [intOf]; omega
    · obtain rfl : k = xs.length := by omega
      go_wp2
      go_ret
      exact ⟨rfl, hb⟩
set_option maxHeartbeats 2000000 in
theorem lists_same (ps : List (List Int)) (A A' : Option Addr) (c c' : Nat) (w : World) (hx : RdL w w.heap.size A ps) (hy : RdL w w.heap.size A' ps) (hm : ps.length ≤ 17592186044416) :
    Calls Try.prog 9 #[.slice A ps.length c, .slice A' ps.length c'] w (SomeT w) := by
  go_enter Try.func9, Try.ntmps9
  go_wp2
  go_loopw [5] (fun i wr => ∃ k : Nat, k ≤ ps.length ∧ i = .int .i64 k ∧ Below w.heap.size w wr) (fun i _ => ps.length - (intOf i).toNat)
  case atStart => exact ⟨0, by omega, rfl, Below.refl _ _⟩
  case round =>
    obtain ⟨k, hk, rfl, hb⟩ := hrel
    by_cases hlt : k < ps.length
    · have hlt' : (k : Int) < (ps.length : Int) := by omega
      obtain ⟨b1, o1, A1, c1, rfl, hB1, d1, r1, l1⟩ := (hx.up hb) k hlt
      obtain ⟨b2, o2, A2, c2, rfl, hB2, d2, r2, l2⟩ := (hy.up hb) k hlt
      have f1 := later d1
      have f2 := later d2
      have HI : Hid (∀ W, Below wr.heap.size wr W → Calls Try.prog 32 #[.slice A1 (rowL ps k).length c1, .slice A2 (rowL ps k).length c2] W (SomeT W)) := hid fun W hW => ints_same (rowL ps k) A1 A2 c1 c2 W (r1.up hW) (r2.up hW) l1
      clear d1 d2 r1 r2 l1 l2
      generalize (rowL ps k).length = L at *
      go_upto_region 6 with fail
      refine wp_region_flow 8 (fun W => Below wr.heap.size wr W) (by kernel_rfl) (by kernel_rfl) (Below.refl _ _).drew ?_
      (repeat (first | (refine Flow.skip (by rfl) ?_; simp only [Act.put, List.setIfInBounds_toArray, List.set_cons_zero, List.set_cons_succ]) | (refine' Flow.take _ (by rfl) (fun W hW R hR => ?_) ?_; rotate_left; (go_simp; (try go_bits); with_reducible exact hR); simp only [Act.put, List.setIfInBounds_toArray, List.set_cons_zero, List.set_cons_succ])))
      intro w4 hb4
      clear f1 f2
      go_wp2_with fail
      refine (HI.out w4 hb4).mono ?_
      rintro e5 w5 ⟨rfl, hb5⟩
      go_wp2
      go_roundw
      case rel => exact ⟨k + 1, by omega, by go_num, bup (bup hb hb4) hb5⟩
      case measure => simp [intOf]; omega
    · obtain rfl : k = ps.length := by omega
      go_wp2
      go_ret
      exact ⟨rfl, hb⟩
end

section
open Go.RowKit
attribute [local go_sem ↓] Go.wp_at_zero Go.wp_at_succ

def e23 : Edg := ⟨0, 1, 2, 0, -1, 0, 1, 0, -1, 0⟩
def g23 : Gr := ⟨3, 0, [], 2, 1, [e23]⟩
theorem chk23 : chk g23 = 0 := by decide +kernel
theorem packs23 : packsR (rootsOf g23.es g23.es.length) 3 = [[0, 1], [2]] := by decide +kernel
set_option maxRecDepth 8000 in
set_option maxHeartbeats 4000000 in
theorem known23_any (w : World) : Calls Try.prog 6 #[] w (SomeT w) := by
  go_enter Try.func6, Try.ntmps6
  go_wp2_with fail
  have n0 : Below w.heap.size w (((w.alloc (.cells #[.string ⟨#[120]⟩, .string ⟨#[121]⟩, .string ⟨#[122]⟩] 9)).alloc (.cells #[.int .i64 0, .int .i64 1, .int .i64 2, .int .i64 0, .int .i64 (-1), .int .i64 0, .int .i64 1, .int .i64 0, .int .i64 (-1), .int .i64 0] 56)).alloc (.cells #[.slice (some ⟨w.heap.size, 0, none⟩) 3 3, .int .i64 0, .slice none 0 0, .int .i64 2, .int .i64 1, .slice (some ⟨w.heap.size + 1, 0, none⟩) 1 1] 26)) := (((Below.refl _ _).alloc (Nat.le_refl _) _).alloc (by simp) _).alloc (by simp; omega) _
  have k1 : Blk (((w.alloc (.cells #[.string ⟨#[120]⟩, .string ⟨#[121]⟩, .string ⟨#[122]⟩] 9)).alloc (.cells #[.int .i64 0, .int .i64 1, .int .i64 2, .int .i64 0, .int .i64 (-1), .int .i64 0, .int .i64 1, .int .i64 0, .int .i64 (-1), .int .i64 0] 56)).alloc (.cells #[.slice (some ⟨w.heap.size, 0, none⟩) 3 3, .int .i64 0, .slice none 0 0, .int .i64 2, .int .i64 1, .slice (some ⟨w.heap.size + 1, 0, none⟩) 1 1] 26)) (w.heap.size + 1) 56 (ecs e23) := by
    have := (Blk.new (w.alloc (.cells #[.string ⟨#[120]⟩, .string ⟨#[121]⟩, .string ⟨#[122]⟩] 9)) 56 (ecs e23)).alloc (.cells #[.slice (some ⟨w.heap.size, 0, none⟩) 3 3, .int .i64 0, .slice none 0 0, .int .i64 2, .int .i64 1, .slice (some ⟨w.heap.size + 1, 0, none⟩) 1 1] 26)
    rw [World.size_alloc] at this
    exact this
  generalize (((w.alloc (.cells #[.string ⟨#[120]⟩, .string ⟨#[121]⟩, .string ⟨#[122]⟩] 9)).alloc (.cells #[.int .i64 0, .int .i64 1, .int .i64 2, .int .i64 0, .int .i64 (-1), .int .i64 0, .int .i64 1, .int .i64 0, .int .i64 (-1), .int .i64 0] 56)).alloc (.cells #[.slice (some ⟨w.heap.size, 0, none⟩) 3 3, .int .i64 0, .slice none 0 0, .int .i64 2, .int .i64 1, .slice (some ⟨w.heap.size + 1, 0, none⟩) 1 1] 26)) = w1 at *
  have hE : RdE w1 w1.heap.size (some ⟨w.heap.size + 1, 0, none⟩) g23.es := fun k hk => by
    obtain rfl : k = 0 := by have : g23.es.length = 1 := rfl; omega
    refine ⟨w.heap.size + 1, 0, rfl, k1.lt, fun r hr => ?_⟩
    rw [show 0 + 0 * 10 + r = r by omega, k1.cell r]
    simp [ecs, Edg.cells, g23]
  have hD : RdD w1 w1.heap.size none g23.sz := fun k hk => by simp [g23] at hk
  have HP := hid (packof_any g23 (some ⟨w.heap.size, 0, none⟩) none (some ⟨w.heap.size + 1, 0, none⟩) 3 0 1 w1 hD hE (by simp [g23]) (by simp [g23]) (by simp [g23]) chk23 3 rfl (by omega))
  rw [packs23] at HP
  refine HP.out.mono ?_
  clear HP hE hD k1
  rintro e2 w2 ⟨G, cap, rfl, hr2, hb2⟩
  replace n0 := bup n0 hb2
  clear hb2
  go_wp2_with fail
  have m0 : Below w2.heap.size w2 (((w2.alloc (.cells #[.int .i64 0, .int .i64 1] 3)).alloc (.cells #[.int .i64 2] 3)).alloc (.cells #[.slice (some ⟨w2.heap.size, 0, none⟩) 2 2, .slice (some ⟨w2.heap.size + 1, 0, none⟩) 1 1] 48)) := (((Below.refl _ _).alloc (Nat.le_refl _) _).alloc (by simp) _).alloc (by simp; omega) _
  have q0 : Blk (((w2.alloc (.cells #[.int .i64 0, .int .i64 1] 3)).alloc (.cells #[.int .i64 2] 3)).alloc (.cells #[.slice (some ⟨w2.heap.size, 0, none⟩) 2 2, .slice (some ⟨w2.heap.size + 1, 0, none⟩) 1 1] 48)) w2.heap.size 3 #[.int .i64 0, .int .i64 1] := ((Blk.new w2 3 #[.int .i64 0, .int .i64 1]).alloc _).alloc _
  have q1 : Blk (((w2.alloc (.cells #[.int .i64 0, .int .i64 1] 3)).alloc (.cells #[.int .i64 2] 3)).alloc (.cells #[.slice (some ⟨w2.heap.size, 0, none⟩) 2 2, .slice (some ⟨w2.heap.size + 1, 0, none⟩) 1 1] 48)) (w2.heap.size + 1) 3 #[.int .i64 2] := by
    have := (Blk.new (w2.alloc (.cells #[.int .i64 0, .int .i64 1] 3)) 3 #[.int .i64 2]).alloc (.cells #[.slice (some ⟨w2.heap.size, 0, none⟩) 2 2, .slice (some ⟨w2.heap.size + 1, 0, none⟩) 1 1] 48)
    rw [World.size_alloc] at this
    exact this
  have q2 : Blk (((w2.alloc (.cells #[.int .i64 0, .int .i64 1] 3)).alloc (.cells #[.int .i64 2] 3)).alloc (.cells #[.slice (some ⟨w2.heap.size, 0, none⟩) 2 2, .slice (some ⟨w2.heap.size + 1, 0, none⟩) 1 1] 48)) (w2.heap.size + 1 + 1) 48 #[.slice (some ⟨w2.heap.size, 0, none⟩) 2 2, .slice (some ⟨w2.heap.size + 1, 0, none⟩) 1 1] := by
    have := Blk.new ((w2.alloc (.cells #[.int .i64 0, .int .i64 1] 3)).alloc (.cells #[.int .i64 2] 3)) 48 #[.slice (some ⟨w2.heap.size, 0, none⟩) 2 2, .slice (some ⟨w2.heap.size + 1, 0, none⟩) 1 1]
    rw [World.size_alloc, World.size_alloc] at this
    exact this
  have hy : RdL (((w2.alloc (.cells #[.int .i64 0, .int .i64 1] 3)).alloc (.cells #[.int .i64 2] 3)).alloc (.cells #[.slice (some ⟨w2.heap.size, 0, none⟩) 2 2, .slice (some ⟨w2.heap.size + 1, 0, none⟩) 1 1] 48)) ((((w2.alloc (.cells #[.int .i64 0, .int .i64 1] 3)).alloc (.cells #[.int .i64 2] 3)).alloc (.cells #[.slice (some ⟨w2.heap.size, 0, none⟩) 2 2, .slice (some ⟨w2.heap.size + 1, 0, none⟩) 1 1] 48))).heap.size (some ⟨w2.heap.size + 1 + 1, 0, none⟩) [[0, 1], [2]] := by
    intro i hi
    have h2 : i = 0 ∨ i = 1 := by simp at hi; omega
    rcases h2 with rfl | rfl
    · refine ⟨_, 0, some ⟨w2.heap.size, 0, none⟩, 2, rfl, q2.lt, q2.cell 0, fun k hk => ?_, by simp [rowL]⟩
      have h3 : k = 0 ∨ k = 1 := by simp [rowL] at hk; omega
      rcases h3 with rfl | rfl
      · exact ⟨_, 0, rfl, q0.lt, q0.cell 0⟩
      · exact ⟨_, 0, rfl, q0.lt, q0.cell 1⟩
    · refine ⟨_, 0, some ⟨w2.heap.size + 1, 0, none⟩, 1, rfl, q2.lt, q2.cell 1, fun k hk => ?_, by simp [rowL]⟩
      have h3 : k = 0 := by simp [rowL] at hk; omega
      subst h3
      exact ⟨_, 0, rfl, q1.lt, q1.cell 0⟩
  replace hr2 := hr2.up m0
  replace n0 := bup n0 m0
  generalize (((w2.alloc (.cells #[.int .i64 0, .int .i64 1] 3)).alloc (.cells #[.int .i64 2] 3)).alloc (.cells #[.slice (some ⟨w2.heap.size, 0, none⟩) 2 2, .slice (some ⟨w2.heap.size + 1, 0, none⟩) 1 1] 48)) = w3 at *
  have HL := hid (lists_same [[0, 1], [2]] _ _ cap 2 w3 hr2 hy (by simp))
  refine HL.out.mono ?_
  clear HL q0 q1 q2 hy hr2 m0
  rintro e4 w4 ⟨rfl, hb4⟩
  have HPC := hid (pcheck_any 1 [] none 0 w4 (fun i hi => by simp at hi) (by simp))
  rw [show packErr 1 [] = 230 from rfl] at HPC
  go_wp2_with fail
  refine HPC.out.mono ?_
  rintro e5 w5 ⟨rfl, hb5⟩
  go_wp2
  go_ret
  exact ⟨rfl, bup (bup n0 hb4) hb5⟩
end
end Go.Proofs.Ytofmidhkiobldaa
