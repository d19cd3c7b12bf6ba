/-
  slices.Clone, slices.DeleteFunc at a row of slices: what pack.Of's calls answer.
-/
import Derived.Test.YtjmmegnonlbdnaaLay
import Derived.Test.YtjmmegnonlbdnaaBPP30
namespace Go.Proofs.Ytjmmegnonlbdnaa
open Go.RowKit Go.Shelf Go.Lib Go.Sort
attribute [local go_sem ↓] Go.wp_at_zero Go.wp_at_succ

/-- A slice as data. -/
structure SlP where
  a : Option Addr
  l : Nat
  c : Nat
instance : Inhabited SlP := ⟨⟨none, 0, 0⟩⟩
def encS (x : SlP) : Value := .slice x.a x.l x.c
def noneS (x : SlP) : Bool := decide (x.l = 0)

theorem pclone_any (F : Nat) (ff : Nat → SlP) (T : TypeId) (w : World) (hr : w.rowIs F T 64 (fun p => encS (ff p))) :
    Calls Try.prog 25 #[.slice (some ⟨F, 0, none⟩) 64 64] w fun e w' => ∃ G cap, e = .returned (.slice (some ⟨G, 0, none⟩) 64 cap) ∧ w'.ownsRow w.heap.size 48 1 (.slice (some ⟨G, 0, none⟩) 64 cap) 64 ((List.range 64).map (fun p => encS (ff p))) ∧ Below w.heap.size w w' := by
  obtain ⟨i0, hi, hz0, hz1, hz2⟩ := info_parts ints_info
  refine (AnyE.slices_Clone Try.layClone i0 _ 1 24 hi hz0 hz1 hz2 rfl (by omega) Try.sizeOf48 F 0 64 64 ((List.range 64).map (fun p => encS (ff p))) w (by simp) (by unfold maxLen; omega) (by omega) ?_ ?_).mono ?_
  · intro j u hu
    rw [List.getElem?_map] at hu
    simp only [Option.map_eq_some_iff] at hu
    obtain ⟨x, hx, rfl⟩ := hu
    rw [List.getElem?_eq_some_iff] at hx
    obtain ⟨hj, rfl⟩ := hx
    simp only [List.getElem_range, Nat.zero_add]
    exact hr.cell (by simpa using hj)
  · intro u hu
    simp only [List.mem_map] at hu
    obtain ⟨x, _, rfl⟩ := hu
    rfl
  · rintro e w' ⟨v', rfl, ho, hne, hb⟩
    obtain ⟨g, cap, rfl, _, _⟩ := ho.form (by omega)
    exact ⟨g, cap, rfl, ho, hb⟩

theorem closure1 (x : SlP) (W : World) : FnGives Try.prog 26 #[] #[encS x] (.bool (noneS x)) W := by
  show Calls Try.prog 26 #[.slice x.a x.l x.c] W _
  obtain ⟨a, l, c⟩ := x
  unfold noneS
  dsimp only
  have HB : Hid (((l : Int) == 0) = decide (l = 0)) := hid (by rw [Bool.eq_iff_iff]; simp)
  go_enter Try.func26, Try.ntmps26
  go_wp2
  go_ret
  exact ⟨by first | rfl | exact retb HB.out, 0, rfl⟩

theorem pred1 (w : World) : PredAt Try.prog 26 #[] encS noneS w := fun W x _ => closure1 x W
theorem over1 (blk off size : Nat) (w : World) : PredOver Try.prog 26 #[] encS noneS blk off size w := fun _ _ _ x _ => closure1 x _
/-- A world that parts from w in the row of block G alone, and in blocks behind. -/
theorem grown_putRow {α : Type} [Inhabited α] (enc : α → Value) (w : World) (n G : Nat) (d : Array α) (os : Array Obj) : w.grownBy (grow (putRow enc (Sort.ahead w n) G 0 d) os) (some G) := by
  refine ⟨rfl, rfl, rfl, by simp [Sort.ahead], fun k hk hne => ?_⟩
  rw [heap_grow_old _ _ (by simpa [Sort.ahead] using hk)]
  have : G ≠ k := fun e => hne (by rw [e])
  simp [putRow, mapBlock, Sort.ahead, Array.getElem?_modify, this]
/-- The slices that are not empty. -/
def keptS (d : List SlP) : List SlP := d.filter (fun x => !noneS x)
theorem pdelete_any (G cap : Nat) (d : Array SlP) (w : World) (hH : Holds encS w G 0 d) (hs : d.size = 64) (hcap : 64 ≤ cap) :
    Calls Try.prog 24 #[.slice (some ⟨G, 0, none⟩) 64 cap, .func (.func 26) #[] #[]] w fun e w' => e = .returned (.slice (some ⟨G, 0, none⟩) (keptS d.toList).length cap) ∧ w.grownBy w' (some G) ∧ w'.heap.size = w.heap.size ∧
      (∀ j (h : j < (keptS d.toList).length), w'.cell? ⟨G, j, none⟩ = some (encS (keptS d.toList)[j])) ∧ ∀ j, j < 64 → w'.frozen? ⟨G, j, none⟩ = false := by
  have eg : ∀ args w, (callFunc 26 args).run Try.prog w = .ok (.enter 26 args) w := enters_of Try.func26 (by kernel_rfl) rfl
  have h := AnyE.slices_DeleteFunc Try.layDelete encS (fun _ => rfl) noneS 26 #[] eg ⟨none, 0, 0⟩ Try.zeroValue48 G 0 cap d w (pred1 w) (over1 G 0 d.size w) hH (by omega) (by omega)
  rw [hs] at h
  refine h.mono ?_
  rintro e w' ⟨rfl, q, rfl⟩
  have hle : (d.toList.filter fun x => !noneS x).length ≤ 64 := by
    have := List.length_filter_le (fun x => !noneS x) d.toList
    simpa [hs] using this
  have hsz : ((d.toList.filter fun x => !noneS x) ++ List.replicate (64 - (d.toList.filter fun x => !noneS x).length) (⟨none, 0, 0⟩ : SlP)).toArray.size = d.size := by
    simp; omega
  refine ⟨rfl, ?_, by simp [Sort.ahead], fun j hj => ?_, fun j hj => ?_⟩
  · have := grown_putRow encS w q G ((d.toList.filter fun x => !noneS x) ++ List.replicate (64 - (d.toList.filter fun x => !noneS x).length) (⟨none, 0, 0⟩ : SlP)).toArray #[]
    simpa using this
  · have := cell?_putRow encS (Sort.ahead w q) G 0 d _ (show Holds encS (Sort.ahead w q) G 0 d from hH) hsz j (by rw [hsz, hs]; unfold keptS at hj; omega)
    rw [Nat.zero_add] at this
    rw [this]
    unfold keptS at hj ⊢
    congr 2
    rw [getElem!_pos _ j (by rw [hsz, hs]; omega)]
    simp [hj]
  · rw [frozen?_putRow]
    have := (hH j (by omega)).2
    rw [Nat.zero_add] at this
    exact this

/-- How two ints compare. -/
def cmpI (x y : Int) : Int := if x < y then -1 else if y < x then 1 else 0
set_option maxRecDepth 8000 in
set_option maxHeartbeats 2000000 in
theorem cmp_any (x y : Int) (W : World) : Calls Try.prog 29 #[.int .i64 x, .int .i64 y] W fun e w' => e = .returned (.int .i64 (cmpI x y)) ∧ W = w' := by
  go_enter Try.func29, Try.ntmps29
  by_cases h1 : x < y
  · have HC : Hid (cmpI x y = -1) := hid (by unfold cmpI; rw [if_pos h1])
    go_wp2
    go_ret; exact ⟨ret64 HC.out.symm, rfl⟩
  · by_cases h2 : y < x
    · have HC : Hid (cmpI x y = 1) := hid (by unfold cmpI; rw [if_neg h1, if_pos h2])
      go_wp2
      go_ret; exact ⟨ret64 HC.out.symm, rfl⟩
    · have HC : Hid (cmpI x y = 0) := hid (by unfold cmpI; rw [if_neg h1, if_neg h2])
      go_wp2
      go_ret; exact ⟨ret64 HC.out.symm, rfl⟩
set_option maxRecDepth 8000 in
set_option maxHeartbeats 2000000 in
theorem closure2 (b1 l1 c1 b2 l2 c2 : Nat) (x y : Int) (W : World) (h1 : 0 < l1) (h2 : 0 < l2) (hx : W.cell? ⟨b1, 0, none⟩ = some (.int .i64 x)) (hy : W.cell? ⟨b2, 0, none⟩ = some (.int .i64 y)) :
    Calls Try.prog 28 #[.slice (some ⟨b1, 0, none⟩) l1 c1, .slice (some ⟨b2, 0, none⟩) l2 c2] W fun e w' => e = .returned (.int .i64 (cmpI x y)) ∧ w' = W.drew := by
  have h1' : (0 : Int) < (l1 : Int) := by omega
  have h2' : (0 : Int) < (l2 : Int) := by omega
  go_enter Try.func28, Try.ntmps28
  go_upto_region 1 with fail
  have HX : ∀ V, V = W.drew → V.cell? ⟨b1, 0, none⟩ = some (.int .i64 x) := fun V hV => by rw [hV]; exact hx
  have HY : ∀ V, V = W.drew → V.cell? ⟨b2, 0, none⟩ = some (.int .i64 y) := fun V hV => by rw [hV]; exact hy
  clear hx hy
  refine wp_region_flow 6 (fun V => V = W.drew) (by kernel_rfl) (by kernel_rfl) rfl ?_
  (repeat (first | (refine Flow.skip (by rfl) ?_; simp only [Act.put, List.setIfInBounds_toArray, List.set_cons_zero, List.set_cons_succ]) | (refine' Flow.take _ (by rfl) (fun W hW R hR => ?_) ?_; rotate_left; (go_simp; (try go_bits); with_reducible exact hR); simp only [Act.put, List.setIfInBounds_toArray, List.set_cons_zero, List.set_cons_succ])))
  intro V hV
  subst hV
  go_wp2_with (go_at_call 29; refine (cmp_any x y _).mono ?_; rintro e5 w5 ⟨rfl, rfl⟩)
  go_ret
  exact ⟨rfl, rfl⟩

def slOf : Value → SlP
  | .slice a l c => ⟨a, l, c⟩
  | _ => ⟨none, 0, 0⟩
theorem LL.sl {w : World} {base F n : Nat} {T : TypeId} {f : Nat → Value} {ls : Nat → List Int} (h : LL enc1 w base F n T 3 1 f ls) {p : Nat} (hp : p < n) : f p = encS (slOf (f p)) ∧ (slOf (f p)).l = (ls p).length ∧ Rd w w.heap.size (slOf (f p)).a (ls p) ∧ (0 < (ls p).length → ∃ b, (slOf (f p)).a = some ⟨b, 0, none⟩ ∧ base ≤ b ∧ b < w.heap.size) := by
  obtain ⟨A, c, h1, h2⟩ := h.rdI hp
  refine ⟨by rw [h1]; rfl, by rw [h1]; rfl, by rw [h1]; exact h2, fun h0 => ?_⟩
  rcases h.slice hp with ⟨h3, h4⟩ | ⟨g, cap, h3, h4, h5, _⟩
  · rw [h4] at h0; simp at h0
  · exact ⟨g, by rw [h3]; rfl, h4, h5⟩
/-- The slices of a row as an array. -/
def slD (f : Nat → Value) : Array SlP := Array.ofFn (fun p : Fin 64 => slOf (f p.1))
theorem slD_size (f : Nat → Value) : (slD f).size = 64 := by simp [slD]
theorem holds_clone {w : World} {base G cap : Nat} {f : Nat → Value} (h : w.ownsRow base 48 1 (.slice (some ⟨G, 0, none⟩) 64 cap) 64 ((List.range 64).map (fun p => encS (slOf (f p))))) : Holds encS w G 0 (slD f) ∧ 64 ≤ cap ∧ base ≤ G ∧ G < w.heap.size := by
  refine ⟨fun j hj => ⟨?_, by rw [Nat.zero_add]; exact h.frozenAt j⟩, ?_⟩
  · rw [slD_size] at hj
    rw [Nat.zero_add, h.cellAt j (by omega), getElem!_pos (slD f) j (by rw [slD_size]; exact hj)]
    simp [hj, slD]
  · rcases h.2 with ⟨h1, _⟩ | ⟨g, cap', cur, h1, h2, h3, h4, _⟩
    · cases h1
    · injection h1 with h1 _ h5
      injection h1 with h1
      injection h1 with h1
      subst h1; subst h5
      exact ⟨h4, h2, (Array.getElem?_eq_some_iff.1 h3).1⟩
end Go.Proofs.Ytjmmegnonlbdnaa
