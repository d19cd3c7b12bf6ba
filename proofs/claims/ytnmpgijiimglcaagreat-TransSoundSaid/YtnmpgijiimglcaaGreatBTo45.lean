import Derived.Test.YtnmpgijiimglcaaGreatBTo34
import Derived.Test.YtnmpgijiimglcaaGreatBTo27
import Derived.Test.YtnmpgijiimglcaaGreatBTo44
import Derived.Test.YtnmpgijiimglcaaGreatBTo31
import Derived.Test.YtnmpgijiimglcaaGreatBTo02
namespace Go.Proofs.YtnmpgijiimglcaaGreat
section
open Go.RowKit
set_option maxRecDepth 100000
set_option maxHeartbeats 8000000
theorem does_behind {ls : List (List Int)} {e : Edg} {xs : List Int} {input : Int} (h : (doesW ls e xs input).1 = 0) (h12 : e.kd = 12 → cmpB e.op (opdX xs e.av e.an) (opdX xs e.bv e.bn) = true) : Behind e xs (doesW ls e xs input).2 := by
 have h14 : e.kd ≠ 14 := fun q => by
  unfold doesW at h
  rw [if_neg (by omega), if_neg (by omega), if_neg (by omega), if_neg (by omega), if_neg (by omega), if_pos q] at h
  cases h
 refine ⟨h14, h12, ?_⟩
 unfold doesW at h ⊢
 by_cases k2 : e.kd = 2
 ·rw [if_pos k2, if_neg (by omega), if_pos k2]
 rw [if_neg k2] at h ⊢
 by_cases k9 : e.kd = 9
 ·rw [if_pos k9, if_pos (.inl k9)]; exact ⟨_, rfl⟩
 rw [if_neg k9] at h ⊢
 by_cases k3 : 3 ≤ e.kd ∧ e.kd ≤ 8
 ·rw [if_pos k3] at h ⊢
  rw [if_neg (by omega), if_neg k2, if_pos k3]
  by_cases w : (kindW e.kd (opdX xs e.av e.an) (opdX xs e.bv e.bn)).2 = 0
  ·rw [if_pos w]; exact ⟨w, rfl⟩
  ·rw [if_neg w] at h; exact absurd h w
 rw [if_neg k3] at h ⊢
 by_cases k10 : e.kd = 10
 ·rw [if_pos k10] at h ⊢
  rw [if_pos (.inr k10)]
  split at h
  ·rename_i q; rw [if_pos q]; exact ⟨_, rfl⟩
  ·cases h
 rw [if_neg k10] at h ⊢
 rw [if_neg (by omega), if_neg k2, if_neg k3]
 repeat' split
 all_goals rfl
theorem i64s_set {xs : List Int} (h : I64s xs) (d : Nat) {u : Int} (hu : I64 u) : I64s (xs.set d u) := fun i => by
 rw [gI_set]
 split
 ·exact hu
 ·exact h i
theorem does_i64 {ls : List (List Int)} {e : Edg} {xs : List Int} {input : Int} (hI : I64s xs) (ia : I64 e.an) (hin : I64 input) (hls : ∀ l ∈ ls, I64s l) : I64s (doesW ls e xs input).2 := by
 have ea := opdX_i64 hI ia (v := e.av)
 unfold doesW
 split
 ·exact i64s_set hI _ ea
 split
 ·exact i64s_set hI _ hin
 split
 ·split
  ·exact i64s_set hI _ (kindW_i64 _ ea)
  ·exact hI
 split
 ·split
  ·rename_i q
   refine i64s_set hI _ ?_
   unfold isPlace at q
   rw [decide_eq_true_eq] at q
   by_cases hl : e.arr.toNat < ls.length
   ·rw [List.getD_eq_getElem?_getD, List.getElem?_eq_getElem hl] at q ⊢
    have := hls _ (List.getElem_mem hl) (opdX xs e.av e.an).toNat
    rw [Int.toNat_of_nonneg q.1] at this
    exact this
   ·rw [List.getD_eq_getElem?_getD, List.getElem?_eq_none (by omega)] at q
    simp at q; omega
  ·exact hI
 split
 ·split
  ·exact hI
  ·exact hI
 split
 ·exact hI
 ·exact hI
theorem r10one_i64 {n : Int} {sz : List Int} {ls : List (List Int)} {e : Edg} {xs : List Int} {input : Int} (hI : I64s xs) (ia : I64 e.an) (hin : I64 input) (hls : ∀ l ∈ ls, I64s l) : I64s (oneW (gr1 n sz e) ls xs input 0).2.2 := by
 by_cases hk : e.kd = 12
 ·cases hc : cmpB e.op (opdX xs e.av e.an) (opdX xs e.bv e.bn)
  ·unfold oneW
   split
   ·exact hI
   ·have ids : ∀ x : Edg, x.kd = 12 → (doesW ls x xs input).2 = xs := fun x q => by unfold doesW; simp [q]
    have mem : ∀ i : Nat, (eAt (gr1 n sz e).es i).kd = 12 ∨ (eAt (gr1 n sz e).es i) = ⟨0, 0, 0, 0, 0, 0, 0, 0, 0, 0⟩ := fun i => by
     rw [show (gr1 n sz e).es = [e01 e, e01n e] by unfold gr1; rw [if_pos hk]]
     match i with
     | 0 => exact .inl hk
     | 1 => exact .inl hk
     | i + 2 => exact .inr rfl
    rcases mem (takenW (gr1 n sz e).es xs (idxE (gr1 n sz e).es (gr1 n sz e).es.length (0 : Nat))).toNat with q | q
    ·dsimp only; rw [ids _ q]; exact hI
    ·dsimp only; rw [q]; exact does_i64 hI (by show I64 0; unfold I64; omega) hin hls
  ·rw [one_holds ls xs input hk hc]; exact hI
 ·rw [one_plain ls xs input hk]; exact does_i64 hI ia hin hls
theorem sound_law {o : O} {e : Edg} {sz : List Int} {ls : List (List Int)} {xs : List Int} {input : Int} (hE : transErr o e = 0) (hx : HasO o xs) (hI : I64s xs) (ia : I64 e.an) (ib : I64 e.bn)
  (h1 : (oneW (gr1 o.n sz e) ls xs input 0).1 = 0) (h2 : (oneW (gr1 o.n sz e) ls xs input 0).2.1 = 0) : HasO (transAns o e) (oneW (gr1 o.n sz e) ls xs input 0).2.2 := by
 obtain ⟨hc, hr⟩ := err_right hE
 have ok : OkO o.n (closeO o) := OkO.close ⟨rfl, hc⟩
 have a0 := closeO_has hc hx
 unfold transAns transO
 rw [if_pos hE, if_neg (by rw [a0.1]; simp)]
 by_cases hk : e.kd = 12
 ·cases hcm : cmpB e.op (opdX xs e.av e.an) (opdX xs e.bv e.bn)
  ·exact absurd h1 (one_fails ls xs input hk hcm)
  ·rw [one_holds ls xs input hk hcm]
   refine edge_sound a0 ok hr hI ia ib ⟨by omega, fun _ => hcm, ?_⟩
   rw [if_neg (by omega), if_neg (by omega), if_neg (by omega)]
 ·rw [one_plain ls xs input hk] at h2 ⊢
  exact edge_sound a0 ok hr hI ia ib (does_behind h2 (fun q => absurd q hk))
end
section
open Go.RowKit
set_option maxRecDepth 100000
set_option maxHeartbeats 8000000
theorem decl_info : (Tryz.prog.info? 90).map (fun i => (i.zero, i.size, i.bytes)) = some (some (.agg #[.string "".toUTF8, .int .i64 0]), 2, 24) := by kernel_rfl
theorem row_ne_nil {w : World} {base n s : Nat} {t : TypeId} {v : Value} {xs : List Value} (h : w.ownsRow base t s v n xs) (hn : 0 < n) : ∃ g cap, v = .slice (some ⟨g, 0, none⟩) n cap ∧ base ≤ g ∧ g < w.heap.size := by
 rcases h.2 with ⟨_, h0⟩ | ⟨g, cap, cur, h1, h2, h3, _⟩
 ·omega
 ·exact ⟨g, cap, h1, h2, (Array.getElem?_eq_some_iff.1 h3).1⟩
def OwnE (w : World) (base : Nat) (A : Option Addr) (cap : Nat) (es : List Edg) : Prop := w.ownsRow base 44 10 (.slice A es.length cap) es.length (es.flatMap Edg.cells)
def dcs (s : Value) (z : Int) : List Value := [s, .int .i64 z]
def OwnD (w : World) (base : Nat) (s : Value) (A : Option Addr) (cap : Nat) (sz : List Int) : Prop := w.ownsRow base 90 2 (.slice A sz.length cap) sz.length (sz.flatMap (dcs s))
section
variable {w w' : World} {base cap : Nat} {A : Option Addr} {es : List Edg} {sz : List Int} {s : Value}
theorem OwnE.nil (w : World) (base : Nat) : OwnE w base none 0 [] := World.ownsRow_nil _ _ _ _
theorem OwnD.nil (w : World) (base : Nat) (s : Value) : OwnD w base s none 0 [] := World.ownsRow_nil _ _ _ _
theorem OwnE.below (h : OwnE w base A cap es) (hb : Below w.heap.size w w') : OwnE w' base A cap es := World.ownsRow.kept h (grown_of_below hb none) (by cases h' : (Value.slice A es.length cap).ownBlock <;> simp)
theorem OwnD.below (h : OwnD w base s A cap sz) (hb : Below w.heap.size w w') : OwnD w' base s A cap sz := World.ownsRow.kept h (grown_of_below hb none) (by cases h' : (Value.slice A sz.length cap).ownBlock <;> simp)
theorem OwnE.rd (h : OwnE w base A cap es) : RdE w w.heap.size A es := by
 intro k hk
 obtain ⟨g, c, h1, _, h2⟩ := row_ne_nil h (by omega)
 injection h1 with h1 _ _
 subst h1
 refine ⟨g, 0, rfl, h2, fun r hr => ?_⟩
 rw [Nat.zero_add]
 refine (World.ownsRow.cellAt (w := w) (xs := es.flatMap Edg.cells) h (k * 10 + r) (by omega)).trans ?_
 exact fmS_get Edg.cells 10 (fun _ => rfl) es k r hk hr
theorem OwnD.rd {t : ByteArray} (h : OwnD w base s A cap sz) (hs : s = .string t) : RdD w w.heap.size A sz := by
 intro k hk
 obtain ⟨g, c, h1, _, h2⟩ := row_ne_nil h (by omega)
 injection h1 with h1 _ _
 subst h1
 have e := fun r (hr : r < 2) => (World.ownsRow.cellAt (w := w) (xs := sz.flatMap (dcs s)) h (k * 2 + r) (by omega)).trans (fmS_get (dcs s) 2 (fun _ => rfl) sz k r hk hr)
 refine ⟨g, 0, rfl, h2, ⟨t, ?_⟩, ?_⟩
 ·rw [Nat.zero_add]; exact (e 0 (by omega)).trans (by rw [hs]; rfl)
 ·rw [Nat.zero_add]; refine (e 1 (by omega)).trans ?_
  unfold gI; simp [dcs, hk]
end
theorem wpList_append_edge {ops : Array Oper} {rest : List Oper} {o : Oper} {a : Act} {Q : Exit → Act → World → Prop} {w : World} (s x : Operand)
  (ho : o.op = .call { callee := .builtin .append, args := #[s, x], argTypes := #[57, 57] }) (hgd : o.guard = none)
  (base : Nat) (A0 : Option Addr) (c0 : Nat) (es : List Edg) (y : Edg) (hs : a.eval s = .slice A0 es.length c0) (hown : OwnE w base A0 c0 es) (g : Nat)
  (hx : a.eval x = .slice (some ⟨g, 0, none⟩) 1 1) (hr : Blk w g 44 (ecs y)) (hl : es.length + 1 ≤ 1000000) (hbase : base ≤ w.heap.size)
  (h : ∀ A' cap' w', OwnE w' base A' cap' (es ++ [y]) → w.grownBy w' (Value.slice A0 es.length c0).ownBlock → Below base w w' → wpList Tryz.prog ops Q rest (a.put o.dst (.slice A' (es ++ [y]).length cap')) w') :
  wpList Tryz.prog ops Q (o :: rest) a w :=
 wpList_plain hgd fun K hK => by
  obtain ⟨v', w', a0, h2, h3, h5⟩ := run_append_edge w base o.type _ _ _ y hown g hr hl hbase
  obtain ⟨g', cap', rfl, hg1, hg2⟩ := row_ne_nil h2 (by omega)
  unfold Oper.wp execOp
  simp only [ho, resolve, invoke, builtin, Sem.run_bind, Sem.run_pure, Result.andThen_ok, List.map_toArray, List.map_cons, List.map_nil, hs, hx, a0]
  have a1 : (es ++ [y]).length = es.length + 1 := by simp
  have a2 : (es ++ [y]).flatMap Edg.cells = es.flatMap Edg.cells ++ y.cells := by simp
  rw [← a1]
  exact hK _ _ (h (some ⟨g', 0, none⟩) cap' w' (by unfold OwnE; rw [a2, a1]; exact h2) h3 (below_grown h3 (fun k hk => by
   rcases hown.2 with ⟨e, _⟩ | ⟨g2, _, _, e, hg, _⟩
   ·rw [e] at hk; simp [Value.ownBlock] at hk
   ·rw [e] at hk; simp [Value.ownBlock] at hk; omega) hbase))
theorem wpList_append_decl {ops : Array Oper} {rest : List Oper} {o : Oper} {a : Act} {Q : Exit → Act → World → Prop} {w : World} (s x : Operand)
  (ho : o.op = .call { callee := .builtin .append, args := #[s, x], argTypes := #[62, 62] }) (hgd : o.guard = none)
  (base : Nat) (A0 : Option Addr) (c0 : Nat) (nm : ByteArray) (sz : List Int) (y : Int) (hs : a.eval s = .slice A0 sz.length c0) (hown : OwnD w base (.string nm) A0 c0 sz) (g : Nat)
  (hx : a.eval x = .slice (some ⟨g, 0, none⟩) 1 1) (hr : Blk w g 90 #[.string nm, y]) (hl : sz.length + 1 ≤ 1000000) (hbase : base ≤ w.heap.size)
  (h : ∀ A' cap' w', OwnD w' base (.string nm) A' cap' (sz ++ [y]) → w.grownBy w' (Value.slice A0 sz.length c0).ownBlock → Below base w w' → wpList Tryz.prog ops Q rest (a.put o.dst (.slice A' (sz ++ [y]).length cap')) w') :
  wpList Tryz.prog ops Q (o :: rest) a w :=
 wpList_plain hgd fun K hK => by
  obtain ⟨i0, hi, hz0, hz1, hz2⟩ := info_parts decl_info
  obtain ⟨v', w', a0, h2, h3, _, h5⟩ := run_append_own_at (P := Tryz.prog) w base 62 o.type _ i0 _ 2 24 Tryz.underlying62 hi hz0 hz1 hz2 rfl (by omega) _ _ _ hown ⟨g, 0, none⟩ 1 1 (dcs (.string nm) y) rfl
   (fun j u hu => by rw [add_mk, Nat.zero_add, hr.cell j]; simpa [dcs] using hu) (fun u hu => by simp [dcs] at hu; rcases hu with rfl | rfl <;> rfl) (by unfold maxLen; omega) (by omega) hbase
  obtain ⟨g', cap', rfl, hg1, hg2⟩ := row_ne_nil h2 (by omega)
  unfold Oper.wp execOp
  simp only [ho, resolve, invoke, builtin, Sem.run_bind, Sem.run_pure, Result.andThen_ok, List.map_toArray, List.map_cons, List.map_nil, hs, hx, a0]
  have a1 : (sz ++ [y]).length = sz.length + 1 := by simp
  have a2 : (sz ++ [y]).flatMap (dcs (.string nm)) = sz.flatMap (dcs (.string nm)) ++ dcs (.string nm) y := by simp
  rw [← a1]
  exact hK _ _ (h (some ⟨g', 0, none⟩) cap' w' (by unfold OwnD; rw [a2, a1]; exact h2) h3 (below_grown h3 (fun k hk => by
   rcases hown.2 with ⟨e, _⟩ | ⟨g2, _, _, e, hg, _⟩
   ·rw [e] at hk; simp [Value.ownBlock] at hk
   ·rw [e] at hk; simp [Value.ownBlock] at hk; omega) hbase))
theorem OwnD.other {w w' : World} {base cap : Nat} {A : Option Addr} {sz : List Int} {s : Value} {row : Option Nat} (h : OwnD w base s A cap sz) (hg : w.grownBy w' row) (hr : ∀ g, row = some g → ∃ cs t, Blk w g t cs ∧ t ≠ 90) : OwnD w' base s A cap sz := by
 refine World.ownsRow.kept h hg ?_
 rcases h.2 with ⟨h1, _⟩ | ⟨g2, cap', cur, h1, _, h3, _⟩
 ·rw [h1]; exact .inl rfl
 ·refine .inr (fun e => ?_)
  rw [h1] at e
  obtain ⟨cs', t, hb, h4⟩ := hr g2 (by rw [← e]; rfl)
  unfold Blk at hb
  rw [h3] at hb
  injection hb with hb
  injection hb with _ hb
  exact h4 hb.symm
theorem OwnD.setFar {w : World} {base cap : Nat} {A : Option Addr} {sz : List Int} {s : Value} (h : OwnD w base s A cap sz) {p : Addr} (hp : p.block < base) (u : Value) : OwnD (w.setCell p u) base s A cap sz :=
 World.ownsRow.kept h (grown_setCell w p u) (by
  rcases h.2 with ⟨h1, _⟩ | ⟨g2, cap', cur, h1, hb, _⟩
  ·rw [h1]; exact .inl rfl
  ·rw [h1]; exact .inr (fun e => by simp [Value.ownBlock] at e; omega))
end
section
open Go.RowKit
set_option maxRecDepth 100000
set_option maxHeartbeats 8000000
attribute [local go_sem ↓] Go.wp_at_zero Go.wp_at_succ
def GraphRes (w : World) (n : Int) (na : Nat) (es : List Edg) (e : Ending) (w' : World) : Prop :=
 ∃ D cd E ce, e = .returned (.agg #[.slice none 0 0, n, .slice D na cd, .int .i64 2, .int .i64 1, .slice E es.length ce]) ∧ RdD w' w'.heap.size D (List.replicate na 4) ∧ RdE w' w'.heap.size E es ∧ Below w.heap.size w w'
theorem Blk.set6 {W : World} {g : Nat} {t : TypeId} {a0 a1 a2 a3 a4 a5 v0 v1 v2 v3 v4 v5 : Value} (h : Blk W g t #[a0, a1, a2, a3, a4, a5]) :
  Blk ((((((W.setCell ⟨g, 0, none⟩ v0).setCell ⟨g, 1, none⟩ v1).setCell ⟨g, 2, none⟩ v2).setCell ⟨g, 3, none⟩ v3).setCell ⟨g, 4, none⟩ v4).setCell ⟨g, 5, none⟩ v5) g t #[v0, v1, v2, v3, v4, v5] := by
 have h0 : Blk _ g t #[v0, a1, a2, a3, a4, a5] := h.set_ 0 v0
 have h1 : Blk _ g t #[v0, v1, a2, a3, a4, a5] := h0.set_ 1 v1
 have h2 : Blk _ g t #[v0, v1, v2, a3, a4, a5] := h1.set_ 2 v2
 have h3 : Blk _ g t #[v0, v1, v2, v3, a4, a5] := h2.set_ 3 v3
 have h4 : Blk _ g t #[v0, v1, v2, v3, v4, a5] := h3.set_ 4 v4
 have h5 : Blk _ g t #[v0, v1, v2, v3, v4, v5] := h4.set_ 5 v5
 exact h5
theorem below6 {W : World} {B g : Nat} {v0 v1 v2 v3 v4 v5 : Value} (hg : B ≤ g) (hB : B ≤ W.heap.size) :
  Below B W ((((((W.setCell ⟨g, 0, none⟩ v0).setCell ⟨g, 1, none⟩ v1).setCell ⟨g, 2, none⟩ v2).setCell ⟨g, 3, none⟩ v3).setCell ⟨g, 4, none⟩ v4).setCell ⟨g, 5, none⟩ v5) := by
 have h0 := below1 (W := W) (B := B) (g := g) (i := 0) (v := v0) hg hB
 have h1 := h0.setCell (p := ⟨g, 1, none⟩) hg v1
 have h2 := h1.setCell (p := ⟨g, 2, none⟩) hg v2
 have h3 := h2.setCell (p := ⟨g, 3, none⟩) hg v3
 have h4 := h3.setCell (p := ⟨g, 4, none⟩) hg v4
 exact h4.setCell (p := ⟨g, 5, none⟩) hg v5
theorem OwnD.set6 {w : World} {base cap g : Nat} {A : Option Addr} {sz : List Int} {s v0 v1 v2 v3 v4 v5 : Value} (h : OwnD w base s A cap sz) (hg : g < base) : OwnD ((((((w.setCell ⟨g, 0, none⟩ v0).setCell ⟨g, 1, none⟩ v1).setCell ⟨g, 2, none⟩ v2).setCell ⟨g, 3, none⟩ v3).setCell ⟨g, 4, none⟩ v4).setCell ⟨g, 5, none⟩ v5) base s A cap sz :=
 (((((h.setFar (p := ⟨g, 0, none⟩) hg v0).setFar (p := ⟨g, 1, none⟩) hg v1).setFar (p := ⟨g, 2, none⟩) hg v2).setFar (p := ⟨g, 3, none⟩) hg v3).setFar (p := ⟨g, 4, none⟩) hg v4).setFar (p := ⟨g, 5, none⟩) hg v5
theorem OwnE.setFar {w : World} {base cap : Nat} {A : Option Addr} {es : List Edg} (h : OwnE w base A cap es) {p : Addr} (hp : p.block < base) (u : Value) : OwnE (w.setCell p u) base A cap es :=
 World.ownsRow.kept h (grown_setCell w p u) (by
  rcases h.2 with ⟨h1, _⟩ | ⟨g2, cap', cur, h1, hb, _⟩
  ·rw [h1]; exact .inl rfl
  ·rw [h1]; exact .inr (fun e => by simp [Value.ownBlock] at e; omega))
theorem OwnE.set6 {w : World} {base cap g : Nat} {A : Option Addr} {es : List Edg} {v0 v1 v2 v3 v4 v5 : Value} (h : OwnE w base A cap es) (hg : g < base) : OwnE ((((((w.setCell ⟨g, 0, none⟩ v0).setCell ⟨g, 1, none⟩ v1).setCell ⟨g, 2, none⟩ v2).setCell ⟨g, 3, none⟩ v3).setCell ⟨g, 4, none⟩ v4).setCell ⟨g, 5, none⟩ v5) base A cap es :=
 (((((h.setFar (p := ⟨g, 0, none⟩) hg v0).setFar (p := ⟨g, 1, none⟩) hg v1).setFar (p := ⟨g, 2, none⟩) hg v2).setFar (p := ⟨g, 3, none⟩) hg v3).setFar (p := ⟨g, 4, none⟩) hg v4).setFar (p := ⟨g, 5, none⟩) hg v5
theorem OwnE_row {w : World} {base cap : Nat} {A : Option Addr} {es : List Edg} (h : OwnE w base A cap es) : ∀ g, (Value.slice A es.length cap).ownBlock = some g → ∃ cs t, Blk w g t cs ∧ t ≠ 90 := fun g e => by
 rcases h.2 with ⟨h1, _⟩ | ⟨g2, cap', cur, h1, _, h3, _⟩
 ·rw [h1] at e; simp [Value.ownBlock] at e
 ·rw [h1] at e
  have : g2 = g := by simpa [Value.ownBlock] using e
  subst this
  exact ⟨cur, _, h3, by decide⟩
theorem graph_ok (n : Int) (na : Nat) (hna : na ≤ 16) (fr te kd dst arr op av an bv bn : Int) (hop : kd = 12 → 1 ≤ op ∧ op ≤ 6) (w : World) :
  Calls Tryz.prog 38 #[n, (na : Int), .agg #[fr, te, kd, dst, arr, op, av, an, bv, bn]] w (GraphRes w n na (gr1 n [] ⟨fr, te, kd, dst, arr, op, av, an, bv, bn⟩).es) := by
 obtain ⟨p0, p1, p2, hb0, hs0⟩ := new_three w #[fr, te, kd, dst, arr, op, av, an, bv, bn] #[.slice none 0 0, .int .i64 0, .slice none 0 0, .int .i64 0, .int .i64 0, .slice none 0 0] #[.slice none 0 0, n, .slice none 0 0, .int .i64 2, .int .i64 1, .slice none 0 0] 44 64 64
 have HG : Hid ((gr1 n [] ⟨fr, te, kd, dst, arr, op, av, an, bv, bn⟩).es = if kd = 12 then [e01 ⟨fr, te, kd, dst, arr, op, av, an, bv, bn⟩, e01n ⟨fr, te, kd, dst, arr, op, av, an, bv, bn⟩] else [e01 ⟨fr, te, kd, dst, arr, op, av, an, bv, bn⟩]) := hid rfl
 generalize (gr1 n [] ⟨fr, te, kd, dst, arr, op, av, an, bv, bn⟩).es = es at *
 go_enter Tryz.func38, Tryz.ntmps38
 go_wp2
 generalize ((w.alloc (.cells #[fr, te, kd, dst, arr, op, av, an, bv, bn] 44)).alloc (.cells #[.slice none 0 0, .int .i64 0, .slice none 0 0, .int .i64 0, .int .i64 0, .slice none 0 0] 64)).alloc (.cells #[.slice none 0 0, n, .slice none 0 0, .int .i64 2, .int .i64 1, .slice none 0 0] 64) = w1 at *
 go_loopw [8] (fun t wr => ∃ (k : Nat) (L : List Int) (D : Option Addr) (cd : Nat), k ≤ na ∧ t = .int .i64 k ∧ Blk wr (w.heap.size + 2) 64 #[.slice none 0 0, n, .slice D L.length cd, .int .i64 2, .int .i64 1, .slice none 0 0] ∧ OwnD wr (w.heap.size + 3) (.string ⟨#[97]⟩) D cd L ∧ L = List.replicate k 4 ∧ Blk wr w.heap.size 44 #[fr, te, kd, dst, arr, op, av, an, bv, bn] ∧ Blk wr (w.heap.size + 1) 64 #[.slice none 0 0, .int .i64 0, .slice none 0 0, .int .i64 0, .int .i64 0, .slice none 0 0] ∧ Below w.heap.size w wr ∧ w.heap.size + 3 ≤ wr.heap.size) (fun t _ => na - (RowKit.intOf t).toNat)
 case atStart => exact ⟨0, [], none, 0, by omega, rfl, p2, OwnD.nil _ _ _, rfl, p0, p1, hb0, by omega⟩
 case round =>
  obtain ⟨k, L, D, cd, hk, rfl, kc, od, hL, ke, kp, hb, hsz⟩ := hrel
  clear p0 p1 p2 hb0 hs0
  by_cases hlt : k < na
  ·have hlt' : (k : Int) < (na : Int) := by omega
   have c2 := kc.cell 2
   have HL := hid hL
   have hll : L.length ≤ 16 := by rw [hL, List.length_replicate]; omega
   clear hL
   have n8 := new1 wr (.cells #[.string ⟨#[97]⟩, .int .i64 4] 90)
   have k8 := Blk.new wr 90 #[.string ⟨#[97]⟩, .int .i64 4]
   have od8 := od.below n8
   have kc8 := kc.later n8
   have ke8 := ke.later n8
   have kp8 := kp.later n8
   have hb8 := bup hb n8
   have hs8 := n8.size
   clear od kc ke kp hb
   go_wp2_with (at_builtin; go_loud (refine wpList_append_decl _ _ rfl rfl (w.heap.size + 3) D cd ⟨#[97]⟩ L 4 rfl od8 wr.heap.size rfl k8 (by omega) (by omega) ?_); intro D' cd' w9 od9 hg9 a6; have c9 := (a6.cell (p := ⟨w.heap.size + 2, 2, none⟩) (by show w.heap.size + 2 < w.heap.size + 3; omega)).trans (kc8.cell 2); have f9 := (kc8.below a6 (by omega)).fr 2)
   have kc10 := (kc8.below a6 (by omega)).set_ 2 (.slice D' (L.length + 1) cd')
   have od10 := od9.setFar (p := ⟨w.heap.size + 2, 2, none⟩) (by show w.heap.size + 2 < w.heap.size + 3; omega) (.slice D' (L.length + 1) cd')
   have ke10 := (ke8.below a6 (by omega)).far (p := ⟨w.heap.size + 2, 2, none⟩) (by show w.heap.size + 2 ≠ w.heap.size; omega) (.slice D' (L.length + 1) cd')
   have kp10 := (kp8.below a6 (by omega)).far (p := ⟨w.heap.size + 2, 2, none⟩) (by show w.heap.size + 2 ≠ w.heap.size + 1; omega) (.slice D' (L.length + 1) cd')
   have a7 := (hb8.trans (a6.mono (by omega))).setCell (p := ⟨w.heap.size + 2, 2, none⟩) (by show w.heap.size ≤ w.heap.size + 2; omega) (.slice D' (L.length + 1) cd')
   have a8 : w.heap.size + 3 ≤ (w9.setCell ⟨w.heap.size + 2, 2, none⟩ (.slice D' (L.length + 1) cd')).heap.size := by have := a6.size; simp; omega
   have hl1 : (L ++ [(4 : Int)]).length = L.length + 1 := by simp
   clear c9 f9 hg9 a6 od9 od8 kc8 ke8 kp8 hb8 k8 n8 c2 hs8
   go_roundw
   case rel =>
    refine ⟨k + 1, L ++ [(4 : Int)], D', cd', by omega, by go_num, ?_, od10, ?_, ke10, kp10, a7, a8⟩
    ·rw [hl1]; exact kc10
    ·rw [HL.out]; exact (List.replicate_succ' ..).symm
   case measure => simp [RowKit.intOf]; omega
  ·obtain rfl : k = na := by omega
   have hln : L.length = k := by rw [hL, List.length_replicate]
   have hlk := hna
   clear hlt hk
   rw [hln] at kc
   have ke5 : Blk ((wr.setCell ⟨w.heap.size, 0, none⟩ (.int .i64 0)).setCell ⟨w.heap.size, 1, none⟩ (.int .i64 1)) w.heap.size 44 #[.int .i64 0, .int .i64 1, kd, dst, arr, op, av, an, bv, bn] := (ke.set_ 0 (.int .i64 0)).set_ 1 (.int .i64 1)
   have kc5 := (kc.far (p := ⟨w.heap.size, 0, none⟩) (by show w.heap.size ≠ w.heap.size + 2; omega) (.int .i64 0)).far (p := ⟨w.heap.size, 1, none⟩) (by show w.heap.size ≠ w.heap.size + 2; omega) (.int .i64 1)
   have kp5 := (kp.far (p := ⟨w.heap.size, 0, none⟩) (by show w.heap.size ≠ w.heap.size + 1; omega) (.int .i64 0)).far (p := ⟨w.heap.size, 1, none⟩) (by show w.heap.size ≠ w.heap.size + 1; omega) (.int .i64 1)
   have od5 := (od.setFar (p := ⟨w.heap.size, 0, none⟩) (by show w.heap.size < w.heap.size + 3; omega) (.int .i64 0)).setFar (p := ⟨w.heap.size, 1, none⟩) (by show w.heap.size < w.heap.size + 3; omega) (.int .i64 1)
   have hb5 := (hb.setCell (p := ⟨w.heap.size, 0, none⟩) (Nat.le_refl _) (.int .i64 0)).setCell (p := ⟨w.heap.size, 1, none⟩) (Nat.le_refl _) (.int .i64 1)
   have hs5 : ((wr.setCell ⟨w.heap.size, 0, none⟩ (.int .i64 0)).setCell ⟨w.heap.size, 1, none⟩ (.int .i64 1)).heap.size = wr.heap.size := by simp
   obtain ⟨y0, y1, y2, y3, y4, y5, y6, y7, y8, y9, fy⟩ := edgbox ke
   obtain ⟨f0, f1, f2, f3, f4, f5, ff⟩ := blk6 kc
   have n6 := new1 ((wr.setCell ⟨w.heap.size, 0, none⟩ (.int .i64 0)).setCell ⟨w.heap.size, 1, none⟩ (.int .i64 1)) (.cells #[.int .i64 0, .int .i64 1, kd, dst, arr, op, av, an, bv, bn] 44)
   have k6 := Blk.new ((wr.setCell ⟨w.heap.size, 0, none⟩ (.int .i64 0)).setCell ⟨w.heap.size, 1, none⟩ (.int .i64 1)) 44 #[.int .i64 0, .int .i64 1, kd, dst, arr, op, av, an, bv, bn]
   rw [hs5] at k6
   have ke6 := ke5.later n6
   have kc6 := kc5.later n6
   have kp6 := kp5.later n6
   have od6 := od5.below n6
   have hb6 := bup hb5 n6
   have hs6 : w.heap.size + 3 ≤ (((wr.setCell ⟨w.heap.size, 0, none⟩ (.int .i64 0)).setCell ⟨w.heap.size, 1, none⟩ (.int .i64 1)).alloc (.cells #[.int .i64 0, .int .i64 1, kd, dst, arr, op, av, an, bv, bn] 44)).heap.size := by have := n6.size; omega
   clear ke5 kc5 kp5 od5 hb5 n6 od kp
   go_upto_region 9 with (at_builtin; go_loud (refine wpList_append_edge _ _ rfl rfl (w.heap.size + 3) none 0 [] (e01 ⟨fr, te, kd, dst, arr, op, av, an, bv, bn⟩) rfl (OwnE.nil _ _) wr.heap.size rfl k6 (by simp) hs6 ?_); intro E' ce' wB oe hgB a9; have c9 := (a9.cell (p := ⟨w.heap.size + 2, 5, none⟩) (by show w.heap.size + 2 < w.heap.size + 3; omega)).trans (kc6.cell 5); have f9 := (kc6.below a9 (by omega)).fr 5)
   clear y0 y1 y2 y3 y4 y5 y6 y7 y8 y9 fy f0 f1 f2 f3 f4 f5 ff ke kc c9 f9 k6 hs5
   have ke10 := (ke6.below a9 (by omega)).far (p := ⟨w.heap.size + 2, 5, none⟩) (by show w.heap.size + 2 ≠ w.heap.size; omega) (.slice E' 1 ce')
   have kp10 := (kp6.below a9 (by omega)).far (p := ⟨w.heap.size + 2, 5, none⟩) (by show w.heap.size + 2 ≠ w.heap.size + 1; omega) (.slice E' 1 ce')
   have kc10 := (kc6.below a9 (by omega)).set_ 5 (.slice E' 1 ce')
   replace kc10 : Blk (wB.setCell ⟨w.heap.size + 2, 5, none⟩ (.slice E' 1 ce')) (w.heap.size + 2) 64 #[.slice none 0 0, n, .slice D k cd, .int .i64 2, .int .i64 1, .slice E' 1 ce'] := kc10
   have od10 := (od6.other hgB (fun g e => by simp [Value.ownBlock] at e)).setFar (p := ⟨w.heap.size + 2, 5, none⟩) (by show w.heap.size + 2 < w.heap.size + 3; omega) (.slice E' 1 ce')
   have oe10 : OwnE _ (w.heap.size + 3) E' ce' [e01 ⟨fr, te, kd, dst, arr, op, av, an, bv, bn⟩] := oe.setFar (p := ⟨w.heap.size + 2, 5, none⟩) (by show w.heap.size + 2 < w.heap.size + 3; omega) (.slice E' 1 ce')
   have a7 := (hb6.trans (a9.mono (by omega))).setCell (p := ⟨w.heap.size + 2, 5, none⟩) (by show w.heap.size ≤ w.heap.size + 2; omega) (.slice E' 1 ce')
   have a8 : w.heap.size + 3 ≤ (wB.setCell ⟨w.heap.size + 2, 5, none⟩ (.slice E' 1 ce')).heap.size := by have := a9.size; simp; omega
   clear ke6 kp6 kc6 od6 oe hb6 hgB a9 hs6 hb hsz
   generalize wB.setCell ⟨w.heap.size + 2, 5, none⟩ (.slice E' 1 ce') = w10 at *
   obtain ⟨y0, y1, y2, y3, y4, y5, y6, y7, y8, y9, fy⟩ := edgbox ke10
   obtain ⟨f0, f1, f2, f3, f4, f5, ff⟩ := blk6 kc10
   by_cases h12 : kd = 12
   ·subst h12
    obtain ⟨o1, o2⟩ := hop rfl
    obtain ⟨m, rfl⟩ : ∃ m : Nat, op = (m : Int) := ⟨op.toNat, by omega⟩
    have HN : Hid (e01n ⟨fr, te, 12, dst, arr, (m : Int), av, an, bv, bn⟩ = ⟨0, 1, 12, dst, arr, notOp (m : Int), av, an, bv, bn⟩) := hid rfl
    rw [HN.out] at HG
    have nA := new1 w10 (.cells #[.int .i64 0, .int .i64 6, .int .i64 5, .int .i64 4, .int .i64 3, .int .i64 2, .int .i64 1] 73)
    have kA := Blk.new w10 73 #[.int .i64 0, .int .i64 6, .int .i64 5, .int .i64 4, .int .i64 3, .int .i64 2, .int .i64 1]
    have ca : (w10.alloc (.cells #[.int .i64 0, .int .i64 6, .int .i64 5, .int .i64 4, .int .i64 3, .int .i64 2, .int .i64 1] 73)).cell? ⟨w10.heap.size, m, none⟩ = some (.int .i64 (notOp (m : Int))) := by
     rw [kA.cell m]
     have e : m = 1 ∨ m = 2 ∨ m = 3 ∨ m = 4 ∨ m = 5 ∨ m = 6 := by omega
     rcases e with rfl | rfl | rfl | rfl | rfl | rfl <;> rfl
    clear kA HN
    generalize notOp (m : Int) = q at *
    have ke11 := ke10.later nA
    have kc11 := kc10.later nA
    have kp11 := kp10.later nA
    have od11 := od10.below nA
    have oe11 := oe10.below nA
    have b3 := bup a7 nA
    have b5 := Nat.le_trans a8 nA.size
    clear ke10 kc10 kp10 od10 oe10 a7
    go_upto_region 11 with fail
    clear y0 y1 y2 y3 y4 y5 y6 y7 y8 y9 fy f0 f1 f2 f3 f4 f5 ff nA a8
    generalize w10.alloc (.cells #[.int .i64 0, .int .i64 6, .int .i64 5, .int .i64 4, .int .i64 3, .int .i64 2, .int .i64 1] 73) = w11 at *
    generalize w10.heap.size = ga at *
    obtain ⟨y0, y1, y2, y3, y4, y5, y6, y7, y8, y9, fy⟩ := edgbox ke11
    go_upto_region 13 with fail
    clear y0 y1 y2 y3 y4 y5 y6 y7 y8 y9 fy ca
    have ke12 : Blk (w11.setCell ⟨w.heap.size, 5, none⟩ (.int .i64 q)) w.heap.size 44 #[.int .i64 0, .int .i64 1, .int .i64 12, dst, arr, q, av, an, bv, bn] := ke11.set_ 5 (.int .i64 q)
    have kc12 := kc11.far (p := ⟨w.heap.size, 5, none⟩) (by show w.heap.size ≠ w.heap.size + 2; omega) (.int .i64 q)
    have kp12 := kp11.far (p := ⟨w.heap.size, 5, none⟩) (by show w.heap.size ≠ w.heap.size + 1; omega) (.int .i64 q)
    have od12 := od11.setFar (p := ⟨w.heap.size, 5, none⟩) (by show w.heap.size < w.heap.size + 3; omega) (.int .i64 q)
    have oe12 := oe11.setFar (p := ⟨w.heap.size, 5, none⟩) (by show w.heap.size < w.heap.size + 3; omega) (.int .i64 q)
    have b4 := b3.setCell (p := ⟨w.heap.size, 5, none⟩) (Nat.le_refl _) (.int .i64 q)
    have b2 : w.heap.size + 3 ≤ (w11.setCell ⟨w.heap.size, 5, none⟩ (.int .i64 q)).heap.size := by simpa using b5
    clear ke11 kc11 kp11 od11 oe11 b3 b5
    generalize w11.setCell ⟨w.heap.size, 5, none⟩ (.int .i64 q) = w12 at *
    have n13 := new1 w12 (.cells #[.int .i64 0, .int .i64 1, .int .i64 12, dst, arr, q, av, an, bv, bn] 44)
    have k13 := Blk.new w12 44 #[.int .i64 0, .int .i64 1, .int .i64 12, dst, arr, q, av, an, bv, bn]
    obtain ⟨y0, y1, y2, y3, y4, y5, y6, y7, y8, y9, fy⟩ := edgbox ke12
    obtain ⟨f0, f1, f2, f3, f4, f5, ff⟩ := blk6 kc12
    have kc13 := kc12.later n13
    have kp13 := kp12.later n13
    have od13 := od12.below n13
    have oe13 := oe12.below n13
    have b1 := bup b4 n13
    have b7 := Nat.le_trans b2 n13.size
    go_upto_region 14 with (at_builtin; go_loud (refine wpList_append_edge _ _ rfl rfl (w.heap.size + 3) E' ce' [e01 ⟨fr, te, 12, dst, arr, (m : Int), av, an, bv, bn⟩] ⟨0, 1, 12, dst, arr, q, av, an, bv, bn⟩ rfl oe13 w12.heap.size rfl k13 (by simp) b7 ?_); intro E2 ce2 wC oe14 hgC b0; have c9 := (b0.cell (p := ⟨w.heap.size + 2, 5, none⟩) (by show w.heap.size + 2 < w.heap.size + 3; omega)).trans (kc13.cell 5); have f9 := (kc13.below b0 (by omega)).fr 5)
    clear y0 y1 y2 y3 y4 y5 y6 y7 y8 y9 fy f0 f1 f2 f3 f4 f5 ff c9 f9 k13 n13 ke12 kc12 kp12 od12 oe12 b4 b2
    have kpW := (kp13.below b0 (by omega)).far (p := ⟨w.heap.size + 2, 5, none⟩) (by show w.heap.size + 2 ≠ w.heap.size + 1; omega) (.slice E2 2 ce2)
    have kc14 : Blk (wC.setCell ⟨w.heap.size + 2, 5, none⟩ (.slice E2 2 ce2)) (w.heap.size + 2) 64 #[.slice none 0 0, n, .slice D k cd, .int .i64 2, .int .i64 1, .slice E2 2 ce2] := (kc13.below b0 (by omega)).set_ 5 (.slice E2 2 ce2)
    have odW := (od13.other hgC (OwnE_row oe13)).setFar (p := ⟨w.heap.size + 2, 5, none⟩) (by show w.heap.size + 2 < w.heap.size + 3; omega) (.slice E2 2 ce2)
    have oeW : OwnE _ (w.heap.size + 3) E2 ce2 [e01 ⟨fr, te, 12, dst, arr, (m : Int), av, an, bv, bn⟩, ⟨0, 1, 12, dst, arr, q, av, an, bv, bn⟩] := oe14.setFar (p := ⟨w.heap.size + 2, 5, none⟩) (by show w.heap.size + 2 < w.heap.size + 3; omega) (.slice E2 2 ce2)
    have b6 := (b1.trans (b0.mono (by omega))).setCell (p := ⟨w.heap.size + 2, 5, none⟩) (by show w.heap.size ≤ w.heap.size + 2; omega) (.slice E2 2 ce2)
    clear kc13 kp13 od13 oe13 oe14 b1 b7 hgC b0
    generalize wC.setCell ⟨w.heap.size + 2, 5, none⟩ (.slice E2 2 ce2) = w14 at *
    obtain ⟨f0, f1, f2, f3, f4, f5, ff⟩ := blk6 kc14
    obtain ⟨x0, x1, x2, x3, x4, x5, fx⟩ := blk6 kpW
    go_wp2
    clear f0 f1 f2 f3 f4 f5 ff x0 x1 x2 x3 x4 x5 fx kc14
    have q9 := kpW.set6 (v0 := .slice none 0 0) (v1 := .int .i64 n) (v2 := .slice D k cd) (v3 := .int .i64 2) (v4 := .int .i64 1) (v5 := .slice E2 2 ce2)
    have od9 := odW.set6 (g := w.heap.size + 1) (v0 := .slice none 0 0) (v1 := .int .i64 n) (v2 := .slice D k cd) (v3 := .int .i64 2) (v4 := .int .i64 1) (v5 := .slice E2 2 ce2) (by omega)
    have oe9 := oeW.set6 (g := w.heap.size + 1) (v0 := .slice none 0 0) (v1 := .int .i64 n) (v2 := .slice D k cd) (v3 := .int .i64 2) (v4 := .int .i64 1) (v5 := .slice E2 2 ce2) (by omega)
    have a6 := b6.trans (below6 (W := w14) (B := w.heap.size) (g := w.heap.size + 1) (v0 := .slice none 0 0) (v1 := .int .i64 n) (v2 := .slice D k cd) (v3 := .int .i64 2) (v4 := .int .i64 1) (v5 := .slice E2 2 ce2) (by omega) b6.size)
    obtain ⟨z0, z1, z2, z3, z4, z5, zf⟩ := blk6 q9
    have hD := od9.rd rfl
    rw [hL] at hD
    refine bodyPost_ret (v := .agg #[.slice none 0 0, n, .slice D k cd, .int .i64 2, .int .i64 1, .slice E2 2 ce2]) (by simp [results, Tryz.results38, go_sem, z0, z1, z2, z3, z4, z5]) rfl ?_
    rw [HG.out, if_pos (by first | rfl | trivial)]
    exact ⟨D, cd, E2, ce2, rfl, hD, oe9.rd, a6⟩
   ·have t12 : (kd == 12) = false := by rw [beq_eq_false_iff_ne]; exact h12
    have kpW := kp10
    have odW := od10
    have oeW := oe10
    have b6 := a7
    obtain ⟨x0, x1, x2, x3, x4, x5, fx⟩ := blk6 kpW
    go_wp2
    clear y0 y1 y2 y3 y4 y5 y6 y7 y8 y9 fy f0 f1 f2 f3 f4 f5 ff x0 x1 x2 x3 x4 x5 fx
    have q9 := kpW.set6 (v0 := .slice none 0 0) (v1 := .int .i64 n) (v2 := .slice D k cd) (v3 := .int .i64 2) (v4 := .int .i64 1) (v5 := .slice E' 1 ce')
    have od9 := odW.set6 (g := w.heap.size + 1) (v0 := .slice none 0 0) (v1 := .int .i64 n) (v2 := .slice D k cd) (v3 := .int .i64 2) (v4 := .int .i64 1) (v5 := .slice E' 1 ce') (by omega)
    have oe9 := oeW.set6 (g := w.heap.size + 1) (v0 := .slice none 0 0) (v1 := .int .i64 n) (v2 := .slice D k cd) (v3 := .int .i64 2) (v4 := .int .i64 1) (v5 := .slice E' 1 ce') (by omega)
    have a6 := b6.trans (below6 (W := w10) (B := w.heap.size) (g := w.heap.size + 1) (v0 := .slice none 0 0) (v1 := .int .i64 n) (v2 := .slice D k cd) (v3 := .int .i64 2) (v4 := .int .i64 1) (v5 := .slice E' 1 ce') (by omega) b6.size)
    obtain ⟨z0, z1, z2, z3, z4, z5, zf⟩ := blk6 q9
    have hD := od9.rd rfl
    rw [hL] at hD
    refine bodyPost_ret (v := .agg #[.slice none 0 0, n, .slice D k cd, .int .i64 2, .int .i64 1, .slice E' 1 ce']) (by simp [results, Tryz.results38, go_sem, z0, z1, z2, z3, z4, z5]) rfl ?_
    rw [HG.out, if_neg h12]
    exact ⟨D, cd, E', ce', rfl, hD, oe9.rd, a6⟩
end
end Go.Proofs.YtnmpgijiimglcaaGreat
