import Derived.Test.YtnmpgijiimglcaaGreatBSo29
import Derived.Test.YtnmpgijiimglcaaGreatBSo26
import Derived.Test.YtnmpgijiimglcaaGreatBSo02
import Derived.Test.YtnmpgijiimglcaaGreatBSo13
import Derived.Test.YtnmpgijiimglcaaGreatBSo09
import Derived.Shelf.Spec.BitsCarry
import Derived.Lib.EndianBits
namespace Go.Proofs.YtnmpgijiimglcaaGreat
section
open Go.RowKit
set_option maxRecDepth 100000
set_option maxHeartbeats 8000000
def e01 (e : Edg) : Edg := { e with fr := 0, te := 1 }
def e01n (e : Edg) : Edg := { e with fr := 0, te := 1, op := notOp e.op }
def gr1 (n : Int) (sz : List Int) (e : Edg) : Gr := ⟨0, n, sz, 2, 1, if e.kd = 12 then [e01 e, e01n e] else [e01 e]⟩
theorem right_op {n na : Int} {e : Edg} (h : rightE n na e = true) (hk : e.kd = 12) : 1 ≤ e.op ∧ e.op ≤ 6 := by
 unfold rightE at h
 simp only [Bool.and_eq_true, decide_eq_true_eq] at h
 have := h.1.1.2
 rw [show wOp e.kd = true from decide_eq_true hk, cond_true, decide_eq_true_eq] at this
 exact this
theorem notOp_rng {op : Int} (h : 1 ≤ op ∧ op ≤ 6) : 1 ≤ notOp op ∧ notOp op ≤ 6 := by
 have : op = 1 ∨ op = 2 ∨ op = 3 ∨ op = 4 ∨ op = 5 ∨ op = 6 := by omega
 rcases this with rfl | rfl | rfl | rfl | rfl | rfl <;> decide
theorem right_01n {n na : Int} {e : Edg} (h : rightE n na e = true) (hk : e.kd = 12) : rightE n na (e01n e) = true := by
 have h1 := notOp_rng (right_op h hk)
 unfold rightE at h ⊢
 unfold e01n
 dsimp only
 simp only [Bool.and_eq_true] at h ⊢
 refine ⟨⟨⟨h.1.1.1, ?_⟩, h.1.2⟩, h.2⟩
 rw [show wOp e.kd = true from decide_eq_true hk, cond_true]
 exact decide_eq_true h1
theorem gr1_ok {n : Int} {sz : List Int} {e : Edg} (h0 : 0 ≤ n) (h1 : n ≤ 64) (hs : sz.length ≤ 16) (hz : ∀ s ∈ sz, 1 ≤ s ∧ s ≤ 1024) (hr : rightE n sz.length e = true) : chk (gr1 n sz e) = 0 := by
 have a0 : (gr1 n sz e).all = n := by unfold Gr.all gr1; dsimp only; omega
 have hv : varsBad (gr1 n sz e) = false := by
  unfold varsBad
  rw [a0, decide_eq_false_iff_not]
  unfold gr1; dsimp only; omega
 have hl : (gr1 n sz e).es.length ≤ 2 := by unfold gr1; dsimp only; split <;> simp
 have hp : ptsBad (gr1 n sz e) = false := by
  unfold ptsBad
  rw [decide_eq_false_iff_not]
  rw [show (gr1 n sz e).pts = 2 from rfl]
  omega
 have ok1 : ∀ x : Edg, x.fr = 0 → x.te = 1 → rightE n sz.length x = true → edgeOk (gr1 n sz e) x = true := fun x hf ht hx => by
  unfold edgeOk inE
  rw [a0, hf, ht]
  rw [show (gr1 n sz e).pts = 2 from rfl, show (gr1 n sz e).ex = 1 from rfl, show (gr1 n sz e).sz = sz from rfl, hx]
  decide
 have hok : (gr1 n sz e).es.all (edgeOk (gr1 n sz e)) = true := by
  rw [List.all_eq_true]
  intro x hx
  by_cases hk : e.kd = 12
  ·rw [show (gr1 n sz e).es = [e01 e, e01n e] by unfold gr1; rw [if_pos hk]] at hx
   simp only [List.mem_cons, List.not_mem_nil, or_false] at hx
   rcases hx with rfl | rfl
   ·exact ok1 _ rfl rfl hr
   ·exact ok1 _ rfl rfl (right_01n hr hk)
  ·rw [show (gr1 n sz e).es = [e01 e] by unfold gr1; rw [if_neg hk]] at hx
   simp only [List.mem_cons, List.not_mem_nil, or_false] at hx
   subst hx
   exact ok1 _ rfl rfl hr
 have hf : forksOk (gr1 n sz e) 2 = true := by
  unfold forksOk
  rw [show List.range 2 = [0, 1] from rfl]
  simp only [List.all_cons, List.all_nil, Bool.and_true, Bool.and_eq_true]
  by_cases hk : e.kd = 12
  ·rw [show (gr1 n sz e).es = [e01 e, e01n e] by unfold gr1; rw [if_pos hk]]
   refine ⟨?_, rfl⟩
   show fork2 (e01 e) (e01n e) = true
   unfold fork2 e01 e01n
   simp [hk]
  ·rw [show (gr1 n sz e).es = [e01 e] by unfold gr1; rw [if_neg hk]]
   refine ⟨?_, rfl⟩
   show decide ((e01 e).kd ≠ 12) = true
   exact decide_eq_true hk
 refine chk_ok hv hp ?_
 unfold formOk
 rw [hok, show (gr1 n sz e).pts.toNat = 2 from rfl, hf, show (gr1 n sz e).sz = sz from rfl, decide_eq_true hs, show decide (0 ≤ (gr1 n sz e).ex ∧ (gr1 n sz e).ex < (gr1 n sz e).pts) = true from rfl]
 have : sz.all arrOk = true := by
  rw [List.all_eq_true]
  intro s hs
  exact decide_eq_true (hz s hs)
 rw [this]; rfl
theorem one_plain {n : Int} {sz : List Int} {e : Edg} (ls : List (List Int)) (xs : List Int) (input : Int) (hk : e.kd ≠ 12) : oneW (gr1 n sz e) ls xs input 0 = (0, (doesW ls e xs input).1, (doesW ls e xs input).2) := by
 have h1 : (gr1 n sz e).es = [e01 e] := by unfold gr1; rw [if_neg hk]
 have h2 : takenW [e01 e] xs (idxE [e01 e] 1 (0 : Nat)) = 0 := by
  rw [show idxE [e01 e] 1 (0 : Nat) = [0] from rfl, takenW_cons, if_pos]
  ·rfl
  ·show goesB xs (e01 e) = true
   unfold goesB
   rw [show decide ((e01 e).kd ≠ 12) = true from decide_eq_true hk]; rfl
 unfold oneW
 rw [h1, show [e01 e].length = 1 from rfl, h2, if_neg (by omega)]
 rfl
theorem right_T {n : Int} {e : Edg} {na : Int} (h : rightT n e = true) (ha : e.arr < na) (_hn : 0 ≤ na) : rightE n na e = true := by
 unfold rightT at h
 unfold rightE at h ⊢
 dsimp only at h
 simp only [Bool.and_eq_true] at h ⊢
 refine ⟨⟨⟨⟨h.1.1.1.1, ?_⟩, h.1.1.2⟩, h.1.2⟩, h.2⟩
 have h1 := h.1.1.1.2
 cases hw : wArr e.kd
 ·rw [hw, cond_false, decide_eq_true_eq] at h1
  rw [cond_false, decide_eq_true_eq]
  split at h1 <;> omega
 ·rw [hw, cond_true, decide_eq_true_eq] at h1
  rw [cond_true, decide_eq_true_eq]
  split at h1 <;> omega
end
section
open Go.RowKit
set_option maxRecDepth 100000
set_option maxHeartbeats 8000000
theorem decl_info : (Tryz.prog.info? 90).map (fun i => (i.zero, i.size, i.bytes)) = some (some (.agg #[.string "".toUTF8, .int .i64 0]), 2, 24) := by kernel_rfl
theorem row_ne_nil {w : World} {base n s : Nat} {t : TypeId} {v : Value} {xs : List Value} (h : w.ownsRow base t s v n xs) (hn : 0 < n) : ∃ g cap, v = .slice (some ⟨g, 0, none⟩) n cap ∧ base ≤ g ∧ g < w.heap.size := by
 rcases h.2 with ⟨_, h0⟩ | ⟨g, cap, cur, h1, h2, h3, _⟩
 ·omega
 ·exact ⟨g, cap, h1, h2, (Array.getElem?_eq_some_iff.1 h3).1⟩
def dcs (s : Value) (z : Int) : List Value := [s, .int .i64 z]
def OwnD (w : World) (base : Nat) (s : Value) (A : Option Addr) (cap : Nat) (sz : List Int) : Prop := w.ownsRow base 90 2 (.slice A sz.length cap) sz.length (sz.flatMap (dcs s))
section
variable {w w' : World} {base cap : Nat} {A : Option Addr} {es : List Edg} {sz : List Int} {s : Value}
theorem OwnD.nil (w : World) (base : Nat) (s : Value) : OwnD w base s none 0 [] := World.ownsRow_nil _ _ _ _
theorem OwnD.below (h : OwnD w base s A cap sz) (hb : Below w.heap.size w w') : OwnD w' base s A cap sz := World.ownsRow.kept h (grown_of_below hb none) (by cases h' : (Value.slice A sz.length cap).ownBlock <;> simp)
theorem OwnD.rd {t : ByteArray} (h : OwnD w base s A cap sz) (hs : s = .string t) : RdD w w.heap.size A sz := by
 intro k hk
 obtain ⟨g, c, h1, _, h2⟩ := row_ne_nil h (by omega)
 injection h1 with h1 _ _
 subst h1
 have e := fun r (hr : r < 2) => (World.ownsRow.cellAt (w := w) (xs := sz.flatMap (dcs s)) h (k * 2 + r) (by omega)).trans (fmS_get (dcs s) 2 (fun _ => rfl) sz k r hk hr)
 refine ⟨g, 0, rfl, h2, ⟨t, ?_⟩, ?_⟩
 ·rw [Nat.zero_add]; exact (e 0 (by omega)).trans (by rw [hs]; rfl)
 ·rw [Nat.zero_add]; refine (e 1 (by omega)).trans ?_
  unfold gI; simp [dcs, hk]
end
theorem wpList_append_decl {ops : Array Oper} {rest : List Oper} {o : Oper} {a : Act} {Q : Exit → Act → World → Prop} {w : World} (s x : Operand)
  (ho : o.op = .call { callee := .builtin .append, args := #[s, x], argTypes := #[62, 62] }) (hgd : o.guard = none)
  (base : Nat) (A0 : Option Addr) (c0 : Nat) (nm : ByteArray) (sz : List Int) (y : Int) (hs : a.eval s = .slice A0 sz.length c0) (hown : OwnD w base (.string nm) A0 c0 sz) (g : Nat)
  (hx : a.eval x = .slice (some ⟨g, 0, none⟩) 1 1) (hr : Blk w g 90 #[.string nm, y]) (hl : sz.length + 1 ≤ 1000000) (hbase : base ≤ w.heap.size)
  (h : ∀ A' cap' w', OwnD w' base (.string nm) A' cap' (sz ++ [y]) → w.grownBy w' (Value.slice A0 sz.length c0).ownBlock → Below base w w' → wpList Tryz.prog ops Q rest (a.put o.dst (.slice A' (sz ++ [y]).length cap')) w') :
  wpList Tryz.prog ops Q (o :: rest) a w :=
 wpList_plain hgd fun K hK => by
  obtain ⟨i0, hi, hz0, hz1, hz2⟩ := info_parts decl_info
  obtain ⟨v', w', a0, h2, h3, _, h5⟩ := run_append_own_at (P := Tryz.prog) w base 62 o.type _ i0 _ 2 24 Tryz.underlying62 hi hz0 hz1 hz2 rfl (by omega) _ _ _ hown ⟨g, 0, none⟩ 1 1 (dcs (.string nm) y) rfl
   (fun j u hu => by rw [add_mk, Nat.zero_add, hr.cell j]; simpa [dcs] using hu) (fun u hu => by simp [dcs] at hu; rcases hu with rfl | rfl <;> rfl) (by unfold maxLen; omega) (by omega) hbase
  obtain ⟨g', cap', rfl, hg1, hg2⟩ := row_ne_nil h2 (by omega)
  unfold Oper.wp execOp
  simp only [ho, resolve, invoke, builtin, Sem.run_bind, Sem.run_pure, Result.andThen_ok, List.map_toArray, List.map_cons, List.map_nil, hs, hx, a0]
  have hl2 : (sz ++ [y]).length = sz.length + 1 := by simp
  have hf2 : (sz ++ [y]).flatMap (dcs (.string nm)) = sz.flatMap (dcs (.string nm)) ++ dcs (.string nm) y := by simp
  rw [← hl2]
  exact hK _ _ (h (some ⟨g', 0, none⟩) cap' w' (by unfold OwnD; rw [hf2, hl2]; exact h2) h3 (below_grown h3 (fun k hk => by
   rcases hown.2 with ⟨e, _⟩ | ⟨g2, _, _, e, hg, _⟩
   ·rw [e] at hk; simp [Value.ownBlock] at hk
   ·rw [e] at hk; simp [Value.ownBlock] at hk; omega) hbase))
theorem OwnR_other {w w' : World} {base cap : Nat} {A : Option Addr} {zs : List At64.R1} {row : Option Nat} (h : At64.OwnR w base A cap zs) (hg : w.grownBy w' row) (hr : ∀ g, row = some g → ∃ cs t, Blk w g t cs ∧ t ≠ 22 ∧ t ≠ 2) : At64.OwnR w' base A cap zs := by
 refine ⟨World.ownsRow.kept h.row hg ?_, fun z hz => (h.own z hz).grown hg ?_⟩
 ·rcases h.form with ⟨rfl, _⟩ | ⟨g, cs, rfl, _, _, h2⟩
  ·exact .inl rfl
  ·refine .inr (fun e => ?_)
   obtain ⟨cs', t, hb, h3, _⟩ := hr g (by rw [← e]; rfl)
   unfold Blk at hb
   rw [h2] at hb
   injection hb with hb
   injection hb with _ hb
   exact h3 hb.symm
 ·rcases (h.own z hz).form with ⟨e, _⟩ | ⟨g, e, _⟩
  ·rw [e]; exact .inl rfl
  ·refine .inr (fun e' => ?_)
   rw [e] at e'
   obtain ⟨cs', t, hb, _, h3⟩ := hr g (by rw [← e']; rfl)
   have ho := h.own z hz
   rw [e] at ho
   exact At64.own_blk0 ho hb h3 rfl
theorem OwnD.row {w : World} {base cap : Nat} {A : Option Addr} {sz : List Int} {s : Value} (h : OwnD w base s A cap sz) : ∀ g, (Value.slice A sz.length cap).ownBlock = some g → ∃ cs t, Blk w g t cs ∧ t ≠ 22 ∧ t ≠ 2 := fun g e => by
 rcases h.2 with ⟨h1, _⟩ | ⟨g2, cap', cur, h1, _, h3, _⟩
 ·rw [h1] at e; simp [Value.ownBlock] at e
 ·rw [h1] at e
  have : g2 = g := by simpa [Value.ownBlock] using e
  subst this
  exact ⟨cur, _, h3, by decide, by decide⟩
theorem OwnD.other {w w' : World} {base cap : Nat} {A : Option Addr} {sz : List Int} {s : Value} {row : Option Nat} (h : OwnD w base s A cap sz) (hg : w.grownBy w' row) (hr : ∀ g, row = some g → ∃ cs t, Blk w g t cs ∧ t ≠ 90) : OwnD w' base s A cap sz := by
 refine World.ownsRow.kept h hg ?_
 rcases h.2 with ⟨h1, _⟩ | ⟨g2, cap', cur, h1, _, h3, _⟩
 ·rw [h1]; exact .inl rfl
 ·refine .inr (fun e => ?_)
  rw [h1] at e
  obtain ⟨cs', t, hb, h4⟩ := hr g2 (by rw [← e]; rfl)
  unfold Blk at hb
  rw [h3] at hb
  injection hb with hb
  injection hb with _ hb
  exact h4 hb.symm
theorem OwnR_row {w : World} {base cap : Nat} {A : Option Addr} {zs : List At64.R1} (h : At64.OwnR w base A cap zs) : ∀ g, (Value.slice A zs.length cap).ownBlock = some g → ∃ cs t, Blk w g t cs ∧ t ≠ 90 := fun g e => by
 rcases h.form with ⟨rfl, _⟩ | ⟨g2, cs, rfl, _, _, h2⟩
 ·simp [Value.ownBlock] at e
 ·have : g2 = g := by simpa [Value.ownBlock] using e
  subst this
  exact ⟨cs, _, h2, by decide⟩
theorem wpList_append_rowG {ops : Array Oper} {rest : List Oper} {o : Oper} {a : Act} {Q : Exit → Act → World → Prop} {w : World} (s x : Operand)
  (ho : o.op = .call { callee := .builtin .append, args := #[s, x], argTypes := #[40, 40] }) (hgd : o.guard = none)
  (base : Nat) (A0 : Option Addr) (c0 : Nat) (zs : List At64.R1) (z : At64.R1) (hs : a.eval s = .slice A0 zs.length c0) (hown : At64.OwnR w base A0 c0 zs) (g : Nat)
  (hx : a.eval x = .slice (some ⟨g, 0, none⟩) 1 1) (hr : Blk w g 22 #[.slice z.2.1 z.1.length z.2.2]) (hz : Own w base z.2.1 z.2.2 z.1) (hl : zs.length + 1 ≤ 1000000) (hbase : base ≤ w.heap.size)
  (h : ∀ A' cap' w', At64.OwnR w' base A' cap' (zs ++ [z]) → w.grownBy w' (Value.slice A0 zs.length c0).ownBlock → Below base w w' → wpList Tryz.prog ops Q rest (a.put o.dst (.slice A' (zs ++ [z]).length cap')) w') :
  wpList Tryz.prog ops Q (o :: rest) a w :=
 wpList_plain hgd fun K hK => by
  obtain ⟨A', c', w', a0, h2, h3⟩ := At64.run_append_row w base o.type A0 c0 zs z hown g hr hz hl hbase
  unfold Oper.wp execOp
  simp only [ho, resolve, invoke, builtin, Sem.run_bind, Sem.run_pure, Result.andThen_ok, List.map_toArray, List.map_cons, List.map_nil, hs, hx, a0]
  exact hK _ _ (h A' c' w' h2 h3 (below_grown h3 (fun k hk => by
   rcases hown.form with ⟨rfl, _⟩ | ⟨g', _, rfl, hg, _⟩
   ·simp [Value.ownBlock] at hk
   ·simp [Value.ownBlock] at hk; omega) hbase))
theorem OwnD.setFar {w : World} {base cap : Nat} {A : Option Addr} {sz : List Int} {s : Value} (h : OwnD w base s A cap sz) {p : Addr} (hp : p.block < base) (u : Value) : OwnD (w.setCell p u) base s A cap sz :=
 World.ownsRow.kept h (grown_setCell w p u) (by
  rcases h.2 with ⟨h1, _⟩ | ⟨g2, cap', cur, h1, hb, _⟩
  ·rw [h1]; exact .inl rfl
  ·rw [h1]; exact .inr (fun e => by simp [Value.ownBlock] at e; omega))
end
section
open Go.RowKit
set_option maxRecDepth 100000
set_option maxHeartbeats 8000000
attribute [local go_sem ↓] Go.wp_at_zero Go.wp_at_succ
def wideV (z : Int) : Value := .agg #[.int .i64 (z / 18446744073709551616), .int .u64 (z % 18446744073709551616)]
def borrowI (x y b : Int) : Int := if x < y + b then 1 else 0
theorem sub64_run (x y b : Int) (hx : 0 ≤ x ∧ x < 18446744073709551616) (hy : 0 ≤ y ∧ y < 18446744073709551616) (hb : b = 0 ∨ b = 1) (w : World) :
  (callFunc 209 #[.int .u64 x, .int .u64 y, .int .u64 b]).run Tryz.prog w = .ok (.value (.tuple #[.int .u64 ((x - y - b) % 18446744073709551616), .int .u64 (borrowI x y b)])) w := by
 obtain ⟨x, rfl⟩ := Int.eq_ofNat_of_zero_le hx.1
 obtain ⟨y, rfl⟩ := Int.eq_ofNat_of_zero_le hy.1
 obtain ⟨b, rfl⟩ := Int.eq_ofNat_of_zero_le (show 0 ≤ b by omega)
 rw [run_callFunc_extern Tryz.func209 (by kernel_rfl) (by kernel_rfl) (by kernel_rfl) (e := sub64Entry) (by kernel_rfl), run_sub64 x y b (by omega)]
 have e1 : (((x + 18446744073709551616 - y - b) % 18446744073709551616 : Nat) : Int) = ((x : Int) - y - b) % 18446744073709551616 := by omega
 have e2 : ((if x < y + b then 1 else 0 : Nat) : Int) = borrowI x y b := by unfold borrowI; split <;> split <;> omega
 rw [e1, e2]
 rfl
theorem of_ok (x : Int) (h : I64 x) (w : World) : Calls Tryz.prog 88 #[x] w (BelVal (wideV x) w) := by
 obtain ⟨h0, h1⟩ := h
 have e1 : x / 9223372036854775808 = x / 18446744073709551616 := by omega
 have e2 : IntKind.u64.wrap x = x % 18446744073709551616 := IntKind.wrap_u64 x
 go_enter Tryz.func88, Tryz.ntmps88
 go_wp2
 refine bodyPost_ret (v := wideV x) (by simp [results, Tryz.results88, go_sem, wideV]) rfl (And.intro rfl ?_)
 repeat (first | exact Below.refl _ _ | refine Below.setCell ?_ (by simp) _ | refine Below.alloc ?_ (by simp) _)
def In127 (z : Int) : Prop := -170141183460469231731687303715884105728 ≤ z ∧ z < 170141183460469231731687303715884105728
theorem wrap_sub {a b : Int} (h : In127 (a - b)) : wrap64 (((a / 18446744073709551616 % 18446744073709551616) - (b / 18446744073709551616 % 18446744073709551616) - borrowI (a % 18446744073709551616) (b % 18446744073709551616) 0) % 18446744073709551616) = (a - b) / 18446744073709551616 := by
 obtain ⟨h0, h1⟩ := h
 unfold wrap64 borrowI
 split <;> omega
theorem sub_lo (a b : Int) : (a % 18446744073709551616 - b % 18446744073709551616 - 0) % 18446744073709551616 = (a - b) % 18446744073709551616 := by omega
theorem borrow_bit (x y b : Int) : borrowI x y b = 0 ∨ borrowI x y b = 1 := by unfold borrowI; split <;> simp
theorem wless_ok (a b : Int) (h : In127 (a - b)) (w : World) : Calls Tryz.prog 160 #[wideV a, wideV b] w (BelVal (wideV (a - b)) w) := by
 have HW := hid (wrap_sub h)
 have HL := hid (sub_lo a b)
 have HB := hid (borrow_bit (a % 18446744073709551616) (b % 18446744073709551616) 0)
 have la0 : 0 ≤ a % 18446744073709551616 ∧ a % 18446744073709551616 < 18446744073709551616 := by omega
 have lb0 : 0 ≤ b % 18446744073709551616 ∧ b % 18446744073709551616 < 18446744073709551616 := by omega
 have ha0 : 0 ≤ a / 18446744073709551616 % 18446744073709551616 ∧ a / 18446744073709551616 % 18446744073709551616 < 18446744073709551616 := by omega
 have a2 : 0 ≤ b / 18446744073709551616 % 18446744073709551616 ∧ b / 18446744073709551616 % 18446744073709551616 < 18446744073709551616 := by omega
 have e1 := IntKind.wrap_u64 (a / 18446744073709551616)
 have e2 := IntKind.wrap_u64 (b / 18446744073709551616)
 have S1 := hid (fun W => sub64_run (a % 18446744073709551616) (b % 18446744073709551616) 0 la0 lb0 (.inl rfl) W)
 have S2 := hid (fun W => sub64_run (a / 18446744073709551616 % 18446744073709551616) (b / 18446744073709551616 % 18446744073709551616) _ ha0 a2 HB.out W)
 rw [HL.out] at S1
 have HV : Hid (wideV (a - b) = .agg #[.int .i64 ((a - b) / 18446744073709551616), .int .u64 ((a - b) % 18446744073709551616)]) := hid rfl
 rw [← HW.out] at HV
 unfold wideV
 unfold wideV at HV
 rw [HV.out]
 rw [← e1, ← e2] at S2 ⊢
 clear HW HL HB la0 lb0 ha0 a2 h HV e1 e2
 generalize borrowI (a % 18446744073709551616) (b % 18446744073709551616) 0 = bo at *
 generalize (a - b) % 18446744073709551616 = lo at *
 generalize a % 18446744073709551616 = la at *
 generalize b % 18446744073709551616 = lb at *
 generalize a / 18446744073709551616 = ha at *
 generalize b / 18446744073709551616 = hb at *
 go_enter Tryz.func160, Tryz.ntmps160
 go_wp2_with (first | simp only [S1.out] | simp only [S2.out])
 refine bodyPost_ret (v := .agg #[.int .i64 (wrap64 ((IntKind.u64.wrap ha - IntKind.u64.wrap hb - bo) % 18446744073709551616)), .int .u64 lo]) (by simp [results, Tryz.results160, go_sem]) rfl (And.intro rfl ?_)
 repeat (first | exact Below.refl _ _ | refine Below.setCell ?_ (by simp; try omega) _ | refine Below.alloc ?_ (by simp; try omega) _)
theorem Blk.set2 {W : World} {g : Nat} {t : TypeId} {a0 a1 v0 v1 : Value} (h : Blk W g t #[a0, a1]) : Blk ((W.setCell ⟨g, 0, none⟩ v0).setCell ⟨g, 1, none⟩ v1) g t #[v0, v1] := by
 have := (h.set_ 0 v0).set_ 1 v1
 simpa using this
theorem below2 {W : World} {B g : Nat} {v0 v1 : Value} (hg : B ≤ g) (_hB : B ≤ W.heap.size) : Below B W ((W.setCell ⟨g, 0, none⟩ v0).setCell ⟨g, 1, none⟩ v1) :=
 ((Below.refl B W).setCell (by simpa using hg) _).setCell (by simpa using hg) _
theorem Blk.far2 {W : World} {g q : Nat} {t : TypeId} {cs : Array Value} {v0 v1 : Value} (h : Blk W q t cs) (hne : g ≠ q) : Blk ((W.setCell ⟨g, 0, none⟩ v0).setCell ⟨g, 1, none⟩ v1) q t cs := (h.far (by simpa using hne) _).far (by simpa using hne) _
def sgnI (x y : Int) : Int := if x < y then -1 else if y < x then 1 else 0
theorem ret64' {a b : Int} (h : a = b) : Ending.returned (.int .i64 a) = .returned (.int .i64 b) := by rw [h]
theorem wcmp_i (x y : Int) (w : World) : Calls Tryz.prog 162 #[x, y] w fun e w' => e = .returned (.int .i64 (sgnI x y)) ∧ w = w' := by
 go_enter Tryz.func162, Tryz.ntmps162
 by_cases h1 : x < y
 ·have HC : Hid (sgnI x y = -1) := hid (by unfold sgnI; rw [if_pos h1])
  go_wp2
  go_ret; exact ⟨ret64' HC.out.symm, rfl⟩
 ·by_cases h2 : y < x
  ·have HC : Hid (sgnI x y = 1) := hid (by unfold sgnI; rw [if_neg h1, if_pos h2])
   go_wp2
   go_ret; exact ⟨ret64' HC.out.symm, rfl⟩
  ·have HC : Hid (sgnI x y = 0) := hid (by unfold sgnI; rw [if_neg h1, if_neg h2])
   go_wp2
   go_ret; exact ⟨ret64' HC.out.symm, rfl⟩
theorem wcmp_u (x y : Int) (w : World) : Calls Tryz.prog 163 #[.int .u64 x, .int .u64 y] w fun e w' => e = .returned (.int .i64 (sgnI x y)) ∧ w = w' := by
 go_enter Tryz.func163, Tryz.ntmps163
 by_cases h1 : x < y
 ·have HC : Hid (sgnI x y = -1) := hid (by unfold sgnI; rw [if_pos h1])
  go_wp2
  go_ret; exact ⟨ret64' HC.out.symm, rfl⟩
 ·by_cases h2 : y < x
  ·have HC : Hid (sgnI x y = 1) := hid (by unfold sgnI; rw [if_neg h1, if_pos h2])
   go_wp2
   go_ret; exact ⟨ret64' HC.out.symm, rfl⟩
  ·have HC : Hid (sgnI x y = 0) := hid (by unfold sgnI; rw [if_neg h1, if_neg h2])
   go_wp2
   go_ret; exact ⟨ret64' HC.out.symm, rfl⟩
def orI (x y : Int) : Int := if x = 0 then y else x
theorem or2_ok (g : Nat) (x y : Int) (w : World) (h0 : w.cell? ⟨g, 0, none⟩ = some (.int .i64 x)) (h1 : w.cell? ⟨g, 1, none⟩ = some (.int .i64 y)) :
  Calls Tryz.prog 161 #[.slice (some ⟨g, 0, none⟩) 2 2] w fun e w' => e = .returned (.int .i64 (orI x y)) ∧ w = w' := by
 go_enter Tryz.func161, Tryz.ntmps161
 go_wp2
 go_loopw [8] (fun t wr => wr = w ∧ ((t = .int .i64 0) ∨ (t = .int .i64 1 ∧ x = 0) ∨ (t = .int .i64 2 ∧ x = 0 ∧ y = 0))) (fun t _ => 2 - (RowKit.intOf t).toNat)
 case atStart => exact ⟨rfl, .inl rfl⟩
 case round =>
  obtain ⟨rfl, hrel⟩ := hrel
  rcases hrel with rfl | ⟨rfl, rfl⟩ | ⟨rfl, rfl, rfl⟩
  ·cases t1 : (x != 0)
   ·obtain rfl : x = 0 := by simpa using t1
    go_wp2
    go_roundw
    case rel => exact ⟨by first | rfl | trivial, .inr (.inl ⟨by first | rfl | trivial, by first | rfl | trivial⟩)⟩
    case measure => simp [RowKit.intOf]
   ·have hx : x ≠ 0 := by simpa using t1
    have HO : Hid (orI x y = x) := hid (by unfold orI; rw [if_neg hx])
    clear hx
    go_wp2
    go_ret
    exact ⟨ret64' HO.out.symm, rfl⟩
  ·cases t1 : (y != 0)
   ·obtain rfl : y = 0 := by simpa using t1
    go_wp2
    go_roundw
    case rel => exact ⟨by first | rfl | trivial, .inr (.inr ⟨by first | rfl | trivial, by first | rfl | trivial, by first | rfl | trivial⟩)⟩
    case measure => simp [RowKit.intOf]
   ·have HO : Hid (orI 0 y = y) := hid (by unfold orI; rw [if_pos rfl])
    go_wp2
    go_ret
    exact ⟨ret64' HO.out.symm, rfl⟩
  ·go_wp2
   go_ret
   exact ⟨ret64' (by decide), rfl⟩
theorem wide_cmp (a b : Int) : orI (sgnI (a / 18446744073709551616) (b / 18446744073709551616)) (sgnI (a % 18446744073709551616) (b % 18446744073709551616)) = sgnI a b := by
 unfold orI sgnI
 repeat' split
 all_goals omega
theorem wcompare_ok (a b : Int) (w : World) : Calls Tryz.prog 87 #[wideV a, wideV b] w (BelVal (.int .i64 (sgnI a b)) w) := by
 have HV : Hid (sgnI a b = orI (sgnI (a / 18446744073709551616) (b / 18446744073709551616)) (sgnI (a % 18446744073709551616) (b % 18446744073709551616))) := hid (wide_cmp a b).symm
 rw [HV.out]
 unfold wideV
 clear HV
 generalize a % 18446744073709551616 = la at *
 generalize b % 18446744073709551616 = lb at *
 generalize a / 18446744073709551616 = ha at *
 generalize b / 18446744073709551616 = hb at *
 obtain ⟨p0, p1, a2, hsz⟩ := new_two w #[ha, .int .u64 la] #[hb, .int .u64 lb] 118 118
 go_enter Tryz.func87, Tryz.ntmps87
 go_wp2
 generalize (w.alloc (Obj.cells #[ha, .int .u64 la] 118)).alloc (Obj.cells #[hb, .int .u64 lb] 118) = w1 at *
 obtain ⟨x0, x1, fx⟩ := opbox p0
 obtain ⟨y0, y1, fy⟩ := opbox p1
 have f0 := later x0
 have f1 := later x1
 have g0 := later y0
 have g1 := later y1
 clear x0 x1 y0 y1 fx fy hsz
 refine wp_region_flow 9 (fun X => Below w1.heap.size w1 X) (by kernel_rfl) (by kernel_rfl) (Below.refl _ _).drew ?_
 (repeat (first | refine fl_s ?_ | refine fl_t ?_))
 (refine fl_c 162 #[ha, hb] (.int .i64 (sgnI ha hb)) (fun X hX => (wcmp_i ha hb _).mono fun e' w' ⟨he, hw⟩ => ⟨he, hw ▸ hX⟩) ?_)
 (repeat (first | refine fl_s ?_ | refine fl_t ?_))
 intro w4 a4
 clear f0 f1 g0 g1
 replace a2 := bup a2 a4
 go_wp2_with (refine (wcmp_u la lb _).mono ?_)
 rintro e5 w5 ⟨rfl, rfl⟩
 obtain ⟨p2, a3, -⟩ := new_one w4 #[.int .i64 (sgnI ha hb), .int .i64 (sgnI la lb)] 3
 have z0 := p2.cell 0
 have z1 := p2.cell 1
 replace a2 := bup a2 a3
 clear p0 p1 p2 a3 a4
 go_wp2_with fail
 (with_reducible refine (or2_ok w4.heap.size (sgnI ha hb) (sgnI la lb) _ z0 z1).mono ?_)
 rintro e6 w6 ⟨rfl, rfl⟩
 go_wp2
 go_ret
 exact ⟨rfl, a2⟩
theorem side_127 {xs : List Int} (h : ∀ k : Nat, I64 (gI xs (k : Int))) (i : Nat) : -9223372036854775808 ≤ sideX xs i ∧ sideX xs i ≤ 9223372036854775808 := by
 have := h (i / 2)
 unfold I64 at this
 unfold sideX
 split <;> omega
theorem wside_ok (xs : List Int) (i : Nat) (A : Option Addr) (cap B : Nat) (w : World) (hx : Rd w B A xs) (_hB : B ≤ w.heap.size) (hI : ∀ k : Nat, I64 (gI xs (k : Int))) (hi : i / 2 < xs.length) (hi2 : i ≤ 1000) :
  Calls Tryz.prog 159 #[.slice A xs.length cap, (i : Int)] w (BelVal (wideV (sideX xs i)) w) := by
 obtain ⟨q, hq⟩ : ∃ q : Nat, q = i / 2 := ⟨_, rfl⟩
 have e1 : (i : Int).tdiv 2 = (q : Int) := by rw [hq]; exact (Int.tdiv_eq_ediv_of_nonneg (by omega)).trans (by omega)
 have e2 : (i : Int) / 2 = (q : Int) := by rw [hq]; omega
 have hql : (q : Int) < (xs.length : Int) := by omega
 have hq2 : (q : Int) ≤ 1000 := by omega
 obtain ⟨r, hr⟩ : ∃ r : Nat, r = i % 2 := ⟨_, rfl⟩
 have HS : Hid (sideX xs i = if r = 0 then gI xs (q : Int) else -gI xs (q : Int)) := hid (by unfold sideX; rw [← hq, ← hr])
 have hr2 : r = 0 ∨ r = 1 := by omega
 have e3 : (i : Int).tmod 2 = (r : Int) := by rw [hr]; exact (Int.tmod_eq_emod_of_nonneg (by omega)).trans (by omega)
 have e4 : (i : Int) % 2 = (r : Int) := by rw [hr]; omega
 have hI1 := hI q
 obtain ⟨b, off, rfl, hb, hc⟩ := hx.at_ (i := (q : Int)) (by omega) hql
 rw [show ((q : Int)).toNat = q from rfl] at hc
 obtain ⟨u, hu⟩ : ∃ u, u = gI xs (q : Int) := ⟨_, rfl⟩
 rw [← hu] at HS hc hI1
 have HI := hid hI1
 have HZ := hid (show In127 (0 - u) by unfold In127; unfold I64 at hI1; omega)
 clear hu hq hr hI hI1 hi hi2
 have nb := new1 w (.cells #[.int .i64 0, .int .u64 0] 118)
 have pk := Blk.new w 118 #[.int .i64 0, .int .u64 0]
 have hc1 := later hc _ nb
 have hq0 : (0 : Int) ≤ (q : Int) := by omega
 go_enter Tryz.func159, Tryz.ntmps159
 go_wp2_with (refine (of_ok u HI.out _).mono ?_)
 rintro f1 w1 ⟨rfl, a5⟩
 have a2 := bup nb a5
 replace pk := pk.later a5
 clear nb a5 hc hc1
 unfold wideV
 obtain ⟨p2, a3, -⟩ := new_one w1 #[.int .i64 (u / 18446744073709551616), .int .u64 (u % 18446744073709551616)] 118
 have hne : w.heap.size ≠ w1.heap.size := by have := pk.lt; omega
 replace pk := pk.later a3
 replace a2 := bup a2 a3
 rcases hr2 with rfl | rfl
 ·obtain ⟨x0, x1, fx⟩ := opbox p2
  obtain ⟨y0, y1, fy⟩ := opbox pk
  go_wp2
  have z9 := pk.set2 (v0 := .int .i64 (u / 18446744073709551616)) (v1 := .int .u64 (u % 18446744073709551616))
  obtain ⟨z0, z1, fz⟩ := opbox z9
  refine bodyPost_ret (v := wideV u) (by simp [results, Tryz.results159, go_sem, wideV, z0, z1]) rfl ⟨by rw [HS.out]; simp, ?_⟩
  exact a2.trans (below2 (by omega) a2.size)
 ·obtain ⟨x0, x1, fx⟩ := opbox p2
  have f0 := later x0
  have f1 := later x1
  clear x0 x1 fx p2
  go_upto_region 3 with fail
  generalize w1.alloc (Obj.cells #[.int .i64 (u / 18446744073709551616), .int .u64 (u % 18446744073709551616)] 118) = w2 at *
  refine wp_region_flow 2 (fun X => Below w2.heap.size w2 X) (by kernel_rfl) (by kernel_rfl) (Below.refl _ _).drew ?_
  (refine fl_c 88 #[.int .i64 0] (wideV 0) (fun X hX => (of_ok 0 (by unfold I64; omega) _).mono fun e' w' ⟨he, hb'⟩ => ⟨he, bstep hX hX.size hb'⟩) ?_)
  (repeat (first | refine fl_s ?_ | refine fl_t ?_))
  intro w4 a4
  clear f0 f1
  replace a2 := bup a2 a4
  replace pk := pk.later a4
  have HL := hid (wless_ok 0 u HZ.out w4)
  rw [Int.zero_sub] at HL
  have e9 : (.agg #[.int .i64 (u / 18446744073709551616), .int .u64 (u % 18446744073709551616)] : Value) = wideV u := rfl
  rw [e9]
  clear e9
  go_wp2_with (refine HL.out.mono ?_)
  rintro e5 w5 ⟨rfl, hb5⟩
  replace a2 := bup a2 hb5
  replace pk := pk.later hb5
  obtain ⟨y0, y1, fy⟩ := opbox pk
  unfold wideV
  go_wp2
  have z9 := pk.set2 (v0 := .int .i64 ((-u) / 18446744073709551616)) (v1 := .int .u64 ((-u) % 18446744073709551616))
  obtain ⟨z0, z1, fz⟩ := opbox z9
  refine bodyPost_ret (v := wideV (-u)) (by simp [results, Tryz.results159, go_sem, wideV, z0, z1]) rfl ⟨by rw [HS.out]; simp, ?_⟩
  exact a2.trans (below2 (by omega) a2.size)
theorem apart_127 {xs : List Int} (h : ∀ k : Nat, I64 (gI xs (k : Int))) (i j : Nat) : In127 (sideX xs i - sideX xs j) := by
 have h1 := side_127 h i
 have h2 := side_127 h j
 unfold In127
 omega
theorem wapart_ok (xs : List Int) (i j : Nat) (A : Option Addr) (cap B : Nat) (w : World) (hx : Rd w B A xs) (hB : B ≤ w.heap.size) (hI : ∀ k : Nat, I64 (gI xs (k : Int))) (hi : i / 2 < xs.length) (hi2 : i ≤ 1000) (hj : j / 2 < xs.length) (hj2 : j ≤ 1000) :
  Calls Tryz.prog 86 #[.slice A xs.length cap, (i : Int), (j : Int)] w (BelVal (wideV (apartX xs i j)) w) := by
 have HZ := hid (apart_127 hI i j)
 have pk := Blk.new w 118 #[.int .i64 0, .int .u64 0]
 have a2 := new1 w (.cells #[.int .i64 0, .int .u64 0] 118)
 go_enter Tryz.func86, Tryz.ntmps86
 go_wp2_with fail
 generalize w.alloc (.cells #[.int .i64 0, .int .u64 0] 118) = w1 at *
 have hB1 : B ≤ w1.heap.size := Nat.le_trans hB a2.size
 have hx1 : Rd w1 B A xs := hx.below (a2.mono hB)
 have HS1 := hid (wside_ok xs i A cap B w1 hx1 hB1 hI hi hi2)
 go_wp2_with (refine HS1.out.mono ?_)
 rintro e2 w2 ⟨rfl, a3⟩
 have hB2 : B ≤ w2.heap.size := Nat.le_trans hB1 a3.size
 have hx2 : Rd w2 B A xs := hx1.below (a3.mono hB1)
 have HS2 := hid (wside_ok xs j A cap B w2 hx2 hB2 hI hj hj2)
 clear HS1
 go_wp2_with (refine HS2.out.mono ?_)
 rintro e3 w3 ⟨rfl, hb3⟩
 clear HS2
 have HL := hid (wless_ok _ _ HZ.out w3)
 go_wp2_with (refine HL.out.mono ?_)
 rintro e4 w4 ⟨rfl, a4⟩
 clear HL
 replace a2 := bup (bup (bup a2 a3) hb3) a4
 replace pk := ((pk.later a3).later hb3).later a4
 obtain ⟨y0, y1, fy⟩ := opbox pk
 unfold wideV
 go_wp2
 have z9 := pk.set2 (v0 := .int .i64 ((sideX xs i - sideX xs j) / 18446744073709551616)) (v1 := .int .u64 ((sideX xs i - sideX xs j) % 18446744073709551616))
 obtain ⟨z0, z1, fz⟩ := opbox z9
 refine bodyPost_ret (v := wideV (apartX xs i j)) (by simp [results, Tryz.results86, go_sem, wideV, z0, z1, apartX]) rfl ⟨rfl, ?_⟩
 exact a2.trans (below2 (by omega) a2.size)
end
end Go.Proofs.YtnmpgijiimglcaaGreat
