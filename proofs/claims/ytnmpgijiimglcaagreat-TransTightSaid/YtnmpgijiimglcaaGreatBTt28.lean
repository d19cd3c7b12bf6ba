import Derived.Test.YtnmpgijiimglcaaGreatBTt11
import Derived.Test.YtnmpgijiimglcaaGreatBTt12
import Derived.Test.YtnmpgijiimglcaaGreatBTt10
import Derived.Test.YtnmpgijiimglcaaGreatBTt27
namespace Go.Proofs.YtnmpgijiimglcaaGreat
open Go.RowKit
set_option maxRecDepth 100000
set_option maxHeartbeats 8000000
attribute [local go_sem ↓] Go.wp_at_zero Go.wp_at_succ
structure StAt (w : World) (b0 gs : Nat) (V R : Option Addr) (vc rc : Nat) (xs : List Int) (zs : List At64.R1) : Prop where
 blk : Blk w gs 109 #[.slice V xs.length vc, .slice R zs.length rc]
 le : b0 ≤ gs
 vars : Own w b0 V vc xs
 vlt : ∀ g, V = some ⟨g, 0, none⟩ → g < gs
 rows : At64.OwnR w (gs + 1) R rc zs
section
variable {w w' : World} {b0 gs vc rc : Nat} {V R : Option Addr} {xs : List Int} {zs : List At64.R1}
theorem StAt.up (h : StAt w b0 gs V R vc rc xs zs) (hb : Below w.heap.size w w') : StAt w' b0 gs V R vc rc xs zs :=
 ⟨h.blk.later hb, h.le, h.vars.below hb, h.vlt, h.rows.below hb⟩
end
theorem zcG {w : World} {g : Nat} {t : TypeId} {a b : Value} (h : Blk w g t #[a, b]) : w.cell? ⟨g, 0, none⟩ = some a ∧ w.cell? ⟨g, 1, none⟩ = some b ∧ ∀ j, w.frozen? ⟨g, j, none⟩ = false := ⟨h.cell 0, h.cell 1, h.fr⟩
theorem zel (gs : Nat) (V : Option Addr) (vc : Nat) (r : Value) (xs : List Int) (av an : Int) (w : World) (hk : Blk w gs 109 #[.slice V xs.length vc, r]) (hx : Rd w w.heap.size V xs) (ha : av < xs.length) (_hl : xs.length ≤ 17592186044416) :
  Calls Tryz.prog 157 #[.pointer (some ⟨gs, 0, none⟩), .agg #[av, an]] w fun e w' => e = .returned (.int .i64 (opdX xs av an)) ∧ Below w.heap.size w w' := by
 have HO := hid (show opdX xs av an = if 0 ≤ av then gI xs av else an from rfl)
 obtain ⟨p3, a1, -⟩ := zaw w #[av, an] 26
 replace hk := hk.later a1
 replace hx := hx.up a1
 go_enter Tryz.func157, Tryz.ntmps157
 by_cases h0 : av < 0
 ·obtain ⟨x0, x1, fx⟩ := zcG p3
  go_wp2
  go_ret
  exact ⟨zas (by rw [HO.out, if_neg (by omega)]), a1⟩
 ·obtain ⟨x0, x1, fx⟩ := zcG p3
  obtain ⟨b, off, rfl, hB, hc⟩ := hx.at_ (i := av) (by omega) ha
  obtain ⟨n, rfl⟩ := Int.eq_ofNat_of_zero_le (show 0 ≤ av by omega)
  have y0 := hk.cell 0
  replace y0 := y0.trans (show _ = some (Value.slice (some ⟨b, off, none⟩) xs.length vc) from rfl)
  rw [Int.toNat_natCast] at hc
  go_wp2
  have l0 := later x0
  have ly := later y0
  have lc := later hc
  clear x0 x1 fx y0 hc
  generalize w.alloc (Obj.cells #[n, an] 26) = w1 at *
  refine zab 6 (fun W => Below w1.heap.size w1 W) (by kernel_rfl) (by kernel_rfl) (Below.refl _ _).drew ?_
  refine fl_a ?_
  intro w9 a5
  go_wp2
  go_ret
  replace a1 := bup a1 a5
  exact ⟨zas (by rw [HO.out, if_pos (by omega)]), a1⟩
def zbW (n : Nat) (a : Int) : Bool := decide (0 ≤ a ∧ a < (n : Int))
def doesW (ls : List (List Int)) (e : Edg) (xs : List Int) (input : Int) : Int × List Int :=
 if e.kd = 2 then (0, xs.set e.dst.toNat (opdX xs e.av e.an))
 else if e.kd = 9 then (0, xs.set e.dst.toNat input)
 else if 3 ≤ e.kd ∧ e.kd ≤ 8 then
  if (kindW e.kd (opdX xs e.av e.an) (opdX xs e.bv e.bn)).2 = 0 then (0, xs.set e.dst.toNat (kindW e.kd (opdX xs e.av e.an) (opdX xs e.bv e.bn)).1) else ((kindW e.kd (opdX xs e.av e.an) (opdX xs e.bv e.bn)).2, xs)
 else if e.kd = 10 then
  if zbW (ls.getD e.arr.toNat []).length (opdX xs e.av e.an) = true then (0, xs.set e.dst.toNat (gI (ls.getD e.arr.toNat []) (opdX xs e.av e.an))) else (3, xs)
 else if e.kd = 11 then
  if zbW (ls.getD e.arr.toNat []).length (opdX xs e.av e.an) = true then (0, xs) else (3, xs)
 else if e.kd = 14 then (4, xs) else (0, xs)
theorem zh8 (b0 gs : Nat) (V R : Option Addr) (vc rc : Nat) (xs : List Int) (zs : List At64.R1) (arr : Nat) (a : Int) (w : World) (h : StAt w b0 gs V R vc rc xs zs) (ha : arr < zs.length) (_hl : zs[arr].1.length ≤ 17592186044416) :
  Calls Tryz.prog 158 #[.pointer (some ⟨gs, 0, none⟩), (arr : Int), a] w fun e w' => e = .returned (.bool (zbW zs[arr].1.length a)) ∧ Below w.heap.size w w' := by
 have HO := hid (show zbW zs[arr].1.length a = (decide (0 ≤ a) && decide (a < (zs[arr].1.length : Int))) from by unfold zbW; rw [Bool.decide_and])
 have hk := h.blk
 obtain ⟨g, rfl, -, -, hc⟩ := h.rows.cell ha
 generalize zs[arr].1.length = n at *
 have x0 := zcG hk
 have b0 := Below.refl w.heap.size w
 have c4 : (arr : Int) < (zs.length : Int) := by omega
 clear h hk
 go_enter Tryz.func158, Tryz.ntmps158
 by_cases c1 : 0 ≤ a
 ·by_cases c2 : a < (n : Int)
  ·go_wp2
   go_ret
   exact ⟨retb (by rw [HO.out, decide_eq_true c1, decide_eq_true c2]; rfl), b0⟩
  ·go_wp2
   go_ret
   exact ⟨retb (by rw [HO.out, decide_eq_true c1, decide_eq_false (by omega)]; rfl), b0⟩
 ·go_wp2
  go_ret
  exact ⟨retb (by rw [HO.out, decide_eq_false (by omega)]; rfl), b0⟩
def zoi (w : World) (b0 gs : Nat) (V R : Option Addr) (vc rc l n : Nat) (p : Int × List Int) (e : Ending) (w' : World) : Prop :=
 e = .returned (.int .i64 p.1) ∧ Blk w' gs 109 #[.slice V l vc, .slice R n rc] ∧ Own w' b0 V vc p.2 ∧ p.2.length = l ∧ Below b0 w w'
theorem StAt.store {w : World} {b0 gs gv vc rc : Nat} {R : Option Addr} {xs : List Int} {zs : List At64.R1} (h : StAt w b0 gs (some ⟨gv, 0, none⟩) R vc rc xs zs) (k : Nat) (x : Int) :
  Blk (w.setCell ⟨gv, k, none⟩ (.int .i64 x)) gs 109 #[.slice (some ⟨gv, 0, none⟩) xs.length vc, .slice R zs.length rc] ∧ Own (w.setCell ⟨gv, k, none⟩ (.int .i64 x)) b0 (some ⟨gv, 0, none⟩) vc (xs.set k x) ∧ Below b0 w (w.setCell ⟨gv, k, none⟩ (.int .i64 x)) := by
 have h1 := h.vlt gv rfl
 have h2 := h.blk.lt
 have h3 : b0 ≤ gv := by
  rcases h.vars.form with ⟨e, _⟩ | ⟨g, e, hg, _⟩
  ·cases e
  ·injection e with e; injection e with e; omega
 exact ⟨h.blk.far (by show gv ≠ gs; omega) _, h.vars.store k x, zaG h3 (by have := h.le; omega)⟩
theorem StAt.storeR {w : World} {b0 gs gr vc rc : Nat} {V R : Option Addr} {xs : List Int} {zs : List At64.R1} (h : StAt w b0 gs V R vc rc xs zs) (hg : gs + 1 ≤ gr) (k : Nat) (x : Value) :
  Blk (w.setCell ⟨gr, k, none⟩ x) gs 109 #[.slice V xs.length vc, .slice R zs.length rc] ∧ Own (w.setCell ⟨gr, k, none⟩ x) b0 V vc xs ∧ Below b0 w (w.setCell ⟨gr, k, none⟩ x) := by
 have h2 := h.blk.lt
 exact ⟨h.blk.far (by show gr ≠ gs; omega) _, h.vars.far1 (fun g e => by have := h.vlt g e; omega), zaG (by have := h.le; omega) (by have := h.le; omega)⟩
theorem znT (kd a b : Int) : kindW kd a b = doW (kd + 2) a b := by
 unfold kindW doW
 rw [ite_congr (propext ⟨fun h => by omega, fun h => by omega⟩ : (kd = 3) = (kd + 2 = 5)) (fun _ => rfl) (fun _ => rfl)]
 rw [ite_congr (propext ⟨fun h => by omega, fun h => by omega⟩ : (kd = 4) = (kd + 2 = 6)) (fun _ => rfl) (fun _ => rfl)]
 rw [ite_congr (propext ⟨fun h => by omega, fun h => by omega⟩ : (kd = 5) = (kd + 2 = 7)) (fun _ => rfl) (fun _ => rfl)]
 rw [ite_congr (propext ⟨fun h => by omega, fun h => by omega⟩ : (kd = 6) = (kd + 2 = 8)) (fun _ => rfl) (fun _ => rfl)]
 rw [ite_congr (propext ⟨fun h => by omega, fun h => by omega⟩ : (kd = 7) = (kd + 2 = 9)) (fun _ => rfl) (fun _ => rfl)]
theorem znp {b : Bool} {n v m : Int} (hn : 0 ≤ n) (h : (bif b then opdOk n v m else zaA v m) = true) : v < n := by
 cases b
 ·simp only [cond_false, zaA, decide_eq_true_eq] at h; omega
 ·simp only [cond_true, opdOk, decide_eq_true_eq] at h; omega
theorem zlx (e : Edg) (input : Int) (b0 gs : Nat) (V R : Option Addr) (vc rc : Nat) (xs : List Int) (zs : List At64.R1) (w : World) (h : StAt w b0 gs V R vc rc xs zs)
  (hr : rightE (xs.length : Int) (zs.length : Int) e = true) (hI : I64s xs) (ia : I64 e.an) (ib : I64 e.bn) (hl : xs.length ≤ 64) (hzl : ∀ z ∈ zs, z.1.length ≤ 1024) :
  Calls Tryz.prog 84 #[.pointer (some ⟨gs, 0, none⟩), e.val, input] w (zoi w b0 gs V R vc rc xs.length zs.length (doesW (zs.map (·.1)) e xs input)) := by
 obtain ⟨fr, te, kd, dst, arr, op, av, an, bv, bn⟩ := e
 have hr0 := hr
 clear hr0
 unfold rightE at hr
 simp only [Bool.and_eq_true, decide_eq_true_eq] at hr
 obtain ⟨⟨⟨⟨⟨hk, hd⟩, a8⟩, -⟩, ha⟩, hb⟩ := hr
 have c4 := znp (by omega) ha
 have b9 := znp (by omega) hb
 have b2 : 2 ≤ kd ∧ kd ≤ 10 → 0 ≤ dst ∧ dst < xs.length := fun q => by
  rw [show wDst kd = true from decide_eq_true q, cond_true, decide_eq_true_eq] at hd; exact hd
 have a2 : kd = 10 ∨ kd = 11 → 0 ≤ arr ∧ arr < zs.length := fun q => by
  rw [show wArr kd = true from decide_eq_true q, cond_true, decide_eq_true_eq] at a8; exact a8
 clear hd a8 ha hb
 have ha := c4
 have hb := b9
 clear c4 b9
 unfold Edg.val
 dsimp only at *
 obtain ⟨p4, a1, -⟩ := zaw w #[fr, te, kd, dst, arr, op, av, an, bv, bn] 44
 have a0 := h.up a1
 have a6 : b0 ≤ w.heap.size := by have := h.blk.lt; have := h.le; omega
 have ea := zeo hI ia (v := av)
 have eb := zeo hI ib (v := bv)
 clear h
 go_enter Tryz.func84, Tryz.ntmps84
 go_wp2
 generalize w.alloc (Obj.cells #[fr, te, kd, dst, arr, op, av, an, bv, bn] 44) = w1 at *
 have HVA := hid (fun X (hX : Below w1.heap.size w1 X) => zel gs V vc _ xs av an X (a0.blk.later hX) (a0.vars.rd.up hX) ha (by omega))
 have HVB := hid (fun X (hX : Below w1.heap.size w1 X) => zel gs V vc _ xs bv bn X (a0.blk.later hX) (a0.vars.rd.up hX) hb (by omega))
 obtain ⟨e0, e1, e2, e3, e4, e5, e6, e7, e8, e9, fe⟩ := zam p4
 have l6 := later e6
 have l7 := later e7
 have l8 := later e8
 have l9 := later e9
 clear e0 e1 e2 e3 e4 e5 e6 e7 e8 e9 fe
 refine zab 8 (fun W => Below w1.heap.size w1 W) (by kernel_rfl) (by kernel_rfl) (Below.refl _ _).drew ?_
 refine fl_a ?_
 (refine fl_c 157 #[.pointer (some ⟨gs, 0, none⟩), .agg #[av, an]] (.int .i64 (opdX xs av an)) (fun X hX => (HVA.out X hX).mono fun e' w' ⟨he, b9⟩ => ⟨he, za0 hX hX.size b9⟩) ?_)
 refine fl_a ?_
 (refine fl_c 157 #[.pointer (some ⟨gs, 0, none⟩), .agg #[bv, bn]] (.int .i64 (opdX xs bv bn)) (fun X hX => (HVB.out X hX).mono fun e' w' ⟨he, b9⟩ => ⟨he, za0 hX hX.size b9⟩) ?_)
 refine fl_a ?_
 intro w2 c0
 replace p4 := p4.later c0
 replace a0 := a0.up c0
 replace a1 := bup a1 c0
 clear HVA HVB l6 l7 l8 l9 c0
 have hkk : (kd = 1 ∨ kd = 12 ∨ kd = 13) ∨ kd = 14 ∨ kd = 2 ∨ kd = 9 ∨ (kd = 3 ∨ kd = 4 ∨ kd = 5 ∨ kd = 6 ∨ kd = 7 ∨ kd = 8) ∨ kd = 10 ∨ kd = 11 := by omega
 clear hk
 rcases hkk with hk | rfl | rfl | rfl | hk | rfl | rfl
 ·clear b2 a2
  have HR : Hid (doesW (zs.map (·.1)) ⟨fr, te, kd, dst, arr, op, av, an, bv, bn⟩ xs input = (0, xs)) := hid (by rcases hk with rfl | rfl | rfl <;> rfl)
  generalize opdX xs av an = a at *
  generalize opdX xs bv bn = b at *
  rcases hk with rfl | rfl | rfl
  all_goals
   obtain ⟨y0, y1, fy⟩ := zcG a0.blk
   obtain ⟨e0, e1, e2, e3, e4, e5, e6, e7, e8, e9, fe⟩ := zam p4
   go_wp2
   go_ret
   exact ⟨zas (by rw [HR.out]), a0.blk, by rw [HR.out]; exact a0.vars, by rw [HR.out], a1.mono a6⟩
 ·clear b2 a2
  have HR : Hid (doesW (zs.map (·.1)) ⟨fr, te, 14, dst, arr, op, av, an, bv, bn⟩ xs input = (4, xs)) := hid (by unfold doesW; rfl)
  generalize opdX xs av an = a at *
  generalize opdX xs bv bn = b at *
  obtain ⟨y0, y1, fy⟩ := zcG a0.blk
  obtain ⟨e0, e1, e2, e3, e4, e5, e6, e7, e8, e9, fe⟩ := zam p4
  go_wp2
  go_ret
  exact ⟨zas (by rw [HR.out]), a0.blk, by rw [HR.out]; exact a0.vars, by rw [HR.out], a1.mono a6⟩
 ·have hd := b2 (by omega)
  clear b2 a2
  have a4 := a0.vars
  obtain ⟨gv, rfl⟩ : ∃ g, V = some ⟨g, 0, none⟩ := by
   rcases a4.form with ⟨_, h, _⟩ | ⟨g, h, _⟩
   ·exfalso; rw [h] at hd; simp at hd; omega
   ·exact ⟨g, h⟩
  obtain ⟨dn, rfl⟩ := Int.eq_ofNat_of_zero_le hd.1
  have b8 : dn < xs.length := by omega
  clear a4
  have HR : Hid (doesW (zs.map (·.1)) ⟨fr, te, 2, (dn : Int), arr, op, av, an, bv, bn⟩ xs input = (0, xs.set dn (opdX xs av an))) := hid (by unfold doesW; rfl)
  generalize opdX xs av an = a at *
  generalize opdX xs bv bn = b at *
  obtain ⟨y0, y1, fy⟩ := zcG a0.blk
  obtain ⟨e0, e1, e2, e3, e4, e5, e6, e7, e8, e9, fe⟩ := zam p4
  go_wp2
  have b6 := hid a0
  have l0 := later y0
  have l1 := later y1
  have l3 := later e3
  have l4 := later e4
  clear y0 y1 fy e0 e1 e2 e3 e4 e5 e6 e7 e8 e9 fe a0
  refine zab 7 (fun W => Below w2.heap.size w2 W) (by kernel_rfl) (by kernel_rfl) (Below.refl _ _).drew ?_
  refine fl_a ?_
  intro w9 a5
  have a0 := b6.out.up a5
  have c3 := a0.vars.frozen dn
  obtain ⟨_, _, eA, _, cA⟩ := a0.vars.rd dn b8
  injection eA with eA; injection eA with eA1 eA2; subst eA1; subst eA2
  rw [Nat.zero_add] at cA
  have a7 := hid (a0.store dn a)
  replace a1 := hid (bup a1 a5)
  clear a0 a5 l0 l1 l3 l4
  go_wp2
  go_ret
  exact ⟨zas (by rw [HR.out]), a7.out.1, by rw [HR.out]; exact a7.out.2.1, by rw [HR.out]; simp, (a1.out.mono a6).trans a7.out.2.2⟩
 ·have hd := b2 (by omega)
  clear b2 a2
  have a4 := a0.vars
  obtain ⟨gv, rfl⟩ : ∃ g, V = some ⟨g, 0, none⟩ := by
   rcases a4.form with ⟨_, h, _⟩ | ⟨g, h, _⟩
   ·exfalso; rw [h] at hd; simp at hd; omega
   ·exact ⟨g, h⟩
  obtain ⟨dn, rfl⟩ := Int.eq_ofNat_of_zero_le hd.1
  have b8 : dn < xs.length := by omega
  clear a4
  have HR : Hid (doesW (zs.map (·.1)) ⟨fr, te, 9, (dn : Int), arr, op, av, an, bv, bn⟩ xs input = (0, xs.set dn input)) := hid (by unfold doesW; rfl)
  generalize opdX xs av an = a at *
  generalize opdX xs bv bn = b at *
  obtain ⟨y0, y1, fy⟩ := zcG a0.blk
  obtain ⟨e0, e1, e2, e3, e4, e5, e6, e7, e8, e9, fe⟩ := zam p4
  go_wp2
  have b6 := hid a0
  have l0 := later y0
  have l1 := later y1
  have l3 := later e3
  have l4 := later e4
  clear y0 y1 fy e0 e1 e2 e3 e4 e5 e6 e7 e8 e9 fe a0
  refine zab 7 (fun W => Below w2.heap.size w2 W) (by kernel_rfl) (by kernel_rfl) (Below.refl _ _).drew ?_
  refine fl_a ?_
  intro w9 a5
  have a0 := b6.out.up a5
  have c3 := a0.vars.frozen dn
  obtain ⟨_, _, eA, _, cA⟩ := a0.vars.rd dn b8
  injection eA with eA; injection eA with eA1 eA2; subst eA1; subst eA2
  rw [Nat.zero_add] at cA
  have a7 := hid (a0.store dn input)
  replace a1 := hid (bup a1 a5)
  clear a0 a5 l0 l1 l3 l4
  go_wp2
  go_ret
  exact ⟨zas (by rw [HR.out]), a7.out.1, by rw [HR.out]; exact a7.out.2.1, by rw [HR.out]; simp, (a1.out.mono a6).trans a7.out.2.2⟩
 ·have hd := b2 (by omega)
  clear b2 a2
  have a4 := a0.vars
  obtain ⟨gv, rfl⟩ : ∃ g, V = some ⟨g, 0, none⟩ := by
   rcases a4.form with ⟨_, h, _⟩ | ⟨g, h, _⟩
   ·exfalso; rw [h] at hd; simp at hd; omega
   ·exact ⟨g, h⟩
  obtain ⟨dn, rfl⟩ := Int.eq_ofNat_of_zero_le hd.1
  have b8 : dn < xs.length := by omega
  clear a4
  have HD := hid (fun W => (show Calls Tryz.prog 49 #[.int .i64 (kd + 2), .int .i64 (opdX xs av an), .int .i64 (opdX xs bv bn)] W (zaE (kindW kd (opdX xs av an) (opdX xs bv bn)) W) from by rw [znT]; exact zmu (kd + 2) _ _ W ea eb))
  have HR : Hid (doesW (zs.map (·.1)) ⟨fr, te, kd, (dn : Int), arr, op, av, an, bv, bn⟩ xs input = if (kindW kd (opdX xs av an) (opdX xs bv bn)).2 = 0 then (0, xs.set dn (kindW kd (opdX xs av an) (opdX xs bv bn)).1) else ((kindW kd (opdX xs av an) (opdX xs bv bn)).2, xs)) := hid (by unfold doesW; dsimp only; rw [if_neg (by omega), if_neg (by omega), if_pos (by omega)]; rfl)
  generalize kindW kd (opdX xs av an) (opdX xs bv bn) = p at *
  obtain ⟨p, q⟩ := p
  unfold zaE zdl at HD
  dsimp only at HD HR
  generalize opdX xs av an = a at *
  generalize opdX xs bv bn = b at *
  clear ea eb
  rcases hk with rfl | rfl | rfl | rfl | rfl | rfl
  all_goals
   (try simp only [Int.reduceAdd] at HD)
   obtain ⟨y0, y1, fy⟩ := zcG a0.blk
   obtain ⟨e0, e1, e2, e3, e4, e5, e6, e7, e8, e9, fe⟩ := zam p4
   go_wp2_with fail
   (with_reducible refine (HD.out _).mono ?_)
   rintro e3' w3 ⟨rfl, rfl⟩
   by_cases hq : q = 0
   ·subst hq
    replace HR := hid (HR.out.trans (if_pos rfl))
    go_wp2
    have b6 := hid a0
    have l0 := later y0
    have l1 := later y1
    have l3 := later e3
    have l4 := later e4
    clear y0 y1 fy e0 e1 e2 e3 e4 e5 e6 e7 e8 e9 fe a0
    refine zab 7 (fun W => Below w2.heap.size w2 W) (by kernel_rfl) (by kernel_rfl) (Below.refl _ _).drew ?_
    refine fl_a ?_
    intro w9 a5
    have a0 := b6.out.up a5
    have c3 := a0.vars.frozen dn
    obtain ⟨_, _, eA, _, cA⟩ := a0.vars.rd dn b8
    injection eA with eA; injection eA with eA1 eA2; subst eA1; subst eA2
    rw [Nat.zero_add] at cA
    have a7 := hid (a0.store dn p)
    replace a1 := hid (bup a1 a5)
    clear a0 a5 l0 l1 l3 l4
    go_wp2
    go_ret
    exact ⟨zas (by rw [HR.out]), a7.out.1, by rw [HR.out]; exact a7.out.2.1, by rw [HR.out]; simp, (a1.out.mono a6).trans a7.out.2.2⟩
   ·replace HR := hid (HR.out.trans (if_neg hq))
    have t1 : (q != 0) = true := by simpa using hq
    clear hq
    go_wp2
    go_ret
    exact ⟨zas (by rw [HR.out]), a0.blk, by rw [HR.out]; exact a0.vars, by rw [HR.out], a1.mono a6⟩
 ·have hd := b2 (by omega)
  have a8 := a2 (by omega)
  clear b2 a2
  have a4 := a0.vars
  obtain ⟨gv, rfl⟩ : ∃ g, V = some ⟨g, 0, none⟩ := by
   rcases a4.form with ⟨_, h, _⟩ | ⟨g, h, _⟩
   ·exfalso; rw [h] at hd; simp at hd; omega
   ·exact ⟨g, h⟩
  obtain ⟨dn, rfl⟩ := Int.eq_ofNat_of_zero_le hd.1
  have b8 : dn < xs.length := by omega
  clear a4
  obtain ⟨an', rfl⟩ := Int.eq_ofNat_of_zero_le a8.1
  have b5 : an' < zs.length := by omega
  have a9 : zs[an'] ∈ zs := List.getElem_mem b5
  have b7 := hzl _ a9
  have a3 := hid (a0.rows.own _ a9)
  obtain ⟨gz, rfl, hgz, -, b4⟩ := a0.rows.cell b5
  have HP := hid (fun W (h : StAt W b0 gs (some ⟨gv, 0, none⟩) (some ⟨gz, 0, none⟩) vc rc xs zs) => zh8 b0 gs (some ⟨gv, 0, none⟩) (some ⟨gz, 0, none⟩) vc rc xs zs an' (opdX xs av an) W h b5 (by omega))
  have HL : Hid ((zs.map (·.1)).getD an' [] = zs[an'].1) := hid (by simp [List.getD_eq_getElem?_getD, b5])
  have HR : Hid (doesW (zs.map (·.1)) ⟨fr, te, 10, (dn : Int), (an' : Int), op, av, an, bv, bn⟩ xs input = if zbW zs[an'].1.length (opdX xs av an) = true then (0, xs.set dn (gI zs[an'].1 (opdX xs av an))) else (3, xs)) := hid (by rw [← HL.out]; unfold doesW; rfl)
  clear a9 hzl HL
  generalize zs[an'] = z at *
  obtain ⟨ls, A, cz⟩ := z
  dsimp only at b7 b4 a3 HP HR
  generalize opdX xs av an = a at *
  generalize opdX xs bv bn = b at *
  obtain ⟨y0, y1, fy⟩ := zcG a0.blk
  obtain ⟨e0, e1, e2, e3, e4, e5, e6, e7, e8, e9, fe⟩ := zam p4
  have b3 := hid a0
  go_wp2_with fail
  (with_reducible refine (HP.out _ b3.out).mono ?_)
  rintro e3' w3 ⟨rfl, b1⟩
  clear HP b3 y0 y1 fy e0 e1 e2 e3 e4 e5 e6 e7 e8 e9 fe
  replace p4 := p4.later b1
  replace a0 := a0.up b1
  replace a1 := bup a1 b1
  replace b4 := later b4 w3 b1
  have a3 := hid (a3.out.below b1)
  clear b1
  obtain ⟨y0, y1, fy⟩ := zcG a0.blk
  obtain ⟨e0, e1, e2, e3, e4, e5, e6, e7, e8, e9, fe⟩ := zam p4
  cases cp : zbW ls.length a
  ·replace HR := hid (HR.out.trans (if_neg (by rw [cp]; simp)))
   clear cp
   go_wp2
   go_ret
   exact ⟨zas (by rw [HR.out]), a0.blk, by rw [HR.out]; exact a0.vars, by rw [HR.out], a1.mono a6⟩
  ·have hp := cp
   unfold zbW at hp
   rw [decide_eq_true_eq] at hp
   replace HR := hid (HR.out.trans (if_pos cp))
   clear cp
   obtain ⟨m, rfl⟩ := Int.eq_ofNat_of_zero_le hp.1
   have hm : m < ls.length := by omega
   obtain ⟨gr, rfl⟩ : ∃ g, A = some ⟨g, 0, none⟩ := by
    rcases a3.out.form with ⟨_, h, _⟩ | ⟨g, h, _⟩
    ·exfalso; rw [h] at hm; simp at hm
    ·exact ⟨g, h⟩
   go_wp2
   have lz := later b4
   clear b4
   have b6 := hid a0
   have l0 := later y0
   have l1 := later y1
   have l3 := later e3
   have l4 := later e4
   obtain ⟨_, _, eR, _, cR⟩ := a3.out.rd m hm
   injection eR with eR; injection eR with eR1 eR2; subst eR1; subst eR2
   rw [Nat.zero_add] at cR
   have lr := later cR
   clear y0 y1 fy e0 e1 e2 e3 e4 e5 e6 e7 e8 e9 fe a0 cR
   refine zab 17 (fun W => Below w3.heap.size w3 W) (by kernel_rfl) (by kernel_rfl) (Below.refl _ _).drew ?_
   refine fl_a ?_
   intro w9 a5
   have a0 := b6.out.up a5
   have c3 := a0.vars.frozen dn
   obtain ⟨_, _, eA, _, cA⟩ := a0.vars.rd dn b8
   injection eA with eA; injection eA with eA1 eA2; subst eA1; subst eA2
   rw [Nat.zero_add] at cA
   have a7 := hid (a0.store dn (gI ls (m : Int)))
   replace a1 := hid (bup a1 a5)
   clear a0 a5 l0 l1 l3 l4
   go_wp2
   go_ret
   exact ⟨zas (by rw [HR.out]), a7.out.1, by rw [HR.out]; exact a7.out.2.1, by rw [HR.out]; simp, (a1.out.mono a6).trans a7.out.2.2⟩
 ·have a8 := a2 (by omega)
  clear b2 a2
  obtain ⟨an', rfl⟩ := Int.eq_ofNat_of_zero_le a8.1
  have b5 : an' < zs.length := by omega
  have a9 : zs[an'] ∈ zs := List.getElem_mem b5
  have b7 := hzl _ a9
  have a3 := hid (a0.rows.own _ a9)
  obtain ⟨gz, rfl, hgz, -, b4⟩ := a0.rows.cell b5
  have HP := hid (fun W (h : StAt W b0 gs V (some ⟨gz, 0, none⟩) vc rc xs zs) => zh8 b0 gs V (some ⟨gz, 0, none⟩) vc rc xs zs an' (opdX xs av an) W h b5 (by omega))
  have HL : Hid ((zs.map (·.1)).getD an' [] = zs[an'].1) := hid (by simp [List.getD_eq_getElem?_getD, b5])
  have HR : Hid (doesW (zs.map (·.1)) ⟨fr, te, 11, dst, (an' : Int), op, av, an, bv, bn⟩ xs input = if zbW zs[an'].1.length (opdX xs av an) = true then (0, xs) else (3, xs)) := hid (by rw [← HL.out]; unfold doesW; rfl)
  clear a9 hzl HL
  generalize zs[an'] = z at *
  obtain ⟨ls, A, cz⟩ := z
  dsimp only at b7 b4 a3 HP HR
  generalize opdX xs av an = a at *
  generalize opdX xs bv bn = b at *
  obtain ⟨y0, y1, fy⟩ := zcG a0.blk
  obtain ⟨e0, e1, e2, e3, e4, e5, e6, e7, e8, e9, fe⟩ := zam p4
  have b3 := hid a0
  go_wp2_with fail
  (with_reducible refine (HP.out _ b3.out).mono ?_)
  rintro e3' w3 ⟨rfl, b1⟩
  clear HP b3 y0 y1 fy e0 e1 e2 e3 e4 e5 e6 e7 e8 e9 fe
  replace p4 := p4.later b1
  replace a0 := a0.up b1
  replace a1 := bup a1 b1
  replace b4 := later b4 w3 b1
  have a3 := hid (a3.out.below b1)
  clear b1
  obtain ⟨y0, y1, fy⟩ := zcG a0.blk
  obtain ⟨e0, e1, e2, e3, e4, e5, e6, e7, e8, e9, fe⟩ := zam p4
  cases cp : zbW ls.length a
  ·replace HR := hid (HR.out.trans (if_neg (by rw [cp]; simp)))
   clear cp
   go_wp2
   go_ret
   exact ⟨zas (by rw [HR.out]), a0.blk, by rw [HR.out]; exact a0.vars, by rw [HR.out], a1.mono a6⟩
  ·have hp := cp
   unfold zbW at hp
   rw [decide_eq_true_eq] at hp
   replace HR := hid (HR.out.trans (if_pos cp))
   clear cp
   obtain ⟨m, rfl⟩ := Int.eq_ofNat_of_zero_le hp.1
   have hm : m < ls.length := by omega
   obtain ⟨gr, rfl⟩ : ∃ g, A = some ⟨g, 0, none⟩ := by
    rcases a3.out.form with ⟨_, h, _⟩ | ⟨g, h, _⟩
    ·exfalso; rw [h] at hm; simp at hm
    ·exact ⟨g, h⟩
   go_wp2
   have lz := later b4
   clear b4
   have b6 := hid a0
   have hge : gs + 1 ≤ gr := by
    rcases a3.out.form with ⟨h, _⟩ | ⟨g, h, hg, _⟩
    ·cases h
    ·injection h with h; injection h with h; omega
   have l0 := later y0
   have l1 := later y1
   have l4 := later e4
   clear y0 y1 fy e0 e1 e2 e3 e4 e5 e6 e7 e8 e9 fe a0
   refine zab 10 (fun W => Below w3.heap.size w3 W) (by kernel_rfl) (by kernel_rfl) (Below.refl _ _).drew ?_
   refine fl_a ?_
   intro w9 a5
   have c5 := a3.out.below a5
   have c3 := c5.frozen m
   obtain ⟨_, _, eR, _, cR⟩ := c5.rd m hm
   injection eR with eR; injection eR with eR1 eR2; subst eR1; subst eR2
   rw [Nat.zero_add] at cR
   have a7 := hid ((b6.out.up a5).storeR hge m (.int .i64 b))
   replace a1 := hid (bup a1 a5)
   clear c5 a5 l0 l1 l4 lz
   go_wp2
   go_ret
   exact ⟨zas (by rw [HR.out]), a7.out.1, by rw [HR.out]; exact a7.out.2.1, by rw [HR.out], (a1.out.mono a6).trans a7.out.2.2⟩
end Go.Proofs.YtnmpgijiimglcaaGreat
