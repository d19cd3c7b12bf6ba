import Derived.Test.YtnmpgijiimglcaaGreatBTt11
import Derived.Test.YtnmpgijiimglcaaGreatBTt41
namespace Go.Proofs.YtnmpgijiimglcaaGreat
open Go.RowKit
set_option maxRecDepth 100000
set_option maxHeartbeats 8000000
def Q4 (ys : List Int) (q : O) : Prop := q = emptyO 2 ∨ ∃ m, q = ⟨2, false, m⟩ ∧ Raw m ∧ ∀ i j : Nat, i < 4 → j < 4 → G 4 m i j ≤ G 4 ys i j
theorem zcR {n : Int} {x : List Int} (h : HasO (emptyO n) x) : False := by have := h.1; cases this
theorem znF {ys : List Int} {q : O} (h : Q4 ys q) {i j : Nat} (hi : i < 4) (hj : j < 4) (hij : i ≠ j) {v : Int} (hv : -1000000 ≤ v ∧ v ≤ 1000000) :
  Q4 ys (withO q i j v) ∧ ∀ x, HasO (withO q i j v) x → HasO q x ∧ apartX x i j ≤ v := by
 rcases h with rfl | ⟨m, rfl, r, le⟩
 ·have : withO (emptyO 2) i j v = emptyO 2 := by unfold withO; rw [if_pos (show (emptyO 2).e = true from rfl)]; rfl
  rw [this]
  exact ⟨.inl rfl, fun x hx => (zcR hx).elim⟩
 ·rw [zcy hij]
  obtain ⟨r1, l1, -⟩ := r.bound hi hj hij hv
  refine ⟨.inr ⟨_, rfl, r1, fun a b ha hb => Int.le_trans (l1 a b ha hb) (le a b ha hb)⟩, fun x hx => ?_⟩
  obtain ⟨e1, e2⟩ := zcb r hi hj hij hv hx.2.2
  exact ⟨⟨rfl, hx.2.1, e1⟩, e2⟩
theorem q4_n {ys : List Int} {q : O} (h : Q4 ys q) : q.n = 2 := by
 rcases h with rfl | ⟨m, rfl, -⟩ <;> rfl
theorem zhn {ys : List Int} {q : O} (h : Q4 ys q) {av an bv bn : Int} (ha : av < 2) (hb : bv < 2) (hab : 0 ≤ av ∨ 0 ≤ bv) (ia : -100000 ≤ an ∧ an ≤ 100000) (ib : -100000 ≤ bn ∧ bn ≤ 100000) (s : Bool) :
  Q4 ys (atMostO q av an bv bn s) ∧ ∀ x, HasO (atMostO q av an bv bn s) x → HasO q x ∧ opdX x av an ≤ opdX x bv bn + zbO s := by
 have hl : zbO s = 0 ∨ zbO s = -1 := by unfold zbO; cases s <;> simp
 have hs : s = true → zbO s = -1 := by rintro rfl; rfl
 have hs' : s = false → zbO s = 0 := by rintro rfl; rfl
 have hn := q4_n h
 unfold atMostO
 by_cases h0 : 0 ≤ av
 ·rw [if_pos h0]
  by_cases h1 : 0 ≤ bv
  ·rw [if_pos h1]
   by_cases e : av = bv
   ·rw [if_pos e]
    cases s with
    | true => rw [if_pos rfl, hn]; exact ⟨.inl rfl, fun x hx => (zcR hx).elim⟩
    | false =>
     rw [if_neg (by simp)]
     subst e
     refine ⟨h, fun x hx => ⟨hx, ?_⟩⟩
     rw [zaL h0, zaL h0, hs' rfl]; omega
   ·rw [if_neg e]
    obtain ⟨k1, k2⟩ := znF h (i := 2 * av.toNat) (j := 2 * bv.toNat) (by omega) (by omega) (by omega) (v := zbO s) (by omega)
    refine ⟨k1, fun x hx => ?_⟩
    obtain ⟨k3, k4⟩ := k2 x hx
    refine ⟨k3, ?_⟩
    unfold apartX at k4
    rw [zaI, zaI] at k4
    rw [zaL h0, zaL h1]; omega
  ·rw [if_neg h1, if_neg (by simp; omega)]
   unfold rangedO hiO
   rw [if_neg (by simp), if_pos rfl]
   dsimp only
   rw [zcZ (by omega)]
   obtain ⟨k1, k2⟩ := znF h (i := 2 * av.toNat) (j := 2 * av.toNat + 1) (by omega) (by omega) (by omega) (v := 2 * (bn + zbO s)) (by omega)
   refine ⟨k1, fun x hx => ?_⟩
   obtain ⟨k3, k4⟩ := k2 x hx
   refine ⟨k3, ?_⟩
   rw [(zf6 x av.toNat).1] at k4
   rw [zaL h0, zaW (by omega)]; omega
 ·have h1 : 0 ≤ bv := by omega
  rw [if_neg h0, if_neg (by simp; omega)]
  unfold rangedO hiO
  rw [if_pos rfl, if_neg (by simp)]
  dsimp only
  rw [ziw (by omega), zcZ (by omega)]
  obtain ⟨k1, k2⟩ := znF h (i := 2 * bv.toNat + 1) (j := 2 * bv.toNat) (by omega) (by omega) (by omega) (v := 2 * -(an - zbO s)) (by omega)
  refine ⟨k1, fun x hx => ?_⟩
  obtain ⟨k3, k4⟩ := k2 x hx
  refine ⟨k3, ?_⟩
  rw [(zf6 x bv.toNat).2] at k4
  rw [zaW (by omega), zaL h1]; omega
theorem zmn {ys : List Int} (t : Tiny ys) {q : O} (h : Q4 ys q) : P4 (closeO q) ∧ ∀ x, HasO (closeO q) x → HasO q x := by
 rcases h with rfl | ⟨m, rfl, r, le⟩
 ·have : closeO (emptyO 2) = emptyO 2 := zh1 rfl
  rw [this]
  exact ⟨.inl rfl, fun x hx => hx⟩
 ·refine ⟨zl8 r fun i hi => ?_, fun x hx => ?_⟩
  ·have h1 := le i (nx i) hi (nxl (by decide) hi)
   have h2 := t i (nx i) hi (nxl (by decide) hi)
   omega
  ·obtain ⟨h1, h2⟩ := zbC r hx
   exact ⟨rfl, by dsimp only; omega, h1⟩
section
variable {ys : List Int} (T : Tight 4 ys) (t : Tiny ys)
include T t
theorem znW : Q4 ys ⟨2, false, ys⟩ := .inr ⟨ys, rfl, zmF T t, fun _ _ _ _ => Int.le_refl _⟩
theorem zoh {op av an bv bn : Int} (hop : 1 ≤ op ∧ op ≤ 6) (hne : op ≠ 4 ∨ (av < 0 ∧ bv < 0)) (ha : av < 2) (hb : bv < 2) (ia : -100000 ≤ an ∧ an ≤ 100000) (ib : -100000 ≤ bn ∧ bn ≤ 100000) :
  P4 (za2 ⟨2, false, ys⟩ op av an bv bn) ∧ ∀ x, HasO (za2 ⟨2, false, ys⟩ op av an bv bn) x → HasO ⟨2, false, ys⟩ x ∧ cmpB op (opdX x av an) (opdX x bv bn) = true := by
 unfold za2
 by_cases hn : av < 0 ∧ bv < 0
 ·rw [if_pos hn]
  cases hc : cmpB op an bn
  ·rw [if_neg (by simp)]
   exact ⟨.inl rfl, fun x hx => (zcR hx).elim⟩
  ·rw [if_pos rfl]
   exact ⟨zhM T t, fun x hx => ⟨hx, by rw [zaW hn.1, zaW hn.2]; exact hc⟩⟩
 ·rw [if_neg hn]
  have hab : 0 ≤ av ∨ 0 ≤ bv := by omega
  have q0 := znW T t
  have one := fun (s : Bool) => zhn q0 ha hb hab ia ib s
  have two := fun (s : Bool) => zhn q0 hb ha hab.symm ib ia s
  have l0 : zbO false = 0 := rfl
  have l1 : zbO true = -1 := rfl
  have fin := fun {q : O} (h : Q4 ys q) => zmn t h
  obtain rfl | rfl | rfl | rfl | rfl | rfl : op = 3 ∨ op = 4 ∨ op = 5 ∨ op = 1 ∨ op = 6 ∨ op = 2 := by omega
  ·rw [if_pos rfl]
   obtain ⟨k1, k2⟩ := one false
   obtain ⟨k3, k4⟩ := zhn k1 hb ha hab.symm ib ia false
   obtain ⟨k5, k6⟩ := fin k3
   refine ⟨k5, fun x hx => ?_⟩
   obtain ⟨e1, e2⟩ := k4 x (k6 x hx)
   obtain ⟨e3, e4⟩ := k2 x e1
   rw [l0] at e2 e4
   exact ⟨e3, by simp [cmpB]; omega⟩
  ·exact absurd rfl (hne.resolve_right hn)
  ·rw [if_neg (by decide), if_neg (by decide), if_pos rfl]
   obtain ⟨k1, k2⟩ := two true
   obtain ⟨k5, k6⟩ := fin k1
   refine ⟨k5, fun x hx => ?_⟩
   obtain ⟨e3, e4⟩ := k2 x (k6 x hx)
   rw [l1] at e4
   exact ⟨e3, by simp [cmpB]; omega⟩
  ·rw [if_neg (by decide), if_neg (by decide), if_neg (by decide), if_pos rfl]
   obtain ⟨k1, k2⟩ := one true
   obtain ⟨k5, k6⟩ := fin k1
   refine ⟨k5, fun x hx => ?_⟩
   obtain ⟨e3, e4⟩ := k2 x (k6 x hx)
   rw [l1] at e4
   exact ⟨e3, by simp [cmpB]; omega⟩
  ·rw [if_neg (by decide), if_neg (by decide), if_neg (by decide), if_neg (by decide), if_pos rfl]
   obtain ⟨k1, k2⟩ := two false
   obtain ⟨k5, k6⟩ := fin k1
   refine ⟨k5, fun x hx => ?_⟩
   obtain ⟨e3, e4⟩ := k2 x (k6 x hx)
   rw [l0] at e4
   exact ⟨e3, by simp [cmpB]; omega⟩
  ·rw [if_neg (by decide), if_neg (by decide), if_neg (by decide), if_neg (by decide), if_neg (by decide)]
   obtain ⟨k1, k2⟩ := one false
   obtain ⟨k5, k6⟩ := fin k1
   refine ⟨k5, fun x hx => ?_⟩
   obtain ⟨e3, e4⟩ := k2 x (k6 x hx)
   rw [l0] at e4
   exact ⟨e3, by simp [cmpB]; omega⟩
omit T in
theorem zoP (_T : Tight 4 ys) {x : List Int} (h : HasO ⟨2, false, ys⟩ x) : x.length = 2 ∧ ∀ v : Nat, -10 ≤ gI x (v : Int) ∧ gI x (v : Int) ≤ 10 := by
 obtain ⟨-, hl, hx⟩ := h
 dsimp only at hl hx
 have hl2 : x.length = 2 := by omega
 obtain ⟨x0, x1, rfl⟩ := len2 hl2
 have k := zoK (zf3 t) hx
 unfold Ok8 at k
 have t1 := t 0 1 (by decide) (by decide)
 have t2 := t 1 0 (by decide) (by decide)
 have t3 := t 2 3 (by decide) (by decide)
 have t4 := t 3 2 (by decide) (by decide)
 refine ⟨rfl, fun v => ?_⟩
 match v with
 | 0 => show -10 ≤ x0 ∧ x0 ≤ 10; omega
 | 1 => show -10 ≤ x1 ∧ x1 ≤ 10; omega
 | v + 2 => show -10 ≤ gI [x0, x1] ((v + 2 : Nat) : Int) ∧ _; rw [zfs (by simp)]; omega
omit T t in
theorem zgc {a : Int} (h : -1000000 ≤ a ∧ a ≤ 1000000) : fit a = (a, 0) := by
 unfold fit inI
 rw [if_pos (decide_eq_true (by omega))]
theorem zpp {e : Edg} (hr : zbd 2 e = true) (hex : zb6 e = true) (k9 : e.kd ≠ 9) (k10 : e.kd ≠ 10) (ia : -1000 ≤ e.an ∧ e.an ≤ 1000) (ib : -1000 ≤ e.bn ∧ e.bn ≤ 1000) :
  P4 (zbx ⟨2, false, ys⟩ e) ∧ ∀ z, HasO (zbx ⟨2, false, ys⟩ e) z → ∃ x, HasO ⟨2, false, ys⟩ x ∧ zeC e x z := by
 have ha := zgi hr
 have hb := zfY hr
 have hd := fun hk => zeF hr hk
 dsimp only at ha hb hd
 unfold zbx
 by_cases k14 : e.kd = 14
 ·rw [if_pos k14]
  exact ⟨.inl rfl, fun z hz => (zcR hz).elim⟩
 rw [if_neg k14, if_neg (by omega)]
 by_cases k12 : e.kd = 12
 ·rw [if_pos k12]
  have hop : 1 ≤ e.op ∧ e.op ≤ 6 := by
   have := hr
   unfold zbd rightE wOp at this
   simp only [Bool.and_eq_true] at this
   have := this.1.1.2
   rw [decide_eq_true k12] at this
   simpa using this
  have hne : e.op ≠ 4 ∨ (e.av < 0 ∧ e.bv < 0) := by
   unfold zb6 at hex
   simp only [Bool.and_eq_true, Bool.or_eq_true, decide_eq_true_eq] at hex
   omega
  obtain ⟨h1, h2⟩ := zoh T t hop hne (by omega) (by omega) (an := e.an) (bn := e.bn) (by omega) (by omega)
  refine ⟨h1, fun z hz => ?_⟩
  obtain ⟨h3, h4⟩ := h2 z hz
  refine ⟨z, h3, k14, fun _ => h4, ?_⟩
  rw [if_neg (by omega), if_neg (by omega), if_neg (by omega)]
 rw [if_neg k12]
 by_cases k2 : e.kd = 2
 ·rw [if_pos k2]
  have hd2 := hd (by omega)
  have be : ∀ x z : List Int, z = x.set e.dst.toNat (opdX x e.av e.an) → zeC e x z := fun x z h => ⟨k14, fun q => absurd q k12, by rw [if_neg (by omega), if_pos k2]; exact h⟩
  by_cases h0 : e.av < 0
  ·rw [if_pos h0]
   obtain ⟨h1, h2⟩ := zoJ T t (d := e.dst.toNat) (by omega) (k := e.an) (by omega)
   refine ⟨h1, fun z hz => ?_⟩
   obtain ⟨x, h3, h4⟩ := h2 z hz
   exact ⟨x, h3, be x z (by rw [zaW h0]; exact h4)⟩
  ·rw [if_neg h0]
   by_cases h1 : e.av = e.dst
   ·rw [if_pos h1]
    refine ⟨zhM T t, fun z hz => ⟨z, hz, be z z ?_⟩⟩
    rw [zaL (by omega), h1]
    exact (zbq z e.dst.toNat).symm
   ·rw [if_neg h1]
    obtain ⟨h1, h2⟩ := znC T t (d := e.dst.toNat) (j := 2 * e.av.toNat) (by omega) (by omega) (by omega) (k := 0) (by omega)
    refine ⟨h1, fun z hz => ?_⟩
    obtain ⟨x, h3, h4⟩ := h2 z hz
    exact ⟨x, h3, be x z (by rw [h4, zaL (by omega), zaI, Int.add_zero])⟩
 rw [if_neg k2]
 have be : 3 ≤ e.kd ∧ e.kd ≤ 8 → ∀ (x z : List Int) (u : Int), kindW e.kd (opdX x e.av e.an) (opdX x e.bv e.bn) = fit u → -1000000 ≤ u ∧ u ≤ 1000000 → z = x.set e.dst.toNat u → zeC e x z := fun hk x z u h hu hz => by
  rw [zgc hu] at h
  refine ⟨k14, fun q => absurd q k12, ?_⟩
  rw [if_neg (by omega), if_neg k2, if_pos hk, h]
  exact ⟨rfl, hz⟩
 have px := fun (x : List Int) (h : HasO ⟨2, false, ys⟩ x) => (zoP t T h).2
 by_cases k3 : e.kd = 3
 ·rw [if_pos k3]
  have hd2 := hd (by omega)
  have kw : ∀ a b, kindW e.kd a b = fit (-a) := fun a b => by unfold kindW; rw [if_pos k3]; rfl
  by_cases h0 : e.av < 0
  ·rw [if_pos h0]
   have hkk : kindW 3 e.an e.bn = (-e.an, 0) := by rw [← k3, kw, zgc (by omega)]
   unfold zaF
   rw [hkk, if_pos rfl]
   obtain ⟨h1, h2⟩ := zoJ T t (d := e.dst.toNat) (by omega) (k := -e.an) (by omega)
   refine ⟨h1, fun z hz => ?_⟩
   obtain ⟨x, h3, h4⟩ := h2 z hz
   exact ⟨x, h3, be (by omega) x z (-e.an) (by rw [kw, zaW h0]) (by omega) h4⟩
  ·rw [if_neg h0]
   by_cases h1 : e.av = e.dst
   ·rw [if_pos h1]
    obtain ⟨k1, k2⟩ := zpo T t (d := e.dst.toNat) (by omega)
    refine ⟨k1, fun z hz => ?_⟩
    obtain ⟨x, h3, h4⟩ := k2 z hz
    have hp := px x h3 e.dst.toNat
    exact ⟨x, h3, be (by omega) x z _ (by rw [kw, zaL (by omega), h1]) (by omega) h4⟩
   ·rw [if_neg h1]
    obtain ⟨k1, k2⟩ := znC T t (d := e.dst.toNat) (j := 2 * e.av.toNat + 1) (by omega) (by omega) (by omega) (k := 0) (by omega)
    refine ⟨k1, fun z hz => ?_⟩
    obtain ⟨x, h3, h4⟩ := k2 z hz
    have hp := px x h3 e.av.toNat
    exact ⟨x, h3, be (by omega) x z (-gI x ((e.av.toNat : Nat) : Int)) (by rw [kw, zaL (by omega)]) (by omega) (by rw [h4, zcL, Int.add_zero])⟩
 rw [if_neg k3]
 by_cases k45 : e.kd = 4 ∨ e.kd = 5
 ·rw [if_pos k45]
  have hd2 := hd (by omega)
  have hx : (e.kd = 4 ∧ (e.av < 0 ↔ 0 ≤ e.bv)) ∨ (e.kd = 5 ∧ 0 ≤ e.av ∧ e.bv < 0) := by
   unfold zb6 at hex
   simp only [Bool.and_eq_true, Bool.or_eq_true, decide_eq_true_eq, bne_iff_ne, ne_eq, decide_eq_decide] at hex
   omega
  rw [if_neg (by omega)]
  have sh : ∀ (y : Nat) (k : Int), y < 2 → -1000 ≤ k ∧ k ≤ 1000 → P4 (zbL ⟨2, false, ys⟩ e.dst.toNat y k) ∧ ∀ z, HasO (zbL ⟨2, false, ys⟩ e.dst.toNat y k) z → ∃ x, HasO ⟨2, false, ys⟩ x ∧ z = x.set e.dst.toNat (gI x (y : Int) + k) := fun y k hy hk => by
   unfold zbL
   rw [if_neg (by omega)]
   by_cases hyd : y = e.dst.toNat
   ·rw [if_neg (by omega)]
    subst hyd
    exact zoD T t (by omega) (by omega)
   ·rw [if_pos hyd]
    obtain ⟨k1, k2⟩ := znC T t (d := e.dst.toNat) (j := 2 * y) (by omega) (by omega) (by omega) (k := k) (by omega)
    refine ⟨k1, fun z hz => ?_⟩
    obtain ⟨x, h3, h4⟩ := k2 z hz
    exact ⟨x, h3, by rw [h4, zaI]⟩
  unfold zhL
  rcases hx with ⟨e4, hx⟩ | ⟨e5, hx, hx2⟩
  ·have kw : ∀ a b, kindW e.kd a b = fit (a + b) := fun a b => by unfold kindW; rw [if_neg (by omega), if_pos e4]; rfl
   rw [decide_eq_false (show ¬ e.kd = 5 by omega)]
   by_cases h0 : 0 ≤ e.av
   ·rw [if_pos h0, if_neg (by omega), if_neg (by simp)]
    obtain ⟨k1, k2⟩ := sh e.av.toNat e.bn (by omega) ib
    refine ⟨k1, fun z hz => ?_⟩
    obtain ⟨x, h3, h4⟩ := k2 z hz
    have hp := px x h3 e.av.toNat
    exact ⟨x, h3, be (by omega) x z _ (by rw [kw, zaL h0, zaW (by omega)]) (by omega) h4⟩
   ·rw [if_neg h0, if_neg (by simp)]
    obtain ⟨k1, k2⟩ := sh e.bv.toNat e.an (by omega) ia
    refine ⟨k1, fun z hz => ?_⟩
    obtain ⟨x, h3, h4⟩ := k2 z hz
    have hp := px x h3 e.bv.toNat
    exact ⟨x, h3, be (by omega) x z _ (by rw [kw, zaW (by omega), zaL (by omega), Int.add_comm]) (by omega) h4⟩
  ·have kw : ∀ a b, kindW e.kd a b = fit (a - b) := fun a b => by unfold kindW; rw [if_neg (by omega), if_neg (by omega), if_pos e5]; rfl
   rw [decide_eq_true e5, if_pos hx, if_neg (by omega), if_pos rfl]
   have hng : (negW e.bn).2 = 0 := by unfold negW; rw [zgc (by omega)]
   rw [if_pos hng]
   obtain ⟨k1, k2⟩ := sh e.av.toNat (-e.bn) (by omega) (by omega)
   refine ⟨k1, fun z hz => ?_⟩
   obtain ⟨x, h3, h4⟩ := k2 z hz
   have hp := px x h3 e.av.toNat
   exact ⟨x, h3, be (by omega) x z _ (by rw [kw, zaL hx, zaW hx2]) (by omega) (by rw [h4, Int.sub_eq_add_neg])⟩
 rw [if_neg k45]
 have k678 : ¬ (e.kd = 6 ∨ e.kd = 7 ∨ e.kd = 8) := by
  unfold zb6 at hex
  simp only [Bool.and_eq_true, Bool.or_eq_true, decide_eq_true_eq] at hex
  omega
 rw [if_neg k678]
 refine ⟨zhM T t, fun z hz => ⟨z, hz, k14, fun q => absurd q k12, ?_⟩⟩
 rw [if_neg (by omega), if_neg k2, if_neg (by omega)]
end
theorem ziY {n : Int} {o : O} {x : List Int} (h : HasO o x) (ok : OkO n o) {op av an bv bn : Int} (hop : 1 ≤ op ∧ op ≤ 6) (hne : op ≠ 4 ∨ (av < 0 ∧ bv < 0)) (ha : av < n) (hb : bv < n) (ia : -9223372036854775808 ≤ opdX x av an ∧ opdX x av an ≤ 9223372036854775807) (ib : -9223372036854775808 ≤ opdX x bv bn ∧ opdX x bv bn ≤ 9223372036854775807)
  (hc : cmpB op (opdX x av an) (opdX x bv bn) = true) : HasO (za2 o op av an bv bn) x := by
 unfold za2
 by_cases hn : av < 0 ∧ bv < 0
 ·rw [if_pos hn]
  rw [zaW hn.1, zaW hn.2] at hc
  rw [if_pos hc]
  exact h
 ·rw [if_neg hn]
  have hab : 0 ≤ av ∨ 0 ≤ bv := by omega
  have l0 : zbO false = 0 := rfl
  have l1 : zbO true = -1 := rfl
  have k1 := fun s => ok.atMost (s := s) (an := an) (bn := bn) ha hb hab
  have k2 := fun s => ok.atMost (s := s) (an := bn) (bn := an) hb ha hab.symm
  have h1 := fun s q => (h.atMost (s := s) ok ha hb hab ia ib q).close_ (k1 s)
  have h2 := fun s q => (h.atMost (s := s) ok hb ha hab.symm ib ia q).close_ (k2 s)
  obtain rfl | rfl | rfl | rfl | rfl | rfl : op = 3 ∨ op = 4 ∨ op = 5 ∨ op = 1 ∨ op = 6 ∨ op = 2 := by omega
  ·simp [cmpB] at hc
   exact ((h.atMost (s := false) ok ha hb hab ia ib (by omega)).atMost (k1 false) hb ha hab.symm ib ia (by omega)).close_ ((k1 false).atMost hb ha hab.symm)
  ·exact absurd rfl (hne.resolve_right hn)
  ·simp [cmpB] at hc
   exact h2 true (by omega)
  ·simp [cmpB] at hc
   exact h1 true (by omega)
  ·simp [cmpB] at hc
   exact h2 false (by omega)
  ·simp [cmpB] at hc
   exact h1 false (by omega)
theorem zio {n : Int} {o : O} {x y : List Int} {e : Edg} (h : HasO o x) (ok : OkO n o) (hr : zbd n e = true) (hex : zb6 e = true) (k9 : e.kd ≠ 9) (k10 : e.kd ≠ 10) (hx : I64s x) (hea : I64 e.an) (heb : I64 e.bn) (hy : zeC e x y) : HasO (zbx o e) y := by
 have ha := zgi hr
 have hb := zfY hr
 have hd := fun hk => zeF hr hk
 have hn := ok.rng
 dsimp only at ha hb hd
 obtain ⟨y1, y2, y3⟩ := hy
 unfold zbx
 rw [if_neg y1, if_neg (by omega)]
 rw [if_neg (by omega)] at y3
 by_cases k12 : e.kd = 12
 ·rw [if_pos k12]
  rw [if_neg (by omega), if_neg (by omega)] at y3
  subst y3
  refine ziY h ok ?_ ?_ (by omega) (by omega) (zeo hx hea) (zeo hx heb) (y2 k12)
  ·unfold zbd rightE wOp at hr
   simp only [Bool.and_eq_true] at hr
   have := hr.1.1.2
   rw [decide_eq_true k12] at this
   simpa using this
  ·unfold zb6 at hex
   simp only [Bool.and_eq_true, Bool.or_eq_true, decide_eq_true_eq] at hex
   omega
 rw [if_neg k12]
 by_cases k2 : e.kd = 2
 ·rw [if_pos k2] at y3 ⊢
  have := hd (by omega)
  subst y3
  split
  ·rename_i q
   rw [zaW q]
   exact h.give ok (by omega) ⟨fun _ => Int.le_refl _, fun _ => Int.le_refl _⟩
  ·rw [zaL (by omega)]
   split
   ·rename_i q1 q
    rw [q, show x.set e.dst.toNat (gI x ((e.dst.toNat : Nat) : Int)) = x from zbq _ _]; exact h
   ·have := h.link ok (d := e.dst.toNat) (j := 2 * e.av.toNat) (by omega) (by omega) (by omega) 0
    rwa [zaI, Int.add_zero] at this
 rw [if_neg k2] at y3 ⊢
 have hk : e.kd = 3 ∨ (e.kd = 4 ∧ (e.av < 0 ↔ 0 ≤ e.bv)) ∨ (e.kd = 5 ∧ 0 ≤ e.av ∧ e.bv < 0) ∨ e.kd = 1 ∨ 10 < e.kd := by
  have k1 : 1 ≤ e.kd := by
   unfold zbd rightE at hr
   simp only [Bool.and_eq_true, decide_eq_true_eq] at hr
   exact hr.1.1.1.1.1.1
  unfold zb6 at hex
  simp only [Bool.and_eq_true, Bool.or_eq_true, decide_eq_true_eq, bne_iff_ne, ne_eq, decide_eq_decide] at hex
  omega
 rcases hk with k3 | ⟨k4, hv⟩ | ⟨k5, hv, hv2⟩ | hk
 ·rw [if_pos (by omega), show kindW e.kd (opdX x e.av e.an) (opdX x e.bv e.bn) = fit (-opdX x e.av e.an) from by unfold kindW; rw [if_pos k3]; rfl] at y3
  have := hd (by omega)
  rw [if_pos k3, y3.2, (zii y3.1).1]
  split
  ·rename_i q
   have e1 : kindW 3 e.an e.bn = fit (-e.an) := rfl
   rw [zaW q] at y3 ⊢
   unfold zaF
   rw [e1, if_pos y3.1, (zii y3.1).1]
   exact h.give ok (by omega) ⟨fun _ => Int.le_refl _, fun _ => Int.le_refl _⟩
  ·rw [zaL (by omega)]
   split
   ·rename_i q1 q
    rw [q]
    exact h.turns ok (by omega)
   ·have := h.link ok (d := e.dst.toNat) (j := 2 * e.av.toNat + 1) (by omega) (by omega) (by omega) 0
    rwa [zcL, Int.add_zero] at this
 ·rw [if_pos (by omega), show kindW e.kd (opdX x e.av e.an) (opdX x e.bv e.bn) = fit (opdX x e.av e.an + opdX x e.bv e.bn) from by unfold kindW; rw [if_neg (by omega), if_pos k4]; rfl] at y3
  have := hd (by omega)
  rw [if_neg (by omega), if_pos (.inl k4), if_neg (by omega), y3.2, (zii y3.1).1]
  unfold zhL
  rw [decide_eq_false (show ¬ e.kd = 5 by omega)]
  by_cases h0 : 0 ≤ e.av
  ·rw [if_pos h0, if_neg (by omega), if_neg (by simp), zaL h0, zaW (by omega)]
   exact h.shift ok (by omega) (by omega) _
  ·rw [if_neg h0, if_neg (by simp), zaW (by omega), zaL (by omega), Int.add_comm]
   exact h.shift ok (by omega) (by omega) _
 ·rw [if_pos (by omega), show kindW e.kd (opdX x e.av e.an) (opdX x e.bv e.bn) = fit (opdX x e.av e.an - opdX x e.bv e.bn) from by unfold kindW; rw [if_neg (by omega), if_neg (by omega), if_pos k5]; rfl] at y3
  have := hd (by omega)
  rw [if_neg (by omega), if_pos (.inr k5), if_neg (by omega), y3.2, (zii y3.1).1]
  unfold zhL
  rw [decide_eq_true k5, if_pos hv, if_neg (by omega), if_pos rfl, zaL hv, zaW hv2]
  split
  ·rw [Int.sub_eq_add_neg]
   exact h.shift ok (by omega) (by omega) _
  ·exact h.give ok (by omega) ⟨fun q => (by cases q), fun q => (by cases q)⟩
 ·rw [if_neg (by omega), if_neg (by omega), if_neg (by omega)]
  rw [if_neg (by omega)] at y3
  rw [y3]
  exact h
def maxA (l : List (List Int)) (i j : Nat) : Int := l.foldl (fun b x => max b (apartX x i j)) (-4611686018427387904)
def maxO (n : Int) (l : List (List Int)) : O := if l = [] then emptyO n else ⟨n, false, (List.range ((2 * n).toNat * (2 * n).toNat)).map fun p => if p / (2 * n).toNat = p % (2 * n).toNat then 0 else maxA l (p / (2 * n).toNat) (p % (2 * n).toNat)⟩
theorem zgN {f : List Int → Int} {M : Int} : ∀ (l : List (List Int)) (b : Int), (∀ x ∈ l, f x ≤ M) → b ≤ M → (b = M ∨ ∃ x ∈ l, f x = M) → l.foldl (fun b x => max b (f x)) b = M
 | [], b, _, _, h => by
  rcases h with h | ⟨x, h, _⟩
  ·exact h
  ·cases h
 | y :: r, b, h1, h2, h3 => by
  have hy := h1 y (by simp)
  rw [List.foldl_cons]
  refine zgN r (max b (f y)) (fun x hx => h1 x (by simp [hx])) (by omega) ?_
  rcases h3 with h | ⟨x, h, e⟩
  ·left; omega
  ·rcases List.mem_cons.1 h with rfl | h
   ·left; omega
   ·exact .inr ⟨x, h, e⟩
theorem max4 {p : O} {l : List (List Int)} (h : P4 p) (h1 : ∀ z ∈ l, HasO p z) (h2 : ∀ z, HasO p z → z ∈ l) : p = maxO 2 l := by
 rcases h with rfl | ⟨zs, rfl, T, f⟩
 ·have : l = [] := by
   cases l with
   | nil => rfl
   | cons z r => exact (zcR (h1 z (by simp))).elim
  unfold maxO
  rw [if_pos this]
 ·have re := zoz T f
  have hne : l ≠ [] := by
   obtain ⟨x, y, hx, _⟩ := re 0 0 (by decide) (by decide)
   intro e
   have := h2 [x, y] ⟨rfl, rfl, hx⟩
   rw [e] at this; cases this
  unfold maxO
  rw [if_neg hne]
  congr 1
  show zs = (List.range 16).map _
  refine List.ext_getElem (by rw [T.cells.len]; simp) fun p hp _ => ?_
  rw [T.cells.len] at hp
  have hg : zs[p] = G 4 zs (p / 4) (p % 4) := by
   rw [← zfU T.cells hp]
   unfold gI
   simp [T.cells.len, hp]
  rw [List.getElem_map, List.getElem_range, hg, four]
  by_cases e : p / 4 = p % 4
  ·rw [if_pos e, e]
   exact T.cells.d (by omega)
  ·rw [if_neg e]
   have fb := f (p / 4) (p % 4) (by omega) (by omega)
   refine (zgN l _ (fun x hx => ?_) (by omega) ?_).symm
   ·have := (h1 x hx).2.2 (p / 4) (p % 4) (by show p / 4 < 4; omega) (by show p % 4 < 4; omega)
    unfold Lets at this
    dsimp only at this
    rw [four] at this
    omega
   ·obtain ⟨x, y, hx, e2⟩ := re (p / 4) (p % 4) (by omega) (by omega)
    exact .inr ⟨[x, y], h2 _ ⟨rfl, rfl, hx⟩, e2⟩
end Go.Proofs.YtnmpgijiimglcaaGreat
