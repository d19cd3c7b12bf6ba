import Derived.Test.YtnmpgijiimglcaaGreatBTt04
import Derived.Test.YtnmpgijiimglcaaGreatBTt21
import Derived.Test.YtnmpgijiimglcaaGreatBTt10
import Derived.RangeFuncNested
import Derived.RangeFuncKeeps
import Derived.WalkMore
import Derived.Laws.EntriesVeiled
import Derived.Test.YtnmpgijiimglcaaGreatBTt13
import Derived.RangeFuncFrom
namespace Go.Proofs.YtnmpgijiimglcaaGreat
set_option maxRecDepth 100000
set_option maxHeartbeats 8000000
section
section
variable {P : Program} {ops : Array Oper} {Q : Exit → Act → World → Prop} {S : Bool → World → Prop} {S1 S2 : World → Prop} {md : Region.Mode} {j : Nat} {ro : Option Nat} {nf : Nat}
theorem zc4.wpOpIn {i : Nat} {o : Oper} {v : Value} {a : Act} (hi : ops[i]? = some o) (hd : ∀ c, o.op ≠ .defer c) (h : zc4 P ops S1 S2 o v a) {K : Act → World → Prop} {w : World} (hS : S1 w)
  (hK : ∀ w2, S2 w2 → K (a.put o.dst v) w2) (hQ : ∀ e a w, zbN e a w → Q e a w) : Go.wpOpIn (zbk ro) nf P ops Q i K a w := by
 unfold Go.wpOpIn
 simp only [hi]
 rcases h with ⟨hw, h⟩ | ⟨hw, rfl, h⟩
 ·simp only [hw, if_true]
  exact ziC hd (h w hS K (fun a2 w2 e k => e ▸ hK w2 k)) hQ
 ·simp only [hw, Bool.false_eq_true, if_false]
  exact ⟨fun _ _ => trivial, hK w (h w hS)⟩
def zfe (ro : Option Nat) (nf : Nat) (P : Program) (md : Region.Mode) (ops : Array Oper) (Q : Exit → Act → World → Prop) (S : Bool → World → Prop) (j m : Nat) : Nat → Array Bool → Act → Prop
 | 0, listed, a => zaz m listed ∧ ∀ w, S (listed.getD j false) w → wpAnyIn (zbk ro) nf P md ops Q 0 listed a w
 | fuel + 1, listed, a => (zaz m listed ∧ ∀ w, S (listed.getD j false) w → wpAnyIn (zbk ro) nf P md ops Q (fuel + 1) listed a w) ∨
  (Region.ready md ops listed ≠ [] ∧ ∀ i ∈ Region.ready md ops listed, i < m ∧ ∃ o v, ops[i]? = some o ∧ zja P md ops S j i o v a ∧ zfe ro nf P md ops Q S j m fuel (listed.setIfInBounds i true) (a.put o.dst v))
theorem zfe.wpAny (hnd : zhI ops = true) (hQ : ∀ e a w, zbN e a w → Q e a w) {m : Nat} : ∀ (fuel : Nat) (listed : Array Bool) (a : Act), zay md ops listed → zfe ro nf P md ops Q S j m fuel listed a → ∀ w, S (listed.getD j false) w → Go.wpAnyIn (zbk ro) nf P md ops Q fuel listed a w
 | 0, _, _, _, h, w, hS => h.2 w hS
 | fuel + 1, listed, a, hcl, h, w, hS => by
  rcases h with ⟨_, h⟩ | ⟨hne, h⟩
  ·exact h w hS
  ·refine ⟨fun h0 => absurd h0 hne, fun i hi => ?_⟩
   obtain ⟨_, o, v, ho, a7, a0⟩ := h i hi
   obtain ⟨g1, g2⟩ := zap hi
   have hrc : zbh md ops i ops.size j = true → listed.getD j false = false := fun hr => by
    cases hj : listed.getD j false with
    | false => rfl
    | true =>
     have := zaJ hcl _ _ hr (fun oj a3 e he hb => hcl j oj a3 hj e he hb)
     rw [g2] at this; cases this
   refine (a7 _ (fun e => by rw [← e]; exact g2) hrc).wpOpIn ho (zgC hnd ho) hS (fun w2 hS2 => zfe.wpAny hnd hQ fuel _ _ (hcl.set hi) a0 w2 ?_) hQ
   rw [zbU g1]; exact hS2
theorem zfe.first (hsel : ∀ (j : Nat) (o : Oper) cs b, ops[j]? = some o → o.op ≠ .select cs b) {m : Nat} (htail : zco md ops m = true) {i : Nat} {oi : Oper} {v : Value} (hi : ops[i]? = some oi) (him : i < m) :
  ∀ (fuel : Nat) (listed : Array Bool) (a : Act), zay md ops listed →
   (∀ j oj, ops[j]? = some oj → j ≠ i → listed.getD j true = false → (∀ e ∈ oj.after, Region.binds md e = true → e.on ≠ i) → oi.apart ops oj = true) →
   i ∈ Region.ready md ops listed → zja P md ops S j i oi v a →
   zfe ro nf P md ops Q S j m fuel (listed.setIfInBounds i true) (a.put oi.dst v) → zfe ro nf P md ops Q S j m (fuel + 1) listed a := by
 intro fuel
 have early : ∀ (listed : Array Bool) (k : Nat), zay md ops listed → i ∈ Region.ready md ops listed → k ∈ Region.ready md ops listed → k < m := by
  intro listed k hc hr hk
  rcases Nat.lt_or_ge k m with h | h
  ·exact h
  ·exfalso
   obtain ⟨_, oj, a3, a5⟩ := mem_ready.1 hk
   have hjs : k < ops.size := (Array.getElem?_eq_some_iff.1 a3).1
   have h1 := List.all_eq_true.1 htail k (List.mem_range.2 hjs)
   simp only [Bool.or_eq_true, decide_eq_true_eq] at h1
   have h2 := List.all_eq_true.1 (h1.resolve_left (by omega)) i (List.mem_range.2 him)
   have h3 := zaJ hc _ _ h2 (fun o ho e he hb => by rw [a3] at ho; injection ho with ho; subst ho; exact a5 e he hb)
   rw [(zap hr).2] at h3; cases h3
 induction fuel with
 | zero =>
  intro listed a hc a1 hr hy H
  refine .inr ⟨fun h => (by rw [h] at hr; cases hr), fun k hk => ?_⟩
  by_cases hji : k = i
  ·subst hji; exact ⟨him, oi, v, hi, hy, H⟩
  ·exfalso
   have h1 := H.1 k (early listed k hc hr hk)
   rw [getD_set_ne false (Ne.symm hji), (zap hk).2] at h1; cases h1
 | succ fuel ih =>
  intro listed a hc a1 hr hy H
  refine .inr ⟨fun h => (by rw [h] at hr; cases hr), fun k hk => ?_⟩
  by_cases hji : k = i
  ·subst hji; exact ⟨him, oi, v, hi, hy, H⟩
  ·have hjm := early listed k hc hr hk
   rcases H with ⟨hd, _⟩ | ⟨_, H⟩
   ·exfalso
    have h1 := hd k hjm
    rw [getD_set_ne false (Ne.symm hji), (zap hk).2] at h1; cases h1
   ·obtain ⟨_, oj, u, a3, a7, a0⟩ := H k (ready_mono hk hji)
    obtain ⟨a6, oj', a4, a5⟩ := mem_ready.1 hk
    rw [a3] at a4; injection a4 with a4; subst a4
    have a8 : ∀ e ∈ oj.after, Region.binds md e = true → e.on ≠ i := fun e he hb heq => by
     have h1 := a5 e he hb
     rw [heq, (zap hr).2] at h1; cases h1
    obtain ⟨h1, h2, h3⟩ := Oper.apart_spec (a1 k oj a3 hji a6 a8)
    refine ⟨hjm, oj, u, a3, fun b hb hb' => (a7 b hb hb').unputApart (hsel k oj · · a3) _ _ h1, ih _ _ (hc.set hk) ?_ (ready_mono hr (Ne.symm hji)) (fun b hb hb' => (hy b hb hb').putApart (hsel i oi · · hi) _ _ h3) ?_⟩
    ·intro k' ok b0 hki hun hno
     refine a1 k' ok b0 hki ?_ hno
     by_cases hjk : k = k'
     ·subst hjk; exact a6
     ·rw [getD_set_ne true hjk] at hun; exact hun
    ·rw [Array.setIfInBounds_comm _ _ hji, ← Act.put_comm a v u h2]
     exact a0
def zaZ (ro : Option Nat) (nf : Nat) (P : Program) (ops : Array Oper) (Q : Exit → Act → World → Prop) (S : Bool → World → Prop) (j : Nat) : Nat → Nat → List Oper → Act → Prop
 | 0, _, l, a => ∀ w, S true w → wpListIn (zbk ro) nf P ops Q l a w
 | _ + 1, _, [], a => ∀ w, S true w → Q .normal a w
 | m + 1, k, o :: rest, a => ∃ v, zja P .any ops S j k o v a ∧ zaZ ro nf P ops Q S j m (k + 1) rest (a.put o.dst v)
theorem zaZ.anyMII {m0 : Nat} (hsel : ∀ (j : Nat) (o : Oper) cs b, ops[j]? = some o → o.op ≠ .select cs b) (htail : zco .any ops m0 = true) (hm0 : m0 ≤ ops.size) (hj : j < m0)
  (hr : ∀ i, i < m0 → i ∈ Region.ready .any ops (pre ops.size i)) (hfr : ∀ i, i < m0 → Region.free .any ops (pre ops.size i) i = true)
  (hf : ∀ i, i < ops.size → m0 ≤ i → Region.ready .any ops (pre ops.size i) = [i]) (hend : Region.ready .any ops (pre ops.size ops.size) = []) :
  ∀ (m k : Nat) (l : List Oper), k + m = m0 → zay .any ops (pre ops.size k) → (∀ j, l[j]? = ops[k + j]?) → ∀ (a : Act), zaZ ro nf P ops Q S j m k l a → zfe ro nf P .any ops Q S j m0 (ops.size - k) (pre ops.size k) a
 | 0, k, l, hk, _, hl, a, h => by
  have b0 : k = m0 := by omega
  subst b0
  have he : zaz k (pre ops.size k) := fun i hi => by rw [zau _ _ _ _ (by omega) (by omega)]; simpa using hi
  have hjt : (pre ops.size k).getD j false = true := he j hj
  have h1 : ∀ w, S ((pre ops.size k).getD j false) w → Go.wpAnyIn (zbk ro) nf P .any ops Q (ops.size - k) (pre ops.size k) a w := fun w hS => zdg hf hend _ _ l (Nat.le_refl _) (by omega) hl a w (h w (by rw [hjt] at hS; exact hS))
  generalize hn : ops.size - k = n at h1
  cases n with
  | zero => exact ⟨he, h1⟩
  | succ n => exact .inl ⟨he, h1⟩
 | m + 1, k, l, hk, hc, hl, a, h => by
  have a9 : k < ops.size := by omega
  cases l with
  | nil => have := hl 0; simp [Array.getElem?_eq_getElem a9] at this
  | cons o l =>
   have ho : ops[k]? = some o := by simpa using (hl 0).symm
   have hl' : ∀ j, l[j]? = ops[k + 1 + j]? := fun j => by have := hl (j + 1); simpa [Nat.add_assoc, Nat.add_comm 1 j] using this
   obtain ⟨v, a7, a0⟩ := h
   have hn : ops.size - k = (ops.size - (k + 1)) + 1 := by omega
   rw [hn]
   refine zfe.first hsel htail ho (by omega) _ _ _ hc (Region.free_spec ho (hfr k (by omega))) (hr k (by omega)) a7 ?_
   rw [zbt _ _ a9]
   refine zaZ.anyMII hsel htail hm0 hj hr hfr hf hend m (k + 1) l (by omega) ?_ hl' _ a0
   rw [← zbt _ _ a9]
   exact hc.set (hr k (by omega))
theorem zb2 {id : Nat} {l : List Oper} {a : Act} {w : World} (m j : Nat) (S : Bool → World → Prop) (hm : P.follows .mixedOrders = true) (hc : zcB l.toArray m = true) (hnd : zhI l.toArray = true) (hj : (j < m)) (hS : S false w.drew)
  (h : zaZ ro nf P l.toArray Q S j m 0 l a) : (Code.region id l.toArray true).wpIn (zbk ro) nf P Q a w := by
 simp only [zcB, Bool.and_eq_true, decide_eq_true_eq, beq_iff_eq, List.all_eq_true, List.mem_range] at hc
 obtain ⟨⟨⟨⟨⟨c1, c2⟩, c3⟩, c4⟩, c5⟩, c6⟩ := hc
 have hQ : ∀ e a w, zbN e a w → Q e a w := fun _ _ _ h => (h : False).elim
 refine wpIn_region_any hm ?_
 have hp : Array.replicate l.toArray.size false = pre l.toArray.size 0 := by simp [pre, ← List.toArray_replicate]
 rw [hp]
 have hr : ∀ i, i < m → i ∈ Region.ready .any l.toArray (pre l.toArray.size i) := fun i hi => by simpa using (c4 i hi).1
 refine zfe.wpAny hnd hQ _ _ _ ?_ (zaZ.anyMII (m0 := m) (k := 0) (Region.noSelect_spec c1) c3 c2 hj hr (fun i hi => (c4 i hi).2) ?_ c6 m l (by omega) ?_ (by simp) a h) w.drew ?_
 rotate_left
 ·intro i hi hmi
  have := c5 (i - m) (by omega)
  rwa [show m + (i - m) = i by omega] at this
 ·intro k o _ hk
  exfalso
  rcases Nat.lt_or_ge k l.toArray.size with h' | h'
  ·rw [zau _ _ _ _ (by omega) h'] at hk; simp at hk
  ·rw [Array.getD, dif_neg (by rw [zaQ _ _ (by omega)]; omega)] at hk; cases hk
 ·rw [zau _ _ _ _ (by omega) (by omega)]; simpa using hS
 ·intro k o _ hk
  exfalso
  rcases Nat.lt_or_ge k l.toArray.size with h' | h'
  ·rw [zau _ _ _ _ (by omega) h'] at hk; simp at hk
  ·rw [Array.getD, dif_neg (by rw [zaQ _ _ (by omega)]; omega)] at hk; cases hk
theorem zaZ.quiet {m k : Nat} {o : Oper} {rest : List Oper} {a : Act} (v : Value) (hk : (k == j) = false) (hw : Region.wanted o (yielded ops a.tmps) = true) (h : ∀ w, AnyB S w → (execOp a.eval o).run P w = .ok (.value v) w) (hr : zaZ ro nf P ops Q S j m (k + 1) rest (a.put o.dst v)) :
  zaZ ro nf P ops Q S j (m + 1) k (o :: rest) a :=
 ⟨v, fun b _ _ => .inl ⟨hw, fun w hS K hK => by rw [hk, Bool.or_false] at hK; unfold Oper.wp; rw [h w ⟨b, hS⟩]; exact hK _ _ rfl hS⟩, hr⟩
theorem zaZ.take {m k : Nat} {o : Oper} {rest : List Oper} {a : Act} (v : Value) (hk : (k == j) = false) (hw : Region.wanted o (yielded ops a.tmps) = true) (h : ∀ w, AnyB S w → ∀ R : Value → Prop, R v → Yl R w ((execOp a.eval o).run P w)) (hr : zaZ ro nf P ops Q S j m (k + 1) rest (a.put o.dst v)) :
  zaZ ro nf P ops Q S j (m + 1) k (o :: rest) a :=
 zaZ.quiet v hk hw (fun w hS => by
  have h1 := h w hS (fun x => x = v) rfl
  generalize (execOp a.eval o).run P w = r at *
  cases r with
  | ok n w' =>
   cases n with
   | value x => obtain ⟨e1, e2⟩ := h1; subst e1; subst e2; rfl
   | _ => exact h1.elim
  | halt x w' => exact h1.elim) hr
theorem zaZ.skip {m k : Nat} {o : Oper} {rest : List Oper} {a : Act} (hk : (k == j) = false) (hw : Region.wanted o (yielded ops a.tmps) = false) (hr : zaZ ro nf P ops Q S j m (k + 1) rest (a.put o.dst undef)) :
  zaZ ro nf P ops Q S j (m + 1) k (o :: rest) a :=
 ⟨undef, fun b _ _ => .inr ⟨hw, rfl, fun w hS => by rw [hk, Bool.or_false]; exact hS⟩, hr⟩
theorem zaZ.mark {m k : Nat} {o : Oper} {rest : List Oper} {a : Act} (hk : (k == j) = true) (hd : o.dst = none) (hw : Region.wanted o (yielded ops a.tmps) = true)
  (h : ∀ w, S false w → ∀ R : World → Prop, (∀ w2, S true w2 → R w2) → YlM R ((execOp a.eval o).run P w)) (hr : zaZ ro nf P ops Q S j m (k + 1) rest a) :
  zaZ ro nf P ops Q S j (m + 1) k (o :: rest) a :=
 ⟨undef, fun b hb _ => .inl ⟨hw, fun w hS K hK => by
  obtain rfl := hb (by simpa using hk)
  rw [hk] at hK
  have h1 := h w hS (S true) (fun _ k => k)
  unfold Oper.wp
  generalize (execOp a.eval o).run P w = r at *
  cases r with
  | ok n w' =>
   cases n with
   | value x => exact hK _ _ (by rw [hd]; rfl) h1
   | skip => exact hK _ _ rfl h1
   | _ => exact h1.elim
  | halt x w' => exact h1.elim⟩, by rw [hd]; exact hr⟩
end
end
section
open Go.RowKit
def zcM (N i j : Nat) (m : List Int) : List Int := if i = j then m else (m.set (i * N + j) 9223372036854775807).set (j * N + i) 9223372036854775807
def fRow (N v i : Nat) (m : List Int) : List Int := zcM N i (2 * v + 1) (zcM N i (2 * v) m)
def fAll (N v : Nat) : Nat → List Int → List Int
 | 0, m => m
 | k + 1, m => fRow N v k (fAll N v k m)
theorem zdJ (N i j : Nat) (m : List Int) : (zcM N i j m).length = m.length := by unfold zcM; split <;> simp
theorem zh3 (N v i : Nat) (m : List Int) : (fRow N v i m).length = m.length := by unfold fRow; rw [zdJ, zdJ]
theorem zcS (N v : Nat) (m : List Int) : ∀ k, (fAll N v k m).length = m.length
 | 0 => rfl
 | k + 1 => by unfold fAll; rw [zh3, zcS N v m k]
theorem znn {N a b i j : Nat} (hb : b < N) (hj : j < N) : a * N + b = i * N + j ↔ a = i ∧ b = j := by
 constructor
 ·intro h
  have h1 := congrArg (· / N) h
  have h2 := congrArg (· % N) h
  simp only [zcC hb, zcC hj, zc8 hb, zc8 hj] at h1 h2
  exact ⟨h1, h2⟩
 ·rintro ⟨rfl, rfl⟩; rfl
theorem zfo {N i j : Nat} (hi : i < N) (hj : j < N) : i * N + j < N * N := by
 have : (i + 1) * N ≤ N * N := Nat.mul_le_mul_right _ hi
 rw [Nat.succ_mul] at this; omega
theorem znm {N : Nat} {m : List Int} (hl : m.length = N * N) {i j a b : Nat} (hi : i < N) (hj : j < N) (hb : b < N) (x : Int) : G N (m.set (i * N + j) x) a b = if a = i ∧ b = j then x else G N m a b := by
 unfold G
 rw [zc7]
 have := zfo hi hj
 by_cases h : a = i ∧ b = j
 ·rw [if_pos h, if_pos ⟨(znn hb hj).2 h, by omega⟩]
 ·rw [if_neg h, if_neg (fun k => h ((znn hb hj).1 k.1))]
theorem zkq {N : Nat} {m : List Int} (hl : m.length = N * N) {i j a b : Nat} (hi : i < N) (hj : j < N) (_ha : a < N) (hb : b < N) : G N (zcM N i j m) a b = if i ≠ j ∧ ((a = i ∧ b = j) ∨ (a = j ∧ b = i)) then 9223372036854775807 else G N m a b := by
 unfold zcM
 by_cases h : i = j
 ·rw [if_pos h, if_neg (fun k => k.1 h)]
 ·rw [if_neg h, znm (by simpa using hl) hj hi hb, znm hl hi hj hb]
  by_cases h1 : a = j ∧ b = i
  ·rw [if_pos h1, if_pos ⟨h, .inr h1⟩]
  ·rw [if_neg h1]
   by_cases h2 : a = i ∧ b = j
   ·rw [if_pos h2, if_pos ⟨h, .inl h2⟩]
   ·rw [if_neg h2, if_neg (fun k => k.2.elim h2 h1)]
theorem zng {N v : Nat} {m : List Int} (hl : m.length = N * N) (hv : 2 * v + 1 < N) {a b : Nat} (ha : a < N) (hb : b < N) : ∀ k, k ≤ N → G N (fAll N v k m) a b = if a ≠ b ∧ ((b / 2 = v ∧ a < k) ∨ (a / 2 = v ∧ b < k)) then 9223372036854775807 else G N m a b
 | 0, _ => by rw [if_neg (by omega)]; rfl
 | k + 1, hk => by
  unfold fAll fRow
  rw [zkq (by rw [zdJ, zcS]; exact hl) (by omega) hv ha hb, zkq (by rw [zcS]; exact hl) (by omega) (by omega) ha hb, zng hl hv ha hb k (by omega)]
  by_cases h : a ≠ b ∧ ((b / 2 = v ∧ a < k + 1) ∨ (a / 2 = v ∧ b < k + 1))
  ·rw [if_pos h]
   by_cases h0 : a ≠ b ∧ ((b / 2 = v ∧ a < k) ∨ (a / 2 = v ∧ b < k))
   ·simp [h0]
   ·rw [if_neg h0]
    by_cases h1 : k ≠ 2 * v + 1 ∧ ((a = k ∧ b = 2 * v + 1) ∨ (a = 2 * v + 1 ∧ b = k))
    ·rw [if_pos h1]
    ·rw [if_neg h1, if_pos (by omega)]
  ·rw [if_neg h, if_neg (by omega), if_neg (by omega), if_neg (by omega)]
theorem zhi {N v : Nat} {m : List Int} (hl : m.length = N * N) (hv : 2 * v + 1 < N) : fAll N v N m = forgetM N v m := by
 refine zpg (by rw [zcS]; exact hl) (by rw [zdc]; exact hl) fun a b ha hb => ?_
 rw [zng hl hv ha hb N (Nat.le_refl _), zcH hl ha hb]
 by_cases h : a ≠ b ∧ (a / 2 = v ∨ b / 2 = v)
 ·rw [if_pos h, if_pos (by omega)]
 ·rw [if_neg h, if_neg (by omega)]
def zeY (N v i : Nat) : Nat → List Int → List Int
 | 0, m => m
 | 1, m => zcM N i (2 * v) m
 | _, m => fRow N v i m
theorem zgG (N v i k : Nat) (m : List Int) : (zeY N v i k m).length = m.length := by
 unfold zeY; split
 ·rfl
 ·rw [zdJ]
 ·rw [zh3]
end
section
open Go.RowKit
attribute [local go_sem] Oper.semAt_some
theorem zmZ {P : Program} {F : Fence} {n : Nat} {c : Code} {Q : Exit → Act → World → Prop} {a : Act} {w : World} (h : ∀ a0 : Act, a0 = a → c.wpIn F n P Q a0 w) : c.wpIn F n P Q a w := h a rfl
section
variable {W W' : World} {row : Option Nat} {g base cap : Nat} {t : TypeId} {cs : Array Value} {A : Option Addr} {m : List Int}
theorem zgf (h : Blk W g t cs) (hg : W.grownBy W' row) (hr : ∀ r, row = some r → ∃ o : Obj, W.heap[r]? = some o ∧ o.isCells = false) : Blk W' g t cs :=
 (hg.block g h.lt (fun e => by
  obtain ⟨o, ho, hc⟩ := hr g e.symm
  unfold Blk at h
  rw [h] at ho; injection ho with ho; subst ho; cases hc)).trans h
theorem zis (h : Own W base A cap m) (hg : W.grownBy W' row) (hr : ∀ r, row = some r → ∃ o : Obj, W.heap[r]? = some o ∧ o.isCells = false) : Own W' base A cap m := by
 refine h.grown hg ?_
 rcases h.2 with ⟨h0, _⟩ | ⟨g', cap', cur, h1, _, h3, _⟩
 ·injection h0 with h0; subst h0; exact .inl rfl
 ·injection h1 with h1; subst h1
  refine .inr fun e => ?_
  simp only [Value.ownBlock] at e
  obtain ⟨o, ho, hc⟩ := hr g' e.symm
  rw [h3] at ho; injection ho with ho; subst ho; cases hc
theorem zm8 {B : Nat} (h : Below W.heap.size W W') : KeepsFrom B W W' := KeepsFrom.of_grownBy (zar h none) (fun j e => by cases e)
theorem zpl {v0 v1 v2 : Value} {D : Nat} {o : Obj} (h : W.heap[D]? = some o) (hc : o.isCells = false) : (((W.setCell ⟨g, 0, none⟩ v0).setCell ⟨g, 1, none⟩ v1).setCell ⟨g, 2, none⟩ v2).heap[D]? = some o :=
 (((KeepsOthers.setCell W _ _).trans (KeepsOthers.setCell _ _ _)).trans (KeepsOthers.setCell _ _ _)).same D o h hc
end
theorem Blk.stay {W W' : World} {row : Option Nat} {g : Nat} {t : TypeId} {cs : Array Value} (h : Blk W g t cs) (hg : W.grownBy W' row) (hne : some g ≠ row) : Blk W' g t cs := (hg.block g h.lt hne).trans h
theorem zjQ {W : World} {base cap g : Nat} {m : List Int} (h : Own W base (some ⟨g, 0, none⟩) cap m) {o : Obj} (ho : W.heap[g]? = some o) : o.isWalk = false := by
 rcases h.2 with ⟨h0, _⟩ | ⟨g', cap', cur, h1, _, h3, _⟩
 ·cases h0
 ·injection h1 with h1
  injection h1 with h1
  injection h1 with h1
  subst h1
  rw [h3] at ho; injection ho with ho; subst ho; rfl
theorem zke {W : World} {base cap b : Nat} {A : Option Addr} {m : List Int} (h : Own W base A cap m) (hb : ∀ g, A = some ⟨g, 0, none⟩ → g ≠ b) : (Value.slice A m.length cap).ownBlock = none ∨ (Value.slice A m.length cap).ownBlock ≠ some b := by
 rcases h.form with ⟨rfl, _⟩ | ⟨g, rfl, _⟩
 ·exact .inl rfl
 ·refine .inr fun e => hb g rfl ?_
  simpa [Value.ownBlock] using e
theorem znK (p1 : Nat) (v1 : Value) (T : Array Value) : ((#[p1] : Array Nat).zip #[v1]).foldl (fun t (x : Nat × Value) => t.setIfInBounds x.1 x.2) T = T.setIfInBounds p1 v1 := by
 rw [← Array.foldl_toList]; simp
end
section
open Go.RowKit
attribute [local go_sem] Oper.semAt_some
attribute [local go_sem ↓] Go.wp_at_zero Go.wp_at_succ
theorem znQ (a b : Value) (W : World) : (Instr.index 114 (.agg #[a, b]) (.int .i64 0)).run Tryz.prog W = .ok a W := by
 simp [Instr.index, run_underlying Tryz.underlying114, asIntOf, go_sem]
theorem znA (a b : Value) (W : World) : (Instr.index 114 (.agg #[a, b]) (.int .i64 1)).run Tryz.prog W = .ok b W := by
 simp [Instr.index, run_underlying Tryz.underlying114, asIntOf, go_sem]
def SW (w4 w5 : World) : Bool → World → Prop
 | false => fun W => W = w4
 | true => fun W => W = w5
theorem SW.any {w4 w5 W : World} (h : AnyB (SW w4 w5) W) : W = w4 ∨ W = w5 := by
 obtain ⟨b, h⟩ := h
 cases b
 ·exact .inl h
 ·exact .inr h
def zpd (base : Nat) (A : Option Addr) (cap : Nat) (n : Int) (L : Nat) (m' : List Int) (w : World) (e : Ending) (w' : World) : Prop := e = .returned (.agg #[n, false, .slice A L cap]) ∧ Own w' base A cap m' ∧ Below base w w'
theorem zhD {H : Type} (n : Int) (m : List Int) (N : Nat) (hN : (N : Int) = 2 * n) (hn : N ≤ 128) (hc : Cells N m) (v : Nat) (hv : (v : Int) < n) (gA cap base b nn : Nat) (d : DataW H) {R : Value → Option (DataW H × List MemPlace)} (w : World) (own : Own w base (some ⟨gA, 0, none⟩) cap m) (hbase : base ≤ w.heap.size) (hmap : w.ownsMap Tryz.prog 3 R b nn (.map [(.int .i64 (v : Int), d)])) :
  CallsIn (zbk none) 10 Tryz.prog 227 #[.agg #[n, false, .slice (some ⟨gA, 0, none⟩) m.length cap], .map (some b)] w (zpd base (some ⟨gA, 0, none⟩) cap n m.length (forgetM N v m) w) := by
 obtain ⟨p0, p1, b6, hsz⟩ := zao w #[n, false, .slice (some ⟨gA, 0, none⟩) m.length cap] #[.int .i64 0, false, .slice none 0 0] 24 24
 have HFA := hid (zhi hc.len (v := v) (by omega))
 have HL := hid hc.len
 have HN := hid hN
 have HV := hid hv
 have hgA : base ≤ gA ∧ gA < w.heap.size := by
  rcases own.form with ⟨h, _⟩ | ⟨g, h, h1, h2⟩
  ·cases h
  ·injection h with h; injection h with h; subst h; exact ⟨h1, h2⟩
 have hn0 : 0 ≤ 2 * n := by omega
 have hn1 : 2 * n ≤ 128 := by omega
 have hn2 : 0 ≤ n := by omega
 have hv2 : (v : Int) ≤ 64 := by omega
 replace own := own.below b6
 replace hmap := (hmap.alloc (Obj.cells #[n, false, .slice (some ⟨gA, 0, none⟩) m.length cap] 24)).alloc (Obj.cells #[.int .i64 0, false, .slice none 0 0] 24)
 clear hN hv hc
 have HG := hid hgA
 have HSZ := hid hsz
 clear hgA hsz
 refine callsIn_of_wp_marks Tryz.func227 rfl trivial ?_ rfl
 simp only [Tryz.ntmps227, List.size_toArray, List.length_cons, List.length_nil, Nat.reduceAdd, Nat.reduceSub, Array.replicate_succ, Array.replicate_zero, List.push_toArray, List.append_toArray, List.nil_append, List.cons_append]
 obtain ⟨x0, x1, x2, fx⟩ := zaa p0
 gi_wp2_with fail
 clear x0 x1 x2 fx
 generalize (w.alloc (Obj.cells #[n, false, .slice (some ⟨gA, 0, none⟩) m.length cap] 24)).alloc (Obj.cells #[.int .i64 0, false, .slice none 0 0] 24) = w0 at *
 refine (zft (zlD (some b) w0)).mono ?_
 rintro e1 w1 ⟨rfl, rfl⟩
 gi_wp2
 have nK := new1 w0 (.cells #[.map (some b)] 221)
 have kK := Blk.new w0 221 #[.map (some b)]
 replace own := own.below nK
 replace p0 := p0.later nK
 replace p1 := p1.later nK
 replace b6 := bup b6 nK
 replace hmap := hmap.alloc (.cells #[.map (some b)] 221)
 have hw1 : w.heap.size + 2 < (w0.alloc (.cells #[.map (some b)] 221)).heap.size := by have := HSZ.out; simp; omega
 clear nK
 generalize w0.alloc (.cells #[.map (some b)] 221) = w1 at *
 have hgK := kK.lt
 generalize w0.heap.size = gK at *
 have hbB : Below base w w1 := b6.mono hbase
 refine zmZ (fun a0 ha0 => ?_)
 have b7 := hid ha0
 clear ha0
 refine wpIn_rangeFunc_ownH (F := zbk none) rfl (by omega) (gf := 252) (lb := #[.pointer (some ⟨gK, 0, none⟩)]) (by rw [b7.out]; rfl) trivial (enters_of Tryz.func252 (by kernel_rfl) rfl)
  (zlB (10 - 1) (by omega) gK b nn (v : Int) d w1 hgK (kK.cell 0) hmap) walksK_t walksK_b (Below.refl _ _) (fun _ => rfl)
  (fun pre W => ((Blk W w.heap.size 24 #[n, false, .slice (some ⟨gA, 0, none⟩) m.length cap] ∧ Own W base (some ⟨gA, 0, none⟩) cap (if pre.length = 0 then m else forgetM N v m) ∧ Blk W (w.heap.size + 1) 24 #[.int .i64 0, false, .slice none 0 0]) ∧ w1.heap.size ≤ W.heap.size) ∧ Below base w W)
  (fun _ _ _ => False)
  (OwnFrom.and (Own.from (fun pre X Y row ⟨⟨h1, h2, h3⟩, h7⟩ hg hr => ⟨⟨zgf h1 hg hr, zis h2 hg hr, zgf h3 hg hr⟩, Nat.le_trans h7 hg.size⟩) _) (ownFrom_below hbase (by omega)))
  (fun _ _ _ _ _ hs _ _ => hs)
  ⟨⟨⟨p0, own, p1⟩, Nat.le_refl _⟩, hbB⟩
  (fun _ a' _ => a' = { tmps := (((#[14] : Array Nat).zip #[Value.int .i64 (v : Int)]).foldl (fun t (p, v) => t.setIfInBounds p v) a0.tmps).setIfInBounds 5 (.int .i64 (v : Int)), defers := [] })
  (fun x a' _ X Y row h hg hr => h)
  ?assign ?body ?done ?stop
 case assign =>
  rintro l pre x W K ⟨⟨⟨h1, h2, h3⟩, h7⟩, a8⟩ hK
  obtain rfl := b7.out
  have hk := hK _ _ (zm8 (Below.refl W.heap.size W)) (KeepsWalks.refl W) ⟨⟨⟨h1, h2, h3⟩, h7⟩, a8⟩ rfl
  simp only [znK, List.setIfInBounds_toArray, List.set_cons_zero, List.set_cons_succ] at hk
  have HKK := hid hk
  simp only [znK, List.setIfInBounds_toArray, List.set_cons_zero, List.set_cons_succ]
  clear hk hK h1 h2 h3
  gi_wp2
  exact HKK.out
 case body =>
  rintro l pre x a' W hl hrr ⟨⟨⟨h1, h2, h3⟩, h7⟩, a8⟩ rfl b9
  obtain rfl := b7.out
  obtain rfl : pre = [] := by cases pre with | nil => rfl | cons _ _ => simp at b9
  replace h2 : Own W base (some ⟨gA, 0, none⟩) cap m := h2
  simp only [znK, List.setIfInBounds_toArray, List.set_cons_zero, List.set_cons_succ]
  obtain ⟨x0, x1, x2, fx⟩ := zaa h1
  gi_wp2
  clear x0 x1 x2 fx
  have h30 := h3
  have HSW := hid h7
  clear h3
  gi_loopw [18] (fun t wq => ∃ i : Nat, i ≤ N ∧ t = .int .i64 i ∧ Own wq base (some ⟨gA, 0, none⟩) cap (fAll N v i m) ∧ W.grownBy wq (some gA)) (fun t _ => N - (RowKit.intOf t).toNat)
  case atStart => exact ⟨0, by omega, rfl, h2, World.grownBy.refl _ _⟩
  case round =>
   obtain ⟨i, hi, rfl, a3, hg⟩ := hrel
   have q0 := h1.stay hg (by intro e; injection e with e; have := HG.out; omega)
   obtain ⟨x0, x1, x2, fx⟩ := zaa q0
   by_cases hlt : i < N
   ·have hlti : (i : Int) < 2 * n := by have := HN.out; omega
    gi_wp2
    clear x0 x1 x2 fx q0
    gi_loopw [27] (fun t wq => ∃ k : Nat, k ≤ 2 ∧ t = .int .i64 k ∧ Own wq base (some ⟨gA, 0, none⟩) cap (zeY N v i k (fAll N v i m)) ∧ W.grownBy wq (some gA)) (fun t _ => 2 - (RowKit.intOf t).toNat)
    case atStart => exact ⟨0, by omega, rfl, a3, hg⟩
    case round =>
     clear a3 hg
     obtain ⟨k, hk, rfl, a3, hg⟩ := hrel
     have q0 := h1.stay hg (by intro e; injection e with e; have := HG.out; omega)
     obtain ⟨x0, x1, x2, fx⟩ := zaa q0
     have hk3 : k = 0 ∨ k = 1 ∨ k = 2 := by omega
     rcases hk3 with rfl | rfl | rfl
     ·have b0 : Hid (zeY N v i 1 (fAll N v i m) = zcM N i (2 * v) (zeY N v i 0 (fAll N v i m))) := hid rfl
      have b1 := hid (show (zeY N v i 0 (fAll N v i m)).length = m.length by rw [zgG, zcS])
      generalize hcur : zeY N v i 0 (fAll N v i m) = cur at *
      obtain ⟨j, hj⟩ : ∃ j : Nat, j = (2 * v) := ⟨_, rfl⟩
      have c0 : 2 * (v : Int) = (j : Int) := by rw [hj]; simp
      have b2 : j < N := by have := HN.out; have := HV.out; omega
      rw [← hj] at b0
      have HJ := hid hj
      have ix := fun W => znQ (.int .i64 (2 * (v : Int))) (.int .i64 (2 * (v : Int) + 1)) W
      rw [c0] at ix
      clear hj hcur
      by_cases hij : i = j
      ·have t1 : ((i : Int) != (j : Int)) = false := by rw [hij]; simp
       have HE : Hid (zcM N i j cur = cur) := hid (by unfold zcM; rw [if_pos hij])
       clear hij x0 x1 x2 fx q0
       gi_wp2
       go_roundw
       case rel => exact ⟨1, by omega, by go_num, by rw [b0.out, HE.out]; exact a3, hg⟩
       case measure => decide
      ·have t1 : ((i : Int) != (j : Int)) = true := by simp; omega
       have HE : Hid (zcM N i j cur = (cur.set (i * N + j) 9223372036854775807).set (j * N + i) 9223372036854775807) := hid (by unfold zcM; rw [if_neg hij])
       have b5 := zfo hlt b2
       have b3 := zfo b2 hlt
       rw [← HL.out, ← b1.out] at b5 b3
       obtain ⟨r1, a7⟩ : ∃ r, r = i * N := ⟨_, rfl⟩
       obtain ⟨r2, a5⟩ : ∃ r, r = j * N := ⟨_, rfl⟩
       have hm1 : 2 * n * (i : Int) = (r1 : Int) := by rw [a7, ← HN.out, Int.natCast_mul, Int.mul_comm]
       have hm2 : 2 * n * (j : Int) = (r2 : Int) := by rw [a5, ← HN.out, Int.natCast_mul, Int.mul_comm]
       have hb1 : r1 ≤ 16384 := by rw [a7]; exact Nat.le_trans (Nat.mul_le_mul (Nat.le_of_lt hlt) (Nat.le_refl N)) (Nat.mul_le_mul hn hn)
       have hb2 : r2 ≤ 16384 := by rw [a5]; exact Nat.le_trans (Nat.mul_le_mul (Nat.le_of_lt b2) (Nat.le_refl N)) (Nat.mul_le_mul hn hn)
       have hs1 : (r1 : Int) + (j : Int) = ((i * N + j : Nat) : Int) := by rw [a7]; simp
       have hs2 : (r2 : Int) + (i : Int) = ((j * N + i : Nat) : Int) := by rw [a5]; simp
       clear a7 a5 hij
       generalize i * N + j = a1 at *
       generalize j * N + i = a2 at *
       have hI1 : (a1 : Int) < (m.length : Int) := by have := b1.out; omega
       have hI2 : (a2 : Int) < (m.length : Int) := by have := b1.out; omega
       have HP1 := hid (show (0 : Int) ≤ (a1 : Int) by omega)
       obtain ⟨_, _, eA, _, c1⟩ := a3.rd a1 b5
       injection eA with eA; injection eA with eA1 eA2; subst eA1; subst eA2
       rw [Nat.zero_add] at c1
       have fr1 := a3.frozen a1
       obtain ⟨w5, a6⟩ : ∃ w5, w5 = wr.drew.setCell ⟨gA, a1, none⟩ (.int .i64 9223372036854775807) := ⟨_, rfl⟩
       have a4 : Own w5 base (some ⟨gA, 0, none⟩) cap (cur.set a1 9223372036854775807) := by rw [a6]; exact (a3.below (Below.refl _ _).drew).store a1 _
       have a9 : W.grownBy w5 (some gA) := by rw [a6]; exact (hg.trans (zar (Below.refl _ _).drew _)).trans (zal _ _ _)
       have q5 := h1.stay a9 (by intro e; injection e with e; have := HG.out; omega)
       have f0 : ∀ X, AnyB (SW wr.drew w5) X → X.cell? ⟨w.heap.size, 0, none⟩ = some (.int .i64 n) := fun X h => by rcases SW.any h with rfl | rfl; exact x0; exact q5.cell 0
       have f2 : ∀ X, AnyB (SW wr.drew w5) X → X.cell? ⟨w.heap.size, 2, none⟩ = some (.slice (some ⟨gA, 0, none⟩) m.length cap) := fun X h => by rcases SW.any h with rfl | rfl; exact x2; exact q5.cell 2
       have b4 := hid a6
       clear a6 x0 x1 x2 fx q0 q5
       gi_wp2
       refine zb2 (ro := some l) 20 19 (SW wr.drew w5) (by kernel_rfl) (by kernel_rfl) (by kernel_rfl) (by decide) rfl ?_
       (repeat (first | (refine zaZ.skip (by rfl) (by rfl) ?_; simp only [Act.put, List.setIfInBounds_toArray, List.set_cons_zero, List.set_cons_succ]) | (refine' zaZ.take _ (by rfl) (by rfl) (fun W hW R hR => ?_) ?_; rotate_left; (go_simp; (try go_bits); with_reducible exact hR); simp only [Act.put, List.setIfInBounds_toArray, List.set_cons_zero, List.set_cons_succ])))
       refine zaZ.mark (by rfl) (by rfl) (by rfl) (fun X hX R hR => ?_) ?_
       ·obtain rfl : X = wr.drew := hX
        have c1d : wr.drew.cell? ⟨gA, a1, none⟩ = some (.int .i64 (gI cur (a1 : Int))) := c1
        have fr1d : wr.drew.frozen? ⟨gA, a1, none⟩ = false := fr1
        go_simp
        exact hR _ b4.out.symm
       intro X hX
       obtain rfl : X = w5 := hX
       have hp2' : a2 < (cur.set a1 9223372036854775807).length := by simpa using b3
       obtain ⟨_, _, eA, _, c2⟩ := a4.rd a2 hp2'
       injection eA with eA; injection eA with eA1 eA2; subst eA1; subst eA2
       rw [Nat.zero_add] at c2
       have fr2 := a4.frozen a2
       have b8 := hid (a4.store a2 9223372036854775807)
       have c3 := hid (a9.trans (zal X ⟨gA, a2, none⟩ (.int .i64 9223372036854775807)))
       have HP2 := hid (show (0 : Int) ≤ (a2 : Int) by omega)
       clear f0 f2 c1 fr1 hp2' a4 a9 b4 a3 hg
       gi_wp2
       go_roundw
       case rel => exact ⟨1, by omega, by go_num, by rw [b0.out, HE.out]; exact b8.out, c3.out⟩
       case measure => decide
     ·have b0 : Hid (zeY N v i 2 (fAll N v i m) = zcM N i (2 * v + 1) (zeY N v i 1 (fAll N v i m))) := hid rfl
      have b1 := hid (show (zeY N v i 1 (fAll N v i m)).length = m.length by rw [zgG, zcS])
      generalize hcur : zeY N v i 1 (fAll N v i m) = cur at *
      obtain ⟨j, hj⟩ : ∃ j : Nat, j = (2 * v + 1) := ⟨_, rfl⟩
      have c0 : 2 * (v : Int) + 1 = (j : Int) := by rw [hj]; simp
      have b2 : j < N := by have := HN.out; have := HV.out; omega
      rw [← hj] at b0
      have HJ := hid hj
      have ix := fun W => znA (.int .i64 (2 * (v : Int))) (.int .i64 (2 * (v : Int) + 1)) W
      rw [c0] at ix
      clear hj hcur
      by_cases hij : i = j
      ·have t1 : ((i : Int) != (j : Int)) = false := by rw [hij]; simp
       have HE : Hid (zcM N i j cur = cur) := hid (by unfold zcM; rw [if_pos hij])
       clear hij x0 x1 x2 fx q0
       gi_wp2
       go_roundw
       case rel => exact ⟨2, by omega, by go_num, by rw [b0.out, HE.out]; exact a3, hg⟩
       case measure => decide
      ·have t1 : ((i : Int) != (j : Int)) = true := by simp; omega
       have HE : Hid (zcM N i j cur = (cur.set (i * N + j) 9223372036854775807).set (j * N + i) 9223372036854775807) := hid (by unfold zcM; rw [if_neg hij])
       have b5 := zfo hlt b2
       have b3 := zfo b2 hlt
       rw [← HL.out, ← b1.out] at b5 b3
       obtain ⟨r1, a7⟩ : ∃ r, r = i * N := ⟨_, rfl⟩
       obtain ⟨r2, a5⟩ : ∃ r, r = j * N := ⟨_, rfl⟩
       have hm1 : 2 * n * (i : Int) = (r1 : Int) := by rw [a7, ← HN.out, Int.natCast_mul, Int.mul_comm]
       have hm2 : 2 * n * (j : Int) = (r2 : Int) := by rw [a5, ← HN.out, Int.natCast_mul, Int.mul_comm]
       have hb1 : r1 ≤ 16384 := by rw [a7]; exact Nat.le_trans (Nat.mul_le_mul (Nat.le_of_lt hlt) (Nat.le_refl N)) (Nat.mul_le_mul hn hn)
       have hb2 : r2 ≤ 16384 := by rw [a5]; exact Nat.le_trans (Nat.mul_le_mul (Nat.le_of_lt b2) (Nat.le_refl N)) (Nat.mul_le_mul hn hn)
       have hs1 : (r1 : Int) + (j : Int) = ((i * N + j : Nat) : Int) := by rw [a7]; simp
       have hs2 : (r2 : Int) + (i : Int) = ((j * N + i : Nat) : Int) := by rw [a5]; simp
       clear a7 a5 hij
       generalize i * N + j = a1 at *
       generalize j * N + i = a2 at *
       have hI1 : (a1 : Int) < (m.length : Int) := by have := b1.out; omega
       have hI2 : (a2 : Int) < (m.length : Int) := by have := b1.out; omega
       have HP1 := hid (show (0 : Int) ≤ (a1 : Int) by omega)
       obtain ⟨_, _, eA, _, c1⟩ := a3.rd a1 b5
       injection eA with eA; injection eA with eA1 eA2; subst eA1; subst eA2
       rw [Nat.zero_add] at c1
       have fr1 := a3.frozen a1
       obtain ⟨w5, a6⟩ : ∃ w5, w5 = wr.drew.setCell ⟨gA, a1, none⟩ (.int .i64 9223372036854775807) := ⟨_, rfl⟩
       have a4 : Own w5 base (some ⟨gA, 0, none⟩) cap (cur.set a1 9223372036854775807) := by rw [a6]; exact (a3.below (Below.refl _ _).drew).store a1 _
       have a9 : W.grownBy w5 (some gA) := by rw [a6]; exact (hg.trans (zar (Below.refl _ _).drew _)).trans (zal _ _ _)
       have q5 := h1.stay a9 (by intro e; injection e with e; have := HG.out; omega)
       have f0 : ∀ X, AnyB (SW wr.drew w5) X → X.cell? ⟨w.heap.size, 0, none⟩ = some (.int .i64 n) := fun X h => by rcases SW.any h with rfl | rfl; exact x0; exact q5.cell 0
       have f2 : ∀ X, AnyB (SW wr.drew w5) X → X.cell? ⟨w.heap.size, 2, none⟩ = some (.slice (some ⟨gA, 0, none⟩) m.length cap) := fun X h => by rcases SW.any h with rfl | rfl; exact x2; exact q5.cell 2
       have b4 := hid a6
       clear a6 x0 x1 x2 fx q0 q5
       gi_wp2
       refine zb2 (ro := some l) 20 19 (SW wr.drew w5) (by kernel_rfl) (by kernel_rfl) (by kernel_rfl) (by decide) rfl ?_
       (repeat (first | (refine zaZ.skip (by rfl) (by rfl) ?_; simp only [Act.put, List.setIfInBounds_toArray, List.set_cons_zero, List.set_cons_succ]) | (refine' zaZ.take _ (by rfl) (by rfl) (fun W hW R hR => ?_) ?_; rotate_left; (go_simp; (try go_bits); with_reducible exact hR); simp only [Act.put, List.setIfInBounds_toArray, List.set_cons_zero, List.set_cons_succ])))
       refine zaZ.mark (by rfl) (by rfl) (by rfl) (fun X hX R hR => ?_) ?_
       ·obtain rfl : X = wr.drew := hX
        have c1d : wr.drew.cell? ⟨gA, a1, none⟩ = some (.int .i64 (gI cur (a1 : Int))) := c1
        have fr1d : wr.drew.frozen? ⟨gA, a1, none⟩ = false := fr1
        go_simp
        exact hR _ b4.out.symm
       intro X hX
       obtain rfl : X = w5 := hX
       have hp2' : a2 < (cur.set a1 9223372036854775807).length := by simpa using b3
       obtain ⟨_, _, eA, _, c2⟩ := a4.rd a2 hp2'
       injection eA with eA; injection eA with eA1 eA2; subst eA1; subst eA2
       rw [Nat.zero_add] at c2
       have fr2 := a4.frozen a2
       have b8 := hid (a4.store a2 9223372036854775807)
       have c3 := hid (a9.trans (zal X ⟨gA, a2, none⟩ (.int .i64 9223372036854775807)))
       have HP2 := hid (show (0 : Int) ≤ (a2 : Int) by omega)
       clear f0 f2 c1 fr1 hp2' a4 a9 b4 a3 hg
       gi_wp2
       go_roundw
       case rel => exact ⟨2, by omega, by go_num, by rw [b0.out, HE.out]; exact b8.out, c3.out⟩
       case measure => decide
     ·replace a3 : Own wr base (some ⟨gA, 0, none⟩) cap (fAll N v (i + 1) m) := a3
      clear x0 x1 x2 fx q0
      gi_wp2
      go_roundw
      case rel => exact ⟨i + 1, by omega, by go_num, a3, hg⟩
      case measure => simp [RowKit.intOf]; omega
   ·obtain rfl : i = N := by omega
    have hge : ¬ ((i : Int) < 2 * n) := by have := HN.out; omega
    gi_wp2
    clear x0 x1 x2 fx
    have hb9 : Below base W wr := zat hg (fun k e => by injection e with e; have := HG.out; omega) (Nat.le_trans hbase a8.size)
    refine ⟨KeepsFrom.of_grownBy hg (fun j e => by injection e with e; have := HG.out; omega), KeepsWalks.of_grownBy hg (fun j o e ho => ?_), ⟨⟨q0, ?_, ?_⟩, Nat.le_trans HSW.out hg.size⟩, a8.trans hb9⟩
    ·injection e with e
     subst e
     exact zjQ h2 ho
    ·show Own wr base (some ⟨gA, 0, none⟩) cap (forgetM i v m)
     rw [← HFA.out]; exact a3
    ·exact h30.stay hg (by intro e; injection e with e; have := HG.out; omega)
 case done =>
  rintro D xs W hD hxs ⟨⟨⟨h1, h2, h3⟩, h7⟩, a8⟩ hK
  obtain rfl := b7.out
  replace h2 : Own W base (some ⟨gA, 0, none⟩) cap (forgetM N v m) := by rw [if_neg (by omega)] at h2; exact h2
  have hne := zak h2 h3 (by decide)
  obtain ⟨x0, x1, x2, fx⟩ := zaa h1
  have y0 := zaa h3
  dsimp only
  gi_wp2
  clear x0 x1 x2 fx y0
  have hle := Nat.le_trans hbase a8.size
  have o7 := h2.far3 (g := w.heap.size + 1) (v0 := .int .i64 n) (v1 := .bool false) (v2 := .slice (some ⟨gA, 0, none⟩) m.length cap) hne
  have p3 := h3.set3 (v0 := .int .i64 n) (v1 := .bool false) (v2 := .slice (some ⟨gA, 0, none⟩) m.length cap)
  have hb3 := a8.trans (zae (W := W) (g := w.heap.size + 1) (v0 := .int .i64 n) (v1 := .bool false) (v2 := .slice (some ⟨gA, 0, none⟩) m.length cap) (by omega) hle)
  have hK3 := zpl (g := w.heap.size + 1) (v0 := .int .i64 n) (v1 := .bool false) (v2 := .slice (some ⟨gA, 0, none⟩) m.length cap) hK rfl
  clear hK hne
  generalize ((W.setCell ⟨w.heap.size + 1, 0, none⟩ (.int .i64 n)).setCell ⟨w.heap.size + 1, 1, none⟩ (.bool false)).setCell ⟨w.heap.size + 1, 2, none⟩ (.slice (some ⟨gA, 0, none⟩) m.length cap) = W3 at *
  have hKg := grownBy_putObj' W3 D (.deferred none)
  have p4 := zgf p3 hKg (fun r e => by cases e; exact ⟨_, hK3, rfl⟩)
  have o4 := zis o7 hKg (fun r e => by cases e; exact ⟨_, hK3, rfl⟩)
  have hb4 : Below base w _ := hb3.trans (zat hKg (fun k e => by injection e with e; omega) (Nat.le_trans hbase hb3.size))
  obtain ⟨z0, z1, z2, fz⟩ := zaa p4
  refine ⟨by simp, .inl ⟨_, _, rfl, run_takeDeferred hK3, ?_⟩⟩
  refine ⟨.agg #[n, false, .slice (some ⟨gA, 0, none⟩) m.length cap], by simp [results, Tryz.results227, go_sem, z0, z1, z2], rfl, o4, hb4⟩
 case stop =>
  rintro D c pre W _ _ h _
  exact h.elim
end
end Go.Proofs.YtnmpgijiimglcaaGreat
