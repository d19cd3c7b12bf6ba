/-
  Small laws for what is learnt: scripts in memory; errors of scripts; rows of octagons that no run has come to.
  One step of learning, in memory.
  gnomonref10.Fuel: the error of a script and a number of steps.
-/
import Derived.Test.YtkncebcekhfnfaaGreatBWL27
import Derived.Test.YtkncebcekhfnfaaGreatRComes
import Derived.Test.YtkncebcekhfnfaaGreatBWL22
namespace Go.Proofs.YtkncebcekhfnfaaGreat
open Go.RowKit
section
attribute [local go_sem ↓] Go.wp_at_zero Go.wp_at_succ

/-- Scripts, with room for each. -/
def RdRC (w : World) (B : Nat) (A : Option Addr) (ls : List (List Int)) : Prop :=
  ∀ k, (h : k < ls.length) → ∃ b off Ak ck, A = some ⟨b, off, none⟩ ∧ b < B ∧ w.cell? ⟨b, off + k, none⟩ = some (.slice Ak ls[k].length ck) ∧ Rd w B Ak ls[k] ∧ ls[k].length ≤ ck
theorem RdRC.below {w w' : World} {B : Nat} {A : Option Addr} {ls : List (List Int)} (h : RdRC w B A ls) (hb : Below B w w') : RdRC w' B A ls := fun k hk => by
  obtain ⟨b, off, Ak, ck, h1, h2, h3, h4, h5⟩ := h k hk
  exact ⟨b, off, Ak, ck, h1, h2, (hb.cell (p := ⟨b, _, none⟩) h2).trans h3, h4.below hb, h5⟩
theorem RdRC.up {w w' : World} {A : Option Addr} {ls : List (List Int)} (h : RdRC w w.heap.size A ls) (hb : Below w.heap.size w w') : RdRC w' w'.heap.size A ls := fun k hk => by
  obtain ⟨b, off, Ak, ck, h1, h2, h3, h4, h5⟩ := h.below hb k hk
  exact ⟨b, off, Ak, ck, h1, Nat.lt_of_lt_of_le h2 hb.size, h3, h4.more hb.size, h5⟩
/-- The error of the first scripts. -/
theorem fuels_take (k : Int) : ∀ (ss : List (List Int)) (i : Nat) (hi : i < ss.length), fuelsE k (ss.take i) = 0 → fuelsE k (ss.take (i + 1)) = fuelE ss[i].length k
  | s :: ss, 0, _, _ => by
    show (if fuelE s.length k ≠ 0 then fuelE s.length k else fuelsE k []) = fuelE s.length k
    by_cases h : fuelE s.length k = 0
    · rw [if_neg (by simp [h]), h]; rfl
    · rw [if_pos h]
  | s :: ss, i + 1, hi, h => by
    have h' : (if fuelE s.length k ≠ 0 then fuelE s.length k else fuelsE k (ss.take i)) = 0 := h
    show (if fuelE s.length k ≠ 0 then fuelE s.length k else fuelsE k (ss.take (i + 1))) = _
    by_cases h1 : fuelE s.length k = 0
    · rw [if_neg (by simp [h1])] at h' ⊢
      exact fuels_take k ss i (by simpa using hi) h'
    · rw [if_pos h1] at h'
      exact absurd h' h1
theorem fuels_stop (k : Int) : ∀ (ss : List (List Int)) (i : Nat), fuelsE k (ss.take i) ≠ 0 → fuelsE k ss = fuelsE k (ss.take i)
  | [], i, h => by rw [List.take_nil]
  | s :: ss, 0, h => absurd rfl h
  | s :: ss, i + 1, h => by
    have h' : (if fuelE s.length k ≠ 0 then fuelE s.length k else fuelsE k (ss.take i)) ≠ 0 := h
    show (if fuelE s.length k ≠ 0 then fuelE s.length k else fuelsE k ss) = (if fuelE s.length k ≠ 0 then fuelE s.length k else fuelsE k (ss.take i))
    by_cases h1 : fuelE s.length k = 0
    · rw [if_neg (by simp [h1])] at h' ⊢
      rw [if_neg (by simp [h1])]
      exact fuels_stop k ss i h'
    · rw [if_pos h1, if_pos h1]
theorem fuels_each (k : Int) : ∀ (ss : List (List Int)), fuelsE k ss = 0 → ∀ s ∈ ss, fuelE s.length k = 0
  | [], _, s, h => absurd h (by simp)
  | a :: ss, h, s, hs => by
    have h' : (if fuelE a.length k ≠ 0 then fuelE a.length k else fuelsE k ss) = 0 := h
    by_cases h1 : fuelE a.length k = 0
    · rw [if_neg (by simp [h1])] at h'
      rcases List.mem_cons.1 hs with rfl | hs
      · exact h1
      · exact fuels_each k ss h' s hs
    · rw [if_pos h1] at h'
      exact absurd h' h1
/-- What stands between is as it was. -/
theorem OwnC.kept {w w' : World} {base cap : Nat} {A : Option Addr} {zs : List Cm} (h : OwnC w base A cap zs) (hk : ∀ k, base ≤ k → k < w.heap.size → w'.heap[k]? = w.heap[k]?) : OwnC w' base A cap zs := by
  have row : ∀ {e : TypeId} {size n : Nat} {v : Value} {xs : List Value}, w.ownsRow base e size v n xs → w'.ownsRow base e size v n xs := fun {e size n v xs} h => by
    refine ⟨h.1, ?_⟩
    rcases h.2 with h1 | ⟨g, cap', cur, h1, h2, h3, h4⟩
    · exact .inl h1
    · exact .inr ⟨g, cap', cur, h1, h2, (hk g h2 (Array.getElem?_eq_some_iff.1 h3).1).trans h3, h4⟩
  exact ⟨row h.row, fun z hz => row (h.own z hz), h.le⟩
/-- An octagon that is one of a graph's points', or has none of them yet. -/
def GoodO (d : Nat) (o : O) : Prop := o.n = (d : Int) ∧ (o.e = false → o.m.length = 2 * d * (2 * d)) ∧ o.m.length ≤ 16384
theorem GoodO.more {d : Nat} (hd : d ≤ 64) {o : O} (h : GoodO d o) (x : List Int) : GoodO d (moreO o d x) := by
  obtain ⟨h1, h2, h3⟩ := h
  have hq : 2 * d * (2 * d) ≤ 128 * 128 := Nat.mul_le_mul (by omega) (by omega)
  unfold moreO
  split
  · refine ⟨rfl, fun _ => ?_, ?_⟩
    · unfold onePt ptC; simp
    · unfold onePt ptC; simp; omega
  · refine ⟨h1, fun e => ?_, ?_⟩
    · show (maxM o.m (onePt d x).m).length = _
      unfold maxM; simp; exact h2 e
    · show (maxM o.m (onePt d x).m).length ≤ _
      unfold maxM; simp; exact h3
theorem ApartZ.snocNone {zs : List Z} (h : ApartZ zs) {o : O} {c : Nat} : ApartZ (zs ++ [(o, none, c)]) := fun i j hi hj hne g e => by
  rw [List.length_append, List.length_singleton] at hi hj
  by_cases ci : i < zs.length
  · rw [List.getElem_append_left ci] at e
    by_cases cj : j < zs.length
    · rw [List.getElem_append_left cj]
      exact h i j ci cj hne g e
    · obtain rfl : j = zs.length := by omega
      rw [List.getElem_append_right (Nat.le_refl _)]
      simp
  · obtain rfl : i = zs.length := by omega
    rw [List.getElem_append_right (Nat.le_refl _)] at e
    simp at e
set_option maxHeartbeats 2000000 in
theorem rall_some (g : Gr) (V D E : Option Addr) (cv cd ce : Nat) (w : World) :
    Calls Tryz.prog 21 #[grV g V D E cv cd ce] w fun e w' => ∃ v : Int, e = .returned (.int .i64 v) ∧ Below w.heap.size w w' := by
  unfold grV
  go_enter Tryz.func21, Tryz.ntmps21
  go_wp2
  go_ret
  exact ⟨_, rfl, new1 _ _⟩
end
section

/-- What Learn answers. -/
def LearnRes (g : Gr) (ss : List (List Int)) (k : Int) (w : World) (e : Ending) (w' : World) : Prop :=
  ∃ A c zs, e = .returned (.tuple #[.slice A zs.length c, .int .i64 (learnE g ss k)]) ∧ zs.map (fun (z : Z) => z.1) = (if learnE g ss k = 0 then learnO g k ss else []) ∧ RowZ w' A zs ∧ zs.length ≤ 4096 ∧ Below w.heap.size w w'
theorem RowZ.nil (w : World) : RowZ w none [] := ⟨fun k hk => absurd hk (by simp), fun k hk => absurd hk (by simp), fun k hk => absurd hk (by simp)⟩
/-- What holds of the octagons that are learnt. -/
structure LnM (W : World) (base d : Nat) (A : Option Addr) (c : Nat) (zs : List Z) (os : List O) : Prop where
  own : OwnZ W base A c zs
  ap : ApartZ zs
  eq : zs.map (fun (z : Z) => z.1) = os
  ok : ∀ z ∈ zs, GoodO d z.1
theorem LnM.below {W W' : World} {base d c : Nat} {A : Option Addr} {zs : List Z} {os : List O} (h : LnM W base d A c zs os) (hb : Below W.heap.size W W') : LnM W' base d A c zs os := ⟨h.own.below hb, h.ap, h.eq, h.ok⟩

/-- The same, beside rows that stand in between. -/
structure LnX (wC : World) (baseC hC : Nat) (W : World) (base d : Nat) (A : Option Addr) (c : Nat) (zs : List Z) (os : List O) : Prop where
  ln : LnM W base d A c zs os
  kept : ∀ q, baseC ≤ q → q < hC → W.heap[q]? = wC.heap[q]?
  out : ∀ z ∈ zs, ∀ g, z.2.1 = some ⟨g, 0, none⟩ → g < baseC ∨ hC ≤ g
  row : ∀ g, A = some ⟨g, 0, none⟩ → g < baseC
  size : hC ≤ W.heap.size
/-- An octagon put into the row, as worlds. -/
abbrev putW (w : World) (gR p : Nat) (z : Z) : World := ((w.setCell ⟨gR, p * 3, none⟩ (.int .i64 z.1.n)).setCell ⟨gR, p * 3 + 1, none⟩ (.bool z.1.e)).setCell ⟨gR, p * 3 + 2, none⟩ (.slice z.2.1 z.1.m.length z.2.2)
theorem put_grown (w : World) (gR p : Nat) (z : Z) : w.grownBy (putW w gR p z) (some gR) := ((grown_setCell w ⟨gR, p * 3, none⟩ _).trans (grown_setCell _ ⟨gR, p * 3 + 1, none⟩ _)).trans (grown_setCell _ ⟨gR, p * 3 + 2, none⟩ _)
section
variable {wC W W2 : World} {baseC hC base d c gR p : Nat} {zs : List Z} {os : List O} {q : O}
theorem LnX.up {A : Option Addr} (h : LnX wC baseC hC W base d A c zs os) (hb : Below W.heap.size W W2) : LnX wC baseC hC W2 base d A c zs os :=
  ⟨h.ln.below hb, fun q h1 h2 => (hb.block q (Nat.lt_of_lt_of_le h2 h.size)).trans (h.kept q h1 h2), h.out, h.row, Nat.le_trans h.size hb.size⟩
theorem LnX.step1 (h : LnX wC baseC hC W base d (some ⟨gR, 0, none⟩) c zs os) (hp : p < zs.length) (hb : Below W.heap.size W W2) {A' : Option Addr} {c' : Nat} (hq : Own W2 W.heap.size A' c' q.m) (hbase : base ≤ W.heap.size) (hok : GoodO d q) :
    LnX wC baseC hC (putW W2 gR p (q, A', c')) base d (some ⟨gR, 0, none⟩) c (zs.set p (q, A', c')) (os.set p q) := by
  have h2 := h.up hb
  have hgr := put_grown W2 gR p (q, A', c')
  have hrow := h.row gR rfl
  refine ⟨⟨h2.ln.own.put hp (hq.less hbase) (by have := hok.2.2; show q.m.length ≤ _; omega), h2.ln.ap.put hp fun g hg j hj hne e => ?_, ?_, fun z hz => ?_⟩, fun k h3 h4 => ?_, fun z hz g hg => ?_, h.row, Nat.le_trans h2.size hgr.size⟩
  · have hj2 := (h.ln.own.own _ (List.getElem_mem hj)).form
    rcases hq.form with ⟨e1, _⟩ | ⟨g1, e1, h5, _⟩
    · have hg : A' = some ⟨g, 0, none⟩ := hg
      rw [e1] at hg; cases hg
    · have hg : A' = some ⟨g, 0, none⟩ := hg
      rw [e1] at hg; injection hg with hg; injection hg with hg
      rcases hj2 with ⟨e2, _⟩ | ⟨g2, e2, _, h6⟩
      · rw [e2] at e; cases e
      · rw [e2] at e; injection e with e; injection e with e; omega
  · rw [List.map_set, h2.ln.eq]
  · rcases List.mem_or_eq_of_mem_set hz with hz | hz
    · exact h.ln.ok z hz
    · subst hz; exact hok
  · exact (hgr.block k (Nat.lt_of_lt_of_le h4 h2.size) (fun e => by injection e with e; omega)).trans (h2.kept k h3 h4)
  · rcases List.mem_or_eq_of_mem_set hz with hz | hz
    · exact h.out z hz g hg
    · subst hz
      right
      rcases hq.form with ⟨e1, _⟩ | ⟨g1, e1, h5, _⟩
      · have hg : A' = some ⟨g, 0, none⟩ := hg
        rw [e1] at hg; cases hg
      · have hg : A' = some ⟨g, 0, none⟩ := hg
        rw [e1] at hg; injection hg with hg; injection hg with hg
        have := h.size; omega
theorem LnX.grow {A : Option Addr} (h : LnX wC baseC hC W base d A c zs os) (hp : p < zs.length) (hgr : W.grownBy W2 (blkOf zs[p].2.1)) (hq : Own W2 base zs[p].2.1 zs[p].2.2 q.m) (hn : q.n = zs[p].1.n) (he : q.e = zs[p].1.e) (hl : q.m.length = zs[p].1.m.length) (hok : GoodO d q) :
    LnX wC baseC hC W2 base d A c (zs.set p (q, zs[p].2)) (os.set p q) := by
  have hqe : (⟨zs[p].1.n, zs[p].1.e, q.m⟩ : O) = q := by rw [← hn, ← he]
  have hown : OwnZ W2 base A c (zs.set p (q, zs[p].2)) ∧ ∀ k, baseC ≤ k → k < hC → W2.heap[k]? = wC.heap[k]? := by
    rcases (h.ln.own.own _ (List.getElem_mem hp)).form with ⟨e1, e2, _⟩ | ⟨g, e1, h5, h6⟩
    · have hgr' : W.grownBy W2 none := by rw [e1] at hgr; exact hgr
      have hz : zs.set p (q, zs[p].2) = zs := by
        have : (q, zs[p].2) = zs[p] := by
          refine Prod.ext ?_ rfl
          rw [← hqe]
          have : q.m = zs[p].1.m := by
            rw [e2] at hl ⊢
            exact List.eq_nil_of_length_eq_zero hl
          rw [this]
        rw [this, List.set_getElem_self]
      rw [hz]
      have hb : Below W.heap.size W W2 := ⟨hgr'.os, hgr'.tape, hgr'.output, hgr'.size, fun k hk => hgr'.block k hk (by simp)⟩
      exact ⟨h.ln.own.below hb, (h.up hb).kept⟩
    · have hgr' : W.grownBy W2 (some g) := by rw [e1] at hgr; exact hgr
      have h7 := h.ln.own.grow h.ln.ap hp e1 hgr' hl hq
      rw [hqe] at h7
      refine ⟨h7, fun k h3 h4 => ?_⟩
      rcases h.out _ (List.getElem_mem hp) g e1 with h8 | h8
      · exact (hgr'.block k (Nat.lt_of_lt_of_le h4 h.size) (fun e => by injection e with e; omega)).trans (h.kept k h3 h4)
      · exact (hgr'.block k (Nat.lt_of_lt_of_le h4 h.size) (fun e => by injection e with e; omega)).trans (h.kept k h3 h4)
  refine ⟨⟨hown.1, h.ln.ap.grow hp, ?_, fun z hz => ?_⟩, hown.2, fun z hz g hg => ?_, h.row, Nat.le_trans h.size hgr.size⟩
  · rw [List.map_set, h.ln.eq]
  · rcases List.mem_or_eq_of_mem_set hz with hz | hz
    · exact h.ln.ok z hz
    · subst hz; exact hok
  · rcases List.mem_or_eq_of_mem_set hz with hz | hz
    · exact h.out z hz g hg
    · subst hz
      exact h.out _ (List.getElem_mem hp) g hg
theorem LnX.step2 (h : LnX wC baseC hC W base d (some ⟨gR, 0, none⟩) c zs os) (hp : p < zs.length) (hgr : W.grownBy W2 (blkOf zs[p].2.1)) (hq : Own W2 base zs[p].2.1 zs[p].2.2 q.m) (hn : q.n = zs[p].1.n) (he : q.e = zs[p].1.e) (hl : q.m.length = zs[p].1.m.length) (hok : GoodO d q) :
    LnX wC baseC hC (putW W2 gR p (q, zs[p].2)) base d (some ⟨gR, 0, none⟩) c (zs.set p (q, zs[p].2)) (os.set p q) := by
  have h2 := h.grow hp hgr hq hn he hl hok
  have hg3 := put_grown W2 gR p (q, zs[p].2)
  have hrow := h.row gR rfl
  have h3 := h2.ln.own.put (p := p) (z := (q, zs[p].2)) (by rw [List.length_set]; exact hp) hq (by have := hok.2.2; show q.m.length ≤ _; omega)
  rw [List.set_set] at h3
  refine ⟨⟨h3, h2.ln.ap, h2.ln.eq, h2.ln.ok⟩, fun k h4 h5 => ?_, h2.out, h.row, Nat.le_trans h2.size hg3.size⟩
  exact (hg3.block k (Nat.lt_of_lt_of_le h5 h2.size) (fun e => by injection e with e; omega)).trans (h2.kept k h4 h5)
end
/-- What holds of the octagons while a run is under way whose own blocks lie in [b0, b1). -/
structure LnP (b0 b1 : Nat) (W : World) (base d : Nat) (A : Option Addr) (c : Nat) (zs : List Z) (os : List O) : Prop where
  ln : LnM W base d A c zs os
  out : ∀ z ∈ zs, ∀ g, z.2.1 = some ⟨g, 0, none⟩ → g < b0 ∨ b1 ≤ g
  row : ∀ g, A = some ⟨g, 0, none⟩ → g < b0
theorem LnP.toX {b0 b1 base d c : Nat} {W : World} {A : Option Addr} {zs : List Z} {os : List O} (h : LnP b0 b1 W base d A c zs os) (hs : b1 ≤ W.heap.size) : LnX W b0 b1 W base d A c zs os := ⟨h.ln, fun _ _ _ => rfl, h.out, h.row, hs⟩
theorem LnX.toP {wC W : World} {b0 b1 base d c : Nat} {A : Option Addr} {zs : List Z} {os : List O} (h : LnX wC b0 b1 W base d A c zs os) : LnP b0 b1 W base d A c zs os := ⟨h.ln, h.out, h.row⟩
theorem LnP.off {b0 b1 base d c : Nat} {W W' : World} {A : Option Addr} {zs : List Z} {os : List O} (h : LnP b0 b1 W base d A c zs os) (hO : Off b0 b1 W W') : LnP b0 b1 W' base d A c zs os := by
  have blk : ∀ g, g < W.heap.size → (g < b0 ∨ b1 ≤ g) → W'.heap[g]? = W.heap[g]? := fun g hg hq => by
    rcases hq with hq | hq
    · exact hO.low.block g hq
    · exact hO.high g hq hg
  have row : ∀ {e : TypeId} {size n : Nat} {v : Value} {xs : List Value}, W.ownsRow base e size v n xs → (∀ g, v.ownBlock = some g → g < b0 ∨ b1 ≤ g) → W'.ownsRow base e size v n xs := fun {e size n v xs} ho hv => by
    refine ⟨ho.1, ?_⟩
    rcases ho.2 with h1 | ⟨g, cap, cur, h1, h2, h3, h4⟩
    · exact .inl h1
    · exact .inr ⟨g, cap, cur, h1, h2, (blk g (Array.getElem?_eq_some_iff.1 h3).1 (hv g (by rw [h1]; rfl))).trans h3, h4⟩
  refine ⟨⟨⟨row h.ln.own.row fun g hg => ?_, fun z hz => row (h.ln.own.own z hz) fun g hg => ?_, h.ln.own.le⟩, h.ln.ap, h.ln.eq, h.ln.ok⟩, h.out, h.row⟩
  · rcases h.ln.own.form with ⟨e, _⟩ | ⟨g', _, e, _⟩
    · rw [e] at hg; simp [Value.ownBlock] at hg
    · rw [e] at hg; simp [Value.ownBlock] at hg; subst hg; exact .inl (h.row _ e)
  · rcases (h.ln.own.own z hz).form with ⟨e, _⟩ | ⟨g', e, _⟩
    · rw [e] at hg; simp [Value.ownBlock] at hg
    · rw [e] at hg; simp [Value.ownBlock] at hg; subst hg; exact h.out z hz _ e
end
section
attribute [local go_sem ↓] Go.wp_at_zero Go.wp_at_succ

set_option maxRecDepth 8000 in
set_option maxHeartbeats 4000000 in
theorem rfuel_ok (S : Option Addr) (l sc : Nat) (k : Int) (w : World) :
    Calls Tryz.prog 31 #[.slice S l sc, .int .i64 k] w fun e w' => e = .returned (.int .i64 (fuelE l k)) ∧ w' = w := by
  obtain ⟨fe, HFE⟩ : ∃ fe, Hid (fuelE l k = fe) := ⟨_, hid rfl⟩
  rw [HFE.out]
  by_cases q1 : k < 0
  · have HF : Hid (fe = 80) := hid (by rw [← HFE.out]; unfold fuelE; rw [if_pos (.inl q1)])
    go_enter Tryz.func31, Tryz.ntmps31
    go_wp2
    go_ret
    exact ⟨ret64 (by rw [HF.out]), rfl⟩
  by_cases q2 : 65536 < k
  · have HF : Hid (fe = 80) := hid (by rw [← HFE.out]; unfold fuelE; rw [if_pos (.inr (.inl q2))])
    go_enter Tryz.func31, Tryz.ntmps31
    go_wp2
    go_ret
    exact ⟨ret64 (by rw [HF.out]), rfl⟩
  by_cases q3 : 65536 < (l : Int)
  · have HF : Hid (fe = 80) := hid (by rw [← HFE.out]; unfold fuelE; rw [if_pos (.inr (.inr q3))])
    go_enter Tryz.func31, Tryz.ntmps31
    go_wp2
    go_ret
    exact ⟨ret64 (by rw [HF.out]), rfl⟩
  · have HF : Hid (fe = 0) := hid (by rw [← HFE.out]; unfold fuelE; rw [if_neg (by omega)])
    go_enter Tryz.func31, Tryz.ntmps31
    go_wp2
    go_ret
    exact ⟨ret64 (by rw [HF.out]), rfl⟩
end
end Go.Proofs.YtkncebcekhfnfaaGreat
