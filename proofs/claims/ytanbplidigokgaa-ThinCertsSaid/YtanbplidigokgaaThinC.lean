/-
  Rows of octagons as lists; gnomonhelp.Octs at two rows of the same octagons.
  cert.Check, gnomonref19.Check: what they answer.
  thin.Cert, gnomonref28.Cert: what they answer.
  gnomonref28.Cert where the certificate may be.
  gnomonlaw28.ThinCerts.
-/
import Derived.Test.YtanbplidigokgaaLawTE
import Derived.Test.YtanbplidigokgaaLawWR
namespace Go.Proofs.Ytanbplidigokgaa
section
open Go.RowKit
attribute [local go_sem ↓] Go.wp_at_zero Go.wp_at_succ

/-- An octagon, and where its cells lie. -/
abbrev Z := O × Option Addr × Nat
def o3 (z : Z) : List Value := [.int .i64 z.1.n, .bool z.1.e, .slice z.2.1 z.1.m.length z.2.2]
structure RowZ (w : World) (A : Option Addr) (zs : List Z) : Prop where
  at_ : ∀ k (h : k < zs.length), ∃ b off, A = some ⟨b, off, none⟩ ∧ b < w.heap.size ∧ w.cell? ⟨b, off + k * 3, none⟩ = some (.int .i64 zs[k].1.n) ∧ w.cell? ⟨b, off + k * 3 + 1, none⟩ = some (.bool zs[k].1.e) ∧ w.cell? ⟨b, off + k * 3 + 2, none⟩ = some (.slice zs[k].2.1 zs[k].1.m.length zs[k].2.2)
  rd : ∀ k (h : k < zs.length), Rd w w.heap.size zs[k].2.1 zs[k].1.m
  le : ∀ k (h : k < zs.length), zs[k].1.m.length ≤ 17592186044416
theorem RowZ.up {w w' : World} {A : Option Addr} {zs : List Z} (h : RowZ w A zs) (hb : Below w.heap.size w w') : RowZ w' A zs :=
  ⟨fun k hk => by
    obtain ⟨b, off, h1, h2, h3, h4, h5⟩ := h.at_ k hk
    exact ⟨b, off, h1, Nat.lt_of_lt_of_le h2 hb.size, (hb.cell (p := ⟨b, _, none⟩) h2).trans h3, (hb.cell (p := ⟨b, _, none⟩) h2).trans h4, (hb.cell (p := ⟨b, _, none⟩) h2).trans h5⟩, fun k hk => (h.rd k hk).up hb, h.le⟩
theorem RowZ.of_rd {w : World} {A : Option Addr} {len : Nat} (h : RowRd w A len) : ∃ zs : List Z, zs.length = len ∧ RowZ w A zs := by
  have h' : ∀ k : Fin len, ∃ z : Z, (∃ b off, A = some ⟨b, off, none⟩ ∧ b < w.heap.size ∧ w.cell? ⟨b, off + k.1 * 3, none⟩ = some (.int .i64 z.1.n) ∧ w.cell? ⟨b, off + k.1 * 3 + 1, none⟩ = some (.bool z.1.e) ∧ w.cell? ⟨b, off + k.1 * 3 + 2, none⟩ = some (.slice z.2.1 z.1.m.length z.2.2)) ∧ Rd w w.heap.size z.2.1 z.1.m ∧ z.1.m.length ≤ 17592186044416 := fun k => by
    obtain ⟨b, off, n, e, A', c', m, h1, h2, h3, h4, h5, h6, h7, _⟩ := h k.1 k.2
    exact ⟨(⟨n, e, m⟩, A', c'), ⟨b, off, h1, h2, h3, h4, h5⟩, h6, h7⟩
  obtain ⟨f, hf⟩ := Classical.axiomOfChoice h'
  refine ⟨List.ofFn f, by simp, ⟨fun k hk => ?_, fun k hk => ?_, fun k hk => ?_⟩⟩
  all_goals
    have hk' : k < len := by simpa using hk
    simp only [List.getElem_ofFn]
  · exact (hf ⟨k, hk'⟩).1
  · exact (hf ⟨k, hk'⟩).2.1
  · exact (hf ⟨k, hk'⟩).2.2

set_option maxHeartbeats 2000000 in
theorem octs_same (zs ys : List Z) (A A' : Option Addr) (c c' : Nat) (w : World) (hx : RowZ w A zs) (hy : RowZ w A' ys) (he : zs.map (·.1) = ys.map (·.1)) (hm : zs.length ≤ 1000000) :
    Calls Try.prog 33 #[.slice A zs.length c, .slice A' ys.length c'] w (SomeB true w) := by
  have hl : zs.length = ys.length := by have := congrArg List.length he; simpa using this
  have HL := hid hl
  have tl : ((zs.length : Int) != (ys.length : Int)) = false := by rw [bne_eq_false_iff_eq]; omega
  have HE := hid he
  clear hl he
  go_enter Try.func33, Try.ntmps33
  go_wp2
  go_loopw [5] (fun i wr => ∃ k : Nat, k ≤ zs.length ∧ i = .int .i64 k ∧ Below w.heap.size w wr) (fun i _ => zs.length - (intOf i).toNat)
  case atStart => exact ⟨0, by omega, rfl, Below.refl _ _⟩
  case round =>
    obtain ⟨k, hk, rfl, hb⟩ := hrel
    by_cases hlt : k < zs.length
    · have hlt' : k < ys.length := by have := HL.out; omega
      have hi0 : (0 : Int) ≤ (k : Int) := by omega
      have hi1 : (k : Int) < (zs.length : Int) := by omega
      have hi2 : (k : Int) < (ys.length : Int) := by omega
      obtain ⟨b1, o1, rfl, hB1, c10, c11, c12⟩ := (hx.up hb).at_ k hlt
      obtain ⟨b2, o2, rfl, hB2, c20, c21, c22⟩ := (hy.up hb).at_ k hlt'
      have r1 := (hx.up hb).rd k hlt
      have r2 := (hy.up hb).rd k hlt'
      have q1 := hx.le k hlt
      have hzy : zs[k].1 = ys[k].1 := by
        have := congrArg (fun l => l[k]?) HE.out
        simpa [hlt, hlt'] using this
      generalize zs[k] = z at *
      generalize ys[k] = y at *
      obtain ⟨z, A1, c1⟩ := z
      obtain ⟨y, A2, c2⟩ := y
      dsimp only at *
      subst hzy
      have f10 := later c10
      have f11 := later c11
      have f12 := later c12
      have f20 := later c20
      have f21 := later c21
      have f22 := later c22
      clear c10 c11 c12 c20 c21 c22
      go_upto_region 6 with fail
      refine wp_region_flow 8 (fun W => Below wr.heap.size wr W) (by kernel_rfl) (by kernel_rfl) (Below.refl _ _).drew ?_
      (repeat (first | (refine Flow.skip (by rfl) ?_; simp only [Act.put, List.setIfInBounds_toArray, List.set_cons_zero, List.set_cons_succ]) | (refine' Flow.take _ (by rfl) (fun W hW R hR => ?_) ?_; rotate_left; (go_simp; (try go_bits); with_reducible exact hR); simp only [Act.put, List.setIfInBounds_toArray, List.set_cons_zero, List.set_cons_succ])))
      intro w4 hb4
      clear f10 f11 f12 f20 f21 f22
      have HO := hid (oct_any z z A1 A2 c1 c2 w4 (r1.up hb4) (r2.up hb4) q1)
      rw [eqO_same] at HO
      go_wp2_with fail
      refine HO.out.mono ?_
      clear HO
      rintro e5 w5 ⟨rfl, hb5⟩
      go_wp2
      go_roundw
      case rel => exact ⟨k + 1, by omega, by go_num, bup (bup hb hb4) hb5⟩
      case measure => simp [intOf]; omega
    · obtain rfl : k = zs.length := by omega
      go_wp2
      go_ret
      exact ⟨rfl, hb⟩
end

section
open Go.RowKit
attribute [local go_sem ↓] Go.wp_at_zero Go.wp_at_succ

def zOk (n : Int) (z : Z) : Bool := decide (z.1.n = n) && decide (check z.1 = 0)
def headOk (n : Int) (L : Nat) : Bool := decide (0 ≤ n) && (decide (n ≤ 64) && (decide (1 ≤ L) && (decide (L ≤ 4096) && decide (4 * n * n * (L : Int) ≤ 4194304))))
def certErr (n : Int) (zs : List Z) : Int := if headOk n zs.length && zs.all (zOk n) then 0 else 190
theorem certErr_head {n : Int} {zs : List Z} (h : headOk n zs.length = false) : certErr n zs = 190 := by unfold certErr; rw [h]; simp
theorem certErr_bad {n : Int} {zs : List Z} {k : Nat} (hk : k < zs.length) (h : zOk n zs[k] = false) : certErr n zs = 190 := by
  unfold certErr
  have : zs.all (zOk n) = false := by
    rw [List.all_eq_false]
    exact ⟨zs[k], List.getElem_mem hk, by simp [h]⟩
  rw [this]; simp
theorem certErr_ok {n : Int} {zs : List Z} (h : headOk n zs.length = true) (h2 : zs.all (zOk n) = true) : certErr n zs = 0 := by unfold certErr; rw [h, h2]; rfl
theorem zOk_check {n : Int} {z : Z} (h : zOk n z = true) : z.1.n = n ∧ check z.1 = 0 := by unfold zOk at h; simpa using h

theorem right_any (n : Int) (w : World) : Calls Try.prog 93 #[.int .i64 n] w fun e w' => e = .returned (.bool (decide (0 ≤ n) && decide (n ≤ 64))) ∧ w = w' := by
  cases t1 : decide (0 ≤ n)
  · go_enter Try.func93, Try.ntmps93
    go_wp2
    go_ret
    exact ⟨rfl, rfl⟩
  · cases t2 : decide (n ≤ 64)
    · go_enter Try.func93, Try.ntmps93
      go_wp2
      go_ret
      exact ⟨rfl, rfl⟩
    · go_enter Try.func93, Try.ntmps93
      go_wp2
      go_ret
      exact ⟨rfl, rfl⟩
theorem few19_any (n : Int) (L : Nat) (w : World) (h0 : 0 ≤ 4 * n * n) (h1 : 4 * n * n ≤ 16384) (hn : 0 ≤ n) (hn' : n ≤ 64) (h2 : 0 ≤ 4 * n * n * (L : Int)) (h3 : 4 * n * n * (L : Int) ≤ 67108864) :
    Calls Try.prog 94 #[.int .i64 n, .int .i64 (L : Int)] w fun e w' => e = .returned (.bool (decide (4 * n * n * (L : Int) ≤ 4194304))) ∧ w = w' := by
  go_enter Try.func94, Try.ntmps94
  go_wp2
  go_ret
  exact ⟨by simp, rfl⟩
def ErrRes (w : World) (er : Int) (e : Ending) (w' : World) : Prop := e = .returned (.int .i64 er) ∧ Below w.heap.size w w'
theorem quad {n : Int} (h : 0 ≤ n) (h' : n ≤ 64) : 0 ≤ 4 * n * n ∧ 4 * n * n ≤ 16384 := by
  have a : n * n ≤ 64 * 64 := Int.mul_le_mul h' h' h (by omega)
  have b : 0 ≤ n * n := Int.mul_nonneg h h
  rw [Int.mul_assoc]; omega
theorem quad2 {n : Int} {L : Nat} (h : 0 ≤ n) (h' : n ≤ 64) (hL : L ≤ 4096) : 0 ≤ 4 * n * n * (L : Int) ∧ 4 * n * n * (L : Int) ≤ 67108864 := by
  obtain ⟨a, b⟩ := quad h h'
  have c : 4 * n * n * (L : Int) ≤ 16384 * 4096 := Int.mul_le_mul b (by omega) (by omega) (by omega)
  have d : 0 ≤ 4 * n * n * (L : Int) := Int.mul_nonneg a (by omega)
  omega

set_option maxRecDepth 8000 in
set_option maxHeartbeats 4000000 in
theorem ccheck_head (d : Value) (n : Int) (L c : Nat) (A : Option Addr) (w : World) (h : headOk n L = false) :
    Calls Try.prog 75 #[.agg #[d, .int .i64 n, .slice A L c]] w (ErrRes w 190) := by
  have hb0 := new1 w (Obj.cells #[d, .int .i64 n, .slice A L c] 60)
  have p0 := Blk.new w 60 #[d, .int .i64 n, .slice A L c]
  have x1 := p0.cell 1
  have x2 := p0.cell 2
  have hL0 : (0 : Int) ≤ (L : Int) := by omega
  have HR := hid (right_any n (w.alloc (Obj.cells #[d, .int .i64 n, .slice A L c] 60)))
  unfold headOk at h
  cases t1 : decide (0 ≤ n) && decide (n ≤ 64)
  · rw [t1] at HR
    clear h
    go_enter Try.func75, Try.ntmps75
    go_wp2_with fail
    refine HR.out.mono ?_
    rintro e1 w1 ⟨rfl, rfl⟩
    go_wp2
    go_ret
    exact ⟨rfl, hb0⟩
  · rw [t1] at HR
    have hnn : 0 ≤ n ∧ n ≤ 64 := by simpa using t1
    rw [decide_eq_true hnn.1, decide_eq_true hnn.2, Bool.true_and, Bool.true_and] at h
    cases t2 : decide ((L : Int) < 1)
    rotate_left
    · clear h
      go_enter Try.func75, Try.ntmps75
      go_wp2_with fail
      refine HR.out.mono ?_
      rintro e1 w1 ⟨rfl, rfl⟩
      go_wp2
      go_ret
      exact ⟨rfl, hb0⟩
    have h1L : 1 ≤ L := by have := of_decide_eq_false t2; omega
    rw [decide_eq_true h1L, Bool.true_and] at h
    cases t3 : decide (4096 < (L : Int))
    rotate_left
    · clear h
      go_enter Try.func75, Try.ntmps75
      go_wp2_with fail
      refine HR.out.mono ?_
      rintro e1 w1 ⟨rfl, rfl⟩
      go_wp2
      go_ret
      exact ⟨rfl, hb0⟩
    have hL4 : L ≤ 4096 := by have := of_decide_eq_false t3; omega
    rw [decide_eq_true hL4, Bool.true_and] at h
    obtain ⟨a1, a2⟩ := quad hnn.1 hnn.2
    obtain ⟨a3, a4⟩ := quad2 (L := L) hnn.1 hnn.2 hL4
    obtain ⟨b1, b2⟩ := hnn
    have t4 : decide (4194304 < 4 * n * n * (L : Int)) = true := by rw [decide_eq_true_iff]; have := of_decide_eq_false h; omega
    clear h
    go_enter Try.func75, Try.ntmps75
    go_wp2_with fail
    refine HR.out.mono ?_
    rintro e1 w1 ⟨rfl, rfl⟩
    go_wp2
    go_ret
    exact ⟨rfl, hb0⟩

theorem all_succ {n : Int} {zs : List Z} {k : Nat} (hk : k < zs.length) (h : (zs.take k).all (zOk n) = true) (h2 : zOk n zs[k] = true) : (zs.take (k + 1)).all (zOk n) = true := by
  rw [List.take_succ_eq_append_getElem hk, List.all_append, h]; simpa using h2
theorem head_parts {n : Int} {L : Nat} (h : headOk n L = true) : 0 ≤ n ∧ n ≤ 64 ∧ 1 ≤ L ∧ L ≤ 4096 ∧ 4 * n * n * (L : Int) ≤ 4194304 := by unfold headOk at h; simpa using h

set_option maxRecDepth 8000 in
set_option maxHeartbeats 4000000 in
theorem ccheck_loop (d : Value) (n : Int) (zs : List Z) (c : Nat) (A : Option Addr) (w : World) (hz : RowZ w A zs) (h : headOk n zs.length = true) :
    Calls Try.prog 75 #[.agg #[d, .int .i64 n, .slice A zs.length c]] w (ErrRes w (certErr n zs)) := by
  have hb0 := new1 w (Obj.cells #[d, .int .i64 n, .slice A zs.length c] 60)
  have p0 := Blk.new w 60 #[d, .int .i64 n, .slice A zs.length c]
  have x1 := p0.cell 1
  have x2 := p0.cell 2
  have HH := hid h
  obtain ⟨b1, b2, b3, b4, b5⟩ := head_parts h
  clear h
  have hL0 : (0 : Int) ≤ (zs.length : Int) := by omega
  have HR := hid (right_any n (w.alloc (Obj.cells #[d, .int .i64 n, .slice A zs.length c] 60)))
  rw [decide_eq_true b1, decide_eq_true b2] at HR
  have t2 : decide ((zs.length : Int) < 1) = false := by rw [decide_eq_false_iff_not]; omega
  have t3 : decide (4096 < (zs.length : Int)) = false := by rw [decide_eq_false_iff_not]; omega
  have t4 : decide (4194304 < 4 * n * n * (zs.length : Int)) = false := by rw [decide_eq_false_iff_not]; omega
  obtain ⟨a1, a2⟩ := quad b1 b2
  obtain ⟨a3, a4⟩ := quad2 (L := zs.length) b1 b2 b4
  go_enter Try.func75, Try.ntmps75
  go_wp2_with fail
  refine HR.out.mono ?_
  rintro e1 w1 ⟨rfl, rfl⟩
  go_wp2
  clear x1 x2
  replace hz := hz.up hb0
  generalize w.alloc (Obj.cells #[d, .int .i64 n, .slice A zs.length c] 60) = w0 at *
  go_loopw [37] (fun i wr => ∃ k : Nat, k ≤ zs.length ∧ i = .int .i64 k ∧ Hid ((zs.take k).all (zOk n) = true) ∧ Below w0.heap.size w0 wr) (fun i _ => zs.length - (intOf i).toNat)
  case atStart => exact ⟨0, by omega, rfl, hid rfl, Below.refl _ _⟩
  case round =>
    obtain ⟨k, hk, rfl, hall, hb⟩ := hrel
    by_cases hlt : k < zs.length
    · have hi0 : (0 : Int) ≤ (k : Int) := by omega
      have hi1 : (k : Int) < (zs.length : Int) := by omega
      obtain ⟨b, off, rfl, hB, c0, c1, c2⟩ := (hz.up hb).at_ k hlt
      have rz := (hz.up hb).rd k hlt
      have lz := hz.le k hlt
      have HBAD : Hid (zOk n zs[k] = false → certErr n zs = 190) := hid (certErr_bad hlt)
      have HSUC : Hid (zOk n zs[k] = true → (zs.take (k + 1)).all (zOk n) = true) := hid (all_succ hlt hall.out)
      have HZ : Hid (zOk n zs[k] = (decide (zs[k].1.n = n) && decide (check zs[k].1 = 0))) := hid rfl
      generalize zs[k] = z at *
      obtain ⟨z, A1, c1'⟩ := z
      dsimp only at *
      have q1 := (p0.later hb).cell 1
      have nz := new1 wr (Obj.cells #[.int .i64 z.n, .bool z.e, .slice A1 z.m.length c1'] 24)
      have kz := Blk.new wr 24 #[.int .i64 z.n, .bool z.e, .slice A1 z.m.length c1']
      have q1' := cell_later nz q1
      obtain ⟨y0, y1, y2, fy⟩ := octbox kz
      cases tn : (z.n != n)
      rotate_left
      · have e : certErr n zs = 190 := HBAD.out (by rw [HZ.out, decide_eq_false (by simpa using tn)]; rfl)
        clear HBAD HSUC HZ
        rw [e]
        go_wp2
        go_ret
        exact ⟨rfl, bup (bup hb0 hb) nz⟩
      · have hzn : z.n = n := by simpa using tn
        have HZN := hid hzn
        clear hzn
        have HC := hid (check_any z A1 c1' _ (rz.up nz) (by omega))
        go_wp2_with fail
        refine HC.out.mono ?_
        clear HC y0 y1 y2 fy q1 q1' c0 c1 c2
        rintro e3 w3 ⟨rfl, hb3⟩
        have HCZ : Hid (zOk n (z, A1, c1') = (check z == 0)) := hid (by rw [HZ.out, decide_eq_true HZN.out]; cases h : decide (check z = 0) <;> simp_all)
        generalize check z = er at *
        cases te : (er != 0)
        · have hs := HSUC.out (by rw [HCZ.out]; simpa using te)
          have HS := hid hs
          clear hs
          go_wp2
          go_roundw
          case rel => exact ⟨k + 1, by omega, by go_num, HS.out, bup (bup hb nz) hb3⟩
          case measure => simp [intOf]; omega
        · have e : certErr n zs = 190 := HBAD.out (by rw [HCZ.out]; simpa using te)
          have HE := hid e
          clear e
          go_wp2
          go_ret
          exact ⟨by rw [HE.out]; rfl, bup (bup (bup hb0 hb) nz) hb3⟩
    · obtain rfl : k = zs.length := by omega
      have e : certErr n zs = 0 := certErr_ok HH.out (by have := hall.out; rwa [List.take_length] at this)
      have HE := hid e
      clear e
      go_wp2
      go_ret
      exact ⟨by rw [HE.out]; rfl, bup hb0 hb⟩
theorem ccheck_any (d : Value) (n : Int) (zs : List Z) (c : Nat) (A : Option Addr) (w : World) (hz : RowZ w A zs) :
    Calls Try.prog 75 #[.agg #[d, .int .i64 n, .slice A zs.length c]] w (ErrRes w (certErr n zs)) := by
  cases h : headOk n zs.length
  · rw [certErr_head h]; exact ccheck_head d n zs.length c A w h
  · exact ccheck_loop d n zs c A w hz h

set_option maxRecDepth 8000 in
set_option maxHeartbeats 4000000 in
theorem r19_head (d : Value) (n : Int) (L c : Nat) (A : Option Addr) (w : World) (h : headOk n L = false) :
    Calls Try.prog 76 #[.agg #[d, .int .i64 n, .slice A L c]] w (ErrRes w 190) := by
  have hb0 := new1 w (Obj.cells #[d, .int .i64 n, .slice A L c] 60)
  have p0 := Blk.new w 60 #[d, .int .i64 n, .slice A L c]
  have x1 := p0.cell 1
  have x2 := p0.cell 2
  have hL0 : (0 : Int) ≤ (L : Int) := by omega
  unfold headOk at h
  cases t1 : decide (n < 0)
  rotate_left
  · clear h
    go_enter Try.func76, Try.ntmps76
    go_wp2
    go_ret
    exact ⟨rfl, hb0⟩
  cases t2 : decide (64 < n)
  rotate_left
  · clear h
    go_enter Try.func76, Try.ntmps76
    go_wp2
    go_ret
    exact ⟨rfl, hb0⟩
  have b1 : 0 ≤ n := by have := of_decide_eq_false t1; omega
  have b2 : n ≤ 64 := by have := of_decide_eq_false t2; omega
  rw [decide_eq_true b1, decide_eq_true b2, Bool.true_and, Bool.true_and] at h
  cases t3 : decide ((L : Int) < 1)
  rotate_left
  · clear h
    go_enter Try.func76, Try.ntmps76
    go_wp2
    go_ret
    exact ⟨rfl, hb0⟩
  have h1L : 1 ≤ L := by have := of_decide_eq_false t3; omega
  rw [decide_eq_true h1L, Bool.true_and] at h
  cases t4 : decide (4096 < (L : Int))
  rotate_left
  · clear h
    go_enter Try.func76, Try.ntmps76
    go_wp2
    go_ret
    exact ⟨rfl, hb0⟩
  have hL4 : L ≤ 4096 := by have := of_decide_eq_false t4; omega
  rw [decide_eq_true hL4, Bool.true_and] at h
  obtain ⟨a1, a2⟩ := quad b1 b2
  obtain ⟨a3, a4⟩ := quad2 (L := L) b1 b2 hL4
  have HF := hid (few19_any n L (w.alloc (Obj.cells #[d, .int .i64 n, .slice A L c] 60)) a1 a2 b1 b2 a3 a4)
  rw [h] at HF
  clear h
  go_enter Try.func76, Try.ntmps76
  go_wp2_with fail
  refine HF.out.mono ?_
  rintro e1 w1 ⟨rfl, rfl⟩
  go_wp2
  go_ret
  exact ⟨rfl, hb0⟩

set_option maxRecDepth 8000 in
set_option maxHeartbeats 4000000 in
theorem r19_loop (d : Value) (n : Int) (zs : List Z) (c : Nat) (A : Option Addr) (w : World) (hz : RowZ w A zs) (h : headOk n zs.length = true) :
    Calls Try.prog 76 #[.agg #[d, .int .i64 n, .slice A zs.length c]] w (ErrRes w (certErr n zs)) := by
  have hb0 := new1 w (Obj.cells #[d, .int .i64 n, .slice A zs.length c] 60)
  have p0 := Blk.new w 60 #[d, .int .i64 n, .slice A zs.length c]
  have x1 := p0.cell 1
  have x2 := p0.cell 2
  have HH := hid h
  obtain ⟨b1, b2, b3, b4, b5⟩ := head_parts h
  clear h
  have hL0 : (0 : Int) ≤ (zs.length : Int) := by omega
  have t1 : decide (n < 0) = false := by rw [decide_eq_false_iff_not]; omega
  have t1' : decide (64 < n) = false := by rw [decide_eq_false_iff_not]; omega
  have t2 : decide ((zs.length : Int) < 1) = false := by rw [decide_eq_false_iff_not]; omega
  have t3 : decide (4096 < (zs.length : Int)) = false := by rw [decide_eq_false_iff_not]; omega
  obtain ⟨a1, a2⟩ := quad b1 b2
  obtain ⟨a3, a4⟩ := quad2 (L := zs.length) b1 b2 b4
  have HF := hid (few19_any n zs.length (w.alloc (Obj.cells #[d, .int .i64 n, .slice A zs.length c] 60)) a1 a2 b1 b2 a3 a4)
  rw [decide_eq_true b5] at HF
  go_enter Try.func76, Try.ntmps76
  go_wp2_with fail
  refine HF.out.mono ?_
  rintro e1 w1 ⟨rfl, rfl⟩
  go_wp2
  clear x1 x2 HF
  replace hz := hz.up hb0
  generalize w.alloc (Obj.cells #[d, .int .i64 n, .slice A zs.length c] 60) = w0 at *
  go_loopw [3] (fun i wr => ∃ k : Nat, k ≤ zs.length ∧ i = .int .i64 k ∧ Hid ((zs.take k).all (zOk n) = true) ∧ Below w0.heap.size w0 wr) (fun i _ => zs.length - (intOf i).toNat)
  case atStart => exact ⟨0, by omega, rfl, hid rfl, Below.refl _ _⟩
  case round =>
    obtain ⟨k, hk, rfl, hall, hb⟩ := hrel
    have x2 := (p0.later hb).cell 2
    by_cases hlt : k < zs.length
    · have hi0 : (0 : Int) ≤ (k : Int) := by omega
      have hi1 : (k : Int) < (zs.length : Int) := by omega
      obtain ⟨b, off, rfl, hB, c0, c1, c2⟩ := (hz.up hb).at_ k hlt
      have rz := (hz.up hb).rd k hlt
      have lz := hz.le k hlt
      have HBAD : Hid (zOk n zs[k] = false → certErr n zs = 190) := hid (certErr_bad hlt)
      have HSUC : Hid (zOk n zs[k] = true → (zs.take (k + 1)).all (zOk n) = true) := hid (all_succ hlt hall.out)
      have HZ : Hid (zOk n zs[k] = (decide (zs[k].1.n = n) && decide (check zs[k].1 = 0))) := hid rfl
      generalize zs[k] = z at *
      obtain ⟨z, A1, c1'⟩ := z
      dsimp only at *
      have x1 := (p0.later hb).cell 1
      go_upto_region 6 with fail
      have f1 := later x1
      have f2 := later x2
      have g0 := later c0
      have g1 := later c1
      have g2 := later c2
      clear x1 x2 c0 c1 c2
      cases tn : (z.n != n)
      rotate_left
      · have e : certErr n zs = 190 := HBAD.out (by rw [HZ.out, decide_eq_false (by simpa using tn)]; rfl)
        have HE := hid e
        clear HBAD HSUC HZ e
        refine wp_region_flow 13 (fun W => Below wr.heap.size wr W) (by kernel_rfl) (by kernel_rfl) (Below.refl _ _).drew ?_
        (repeat (first | (refine Flow.skip (by rfl) ?_; simp only [Act.put, List.setIfInBounds_toArray, List.set_cons_zero, List.set_cons_succ]) | (refine' Flow.take _ (by rfl) (fun W hW R hR => ?_) ?_; rotate_left; (go_simp; (try go_bits); with_reducible exact hR); simp only [Act.put, List.setIfInBounds_toArray, List.set_cons_zero, List.set_cons_succ])))
        intro w4 hb4
        go_wp2
        go_ret
        exact ⟨by rw [HE.out]; rfl, bup (bup hb0 hb) hb4⟩
      · have hzn : z.n = n := by simpa using tn
        have HZN := hid hzn
        clear hzn
        refine wp_region_flow 13 (fun W => Below wr.heap.size wr W) (by kernel_rfl) (by kernel_rfl) (Below.refl _ _).drew ?_
        (repeat (first | (refine Flow.skip (by rfl) ?_; simp only [Act.put, List.setIfInBounds_toArray, List.set_cons_zero, List.set_cons_succ]) | (refine' Flow.take _ (by rfl) (fun W hW R hR => ?_) ?_; rotate_left; (go_simp; (try go_bits); with_reducible exact hR); simp only [Act.put, List.setIfInBounds_toArray, List.set_cons_zero, List.set_cons_succ])))
        intro w4 hb4
        have x0' := g0 w4 hb4
        have x1' := g1 w4 hb4
        have x2' := g2 w4 hb4
        have HC := hid (rcheck_any z A1 c1' w4 (rz.up hb4) (by omega))
        clear f1 f2 g0 g1 g2
        go_wp2_with fail
        refine HC.out.mono ?_
        clear HC x0' x1' x2'
        rintro e3 w3 ⟨rfl, hb3⟩
        have HCZ : Hid (zOk n (z, A1, c1') = (check z == 0)) := hid (by rw [HZ.out, decide_eq_true HZN.out]; cases h : decide (check z = 0) <;> simp_all)
        generalize check z = er at *
        cases te : (er != 0)
        · have hs := HSUC.out (by rw [HCZ.out]; simpa using te)
          have HS := hid hs
          clear hs
          go_wp2
          go_roundw
          case rel => exact ⟨k + 1, by omega, by go_num, HS.out, bup (bup hb hb4) hb3⟩
          case measure => simp [intOf]; omega
        · have e : certErr n zs = 190 := HBAD.out (by rw [HCZ.out]; simpa using te)
          have HE := hid e
          clear e
          go_wp2
          go_ret
          exact ⟨by rw [HE.out]; rfl, bup (bup (bup hb0 hb) hb4) hb3⟩
    · obtain rfl : k = zs.length := by omega
      have e : certErr n zs = 0 := certErr_ok HH.out (by have := hall.out; rwa [List.take_length] at this)
      have HE := hid e
      clear e
      go_wp2
      go_ret
      exact ⟨by rw [HE.out]; rfl, bup hb0 hb⟩
theorem r19_any (d : Value) (n : Int) (zs : List Z) (c : Nat) (A : Option Addr) (w : World) (hz : RowZ w A zs) :
    Calls Try.prog 76 #[.agg #[d, .int .i64 n, .slice A zs.length c]] w (ErrRes w (certErr n zs)) := by
  cases h : headOk n zs.length
  · rw [certErr_head h]; exact r19_head d n zs.length c A w h
  · exact r19_loop d n zs c A w hz h
end

section
open Go.RowKit
attribute [local go_sem ↓] Go.wp_at_zero Go.wp_at_succ

theorem oct_info : (Try.prog.info? 24).map (fun i => (i.zero, i.size, i.bytes)) = some (some (.agg #[.int .i64 0, .bool false, .slice none 0 0]), 3, 40) := by kernel_rfl
/-- A row of octagons of the call's own, each with cells of its own. -/
structure OwnZ (w : World) (base : Nat) (A : Option Addr) (cap : Nat) (zs : List Z) : Prop where
  row : w.ownsRow base 24 3 (.slice A zs.length cap) zs.length (zs.flatMap o3)
  own : ∀ z ∈ zs, Own w base z.2.1 z.2.2 z.1.m
  le : ∀ z ∈ zs, z.1.m.length ≤ 17592186044416
section
variable {w w' : World} {base cap : Nat} {A : Option Addr} {zs : List Z}
theorem OwnZ.nil (w : World) (base : Nat) : OwnZ w base none 0 [] := ⟨World.ownsRow_nil _ _ _ _, fun _ h => absurd h (by simp), fun _ h => absurd h (by simp)⟩
theorem OwnZ.below (h : OwnZ w base A cap zs) (hb : Below w.heap.size w w') : OwnZ w' base A cap zs :=
  ⟨World.ownsRow.kept h.row (grown_of_below hb none) (by cases h' : (Value.slice A zs.length cap).ownBlock <;> simp), fun z hz => (h.own z hz).below hb, h.le⟩
theorem OwnZ.form (h : OwnZ w base A cap zs) : (A = none ∧ zs = [] ∧ cap = 0) ∨ ∃ g cs, A = some ⟨g, 0, none⟩ ∧ base ≤ g ∧ g < w.heap.size ∧ w.heap[g]? = some (.cells cs 24 (0, 0)) := by
  rcases h.row.2 with ⟨h1, h0⟩ | ⟨g, cap', cur, h1, hb, hg, _⟩
  · injection h1 with h1 _ h3
    exact .inl ⟨h1, List.eq_nil_of_length_eq_zero h0, h3⟩
  · injection h1 with h1
    exact .inr ⟨g, cur, h1, hb, (Array.getElem?_eq_some_iff.1 hg).1, hg⟩
theorem OwnZ.setFar (h : OwnZ w base A cap zs) {p : Addr} (hp : p.block < base) (u : Value) : OwnZ (w.setCell p u) base A cap zs :=
  ⟨World.ownsRow.kept h.row (grown_setCell w p u) (by
    rcases h.form with ⟨rfl, _⟩ | ⟨g, cs, rfl, h1, _⟩
    · exact .inl rfl
    · exact .inr (fun e => by simp [Value.ownBlock] at e; omega)), fun z hz => (h.own z hz).setFar hp u, h.le⟩
theorem OwnZ.rows (h : OwnZ w base A cap zs) : RowZ w A zs := by
  refine ⟨fun k hk => ?_, fun k hk => (h.own _ (List.getElem_mem hk)).rd, fun k hk => h.le _ (List.getElem_mem hk)⟩
  rcases h.form with ⟨_, rfl, _⟩ | ⟨g, cs, rfl, h1, h2, _⟩
  · simp at hk
  · have e := fun r (hr : r < 3) => (World.ownsRow.cellAt (w := w) (xs := zs.flatMap o3) h.row (k * 3 + r) (by omega)).trans (fm3_get o3 (fun _ => rfl) zs k r hk hr)
    refine ⟨g, 0, rfl, h2, ?_, ?_, ?_⟩
    · rw [Nat.zero_add]; exact e 0 (by omega)
    · rw [Nat.zero_add]; exact e 1 (by omega)
    · rw [Nat.zero_add]; exact e 2 (by omega)
end
theorem run_append_oct (w : World) (base : Nat) (ty : TypeId) (A : Option Addr) (c : Nat) (zs : List Z) (z : Z) (h : OwnZ w base A c zs) (g : Nat)
    (hk : Blk w g 24 (o3 z).toArray) (hz : Own w base z.2.1 z.2.2 z.1.m) (hzl : z.1.m.length ≤ 17592186044416) (hl : zs.length + 1 ≤ 1000000) (hbase : base ≤ w.heap.size) :
    ∃ A' c' w', (Builtin.append_ #[37, 37] ty #[.slice A zs.length c, .slice (some ⟨g, 0, none⟩) 1 1]).run Try.prog w = .ok (.slice A' (zs ++ [z]).length c') w' ∧ OwnZ w' base A' c' (zs ++ [z]) ∧ w.grownBy w' (Value.slice A zs.length c).ownBlock := by
  obtain ⟨i0, hi, hz0, hz1, hz2⟩ := info_parts oct_info
  obtain ⟨v', w', hrun, h2, h3, _, h5⟩ := run_append_own_at (P := Try.prog) w base 37 ty _ i0 _ 3 40 Try.underlying37 hi hz0 hz1 hz2 rfl (by omega) _ zs.length (zs.flatMap o3) h.row ⟨g, 0, none⟩ 1 1 (o3 z) rfl
    (fun j u hu => by rw [add_mk, Nat.zero_add, hk.cell j]; simpa using hu) (fun u hu => by simp [o3] at hu; rcases hu with rfl | rfl | rfl <;> rfl) (by unfold maxLen; omega) (by omega) hbase
  have hl2 : (zs ++ [z]).length = zs.length + 1 := by simp
  have hf2 : (zs ++ [z]).flatMap o3 = zs.flatMap o3 ++ o3 z := by simp
  have keep : ∀ y : Z, Own w base y.2.1 y.2.2 y.1.m → Own w' base y.2.1 y.2.2 y.1.m := fun y hy => by
    refine hy.grown h3 ?_
    rcases h.form with ⟨rfl, _⟩ | ⟨gr, cs, rfl, _, _, hgr⟩
    · cases h' : (Value.slice y.2.1 y.1.m.length y.2.2).ownBlock <;> simp [Value.ownBlock]
    · rcases hy.form with ⟨e, _⟩ | ⟨gy, e, _⟩
      · rw [e]; exact .inl rfl
      · rw [e]
        rw [e] at hy
        exact .inr (fun e' => own_blk hy (show Blk w gr 24 cs from hgr) (by decide) (by simpa [Value.ownBlock] using e'))
  rcases h2.2 with ⟨_, h0⟩ | ⟨g', cap', cur, rfl, h4⟩
  · omega
  · refine ⟨_, cap', w', by rw [hl2]; exact hrun, ⟨by rw [hf2, hl2]; exact h2, fun y hy => ?_, fun y hy => ?_⟩, h3⟩
    · rcases List.mem_append.1 hy with hy | hy
      · exact keep y (h.own y hy)
      · rw [List.mem_singleton] at hy; subst hy; exact keep y hz
    · rcases List.mem_append.1 hy with hy | hy
      · exact h.le y hy
      · rw [List.mem_singleton] at hy; subst hy; exact hzl
theorem wpList_append_oct {ops : Array Oper} {rest : List Oper} {o : Oper} {a : Act} {Q : Exit → Act → World → Prop} {w : World} (s x : Operand)
    (ho : o.op = .call { callee := .builtin .append, args := #[s, x], argTypes := #[37, 37] }) (hgd : o.guard = none)
    (base : Nat) (A0 : Option Addr) (c0 : Nat) (zs : List Z) (z : Z) (hs : a.eval s = .slice A0 zs.length c0) (hown : OwnZ w base A0 c0 zs) (g : Nat)
    (hx : a.eval x = .slice (some ⟨g, 0, none⟩) 1 1) (hr : Blk w g 24 (o3 z).toArray) (hz : Own w base z.2.1 z.2.2 z.1.m) (hzl : z.1.m.length ≤ 17592186044416) (hl : zs.length + 1 ≤ 1000000) (hbase : base ≤ w.heap.size)
    (h : ∀ A' cap' w', OwnZ w' base A' cap' (zs ++ [z]) → w.grownBy w' (Value.slice A0 zs.length c0).ownBlock → wpList Try.prog ops Q rest (a.put o.dst (.slice A' (zs ++ [z]).length cap')) w') :
    wpList Try.prog ops Q (o :: rest) a w :=
  wpList_plain hgd fun K hK => by
    obtain ⟨A', c', w', hrun, h2, h3⟩ := run_append_oct w base o.type A0 c0 zs z hown g hr hz hzl hl hbase
    unfold Oper.wp execOp
    simp only [ho, resolve, invoke, builtin, Sem.run_bind, Sem.run_pure, Result.andThen_ok, List.map_toArray, List.map_cons, List.map_nil, hs, hx, hrun]
    exact hK _ _ (h A' c' w' h2 h3)

def CertRes (w : World) (d : Int) (n : Int) (os : List O) (er : Int) (e : Ending) (w' : World) : Prop :=
  ∃ A1 c1 zs, e = .returned (.tuple #[.agg #[.int .u64 d, .int .i64 n, .slice A1 zs.length c1], .int .i64 er]) ∧ zs.map (·.1) = os ∧ RowZ w' A1 zs ∧ zs.length ≤ 1000000 ∧ Below w.heap.size w w'
theorem map_take_succ {zs : List Z} {f : O → O} {k : Nat} (h : k < zs.length) : (zs.take (k + 1)).map (fun z => f z.1) = (zs.take k).map (fun z => f z.1) ++ [f zs[k].1] := by
  rw [List.take_succ_eq_append_getElem h, List.map_append]; rfl
theorem certErr_mem {n : Int} {zs : List Z} (h : certErr n zs = 0) : zs.length ≤ 4096 ∧ ∀ k (hk : k < zs.length), check zs[k].1 = 0 := by
  unfold certErr at h
  cases h1 : headOk n zs.length && zs.all (zOk n)
  · rw [h1] at h; simp at h
  · rw [Bool.and_eq_true] at h1
    refine ⟨(head_parts h1.1).2.2.2.1, fun k hk => (zOk_check (List.all_eq_true.1 h1.2 _ (List.getElem_mem hk))).2⟩

set_option maxRecDepth 8000 in
set_option maxHeartbeats 4000000 in
theorem thincert_ok (d : Int) (n : Int) (zs : List Z) (c : Nat) (A : Option Addr) (w : World) (hz : RowZ w A zs) (hk : certErr n zs = 0) :
    Calls Try.prog 31 #[.agg #[.int .u64 d, .int .i64 n, .slice A zs.length c]] w (CertRes w d n (zs.map fun z => thinO z.1) 0) := by
  have hb0 : Below w.heap.size w ((w.alloc (Obj.cells #[.int .u64 d, .int .i64 n, .slice A zs.length c] 60)).alloc (Obj.cells #[.int .u64 0, .int .i64 0, .slice none 0 0] 60)) := ((Below.refl _ _).alloc (Nat.le_refl _) _).alloc (by simp) _
  obtain ⟨p0, p1⟩ := blk_two (w := w) (Below.refl _ ((w.alloc (Obj.cells #[.int .u64 d, .int .i64 n, .slice A zs.length c] 60)).alloc (Obj.cells #[.int .u64 0, .int .i64 0, .slice none 0 0] 60)))
  have HC := hid (ccheck_any (.int .u64 d) n zs c A _ (hz.up hb0))
  obtain ⟨hl, hck⟩ := certErr_mem hk
  have HCK := hid hck
  rw [hk] at HC
  clear hck hk
  have x0 := p0.cell 0
  have x1 := p0.cell 1
  have x2 := p0.cell 2
  go_enter Try.func31, Try.ntmps31
  go_wp2_with fail
  refine HC.out.mono ?_
  clear HC x0 x1 x2
  generalize (w.alloc (Obj.cells #[.int .u64 d, .int .i64 n, .slice A zs.length c] 60)).alloc (Obj.cells #[.int .u64 0, .int .i64 0, .slice none 0 0] 60) = w0 at *
  rintro e1 w1 ⟨rfl, hb1⟩
  replace p0 := p0.later hb1
  replace p1 := p1.later hb1
  replace hb0 := bup hb0 hb1
  have hp1 := p1.lt
  have x0 := p0.cell 0
  have x1 := p0.cell 1
  have n5 := new1 w1 (Obj.cells #[.int .u64 d, .int .i64 n, .slice none 0 0] 60)
  have k5 := Blk.new w1 60 #[.int .u64 d, .int .i64 n, .slice none 0 0]
  have x2 := (p0.later n5).cell 2
  clear hb1
  go_wp2
  clear x0 x1 x2
  replace p1 := p1.later n5
  replace hb0 := bup hb0 n5
  have hg5 : w1.heap.size < (w1.alloc (Obj.cells #[.int .u64 d, .int .i64 n, .slice none 0 0] 60)).heap.size := by simp
  clear n5 p0
  have hle5 : w.heap.size ≤ w1.heap.size := by omega
  generalize w1.alloc (Obj.cells #[.int .u64 d, .int .i64 n, .slice none 0 0] 60) = wL at *
  generalize w1.heap.size = g5 at *
  go_loopw [24] (fun i wr => ∃ (k : Nat) (A6 : Option Addr) (c6 : Nat) (ys : List Z), k ≤ zs.length ∧ i = .int .i64 k ∧ ys.length = k ∧ Hid (ys.map (·.1) = (zs.take k).map fun z => thinO z.1) ∧ Blk wr g5 60 #[.int .u64 d, .int .i64 n, .slice A6 ys.length c6] ∧ OwnZ wr wL.heap.size A6 c6 ys ∧ Below g5 wL wr) (fun i _ => zs.length - (intOf i).toNat)
  case atStart => exact ⟨0, none, 0, [], by omega, rfl, rfl, hid rfl, k5, OwnZ.nil _ _, Below.refl _ _⟩
  case round =>
    obtain ⟨k, A6, c6, ys, hk, rfl, hyl, hys, k6, own6, hb⟩ := hrel
    have hg6 := k6.lt
    by_cases hlt : k < zs.length
    · have hi0 : (0 : Int) ≤ (k : Int) := by omega
      have hi1 : (k : Int) < (zs.length : Int) := by omega
      have HY := hid hyl
      clear hyl
      have hbL := hb.size
      have hbw := hb0.trans (hb.mono hle5)
      have hzr := hz.up hbw
      obtain ⟨b, off, rfl, hB, c0, c1, c2⟩ := hzr.at_ k hlt
      have rz := hzr.rd k hlt
      have lz := hz.le k hlt
      have hck := HCK.out k hlt
      have HYS : Hid ((zs.take (k + 1)).map (fun z => thinO z.1) = ys.map (·.1) ++ [thinO zs[k].1]) := hid (by rw [hys.out]; exact map_take_succ hlt)
      generalize zs[k] = z at *
      obtain ⟨z, A1, c1'⟩ := z
      dsimp only at *
      have nz := new1 wr (Obj.cells #[.int .i64 z.n, .bool z.e, .slice A1 z.m.length c1'] 24)
      have kz := Blk.new wr 24 #[.int .i64 z.n, .bool z.e, .slice A1 z.m.length c1']
      obtain ⟨y0, y1, y2, fy⟩ := octbox kz
      have HT := hid (thinoct_any z A1 c1' _ (rz.up nz) lz)
      have han : thinAns z = thinO z := by unfold thinAns; rw [if_pos hck]
      rw [hck, han] at HT
      have HTL := hid (Nat.le_trans (thinO_m_le z) lz)
      clear han hck
      go_wp2_with fail
      clear y0 y1 y2 fy c0 c1 c2
      refine HT.out.mono ?_
      clear HT
      generalize wr.alloc (Obj.cells #[.int .i64 z.n, .bool z.e, .slice A1 z.m.length c1'] 24) = w2 at *
      generalize thinO z = t at *
      rintro e3 w3 ⟨A8, c8, rfl, own8, hb3⟩
      have hg2 := Nat.le_trans nz.size hb3.size
      have n8 := new1 w3 (Obj.cells #[.int .i64 t.n, .bool t.e, .slice A8 t.m.length c8] 24)
      have k8 := Blk.new w3 24 #[.int .i64 t.n, .bool t.e, .slice A8 t.m.length c8]
      replace own8 := own8.below n8
      have hbn := bup (bup nz hb3) n8
      replace k6 := k6.later hbn
      replace own6 := own6.below hbn
      have hwr : g5 < wr.heap.size := hg6
      replace hb := hb.trans (hbn.mono (by omega))
      have x62 := k6.cell 2
      obtain ⟨y0, y1, y2, fy⟩ := octbox k8
      clear hbn n8 kz
      have hwl2 : wL.heap.size ≤ w2.heap.size := Nat.le_trans hbL nz.size
      replace own8 := own8.less hwl2
      have h8b : wL.heap.size ≤ (w3.alloc (Obj.cells #[.int .i64 t.n, .bool t.e, .slice A8 t.m.length c8] 24)).heap.size := by have := hb3.size; simp; omega
      have HLEN : Hid (ys.length + 1 ≤ 1000000) := hid (by have := HY.out; omega)
      have n9 := new1 (w3.alloc (Obj.cells #[.int .i64 t.n, .bool t.e, .slice A8 t.m.length c8] 24)) (Obj.cells #[.int .i64 t.n, .bool t.e, .slice A8 t.m.length c8] 24)
      have k9 := Blk.new (w3.alloc (Obj.cells #[.int .i64 t.n, .bool t.e, .slice A8 t.m.length c8] 24)) 24 #[.int .i64 t.n, .bool t.e, .slice A8 t.m.length c8]
      have hz8 : (w3.alloc (Obj.cells #[.int .i64 t.n, .bool t.e, .slice A8 t.m.length c8] 24)).heap.size = w3.heap.size + 1 := by simp
      rw [hz8] at k9
      have k6n := k6.later n9
      go_wp2_with (at_builtin; go_loud (refine wpList_append_oct _ _ rfl rfl wL.heap.size _ _ ys (t, A8, c8) rfl (own6.below n9) (w3.heap.size + 1) rfl k9 (own8.below n9) HTL.out HLEN.out (by simp; omega) ?_); intro A9 c9 w9 own9 hg9; have hb9 := below_grown (B := wL.heap.size) hg9 (by rcases own6.form with ⟨e, _⟩ | ⟨g', cs', e, h', _⟩ <;> simp [e, Value.ownBlock] <;> omega) (by simp; omega); have k6w := k6n.below hb9 hg5; have x62' := k6w.cell 2; have xf2 := k6w.fr 2; clear hg9)
      clear y0 y1 y2 fy x62
      go_roundw
      case rel => exact ⟨k + 1, A9, c9, ys ++ [(t, A8, c8)], by omega, by go_num, by rw [List.length_append, HY.out]; rfl, hid (by rw [HYS.out]; simp), by rw [show (ys ++ [(t, A8, c8)]).length = ys.length + 1 by simp]; exact k6w.set_ 2 _, own9.setFar (by simpa using hg5) _, ((hb.trans (n9.mono (by omega))).trans (hb9.mono (by omega))).trans (below1 (Nat.le_refl _) (by have := k6w.lt; omega))⟩
      case measure => simp [intOf]; omega
    · obtain rfl : k = zs.length := by omega
      rw [List.take_length] at hys
      have hp1r := p1.below hb hp1
      have x60 := k6.cell 0
      have x61 := k6.cell 1
      have x62 := k6.cell 2
      have z0 := hp1r.cell 0
      have z1 := hp1r.cell 1
      have z2 := hp1r.cell 2
      have zf := hp1r.fr
      have HLEN : Hid (ys.length ≤ 1000000) := hid (by omega)
      clear hyl
      go_wp2
      clear x60 x61 x62 z0 z1 z2 zf
      have hlt5 : w.heap.size + 1 < wL.heap.size := by omega
      have q3 := hp1r.set3 (v0 := .int .u64 d) (v1 := .int .i64 n) (v2 := .slice A6 ys.length c6)
      have z0 := q3.cell 0
      have z1 := q3.cell 1
      have z2 := q3.cell 2
      have hbw := hb0.trans (hb.mono hle5)
      have o3 := ((own6.setFar (p := ⟨w.heap.size + 1, 0, none⟩) hlt5 (.int .u64 d)).setFar (p := ⟨w.heap.size + 1, 1, none⟩) hlt5 (.int .i64 n)).setFar (p := ⟨w.heap.size + 1, 2, none⟩) hlt5 (.slice A6 ys.length c6)
      exact bodyPost_ret (v := .tuple #[.agg #[.int .u64 d, .int .i64 n, .slice A6 ys.length c6], .int .i64 0]) (by simp [results, Try.results31, go_sem, z0, z1, z2]) rfl ⟨A6, c6, ys, rfl, hys.out, o3.rows, HLEN.out, hbw.trans (below3 (by omega) hbw.size)⟩

set_option maxRecDepth 8000 in
set_option maxHeartbeats 2000000 in
theorem thincert_er (d : Int) (n : Int) (zs : List Z) (c : Nat) (A : Option Addr) (w : World) (hz : RowZ w A zs) (hk : certErr n zs ≠ 0) :
    Calls Try.prog 31 #[.agg #[.int .u64 d, .int .i64 n, .slice A zs.length c]] w (CertRes w 0 0 [] (certErr n zs)) := by
  have hb0 : Below w.heap.size w ((w.alloc (Obj.cells #[.int .u64 d, .int .i64 n, .slice A zs.length c] 60)).alloc (Obj.cells #[.int .u64 0, .int .i64 0, .slice none 0 0] 60)) := ((Below.refl _ _).alloc (Nat.le_refl _) _).alloc (by simp) _
  obtain ⟨p0, p1⟩ := blk_two (w := w) (Below.refl _ ((w.alloc (Obj.cells #[.int .u64 d, .int .i64 n, .slice A zs.length c] 60)).alloc (Obj.cells #[.int .u64 0, .int .i64 0, .slice none 0 0] 60)))
  have HC := hid (ccheck_any (.int .u64 d) n zs c A _ (hz.up hb0))
  have tk : (certErr n zs != 0) = true := by simpa using hk
  have x0 := p0.cell 0
  have x1 := p0.cell 1
  have x2 := p0.cell 2
  clear hk
  generalize certErr n zs = er at *
  go_enter Try.func31, Try.ntmps31
  go_wp2_with fail
  refine HC.out.mono ?_
  clear HC x0 x1 x2
  generalize (w.alloc (Obj.cells #[.int .u64 d, .int .i64 n, .slice A zs.length c] 60)).alloc (Obj.cells #[.int .u64 0, .int .i64 0, .slice none 0 0] 60) = w0 at *
  rintro e1 w1 ⟨rfl, hb1⟩
  replace p1 := p1.later hb1
  replace hb0 := bup hb0 hb1
  have y0 := p1.cell 0
  have y1 := p1.cell 1
  have y2 := p1.cell 2
  have yf := p1.fr
  go_wp2
  clear y0 y1 y2 yf
  have q3 := p1.set3 (v0 := .int .u64 0) (v1 := .int .i64 0) (v2 := .slice none 0 0)
  have z0 := q3.cell 0
  have z1 := q3.cell 1
  have z2 := q3.cell 2
  exact bodyPost_ret (v := .tuple #[.agg #[.int .u64 0, .int .i64 0, .slice none 0 0], .int .i64 er]) (by simp [results, Try.results31, go_sem, z0, z1, z2]) rfl ⟨none, 0, [], rfl, rfl, (OwnZ.nil _ 0).rows, by simp, hb0.trans (below3 (by omega) hb0.size)⟩

set_option maxRecDepth 8000 in
set_option maxHeartbeats 2000000 in
theorem r28cert_er (d : Int) (n : Int) (zs : List Z) (c : Nat) (A : Option Addr) (w : World) (hz : RowZ w A zs) (hk : certErr n zs ≠ 0) :
    Calls Try.prog 32 #[.agg #[.int .u64 d, .int .i64 n, .slice A zs.length c]] w (CertRes w 0 0 [] (certErr n zs)) := by
  have hb0 : Below w.heap.size w ((w.alloc (Obj.cells #[.int .u64 d, .int .i64 n, .slice A zs.length c] 60)).alloc (Obj.cells #[.int .u64 0, .int .i64 0, .slice none 0 0] 60)) := ((Below.refl _ _).alloc (Nat.le_refl _) _).alloc (by simp) _
  obtain ⟨p0, p1⟩ := blk_two (w := w) (Below.refl _ ((w.alloc (Obj.cells #[.int .u64 d, .int .i64 n, .slice A zs.length c] 60)).alloc (Obj.cells #[.int .u64 0, .int .i64 0, .slice none 0 0] 60)))
  have HC := hid (r19_any (.int .u64 d) n zs c A _ (hz.up hb0))
  have tk : (certErr n zs != 0) = true := by simpa using hk
  have x0 := p0.cell 0
  have x1 := p0.cell 1
  have x2 := p0.cell 2
  clear hk
  generalize certErr n zs = er at *
  go_enter Try.func32, Try.ntmps32
  go_wp2_with fail
  refine HC.out.mono ?_
  clear HC x0 x1 x2
  generalize (w.alloc (Obj.cells #[.int .u64 d, .int .i64 n, .slice A zs.length c] 60)).alloc (Obj.cells #[.int .u64 0, .int .i64 0, .slice none 0 0] 60) = w0 at *
  rintro e1 w1 ⟨rfl, hb1⟩
  replace p1 := p1.later hb1
  replace hb0 := bup hb0 hb1
  have y0 := p1.cell 0
  have y1 := p1.cell 1
  have y2 := p1.cell 2
  have yf := p1.fr
  go_wp2
  clear y0 y1 y2 yf
  have q3 := p1.set3 (v0 := .int .u64 0) (v1 := .int .i64 0) (v2 := .slice none 0 0)
  have z0 := q3.cell 0
  have z1 := q3.cell 1
  have z2 := q3.cell 2
  exact bodyPost_ret (v := .tuple #[.agg #[.int .u64 0, .int .i64 0, .slice none 0 0], .int .i64 er]) (by simp [results, Try.results32, go_sem, z0, z1, z2]) rfl ⟨none, 0, [], rfl, rfl, (OwnZ.nil _ 0).rows, by simp, hb0.trans (below3 (by omega) hb0.size)⟩
end

section
open Go.RowKit
attribute [local go_sem ↓] Go.wp_at_zero Go.wp_at_succ

/-- A slice of one octagon, of the region's own. -/
def IsOneB (B : Nat) (t : O) (v : Value) (wa wb : World) : Prop := v = .slice (some ⟨wa.heap.size, 0, none⟩) 1 1 ∧ ∃ A1 c1, Blk wb wa.heap.size 24 #[.int .i64 t.n, .bool t.e, .slice A1 t.m.length c1] ∧ Own wb B A1 c1 t.m ∧ wb.heap.size = wa.heap.size + 1
theorem fact_oneB {w0 W : World} {B : Nat} {t : O} {v : Value} {lo hi : Nat} (h : Sp.fact w0 (Sp.any (IsOneB B t)) v lo hi W) : ∃ g A1 c1, v = .slice (some ⟨g, 0, none⟩) 1 1 ∧ Blk W g 24 #[.int .i64 t.n, .bool t.e, .slice A1 t.m.length c1] ∧ Own W B A1 c1 t.m := by
  obtain ⟨wa, wb, e1, e2, e3, rfl, rfl, rfl, A1, c1, hb, ho, hs⟩ := h
  exact ⟨_, A1, c1, rfl, hb.below e3 (by omega), ho.below e3⟩

set_option maxRecDepth 8000 in
set_option maxHeartbeats 4000000 in
theorem r28cert_ok (d : Int) (n : Int) (zs : List Z) (c : Nat) (A : Option Addr) (w : World) (hz : RowZ w A zs) (hk : certErr n zs = 0) :
    Calls Try.prog 32 #[.agg #[.int .u64 d, .int .i64 n, .slice A zs.length c]] w (CertRes w d n (zs.map fun z => thinO z.1) 0) := by
  have hb0 : Below w.heap.size w ((w.alloc (Obj.cells #[.int .u64 d, .int .i64 n, .slice A zs.length c] 60)).alloc (Obj.cells #[.int .u64 0, .int .i64 0, .slice none 0 0] 60)) := ((Below.refl _ _).alloc (Nat.le_refl _) _).alloc (by simp) _
  obtain ⟨p0, p1⟩ := blk_two (w := w) (Below.refl _ ((w.alloc (Obj.cells #[.int .u64 d, .int .i64 n, .slice A zs.length c] 60)).alloc (Obj.cells #[.int .u64 0, .int .i64 0, .slice none 0 0] 60)))
  have HC := hid (r19_any (.int .u64 d) n zs c A _ (hz.up hb0))
  obtain ⟨hl, hck⟩ := certErr_mem hk
  have HCK := hid hck
  rw [hk] at HC
  clear hck hk
  have x0 := p0.cell 0
  have x1 := p0.cell 1
  have x2 := p0.cell 2
  go_enter Try.func32, Try.ntmps32
  go_wp2_with fail
  refine HC.out.mono ?_
  clear HC x0 x1 x2
  generalize (w.alloc (Obj.cells #[.int .u64 d, .int .i64 n, .slice A zs.length c] 60)).alloc (Obj.cells #[.int .u64 0, .int .i64 0, .slice none 0 0] 60) = w0 at *
  rintro e1 w1 ⟨rfl, hb1⟩
  replace p0 := p0.later hb1
  replace p1 := p1.later hb1
  replace hb0 := bup hb0 hb1
  have hp1 := p1.lt
  have x0 := p0.cell 0
  have x1 := p0.cell 1
  have n5 := new1 w1 (Obj.cells #[.int .u64 d, .int .i64 n, .slice none 0 0] 60)
  have k5 := Blk.new w1 60 #[.int .u64 d, .int .i64 n, .slice none 0 0]
  have x2 := (p0.later n5).cell 2
  clear hb1
  go_wp2
  clear x0 x1 x2
  replace p1 := p1.later n5
  replace hb0 := bup hb0 n5
  have hg5 : w1.heap.size < (w1.alloc (Obj.cells #[.int .u64 d, .int .i64 n, .slice none 0 0] 60)).heap.size := by simp
  have p0L := p0.later n5
  have hp0 := p0.lt
  clear n5 p0
  have hle5 : w.heap.size ≤ w1.heap.size := by omega
  generalize w1.alloc (Obj.cells #[.int .u64 d, .int .i64 n, .slice none 0 0] 60) = wL at *
  generalize w1.heap.size = g5 at *
  go_loopw [6] (fun i wr => ∃ (k : Nat) (A6 : Option Addr) (c6 : Nat) (ys : List Z), k ≤ zs.length ∧ i = .int .i64 k ∧ ys.length = k ∧ Hid (ys.map (·.1) = (zs.take k).map fun z => thinO z.1) ∧ Blk wr g5 60 #[.int .u64 d, .int .i64 n, .slice A6 ys.length c6] ∧ OwnZ wr wL.heap.size A6 c6 ys ∧ Below g5 wL wr) (fun i _ => zs.length - (intOf i).toNat)
  case atStart => exact ⟨0, none, 0, [], by omega, rfl, rfl, hid rfl, k5, OwnZ.nil _ _, Below.refl _ _⟩
  case round =>
    obtain ⟨k, A6, c6, ys, hk, rfl, hyl, hys, k6, own6, hb⟩ := hrel
    have hg6 := k6.lt
    have p0r := p0L.below hb hp0
    have px2 := p0r.cell 2
    by_cases hlt : k < zs.length
    · have hi0 : (0 : Int) ≤ (k : Int) := by omega
      have hi1 : (k : Int) < (zs.length : Int) := by omega
      have HY := hid hyl
      clear hyl
      have hbL := hb.size
      have hbw := hb0.trans (hb.mono hle5)
      have hzr := hz.up hbw
      obtain ⟨b, off, rfl, hB, c0, c1, c2⟩ := hzr.at_ k hlt
      have rz := hzr.rd k hlt
      have lz := hz.le k hlt
      have hck := HCK.out k hlt
      have HYS : Hid ((zs.take (k + 1)).map (fun z => thinO z.1) = ys.map (·.1) ++ [thinO zs[k].1]) := hid (by rw [hys.out]; exact map_take_succ hlt)
      generalize zs[k] = z at *
      obtain ⟨z, A1, c1'⟩ := z
      dsimp only at *
      have HTL := hid (Nat.le_trans (thinO_m_le z) lz)
      have kx2 := k6.cell 2
      go_upto_region 8 with fail
      have f0 := laterE c0
      have f1 := laterE c1
      have f2 := laterE c2
      have f3 := laterE px2
      have f4 := laterE kx2
      clear c0 c1 c2 px2 kx2
      obtain ⟨t, ht⟩ : ∃ t, thinO z = t := ⟨_, rfl⟩
      rw [ht] at HTL HYS
      refine wp_region_flowE 9 [Sp.val (.pointer (some ⟨g5, 2, none⟩)), Sp.val (.slice A6 ys.length c6), Sp.val (.pointer (some ⟨w.heap.size, 2, none⟩)), Sp.val (.slice (some ⟨b, off, none⟩) zs.length c), Sp.val (.int .i64 (k : Int)), Sp.val (.pointer (some ⟨b, off + k * 3, none⟩)), Sp.val (.agg #[.int .i64 z.n, .bool z.e, .slice A1 z.m.length c1']), Sp.any (IsOctB wL.heap.size t), Sp.any (IsOneB wL.heap.size t)] (by kernel_rfl) (by kernel_rfl) ?_
      (refine FlowE.take (by rfl) (fun W hW R hR => ?_) (fun _ _ => ?_); (go_simp; (try go_bits); with_reducible exact hR); simp only [Act.put, List.setIfInBounds_toArray, List.set_cons_zero, List.set_cons_succ])
      (refine FlowE.take (by rfl) (fun W hW R hR => ?_) (fun _ _ => ?_); (go_simp; (try go_bits); with_reducible exact hR); simp only [Act.put, List.setIfInBounds_toArray, List.set_cons_zero, List.set_cons_succ])
      (refine FlowE.take (by rfl) (fun W hW R hR => ?_) (fun _ _ => ?_); (go_simp; (try go_bits); with_reducible exact hR); simp only [Act.put, List.setIfInBounds_toArray, List.set_cons_zero, List.set_cons_succ])
      (refine FlowE.take (by rfl) (fun W hW R hR => ?_) (fun _ _ => ?_); (go_simp; (try go_bits); with_reducible exact hR); simp only [Act.put, List.setIfInBounds_toArray, List.set_cons_zero, List.set_cons_succ])
      (refine FlowE.take (by rfl) (fun W hW R hR => ?_) (fun _ _ => ?_); (go_simp; (try go_bits); with_reducible exact hR); simp only [Act.put, List.setIfInBounds_toArray, List.set_cons_zero, List.set_cons_succ])
      (refine FlowE.take (by rfl) (fun W hW R hR => ?_) (fun _ _ => ?_); (go_simp; (try go_bits); with_reducible exact hR); simp only [Act.put, List.setIfInBounds_toArray, List.set_cons_zero, List.set_cons_succ])
      (refine FlowE.take (by rfl) (fun W hW R hR => ?_) (fun _ _ => ?_); (go_simp; (try go_bits); with_reducible exact hR); simp only [Act.put, List.setIfInBounds_toArray, List.set_cons_zero, List.set_cons_succ])
      refine FlowE.call 53 #[.agg #[.int .i64 z.n, .bool z.e, .slice A1 z.m.length c1']] (by rfl) (fun W hW => by go_simp) (fun W hW => (rthin_ok z A1 c1' W (rz.up (Ext.trans (Below.refl _ _).drew hW)) lz hck).mono fun _ _ ⟨A1, c1, he, ho, hb'⟩ => ⟨_, he, hb', A1, c1, by rw [← ht], by rw [← ht]; exact ho.less (Nat.le_trans hbL (show wr.drew.heap.size ≤ W.heap.size from hW.size))⟩) (fun v7 l7 h7 => ?_)
      simp only [Act.put, List.setIfInBounds_toArray, List.set_cons_zero, List.set_cons_succ]
      refine FlowE.stepF (by rfl) (fun W hW hf K hK => ?_) (fun v8 l8 h8 => ?_)
      · obtain ⟨A8, c8, rfl, o8⟩ := fact_octB (show Sp.fact wr.drew (Sp.any (IsOctB wL.heap.size t)) v7 l7 h7 W from hf 7 (by kernel_rfl))
        go_simp
        exact hK _ _ (new1 _ _) ⟨rfl, A8, c8, Blk.new _ _ _, o8.below (new1 _ _), by simp⟩
      simp only [Act.put, List.setIfInBounds_toArray, List.set_cons_zero, List.set_cons_succ]
      refine FlowE.tail (fun W hW hf hd => ?_)
      replace hW : Below wr.heap.size wr W := Ext.trans (Below.refl _ _).drew hW
      obtain ⟨g9, A8, c8, rfl, k9, own8⟩ := fact_oneB (show Sp.fact wr.drew (Sp.any (IsOneB wL.heap.size t)) v8 l8 h8 W from hf 8)
      clear hf hd f0 f1 f2 f3 f4
      have HLEN : Hid (ys.length + 1 ≤ 1000000) := hid (by have := HY.out; omega)
      have hwr : g5 < wr.heap.size := hg6
      replace k6 := k6.later hW
      replace own6 := own6.below hW
      replace hb := hb.trans (hW.mono (by omega))
      have hWL : wL.heap.size ≤ W.heap.size := hb.size
      go_wp2_with (at_builtin; go_loud (refine wpList_append_oct _ _ rfl rfl wL.heap.size _ _ ys (t, A8, c8) rfl own6 g9 rfl k9 own8 HTL.out HLEN.out hWL ?_); intro A9 c9 w9 own9 hg9; have hb9 := below_grown (B := wL.heap.size) hg9 (by rcases own6.form with ⟨e, _⟩ | ⟨g', cs', e, h', _⟩ <;> simp [e, Value.ownBlock] <;> omega) hWL; have k6w := k6.below hb9 hg5; have x62' := k6w.cell 2; have xf2 := k6w.fr 2; clear hg9)
      go_roundw
      case rel => exact ⟨k + 1, A9, c9, ys ++ [(t, A8, c8)], by omega, by go_num, by rw [List.length_append, HY.out]; rfl, hid (by rw [HYS.out]; simp), by rw [show (ys ++ [(t, A8, c8)]).length = ys.length + 1 by simp]; exact k6w.set_ 2 _, own9.setFar (by simpa using hg5) _, (hb.trans (hb9.mono (by omega))).trans (below1 (Nat.le_refl _) (by have := k6w.lt; omega))⟩
      case measure => simp [intOf]; omega
    · obtain rfl : k = zs.length := by omega
      rw [List.take_length] at hys
      have hp1r := p1.below hb hp1
      have x60 := k6.cell 0
      have x61 := k6.cell 1
      have x62 := k6.cell 2
      have z0 := hp1r.cell 0
      have z1 := hp1r.cell 1
      have z2 := hp1r.cell 2
      have zf := hp1r.fr
      have HLEN : Hid (ys.length ≤ 1000000) := hid (by omega)
      clear hyl
      go_wp2
      clear x60 x61 x62 z0 z1 z2 zf
      have hlt5 : w.heap.size + 1 < wL.heap.size := by omega
      have q3 := hp1r.set3 (v0 := .int .u64 d) (v1 := .int .i64 n) (v2 := .slice A6 ys.length c6)
      have z0 := q3.cell 0
      have z1 := q3.cell 1
      have z2 := q3.cell 2
      have hbw := hb0.trans (hb.mono hle5)
      have o3 := ((own6.setFar (p := ⟨w.heap.size + 1, 0, none⟩) hlt5 (.int .u64 d)).setFar (p := ⟨w.heap.size + 1, 1, none⟩) hlt5 (.int .i64 n)).setFar (p := ⟨w.heap.size + 1, 2, none⟩) hlt5 (.slice A6 ys.length c6)
      exact bodyPost_ret (v := .tuple #[.agg #[.int .u64 d, .int .i64 n, .slice A6 ys.length c6], .int .i64 0]) (by simp [results, Try.results32, go_sem, z0, z1, z2]) rfl ⟨A6, c6, ys, rfl, hys.out, o3.rows, HLEN.out, hbw.trans (below3 (by omega) hbw.size)⟩
end

section
open Go.RowKit
attribute [local go_sem ↓] Go.wp_at_zero Go.wp_at_succ

theorem certs_both (d n : Int) (zs : List Z) : ∃ (d' n' : Int) (os : List O), (∀ (A : Option Addr) (c : Nat) (w : World), RowZ w A zs → Calls Try.prog 31 #[.agg #[.int .u64 d, .int .i64 n, .slice A zs.length c]] w (CertRes w d' n' os (certErr n zs))) ∧
    ∀ (A : Option Addr) (c : Nat) (w : World), RowZ w A zs → Calls Try.prog 32 #[.agg #[.int .u64 d, .int .i64 n, .slice A zs.length c]] w (CertRes w d' n' os (certErr n zs)) := by
  by_cases h : certErr n zs = 0
  · refine ⟨d, n, zs.map fun z => thinO z.1, fun A c w hz => ?_, fun A c w hz => ?_⟩
    · rw [h]; exact thincert_ok d n zs c A w hz h
    · rw [h]; exact r28cert_ok d n zs c A w hz h
  · exact ⟨0, 0, [], fun A c w hz => thincert_er d n zs c A w hz h, fun A c w hz => r28cert_er d n zs c A w hz h⟩

set_option maxRecDepth 8000 in
set_option maxHeartbeats 4000000 in
theorem thinCerts_walk (d n : Int) (zs : List Z) (A : Option Addr) (c : Nat) (w : World) (hz : RowZ w A zs) (hm : zs.length ≤ 17592186044416) :
    Calls Try.prog 9 #[.agg #[.int .u64 d, .int .i64 n, .slice A zs.length c]] w fun e w' => e = .returned (.bool true) ∧ Below w.heap.size w w' := by
  have hb0 := new1 w (Obj.cells #[.int .u64 d, .int .i64 n, .slice A zs.length c] 60)
  have p0 := Blk.new w 60 #[.int .u64 d, .int .i64 n, .slice A zs.length c]
  obtain ⟨d', n', os, h1, h2⟩ := certs_both d n zs
  have HT := hid h1
  have HR := hid h2
  clear h1 h2
  generalize certErr n zs = er at *
  replace hz := hz.up hb0
  go_enter Try.func9, Try.ntmps9
  go_wp2_with fail
  refine (known28_any _).mono ?_
  generalize w.alloc (Obj.cells #[.int .u64 d, .int .i64 n, .slice A zs.length c] 60) = w0 at *
  rintro e1 w1 ⟨rfl, hb1⟩
  replace p0 := p0.later hb1
  replace hz := hz.up hb1
  replace hb0 := bup hb0 hb1
  clear hb1
  have x2 := p0.cell 2
  have hL0 : (0 : Int) ≤ (zs.length : Int) := by omega
  cases t20 : decide (20 < (zs.length : Int))
  rotate_left
  · go_wp2
    go_ret
    exact ⟨rfl, hb0⟩
  go_wp2
  clear x2
  go_loopw [3] (fun i wr => ∃ k : Nat, k ≤ zs.length ∧ i = .int .i64 k ∧ Below w1.heap.size w1 wr) (fun i _ => zs.length - (intOf i).toNat)
  case atStart => exact ⟨0, by omega, rfl, Below.refl _ _⟩
  case round =>
    obtain ⟨k, hk, rfl, hb⟩ := hrel
    have pr := p0.later hb
    have x2 := pr.cell 2
    have hzr := hz.up hb
    by_cases hlt : k < zs.length
    · have hi0 : (0 : Int) ≤ (k : Int) := by omega
      have hi1 : (k : Int) < (zs.length : Int) := by omega
      obtain ⟨b, off, rfl, hB, c0, c1, c2⟩ := hzr.at_ k hlt
      have rz := hzr.rd k hlt
      have lz := hzr.le k hlt
      generalize zs[k] = z at *
      obtain ⟨z, A1, c1'⟩ := z
      dsimp only at *
      have HF := hid (few28_any z A1 c1' _ rz lz)
      go_wp2_with fail
      clear c0 c1 c2 x2
      refine HF.out.mono ?_
      clear HF
      rintro e3 w3 ⟨bb, rfl, hb3⟩
      cases bb
      · go_wp2
        go_ret
        exact ⟨rfl, bup (bup hb0 hb) hb3⟩
      · go_wp2
        go_roundw
        case rel => exact ⟨k + 1, by omega, by go_num, bup hb hb3⟩
        case measure => simp [intOf]; omega
    · obtain rfl : k = zs.length := by omega
      have x0 := pr.cell 0
      have x1 := pr.cell 1
      replace hb0 := bup hb0 hb
      go_wp2_with fail
      clear x0 x1 x2
      refine (HT.out A c _ hzr).mono ?_
      clear HT
      rintro e4 w4 ⟨A4, c4, ys, rfl, hys, hzy, hyl, hb4⟩
      have n5 := new1 w4 (Obj.cells #[.int .u64 d', .int .i64 n', .slice A4 ys.length c4] 60)
      have k5 := Blk.new w4 60 #[.int .u64 d', .int .i64 n', .slice A4 ys.length c4]
      have hb5 := bup hb4 n5
      replace pr := pr.later hb5
      replace hzr := hzr.up hb5
      replace hzy := hzy.up n5
      replace hb0 := bup hb0 hb5
      have x0 := pr.cell 0
      have x1 := pr.cell 1
      have x2 := pr.cell 2
      go_wp2_with fail
      clear x0 x1 x2
      refine (HR.out A c _ hzr).mono ?_
      clear HR
      generalize w4.alloc (Obj.cells #[.int .u64 d', .int .i64 n', .slice A4 ys.length c4] 60) = w5 at *
      generalize w4.heap.size = g5 at *
      rintro e6 w6 ⟨A6, c6, us, rfl, hus, hzu, hul, hb6⟩
      have n7 := new1 w6 (Obj.cells #[.int .u64 d', .int .i64 n', .slice A6 us.length c6] 60)
      have k7 := Blk.new w6 60 #[.int .u64 d', .int .i64 n', .slice A6 us.length c6]
      have hb7 := bup hb6 n7
      replace k5 := k5.later hb7
      replace hzy := hzy.up hb7
      replace hzu := hzu.up n7
      replace hb0 := bup hb0 hb7
      have x0 := k5.cell 0
      have x1 := k5.cell 1
      have x2 := k5.cell 2
      have y0 := k7.cell 0
      have y1 := k7.cell 1
      have y2 := k7.cell 2
      have HO := hid (octs_same ys us A4 A6 c4 c6 _ hzy hzu (hys.trans hus.symm) hyl)
      go_wp2_with fail
      clear x0 x1 x2 y0 y1 y2
      refine HO.out.mono ?_
      clear HO
      rintro e8 w8 ⟨rfl, hb8⟩
      go_wp2
      go_ret
      exact ⟨rfl, bup hb0 hb8⟩
end
end Go.Proofs.Ytanbplidigokgaa
