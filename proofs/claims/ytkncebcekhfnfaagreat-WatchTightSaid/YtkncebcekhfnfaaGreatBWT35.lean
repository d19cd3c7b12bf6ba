/-
  Rows of octagons as lists.
  watch.fits: are octagons those of a graph's points? (Printed by gen_fits.py.)
  dbm's numbers of 128 bits: of, less, compare.
-/
import Derived.Test.YtkncebcekhfnfaaGreatBWT02
import Derived.Test.YtkncebcekhfnfaaGreatBWT31
import Derived.Test.YtkncebcekhfnfaaGreatBWT05
import Derived.Test.YtkncebcekhfnfaaGreatBWT33
import Derived.Test.YtkncebcekhfnfaaGreatBWT13
import Derived.Shelf.Spec.BitsCarry
import Derived.Lib.EndianBits
namespace Go.Proofs.YtkncebcekhfnfaaGreat
open Go.RowKit
section

/-- An octagon, and where its cells lie. -/
abbrev Z := O × Option Addr × Nat
def o3 (z : Z) : List Value := [.int .i64 z.1.n, .bool z.1.e, .slice z.2.1 z.1.m.length z.2.2]
structure RowZ (w : World) (A : Option Addr) (zs : List Z) : Prop where
  at_ : ∀ k (h : k < zs.length), ∃ b off, A = some ⟨b, off, none⟩ ∧ b < w.heap.size ∧ w.cell? ⟨b, off + k * 3, none⟩ = some (.int .i64 zs[k].1.n) ∧ w.cell? ⟨b, off + k * 3 + 1, none⟩ = some (.bool zs[k].1.e) ∧ w.cell? ⟨b, off + k * 3 + 2, none⟩ = some (.slice zs[k].2.1 zs[k].1.m.length zs[k].2.2)
  rd : ∀ k (h : k < zs.length), Rd w w.heap.size zs[k].2.1 zs[k].1.m
  le : ∀ k (h : k < zs.length), zs[k].1.m.length ≤ 17592186044416
theorem RowZ.up {w w' : World} {A : Option Addr} {zs : List Z} (h : RowZ w A zs) (hb : Below w.heap.size w w') : RowZ w' A zs :=
  ⟨fun k hk => by
    obtain ⟨b, off, h1, h2, h3, h4, h5⟩ := h.at_ k hk
    exact ⟨b, off, h1, Nat.lt_of_lt_of_le h2 hb.size, (hb.cell (p := ⟨b, _, none⟩) h2).trans h3, (hb.cell (p := ⟨b, _, none⟩) h2).trans h4, (hb.cell (p := ⟨b, _, none⟩) h2).trans h5⟩, fun k hk => (h.rd k hk).up hb, h.le⟩
end
section
attribute [local go_sem ↓] Go.wp_at_zero Go.wp_at_succ

def fitB (g : Gr) (o : O) : Bool := decide (o.n = g.all) && decide (check o = 0)
set_option maxRecDepth 8000 in
set_option maxHeartbeats 16000000 in
theorem fits_ok (g : Gr) (V D E : Option Addr) (cv cd ce : Nat) (A : Option Addr) (c : Nat) (zs : List Z) (w : World) (hz : RowZ w A zs) (hc : chk g = 0) (hl : zs.length ≤ 17592186044416) :
    Calls Tryz.prog 26 #[grV g V D E cv cd ce, .slice A zs.length c] w fun e w' => e = .returned (.bool (fitsB g (zs.map (·.1)))) ∧ Below w.heap.size w w' := by
  obtain ⟨ct0, ct1, ca, ces, csz, cz, cr⟩ := chk_parts hc
  have HALL := hid (show g.all = (g.nv : Int) + g.tm from rfl)
  have hnv : (g.nv : Int) ≤ 64 := by have : g.all = (g.nv : Int) + g.tm := rfl; omega
  have hs1 : (g.nv : Int) + g.tm ≤ 64 := ca
  have hs0 : 0 ≤ (g.nv : Int) + g.tm := by omega
  obtain ⟨fb, HFB⟩ : ∃ fb, Hid (fitsB g (zs.map (·.1)) = fb) := ⟨_, hid rfl⟩
  rw [HFB.out]
  have hb0 := new1 w (.cells #[.slice V g.nv cv, .int .i64 g.tm, .slice D g.sz.length cd, .int .i64 g.pts, .int .i64 g.ex, .slice E g.es.length ce] 26)
  have k0 := Blk.new w 26 #[.slice V g.nv cv, .int .i64 g.tm, .slice D g.sz.length cd, .int .i64 g.pts, .int .i64 g.ex, .slice E g.es.length ce]
  have HZ := hid hz
  clear hz hc cz cr ca ces csz
  unfold grV
  go_enter Tryz.func26, Tryz.ntmps26
  go_upto_region 1 with fail
  generalize w.alloc (.cells #[.slice V g.nv cv, .int .i64 g.tm, .slice D g.sz.length cd, .int .i64 g.pts, .int .i64 g.ex, .slice E g.es.length ce] 26) = w1 at *
  have HK0 := hid k0
  obtain ⟨f0, f1, f2, f3, f4, f5, ff⟩ := blk6 k0
  clear k0
  by_cases hn : (zs.length : Int) = g.pts
  case neg =>
    have HF : Hid (fb = false) := hid (by
      rw [← HFB.out]
      unfold fitsB
      rw [Bool.and_eq_false_iff]
      exact .inl (decide_eq_false (by rw [List.length_map]; exact hn)))
    have hn' : ((zs.length : Int) != g.pts) = true := by rw [bne_iff_ne]; exact hn
    have HB := hid hb0
    clear hb0
    go_wp2
    go_ret
    exact ⟨by show Ending.returned (.bool false) = .returned (.bool fb); rw [HF.out], HB.out⟩
  have HFA := hid (fun (h : ∀ z ∈ zs, fitB g z.1 = true) => (show fb = true from by
    rw [← HFB.out]
    unfold fitsB
    rw [Bool.and_eq_true, decide_eq_true_eq, List.all_eq_true]
    exact ⟨by rw [List.length_map]; exact hn, fun o ho => by obtain ⟨z, hz, rfl⟩ := List.mem_map.1 ho; exact h z hz⟩))
  have HFN := hid (fun (z : Z) (hz : z ∈ zs) (h : fitB g z.1 = false) => (show fb = false from by
    rw [← HFB.out]
    unfold fitsB
    rw [Bool.and_eq_false_iff, List.all_eq_false]
    exact .inr ⟨z.1, List.mem_map_of_mem hz, by rw [Bool.not_eq_true]; exact h⟩))
  have HBW := hid hb0
  have HF3 := hid f3
  have HNV := hid hnv
  have HS1 := hid hs1
  have HS0 := hid hs0
  have hn' : ((zs.length : Int) != g.pts) = false := by rw [bne_eq_false_iff_eq]; exact hn
  clear hb0 f0 f1 f2 f3 f4 f5 ff
  obtain ⟨f0, f1, f2, f3, f4, f5, ff⟩ := blk6 HK0.out
  go_wp2
  clear f0 f1 f2 f3 f4 f5 ff hn'
  go_loopw [14] (fun t wr => ∃ (k : Nat), k ≤ zs.length ∧ t = .int .i64 k ∧ (∀ z ∈ zs.take k, fitB g z.1 = true) ∧ Below w1.heap.size w1 wr) (fun t _ => zs.length - (Go.RowKit.intOf t).toNat)
  case atStart => exact ⟨0, by omega, rfl, fun z hz => absurd hz (by simp), Below.refl _ _⟩
  case round =>
    obtain ⟨k, hk, rfl, hall, hb⟩ := hrel
    by_cases hlt : k < zs.length
    · have hlt' : (k : Int) < (zs.length : Int) := by omega
      obtain ⟨b, off, rfl, hB, c0, c1, c2⟩ := ((HZ.out.up HBW.out).up hb).at_ k hlt
      have hrd := ((HZ.out.up HBW.out).up hb).rd k hlt
      have hle := HZ.out.le k hlt
      have HMEM := hid (List.getElem_mem hlt)
      have HALL' := hid hall
      obtain ⟨z, hz⟩ : ∃ z, zs[k] = z := ⟨_, rfl⟩
      have HZK := hid hz
      rw [hz] at c0 c1 c2 hrd hle HMEM
      have n2 := new1 wr (.cells #[.int .i64 z.1.n, .bool z.1.e, .slice z.2.1 z.1.m.length z.2.2] 53)
      have k2 := hid (Blk.new wr 53 #[.int .i64 z.1.n, .bool z.1.e, .slice z.2.1 z.1.m.length z.2.2])
      have HB2 := hid (bup hb n2)
      have HCK := hid (fun (h : Rd (wr.alloc (.cells #[.int .i64 z.1.n, .bool z.1.e, .slice z.2.1 z.1.m.length z.2.2] 53)) (wr.alloc (.cells #[.int .i64 z.1.n, .bool z.1.e, .slice z.2.1 z.1.m.length z.2.2] 53)).heap.size z.2.1 z.1.m) => check_any z.1 z.2.1 z.2.2 _ h (by omega))
      have HRD := hid (hrd.up n2)
      clear hall hz hrd hle n2 hb
      go_upto_region 6 with fail
      clear c0 c1 c2 hB
      have hk0 := HK0.out.later HB2.out
      have hck := HCK.out HRD.out
      have kz := k2.out
      have HBX := hid (bup HBW.out HB2.out)
      clear HCK
      generalize wr.alloc (.cells #[.int .i64 z.1.n, .bool z.1.e, .slice z.2.1 z.1.m.length z.2.2] 53) = w2 at *
      obtain ⟨ck, HCKE⟩ : ∃ ck, Hid (check z.1 = ck) := ⟨_, hid rfl⟩
      rw [HCKE.out] at hck
      have hnv := HNV.out
      have hs0 := HS0.out
      have hs1 := HS1.out
      obtain ⟨f0, f1, f2, f3, f4, f5, ff⟩ := blk6 hk0
      have z0 := kz.cell 0
      have z1 := kz.cell 1
      have z2 := kz.cell 2
      clear hk0 kz k2
      by_cases hzn : z.1.n = (g.nv : Int) + g.tm
      case neg =>
        have HF : Hid (fb = false) := hid (HFN.out z HMEM.out (by unfold fitB; rw [Bool.and_eq_false_iff]; exact .inl (decide_eq_false (by rw [HALL.out]; exact hzn))))
        have hne : (z.1.n != (g.nv : Int) + g.tm) = true := by rw [bne_iff_ne]; exact hzn
        clear hck hzn
        go_wp2
        go_ret
        exact ⟨by show Ending.returned (.bool false) = .returned (.bool fb); rw [HF.out], HBX.out⟩
      have HZN := hid hzn
      have hne : (z.1.n != (g.nv : Int) + g.tm) = false := by rw [bne_eq_false_iff_eq]; exact hzn
      clear hzn
      go_wp2_with fail
      clear f0 f1 f2 f3 f4 f5 ff z0 z1 z2 hnv hs0 hs1 hne
      (with_reducible refine hck.mono ?_)
      rintro e3 w3 ⟨rfl, hb3⟩
      clear hck
      have HB3 := hid (bup HBX.out hb3)
      have HB4 := hid (bup HB2.out hb3)
      clear hb3
      by_cases hc0 : ck = 0
      · subst hc0
        have HA : Hid (∀ y ∈ zs.take (k + 1), fitB g y.1 = true) := hid (fun y hy => by
          rw [List.take_succ_eq_append_getElem hlt, List.mem_append, List.mem_singleton] at hy
          rcases hy with hy | hy
          · exact HALL'.out y hy
          · rw [hy, HZK.out]
            unfold fitB
            rw [Bool.and_eq_true, decide_eq_true_eq, decide_eq_true_eq]
            exact ⟨by rw [HALL.out]; exact HZN.out, HCKE.out⟩)
        go_wp2
        go_roundw
        case rel => exact ⟨k + 1, by omega, by go_num, HA.out, HB4.out⟩
        case measure => simp [Go.RowKit.intOf]; omega
      · have HF : Hid (fb = false) := hid (HFN.out z HMEM.out (by unfold fitB; rw [Bool.and_eq_false_iff]; exact .inr (decide_eq_false (by rw [HCKE.out]; exact hc0))))
        have hne : (ck != 0) = true := by rw [bne_iff_ne]; exact hc0
        clear hc0
        go_wp2
        go_ret
        exact ⟨by show Ending.returned (.bool false) = .returned (.bool fb); rw [HF.out], HB3.out⟩
    · obtain rfl : k = zs.length := by omega
      rw [List.take_length] at hall
      have HF : Hid (fb = true) := hid (HFA.out hall)
      have HB := hid (bup HBW.out hb)
      clear hb hall
      go_wp2
      go_ret
      exact ⟨by show Ending.returned (.bool true) = .returned (.bool fb); rw [HF.out], HB.out⟩
end
section
attribute [local go_sem ↓] Go.wp_at_zero Go.wp_at_succ

def wideV (z : Int) : Value := .agg #[.int .i64 (z / 18446744073709551616), .int .u64 (z % 18446744073709551616)]
def borrowI (x y b : Int) : Int := if x < y + b then 1 else 0
theorem sub64_run (x y b : Int) (hx : 0 ≤ x ∧ x < 18446744073709551616) (hy : 0 ≤ y ∧ y < 18446744073709551616) (hb : b = 0 ∨ b = 1) (w : World) :
    (callFunc 132 #[.int .u64 x, .int .u64 y, .int .u64 b]).run Tryz.prog w = .ok (.value (.tuple #[.int .u64 ((x - y - b) % 18446744073709551616), .int .u64 (borrowI x y b)])) w := by
  obtain ⟨x, rfl⟩ := Int.eq_ofNat_of_zero_le hx.1
  obtain ⟨y, rfl⟩ := Int.eq_ofNat_of_zero_le hy.1
  obtain ⟨b, rfl⟩ := Int.eq_ofNat_of_zero_le (show 0 ≤ b by omega)
  rw [run_callFunc_extern Tryz.func132 (by kernel_rfl) (by kernel_rfl) (by kernel_rfl) (e := sub64Entry) (by kernel_rfl), run_sub64 x y b (by omega)]
  have e1 : (((x + 18446744073709551616 - y - b) % 18446744073709551616 : Nat) : Int) = ((x : Int) - y - b) % 18446744073709551616 := by omega
  have e2 : ((if x < y + b then 1 else 0 : Nat) : Int) = borrowI x y b := by unfold borrowI; split <;> split <;> omega
  rw [e1, e2]
  rfl
theorem of_ok (x : Int) (h : I64 x) (w : World) : Calls Tryz.prog 55 #[.int .i64 x] w (BelVal (wideV x) w) := by
  obtain ⟨h0, h1⟩ := h
  have e1 : x / 9223372036854775808 = x / 18446744073709551616 := by omega
  have e2 : IntKind.u64.wrap x = x % 18446744073709551616 := IntKind.wrap_u64 x
  go_enter Tryz.func55, Tryz.ntmps55
  go_wp2
  refine bodyPost_ret (v := wideV x) (by simp [results, Tryz.results55, go_sem, wideV]) rfl (And.intro rfl ?_)
  repeat (first | exact Below.refl _ _ | refine Below.setCell ?_ (by simp) _ | refine Below.alloc ?_ (by simp) _)
def In127 (z : Int) : Prop := -170141183460469231731687303715884105728 ≤ z ∧ z < 170141183460469231731687303715884105728
theorem wrap_sub {a b : Int} (h : In127 (a - b)) : wrap64 (((a / 18446744073709551616 % 18446744073709551616) - (b / 18446744073709551616 % 18446744073709551616) - borrowI (a % 18446744073709551616) (b % 18446744073709551616) 0) % 18446744073709551616) = (a - b) / 18446744073709551616 := by
  obtain ⟨h0, h1⟩ := h
  unfold wrap64 borrowI
  split <;> omega
theorem sub_lo (a b : Int) : (a % 18446744073709551616 - b % 18446744073709551616 - 0) % 18446744073709551616 = (a - b) % 18446744073709551616 := by omega
theorem borrow_bit (x y b : Int) : borrowI x y b = 0 ∨ borrowI x y b = 1 := by unfold borrowI; split <;> simp
set_option maxRecDepth 8000 in
set_option maxHeartbeats 1000000 in
theorem wless_ok (a b : Int) (h : In127 (a - b)) (w : World) : Calls Tryz.prog 89 #[wideV a, wideV b] w (BelVal (wideV (a - b)) w) := by
  have HW := hid (wrap_sub h)
  have HL := hid (sub_lo a b)
  have HB := hid (borrow_bit (a % 18446744073709551616) (b % 18446744073709551616) 0)
  have la0 : 0 ≤ a % 18446744073709551616 ∧ a % 18446744073709551616 < 18446744073709551616 := by omega
  have lb0 : 0 ≤ b % 18446744073709551616 ∧ b % 18446744073709551616 < 18446744073709551616 := by omega
  have ha0 : 0 ≤ a / 18446744073709551616 % 18446744073709551616 ∧ a / 18446744073709551616 % 18446744073709551616 < 18446744073709551616 := by omega
  have hb0 : 0 ≤ b / 18446744073709551616 % 18446744073709551616 ∧ b / 18446744073709551616 % 18446744073709551616 < 18446744073709551616 := by omega
  have e1 := IntKind.wrap_u64 (a / 18446744073709551616)
  have e2 := IntKind.wrap_u64 (b / 18446744073709551616)
  have S1 := hid (fun W => sub64_run (a % 18446744073709551616) (b % 18446744073709551616) 0 la0 lb0 (.inl rfl) W)
  have S2 := hid (fun W => sub64_run (a / 18446744073709551616 % 18446744073709551616) (b / 18446744073709551616 % 18446744073709551616) _ ha0 hb0 HB.out W)
  rw [HL.out] at S1
  have HV : Hid (wideV (a - b) = .agg #[.int .i64 ((a - b) / 18446744073709551616), .int .u64 ((a - b) % 18446744073709551616)]) := hid rfl
  rw [← HW.out] at HV
  unfold wideV
  unfold wideV at HV
  rw [HV.out]
  rw [← e1, ← e2] at S2 ⊢
  clear HW HL HB la0 lb0 ha0 hb0 h HV e1 e2
  generalize borrowI (a % 18446744073709551616) (b % 18446744073709551616) 0 = bo at *
  generalize (a - b) % 18446744073709551616 = lo at *
  generalize a % 18446744073709551616 = la at *
  generalize b % 18446744073709551616 = lb at *
  generalize a / 18446744073709551616 = ha at *
  generalize b / 18446744073709551616 = hb at *
  go_enter Tryz.func89, Tryz.ntmps89
  go_wp2_with (first | simp only [S1.out] | simp only [S2.out])
  refine bodyPost_ret (v := .agg #[.int .i64 (wrap64 ((IntKind.u64.wrap ha - IntKind.u64.wrap hb - bo) % 18446744073709551616)), .int .u64 lo]) (by simp [results, Tryz.results89, go_sem]) rfl (And.intro rfl ?_)
  repeat (first | exact Below.refl _ _ | refine Below.setCell ?_ (by simp; try omega) _ | refine Below.alloc ?_ (by simp; try omega) _)
theorem Blk.set2 {W : World} {g : Nat} {t : TypeId} {a0 a1 v0 v1 : Value} (h : Blk W g t #[a0, a1]) : Blk ((W.setCell ⟨g, 0, none⟩ v0).setCell ⟨g, 1, none⟩ v1) g t #[v0, v1] := by
  have := (h.set_ 0 v0).set_ 1 v1
  simpa using this
theorem below2 {W : World} {B g : Nat} {v0 v1 : Value} (hg : B ≤ g) (_hB : B ≤ W.heap.size) : Below B W ((W.setCell ⟨g, 0, none⟩ v0).setCell ⟨g, 1, none⟩ v1) :=
  ((Below.refl B W).setCell (by simpa using hg) _).setCell (by simpa using hg) _
def sgnI (x y : Int) : Int := if x < y then -1 else if y < x then 1 else 0
theorem ret64' {a b : Int} (h : a = b) : Ending.returned (.int .i64 a) = .returned (.int .i64 b) := by rw [h]
set_option maxRecDepth 8000 in
set_option maxHeartbeats 1000000 in
theorem wcmp_i (x y : Int) (w : World) : Calls Tryz.prog 91 #[.int .i64 x, .int .i64 y] w fun e w' => e = .returned (.int .i64 (sgnI x y)) ∧ w = w' := by
  go_enter Tryz.func91, Tryz.ntmps91
  by_cases h1 : x < y
  · have HC : Hid (sgnI x y = -1) := hid (by unfold sgnI; rw [if_pos h1])
    go_wp2
    go_ret; exact ⟨ret64' HC.out.symm, rfl⟩
  · by_cases h2 : y < x
    · have HC : Hid (sgnI x y = 1) := hid (by unfold sgnI; rw [if_neg h1, if_pos h2])
      go_wp2
      go_ret; exact ⟨ret64' HC.out.symm, rfl⟩
    · have HC : Hid (sgnI x y = 0) := hid (by unfold sgnI; rw [if_neg h1, if_neg h2])
      go_wp2
      go_ret; exact ⟨ret64' HC.out.symm, rfl⟩
set_option maxRecDepth 8000 in
set_option maxHeartbeats 1000000 in
theorem wcmp_u (x y : Int) (w : World) : Calls Tryz.prog 92 #[.int .u64 x, .int .u64 y] w fun e w' => e = .returned (.int .i64 (sgnI x y)) ∧ w = w' := by
  go_enter Tryz.func92, Tryz.ntmps92
  by_cases h1 : x < y
  · have HC : Hid (sgnI x y = -1) := hid (by unfold sgnI; rw [if_pos h1])
    go_wp2
    go_ret; exact ⟨ret64' HC.out.symm, rfl⟩
  · by_cases h2 : y < x
    · have HC : Hid (sgnI x y = 1) := hid (by unfold sgnI; rw [if_neg h1, if_pos h2])
      go_wp2
      go_ret; exact ⟨ret64' HC.out.symm, rfl⟩
    · have HC : Hid (sgnI x y = 0) := hid (by unfold sgnI; rw [if_neg h1, if_neg h2])
      go_wp2
      go_ret; exact ⟨ret64' HC.out.symm, rfl⟩
def orI (x y : Int) : Int := if x = 0 then y else x
set_option maxRecDepth 8000 in
set_option maxHeartbeats 1000000 in
theorem or2_ok (g : Nat) (x y : Int) (w : World) (h0 : w.cell? ⟨g, 0, none⟩ = some (.int .i64 x)) (h1 : w.cell? ⟨g, 1, none⟩ = some (.int .i64 y)) :
    Calls Tryz.prog 90 #[.slice (some ⟨g, 0, none⟩) 2 2] w fun e w' => e = .returned (.int .i64 (orI x y)) ∧ w = w' := by
  go_enter Tryz.func90, Tryz.ntmps90
  go_wp2
  go_loopw [8] (fun t wr => wr = w ∧ ((t = .int .i64 0) ∨ (t = .int .i64 1 ∧ x = 0) ∨ (t = .int .i64 2 ∧ x = 0 ∧ y = 0))) (fun t _ => 2 - (Go.RowKit.intOf t).toNat)
  case atStart => exact ⟨rfl, .inl rfl⟩
  case round =>
    obtain ⟨rfl, hrel⟩ := hrel
    rcases hrel with rfl | ⟨rfl, rfl⟩ | ⟨rfl, rfl, rfl⟩
    · cases t1 : (x != 0)
      · obtain rfl : x = 0 := by simpa using t1
        go_wp2
        go_roundw
        case rel => exact ⟨by first | rfl | trivial, .inr (.inl ⟨by first | rfl | trivial, by first | rfl | trivial⟩)⟩
        case measure => simp [Go.RowKit.intOf]
      · have hx : x ≠ 0 := by simpa using t1
        have HO : Hid (orI x y = x) := hid (by unfold orI; rw [if_neg hx])
        clear hx
        go_wp2
        go_ret
        exact ⟨ret64' HO.out.symm, rfl⟩
    · cases t1 : (y != 0)
      · obtain rfl : y = 0 := by simpa using t1
        go_wp2
        go_roundw
        case rel => exact ⟨by first | rfl | trivial, .inr (.inr ⟨by first | rfl | trivial, by first | rfl | trivial, by first | rfl | trivial⟩)⟩
        case measure => simp [Go.RowKit.intOf]
      · have HO : Hid (orI 0 y = y) := hid (by unfold orI; rw [if_pos rfl])
        go_wp2
        go_ret
        exact ⟨ret64' HO.out.symm, rfl⟩
    · go_wp2
      go_ret
      exact ⟨ret64' (by decide), rfl⟩
theorem wide_cmp (a b : Int) : orI (sgnI (a / 18446744073709551616) (b / 18446744073709551616)) (sgnI (a % 18446744073709551616) (b % 18446744073709551616)) = sgnI a b := by
  unfold orI sgnI
  repeat' split
  all_goals omega
set_option maxRecDepth 8000 in
set_option maxHeartbeats 1000000 in
theorem wcompare_ok (a b : Int) (w : World) : Calls Tryz.prog 54 #[wideV a, wideV b] w (BelVal (.int .i64 (sgnI a b)) w) := by
  have HV : Hid (sgnI a b = orI (sgnI (a / 18446744073709551616) (b / 18446744073709551616)) (sgnI (a % 18446744073709551616) (b % 18446744073709551616))) := hid (wide_cmp a b).symm
  rw [HV.out]
  unfold wideV
  clear HV
  generalize a % 18446744073709551616 = la at *
  generalize b % 18446744073709551616 = lb at *
  generalize a / 18446744073709551616 = ha at *
  generalize b / 18446744073709551616 = hb at *
  obtain ⟨p0, p1, hb0, hsz⟩ := new_two w #[.int .i64 ha, .int .u64 la] #[.int .i64 hb, .int .u64 lb] 110 110
  go_enter Tryz.func54, Tryz.ntmps54
  go_wp2
  generalize (w.alloc (Obj.cells #[.int .i64 ha, .int .u64 la] 110)).alloc (Obj.cells #[.int .i64 hb, .int .u64 lb] 110) = w1 at *
  obtain ⟨x0, x1, fx⟩ := opbox p0
  obtain ⟨y0, y1, fy⟩ := opbox p1
  have f0 := later x0
  have f1 := later x1
  have g0 := later y0
  have g1 := later y1
  clear x0 x1 y0 y1 fx fy hsz
  refine wp_region_flow 9 (fun X => Below w1.heap.size w1 X) (by kernel_rfl) (by kernel_rfl) (Below.refl _ _).drew ?_
  (repeat (first | (refine Flow.skip (by rfl) ?_; simp only [Act.put, List.setIfInBounds_toArray, List.set_cons_zero, List.set_cons_succ]) | (refine' Flow.take _ (by rfl) (fun W hW R hR => ?_) ?_; rotate_left; (go_simp; (try go_bits); with_reducible exact hR); simp only [Act.put, List.setIfInBounds_toArray, List.set_cons_zero, List.set_cons_succ])))
  (refine Flow.call 91 #[.int .i64 ha, .int .i64 hb] (.int .i64 (sgnI ha hb)) (by rfl) (fun X hX => by go_simp) (fun X hX => (wcmp_i ha hb _).mono fun e' w' ⟨he, hw⟩ => ⟨he, hw ▸ hX⟩) ?_; simp only [Act.put, List.setIfInBounds_toArray, List.set_cons_zero, List.set_cons_succ])
  (repeat (first | (refine Flow.skip (by rfl) ?_; simp only [Act.put, List.setIfInBounds_toArray, List.set_cons_zero, List.set_cons_succ]) | (refine' Flow.take _ (by rfl) (fun W hW R hR => ?_) ?_; rotate_left; (go_simp; (try go_bits); with_reducible exact hR); simp only [Act.put, List.setIfInBounds_toArray, List.set_cons_zero, List.set_cons_succ])))
  intro w4 hb4
  clear f0 f1 g0 g1
  replace hb0 := bup hb0 hb4
  go_wp2_with (refine (wcmp_u la lb _).mono ?_)
  rintro e5 w5 ⟨rfl, rfl⟩
  obtain ⟨p2, hb2, -⟩ := new_one w4 #[.int .i64 (sgnI ha hb), .int .i64 (sgnI la lb)] 3
  have z0 := p2.cell 0
  have z1 := p2.cell 1
  replace hb0 := bup hb0 hb2
  clear p0 p1 p2 hb2 hb4
  go_wp2_with fail
  (with_reducible refine (or2_ok w4.heap.size (sgnI ha hb) (sgnI la lb) _ z0 z1).mono ?_)
  rintro e6 w6 ⟨rfl, rfl⟩
  go_wp2
  go_ret
  exact ⟨rfl, hb0⟩
theorem side_127 {xs : List Int} (h : ∀ k : Nat, I64 (gI xs (k : Int))) (i : Nat) : -9223372036854775808 ≤ sideX xs i ∧ sideX xs i ≤ 9223372036854775808 := by
  have := h (i / 2)
  unfold I64 at this
  unfold sideX
  split <;> omega
set_option maxRecDepth 8000 in
set_option maxHeartbeats 1000000 in
theorem wside_ok (xs : List Int) (i : Nat) (A : Option Addr) (cap B : Nat) (w : World) (hx : Rd w B A xs) (_hB : B ≤ w.heap.size) (hI : ∀ k : Nat, I64 (gI xs (k : Int))) (hi : i / 2 < xs.length) (hi2 : i ≤ 1000) :
    Calls Tryz.prog 88 #[.slice A xs.length cap, .int .i64 (i : Int)] w (BelVal (wideV (sideX xs i)) w) := by
  obtain ⟨q, hq⟩ : ∃ q : Nat, q = i / 2 := ⟨_, rfl⟩
  have e1 : (i : Int).tdiv 2 = (q : Int) := by rw [hq]; exact (Int.tdiv_eq_ediv_of_nonneg (by omega)).trans (by omega)
  have e2 : (i : Int) / 2 = (q : Int) := by rw [hq]; omega
  have hql : (q : Int) < (xs.length : Int) := by omega
  have hq2 : (q : Int) ≤ 1000 := by omega
  obtain ⟨r, hr⟩ : ∃ r : Nat, r = i % 2 := ⟨_, rfl⟩
  have HS : Hid (sideX xs i = if r = 0 then gI xs (q : Int) else -gI xs (q : Int)) := hid (by unfold sideX; rw [← hq, ← hr])
  have hr2 : r = 0 ∨ r = 1 := by omega
  have e3 : (i : Int).tmod 2 = (r : Int) := by rw [hr]; exact (Int.tmod_eq_emod_of_nonneg (by omega)).trans (by omega)
  have e4 : (i : Int) % 2 = (r : Int) := by rw [hr]; omega
  have hI1 := hI q
  obtain ⟨b, off, rfl, hb, hc⟩ := hx.at_ (i := (q : Int)) (by omega) hql
  rw [show ((q : Int)).toNat = q from rfl] at hc
  obtain ⟨u, hu⟩ : ∃ u, u = gI xs (q : Int) := ⟨_, rfl⟩
  rw [← hu] at HS hc hI1
  have HI := hid hI1
  have HZ := hid (show In127 (0 - u) by unfold In127; unfold I64 at hI1; omega)
  clear hu hq hr hI hI1 hi hi2
  have nb := new1 w (.cells #[.int .i64 0, .int .u64 0] 110)
  have pk := Blk.new w 110 #[.int .i64 0, .int .u64 0]
  have hc1 := later hc _ nb
  have hq0 : (0 : Int) ≤ (q : Int) := by omega
  go_enter Tryz.func88, Tryz.ntmps88
  go_wp2_with (refine (of_ok u HI.out _).mono ?_)
  rintro f1 w1 ⟨rfl, hb1⟩
  have hb0 := bup nb hb1
  replace pk := pk.later hb1
  clear nb hb1 hc hc1
  unfold wideV
  obtain ⟨p2, hb2, -⟩ := new_one w1 #[.int .i64 (u / 18446744073709551616), .int .u64 (u % 18446744073709551616)] 110
  have hne : w.heap.size ≠ w1.heap.size := by have := pk.lt; omega
  replace pk := pk.later hb2
  replace hb0 := bup hb0 hb2
  rcases hr2 with rfl | rfl
  · obtain ⟨x0, x1, fx⟩ := opbox p2
    obtain ⟨y0, y1, fy⟩ := opbox pk
    go_wp2
    have z9 := pk.set2 (v0 := .int .i64 (u / 18446744073709551616)) (v1 := .int .u64 (u % 18446744073709551616))
    obtain ⟨z0, z1, fz⟩ := opbox z9
    refine bodyPost_ret (v := wideV u) (by simp [results, Tryz.results88, go_sem, wideV, z0, z1]) rfl ⟨by rw [HS.out]; simp, ?_⟩
    exact hb0.trans (below2 (by omega) hb0.size)
  · obtain ⟨x0, x1, fx⟩ := opbox p2
    have f0 := later x0
    have f1 := later x1
    clear x0 x1 fx p2
    go_upto_region 3 with fail
    generalize w1.alloc (Obj.cells #[.int .i64 (u / 18446744073709551616), .int .u64 (u % 18446744073709551616)] 110) = w2 at *
    refine wp_region_flow 2 (fun X => Below w2.heap.size w2 X) (by kernel_rfl) (by kernel_rfl) (Below.refl _ _).drew ?_
    (refine Flow.call 55 #[.int .i64 0] (wideV 0) (by rfl) (fun X hX => by go_simp) (fun X hX => (of_ok 0 (by unfold I64; omega) _).mono fun e' w' ⟨he, hb'⟩ => ⟨he, bstep hX hX.size hb'⟩) ?_; simp only [Act.put, List.setIfInBounds_toArray, List.set_cons_zero, List.set_cons_succ])
    (repeat (first | (refine Flow.skip (by rfl) ?_; simp only [Act.put, List.setIfInBounds_toArray, List.set_cons_zero, List.set_cons_succ]) | (refine' Flow.take _ (by rfl) (fun W hW R hR => ?_) ?_; rotate_left; (go_simp; (try go_bits); with_reducible exact hR); simp only [Act.put, List.setIfInBounds_toArray, List.set_cons_zero, List.set_cons_succ])))
    intro w4 hb4
    clear f0 f1
    replace hb0 := bup hb0 hb4
    replace pk := pk.later hb4
    have HL := hid (wless_ok 0 u HZ.out w4)
    rw [Int.zero_sub] at HL
    have e9 : (.agg #[.int .i64 (u / 18446744073709551616), .int .u64 (u % 18446744073709551616)] : Value) = wideV u := rfl
    rw [e9]
    clear e9
    go_wp2_with (refine HL.out.mono ?_)
    rintro e5 w5 ⟨rfl, hb5⟩
    replace hb0 := bup hb0 hb5
    replace pk := pk.later hb5
    obtain ⟨y0, y1, fy⟩ := opbox pk
    unfold wideV
    go_wp2
    have z9 := pk.set2 (v0 := .int .i64 ((-u) / 18446744073709551616)) (v1 := .int .u64 ((-u) % 18446744073709551616))
    obtain ⟨z0, z1, fz⟩ := opbox z9
    refine bodyPost_ret (v := wideV (-u)) (by simp [results, Tryz.results88, go_sem, wideV, z0, z1]) rfl ⟨by rw [HS.out]; simp, ?_⟩
    exact hb0.trans (below2 (by omega) hb0.size)
theorem apart_127 {xs : List Int} (h : ∀ k : Nat, I64 (gI xs (k : Int))) (i j : Nat) : In127 (sideX xs i - sideX xs j) := by
  have h1 := side_127 h i
  have h2 := side_127 h j
  unfold In127
  omega
set_option maxRecDepth 8000 in
set_option maxHeartbeats 1000000 in
theorem wapart_ok (xs : List Int) (i j : Nat) (A : Option Addr) (cap B : Nat) (w : World) (hx : Rd w B A xs) (hB : B ≤ w.heap.size) (hI : ∀ k : Nat, I64 (gI xs (k : Int))) (hi : i / 2 < xs.length) (hi2 : i ≤ 1000) (hj : j / 2 < xs.length) (hj2 : j ≤ 1000) :
    Calls Tryz.prog 53 #[.slice A xs.length cap, .int .i64 (i : Int), .int .i64 (j : Int)] w (BelVal (wideV (apartX xs i j)) w) := by
  have HZ := hid (apart_127 hI i j)
  have pk := Blk.new w 110 #[.int .i64 0, .int .u64 0]
  have hb0 := new1 w (.cells #[.int .i64 0, .int .u64 0] 110)
  go_enter Tryz.func53, Tryz.ntmps53
  go_wp2_with fail
  generalize w.alloc (.cells #[.int .i64 0, .int .u64 0] 110) = w1 at *
  have hB1 : B ≤ w1.heap.size := Nat.le_trans hB hb0.size
  have hx1 : Rd w1 B A xs := hx.below (hb0.mono hB)
  have HS1 := hid (wside_ok xs i A cap B w1 hx1 hB1 hI hi hi2)
  go_wp2_with (refine HS1.out.mono ?_)
  rintro e2 w2 ⟨rfl, hb2⟩
  have hB2 : B ≤ w2.heap.size := Nat.le_trans hB1 hb2.size
  have hx2 : Rd w2 B A xs := hx1.below (hb2.mono hB1)
  have HS2 := hid (wside_ok xs j A cap B w2 hx2 hB2 hI hj hj2)
  clear HS1
  go_wp2_with (refine HS2.out.mono ?_)
  rintro e3 w3 ⟨rfl, hb3⟩
  clear HS2
  have HL := hid (wless_ok _ _ HZ.out w3)
  go_wp2_with (refine HL.out.mono ?_)
  rintro e4 w4 ⟨rfl, hb4⟩
  clear HL
  replace hb0 := bup (bup (bup hb0 hb2) hb3) hb4
  replace pk := ((pk.later hb2).later hb3).later hb4
  obtain ⟨y0, y1, fy⟩ := opbox pk
  unfold wideV
  go_wp2
  have z9 := pk.set2 (v0 := .int .i64 ((sideX xs i - sideX xs j) / 18446744073709551616)) (v1 := .int .u64 ((sideX xs i - sideX xs j) % 18446744073709551616))
  obtain ⟨z0, z1, fz⟩ := opbox z9
  refine bodyPost_ret (v := wideV (apartX xs i j)) (by simp [results, Tryz.results53, go_sem, wideV, z0, z1, apartX]) rfl ⟨rfl, ?_⟩
  exact hb0.trans (below2 (by omega) hb0.size)
end
end Go.Proofs.YtkncebcekhfnfaaGreat
