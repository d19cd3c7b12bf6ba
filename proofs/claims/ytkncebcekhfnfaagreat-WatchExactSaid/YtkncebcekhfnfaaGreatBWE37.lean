/-
  Rows of octagons as lists.
  watch.fits: are octagons those of a graph's points? (Printed by gen_fits.py.)
-/
import Derived.Test.YtkncebcekhfnfaaGreatBWE02
import Derived.Test.YtkncebcekhfnfaaGreatWatchSeen
import Derived.Test.YtkncebcekhfnfaaGreatBWE06
import Derived.Test.YtkncebcekhfnfaaGreatSRun
namespace Go.Proofs.YtkncebcekhfnfaaGreat
open Go.RowKit
section

/-- An octagon, and where its cells lie. -/
abbrev Z := O × Option Addr × Nat
def o3 (z : Z) : List Value := [.int .i64 z.1.n, .bool z.1.e, .slice z.2.1 z.1.m.length z.2.2]
structure RowZ (w : World) (A : Option Addr) (zs : List Z) : Prop where
  at_ : ∀ k (h : k < zs.length), ∃ b off, A = some ⟨b, off, none⟩ ∧ b < w.heap.size ∧ w.cell? ⟨b, off + k * 3, none⟩ = some (.int .i64 zs[k].1.n) ∧ w.cell? ⟨b, off + k * 3 + 1, none⟩ = some (.bool zs[k].1.e) ∧ w.cell? ⟨b, off + k * 3 + 2, none⟩ = some (.slice zs[k].2.1 zs[k].1.m.length zs[k].2.2)
  rd : ∀ k (h : k < zs.length), Rd w w.heap.size zs[k].2.1 zs[k].1.m
  le : ∀ k (h : k < zs.length), zs[k].1.m.length ≤ 17592186044416
theorem RowZ.up {w w' : World} {A : Option Addr} {zs : List Z} (h : RowZ w A zs) (hb : Below w.heap.size w w') : RowZ w' A zs :=
  ⟨fun k hk => by
    obtain ⟨b, off, h1, h2, h3, h4, h5⟩ := h.at_ k hk
    exact ⟨b, off, h1, Nat.lt_of_lt_of_le h2 hb.size, (hb.cell (p := ⟨b, _, none⟩) h2).trans h3, (hb.cell (p := ⟨b, _, none⟩) h2).trans h4, (hb.cell (p := ⟨b, _, none⟩) h2).trans h5⟩, fun k hk => (h.rd k hk).up hb, h.le⟩
end
section
attribute [local go_sem ↓] Go.wp_at_zero Go.wp_at_succ

def fitB (g : Gr) (o : O) : Bool := decide (o.n = g.all) && decide (check o = 0)
set_option maxRecDepth 8000 in
set_option maxHeartbeats 16000000 in
theorem fits_ok (g : Gr) (V D E : Option Addr) (cv cd ce : Nat) (A : Option Addr) (c : Nat) (zs : List Z) (w : World) (hz : RowZ w A zs) (hc : chk g = 0) (hl : zs.length ≤ 17592186044416) :
    Calls Tryz.prog 26 #[grV g V D E cv cd ce, .slice A zs.length c] w fun e w' => e = .returned (.bool (fitsB g (zs.map (·.1)))) ∧ Below w.heap.size w w' := by
  obtain ⟨ct0, ct1, ca, ces, csz, cz, cr⟩ := chk_parts hc
  have HALL := hid (show g.all = (g.nv : Int) + g.tm from rfl)
  have hnv : (g.nv : Int) ≤ 64 := by have : g.all = (g.nv : Int) + g.tm := rfl; omega
  have hs1 : (g.nv : Int) + g.tm ≤ 64 := ca
  have hs0 : 0 ≤ (g.nv : Int) + g.tm := by omega
  obtain ⟨fb, HFB⟩ : ∃ fb, Hid (fitsB g (zs.map (·.1)) = fb) := ⟨_, hid rfl⟩
  rw [HFB.out]
  have hb0 := new1 w (.cells #[.slice V g.nv cv, .int .i64 g.tm, .slice D g.sz.length cd, .int .i64 g.pts, .int .i64 g.ex, .slice E g.es.length ce] 26)
  have k0 := Blk.new w 26 #[.slice V g.nv cv, .int .i64 g.tm, .slice D g.sz.length cd, .int .i64 g.pts, .int .i64 g.ex, .slice E g.es.length ce]
  have HZ := hid hz
  clear hz hc cz cr ca ces csz
  unfold grV
  go_enter Tryz.func26, Tryz.ntmps26
  go_upto_region 1 with fail
  generalize w.alloc (.cells #[.slice V g.nv cv, .int .i64 g.tm, .slice D g.sz.length cd, .int .i64 g.pts, .int .i64 g.ex, .slice E g.es.length ce] 26) = w1 at *
  have HK0 := hid k0
  obtain ⟨f0, f1, f2, f3, f4, f5, ff⟩ := blk6 k0
  clear k0
  by_cases hn : (zs.length : Int) = g.pts
  case neg =>
    have HF : Hid (fb = false) := hid (by
      rw [← HFB.out]
      unfold fitsB
      rw [Bool.and_eq_false_iff]
      exact .inl (decide_eq_false (by rw [List.length_map]; exact hn)))
    have hn' : ((zs.length : Int) != g.pts) = true := by rw [bne_iff_ne]; exact hn
    have HB := hid hb0
    clear hb0
    go_wp2
    go_ret
    exact ⟨by show Ending.returned (.bool false) = .returned (.bool fb); rw [HF.out], HB.out⟩
  have HFA := hid (fun (h : ∀ z ∈ zs, fitB g z.1 = true) => (show fb = true from by
    rw [← HFB.out]
    unfold fitsB
    rw [Bool.and_eq_true, decide_eq_true_eq, List.all_eq_true]
    exact ⟨by rw [List.length_map]; exact hn, fun o ho => by obtain ⟨z, hz, rfl⟩ := List.mem_map.1 ho; exact h z hz⟩))
  have HFN := hid (fun (z : Z) (hz : z ∈ zs) (h : fitB g z.1 = false) => (show fb = false from by
    rw [← HFB.out]
    unfold fitsB
    rw [Bool.and_eq_false_iff, List.all_eq_false]
    exact .inr ⟨z.1, List.mem_map_of_mem hz, by rw [Bool.not_eq_true]; exact h⟩))
  have HBW := hid hb0
  have HF3 := hid f3
  have HNV := hid hnv
  have HS1 := hid hs1
  have HS0 := hid hs0
  have hn' : ((zs.length : Int) != g.pts) = false := by rw [bne_eq_false_iff_eq]; exact hn
  clear hb0 f0 f1 f2 f3 f4 f5 ff
  obtain ⟨f0, f1, f2, f3, f4, f5, ff⟩ := blk6 HK0.out
  go_wp2
  clear f0 f1 f2 f3 f4 f5 ff hn'
  go_loopw [14] (fun t wr => ∃ (k : Nat), k ≤ zs.length ∧ t = .int .i64 k ∧ (∀ z ∈ zs.take k, fitB g z.1 = true) ∧ Below w1.heap.size w1 wr) (fun t _ => zs.length - (Go.RowKit.intOf t).toNat)
  case atStart => exact ⟨0, by omega, rfl, fun z hz => absurd hz (by simp), Below.refl _ _⟩
  case round =>
    obtain ⟨k, hk, rfl, hall, hb⟩ := hrel
    by_cases hlt : k < zs.length
    · have hlt' : (k : Int) < (zs.length : Int) := by omega
      obtain ⟨b, off, rfl, hB, c0, c1, c2⟩ := ((HZ.out.up HBW.out).up hb).at_ k hlt
      have hrd := ((HZ.out.up HBW.out).up hb).rd k hlt
      have hle := HZ.out.le k hlt
      have HMEM := hid (List.getElem_mem hlt)
      have HALL' := hid hall
      obtain ⟨z, hz⟩ : ∃ z, zs[k] = z := ⟨_, rfl⟩
      have HZK := hid hz
      rw [hz] at c0 c1 c2 hrd hle HMEM
      have n2 := new1 wr (.cells #[.int .i64 z.1.n, .bool z.1.e, .slice z.2.1 z.1.m.length z.2.2] 53)
      have k2 := hid (Blk.new wr 53 #[.int .i64 z.1.n, .bool z.1.e, .slice z.2.1 z.1.m.length z.2.2])
      have HB2 := hid (bup hb n2)
      have HCK := hid (fun (h : Rd (wr.alloc (.cells #[.int .i64 z.1.n, .bool z.1.e, .slice z.2.1 z.1.m.length z.2.2] 53)) (wr.alloc (.cells #[.int .i64 z.1.n, .bool z.1.e, .slice z.2.1 z.1.m.length z.2.2] 53)).heap.size z.2.1 z.1.m) => check_any z.1 z.2.1 z.2.2 _ h (by omega))
      have HRD := hid (hrd.up n2)
      clear hall hz hrd hle n2 hb
      go_upto_region 6 with fail
      clear c0 c1 c2 hB
      have hk0 := HK0.out.later HB2.out
      have hck := HCK.out HRD.out
      have kz := k2.out
      have HBX := hid (bup HBW.out HB2.out)
      clear HCK
      generalize wr.alloc (.cells #[.int .i64 z.1.n, .bool z.1.e, .slice z.2.1 z.1.m.length z.2.2] 53) = w2 at *
      obtain ⟨ck, HCKE⟩ : ∃ ck, Hid (check z.1 = ck) := ⟨_, hid rfl⟩
      rw [HCKE.out] at hck
      have hnv := HNV.out
      have hs0 := HS0.out
      have hs1 := HS1.out
      obtain ⟨f0, f1, f2, f3, f4, f5, ff⟩ := blk6 hk0
      have z0 := kz.cell 0
      have z1 := kz.cell 1
      have z2 := kz.cell 2
      clear hk0 kz k2
      by_cases hzn : z.1.n = (g.nv : Int) + g.tm
      case neg =>
        have HF : Hid (fb = false) := hid (HFN.out z HMEM.out (by unfold fitB; rw [Bool.and_eq_false_iff]; exact .inl (decide_eq_false (by rw [HALL.out]; exact hzn))))
        have hne : (z.1.n != (g.nv : Int) + g.tm) = true := by rw [bne_iff_ne]; exact hzn
        clear hck hzn
        go_wp2
        go_ret
        exact ⟨by show Ending.returned (.bool false) = .returned (.bool fb); rw [HF.out], HBX.out⟩
      have HZN := hid hzn
      have hne : (z.1.n != (g.nv : Int) + g.tm) = false := by rw [bne_eq_false_iff_eq]; exact hzn
      clear hzn
      go_wp2_with fail
      clear f0 f1 f2 f3 f4 f5 ff z0 z1 z2 hnv hs0 hs1 hne
      (with_reducible refine hck.mono ?_)
      rintro e3 w3 ⟨rfl, hb3⟩
      clear hck
      have HB3 := hid (bup HBX.out hb3)
      have HB4 := hid (bup HB2.out hb3)
      clear hb3
      by_cases hc0 : ck = 0
      · subst hc0
        have HA : Hid (∀ y ∈ zs.take (k + 1), fitB g y.1 = true) := hid (fun y hy => by
          rw [List.take_succ_eq_append_getElem hlt, List.mem_append, List.mem_singleton] at hy
          rcases hy with hy | hy
          · exact HALL'.out y hy
          · rw [hy, HZK.out]
            unfold fitB
            rw [Bool.and_eq_true, decide_eq_true_eq, decide_eq_true_eq]
            exact ⟨by rw [HALL.out]; exact HZN.out, HCKE.out⟩)
        go_wp2
        go_roundw
        case rel => exact ⟨k + 1, by omega, by go_num, HA.out, HB4.out⟩
        case measure => simp [Go.RowKit.intOf]; omega
      · have HF : Hid (fb = false) := hid (HFN.out z HMEM.out (by unfold fitB; rw [Bool.and_eq_false_iff]; exact .inr (decide_eq_false (by rw [HCKE.out]; exact hc0))))
        have hne : (ck != 0) = true := by rw [bne_iff_ne]; exact hc0
        clear hc0
        go_wp2
        go_ret
        exact ⟨by show Ending.returned (.bool false) = .returned (.bool fb); rw [HF.out], HB3.out⟩
    · obtain rfl : k = zs.length := by omega
      rw [List.take_length] at hall
      have HF : Hid (fb = true) := hid (HFA.out hall)
      have HB := hid (bup HBW.out hb)
      clear hb hall
      go_wp2
      go_ret
      exact ⟨by show Ending.returned (.bool true) = .returned (.bool fb); rw [HF.out], HB.out⟩
end
end Go.Proofs.YtkncebcekhfnfaaGreat
