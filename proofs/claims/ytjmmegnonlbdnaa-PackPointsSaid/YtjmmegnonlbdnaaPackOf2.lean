/-
  pack.Of of a graph that is one: what it answers (under way).
-/
import Derived.Test.YtjmmegnonlbdnaaBPP33
namespace Go.Proofs.Ytjmmegnonlbdnaa
open Go.RowKit
attribute [local go_sem ↓] Go.wp_at_zero Go.wp_at_succ

set_option maxRecDepth 8000 in
set_option maxHeartbeats 8000000 in
theorem packof_any (g : Gr) (V D E : Option Addr) (cv cd ce : Nat) (w : World) (hD : RdD w w.heap.size D g.sz) (hE : RdE w w.heap.size E g.es) (lv : g.nv ≤ 17592186044416) (ls : g.sz.length ≤ 17592186044416) (le : g.es.length ≤ 17592186044416) (hk : chk g = 0) (N : Nat) (hN : g.all = (N : Int)) :
    Calls Try.prog 7 #[grV g V D E cv cd ce] w (PackRes w (packsR (rootsOf g.es g.es.length) N)) := by
  have n0 := new1 w (.cells #[.slice V g.nv cv, .int .i64 g.tm, .slice D g.sz.length cd, .int .i64 g.pts, .int .i64 g.ex, .slice E g.es.length ce] 26)
  have k0 := Blk.new w 26 #[.slice V g.nv cv, .int .i64 g.tm, .slice D g.sz.length cd, .int .i64 g.pts, .int .i64 g.ex, .slice E g.es.length ce]
  replace hD := hD.up n0
  replace hE := hE.up n0
  have HC := hid (gcheck_any g V D E cv cd ce _ hD hE lv ls le)
  obtain ⟨tm0, tm1, al1, es1, hvars⟩ := chk_zero hk
  have HVARS := hid hvars
  have HK := hid hk
  rw [hk] at HC
  clear hk hvars
  unfold grV at *
  have HN := hid hN
  have hN64 : N ≤ 64 := by omega
  clear hN
  obtain ⟨x0, x1, x2, x3, x4, x5, fx⟩ := blk6 k0
  go_enter Try.func7, Try.ntmps7
  go_wp2_with fail
  refine HC.out.mono ?_
  clear HC x0 x1 x2 x3 x4 x5 fx
  generalize w.alloc (.cells #[.slice V g.nv cv, .int .i64 g.tm, .slice D g.sz.length cd, .int .i64 g.pts, .int .i64 g.ex, .slice E g.es.length ce] 26) = w0 at *
  rintro e1 w1 ⟨rfl, hb1⟩
  replace k0 := k0.later hb1
  replace hE := hE.up hb1
  replace n0 := bup n0 hb1
  clear hb1 hD
  have hnt : (g.nv : Int) + g.tm = (N : Int) := HN.out
  have r9 := links_start w1
  have n9 := new1 w1 (.cells #[.int .i64 0, .int .i64 0, .int .i64 0, .int .i64 0, .int .i64 0, .int .i64 0, .int .i64 0, .int .i64 0, .int .i64 0, .int .i64 0, .int .i64 0, .int .i64 0, .int .i64 0, .int .i64 0, .int .i64 0, .int .i64 0, .int .i64 0, .int .i64 0, .int .i64 0, .int .i64 0, .int .i64 0, .int .i64 0, .int .i64 0, .int .i64 0, .int .i64 0, .int .i64 0, .int .i64 0, .int .i64 0, .int .i64 0, .int .i64 0, .int .i64 0, .int .i64 0, .int .i64 0, .int .i64 0, .int .i64 0, .int .i64 0, .int .i64 0, .int .i64 0, .int .i64 0, .int .i64 0, .int .i64 0, .int .i64 0, .int .i64 0, .int .i64 0, .int .i64 0, .int .i64 0, .int .i64 0, .int .i64 0, .int .i64 0, .int .i64 0, .int .i64 0, .int .i64 0, .int .i64 0, .int .i64 0, .int .i64 0, .int .i64 0, .int .i64 0, .int .i64 0, .int .i64 0, .int .i64 0, .int .i64 0, .int .i64 0, .int .i64 0, .int .i64 0] 59)
  obtain ⟨x0, x1, x2, x3, x4, x5, fx⟩ := blk6 k0
  go_wp2
  clear x0 x1 x2 x3 x4 x5 fx hnt
  have hs9 : Hid ((w1.alloc (.cells #[.int .i64 0, .int .i64 0, .int .i64 0, .int .i64 0, .int .i64 0, .int .i64 0, .int .i64 0, .int .i64 0, .int .i64 0, .int .i64 0, .int .i64 0, .int .i64 0, .int .i64 0, .int .i64 0, .int .i64 0, .int .i64 0, .int .i64 0, .int .i64 0, .int .i64 0, .int .i64 0, .int .i64 0, .int .i64 0, .int .i64 0, .int .i64 0, .int .i64 0, .int .i64 0, .int .i64 0, .int .i64 0, .int .i64 0, .int .i64 0, .int .i64 0, .int .i64 0, .int .i64 0, .int .i64 0, .int .i64 0, .int .i64 0, .int .i64 0, .int .i64 0, .int .i64 0, .int .i64 0, .int .i64 0, .int .i64 0, .int .i64 0, .int .i64 0, .int .i64 0, .int .i64 0, .int .i64 0, .int .i64 0, .int .i64 0, .int .i64 0, .int .i64 0, .int .i64 0, .int .i64 0, .int .i64 0, .int .i64 0, .int .i64 0, .int .i64 0, .int .i64 0, .int .i64 0, .int .i64 0, .int .i64 0, .int .i64 0, .int .i64 0, .int .i64 0] 59)).heap.size = w1.heap.size + 1) := hid (by simp)
  generalize w1.alloc (.cells #[.int .i64 0, .int .i64 0, .int .i64 0, .int .i64 0, .int .i64 0, .int .i64 0, .int .i64 0, .int .i64 0, .int .i64 0, .int .i64 0, .int .i64 0, .int .i64 0, .int .i64 0, .int .i64 0, .int .i64 0, .int .i64 0, .int .i64 0, .int .i64 0, .int .i64 0, .int .i64 0, .int .i64 0, .int .i64 0, .int .i64 0, .int .i64 0, .int .i64 0, .int .i64 0, .int .i64 0, .int .i64 0, .int .i64 0, .int .i64 0, .int .i64 0, .int .i64 0, .int .i64 0, .int .i64 0, .int .i64 0, .int .i64 0, .int .i64 0, .int .i64 0, .int .i64 0, .int .i64 0, .int .i64 0, .int .i64 0, .int .i64 0, .int .i64 0, .int .i64 0, .int .i64 0, .int .i64 0, .int .i64 0, .int .i64 0, .int .i64 0, .int .i64 0, .int .i64 0, .int .i64 0, .int .i64 0, .int .i64 0, .int .i64 0, .int .i64 0, .int .i64 0, .int .i64 0, .int .i64 0, .int .i64 0, .int .i64 0, .int .i64 0, .int .i64 0] 59) = w9 at *
  go_loopw [29] (fun i wr => ∃ k : Nat, k ≤ N ∧ i = .int .i64 k ∧ wr.rowIs w1.heap.size 59 64 (fun v => .int .i64 ((if v < k then v else 0 : Nat) : Int)) ∧ Below w1.heap.size w9 wr) (fun i _ => N - (intOf i).toNat)
  case atStart => exact ⟨0, by omega, rfl, r9.congr (fun _ _ => by simp), Below.refl _ _⟩
  case round =>
    clear r9
    obtain ⟨k, hk, rfl, hrow, hb⟩ := hrel
    by_cases hlt : k < N
    · have hlt' : (k : Int) < (N : Int) := by omega
      have hk64 : k < 64 := by omega
      have hk64' : (k : Int) < 64 := by omega
      have hcell := hrow.cell hk64
      have hfr := hrow.frozen
      have HROW := hid hrow
      clear hrow
      simp only [Nat.lt_irrefl, if_false] at hcell
      go_wp2
      go_roundw
      case rel =>
        refine ⟨k + 1, by omega, by go_num, World.rowIs.congr (HROW.out.set k (.int .i64 (k : Nat))) ?_, hb.setCell (by simp) _⟩
        intro i hi
        by_cases e : i = k
        · subst e; simp
        · rw [if_neg e]
          by_cases e2 : i < k
          · rw [if_pos e2, if_pos (by omega)]
          · rw [if_neg e2, if_neg (by omega)]
      case measure => simp [intOf]; omega
    · obtain rfl : k = N := by omega
      have hE1 := hid hE
      have L0 : Links k (fun v => if v < k then v else 0) (fun x => x) := ⟨fun x hx => by simp [hx], fun x hx => ⟨0, .here (by simp [hx])⟩⟩
      have B0 : ∀ x, x < 64 → (if x < k then x else 0) < 64 := fun x hx => by split <;> omega
      have HL0 := hid L0
      have HB0 := hid B0
      have HR0 := hid hrow
      have hb0 := hid hb
      have k1 := (k0.later n9).below hb (by have := k0.lt; exact this)
      obtain ⟨x0, x1, x2, x3, x4, x5, fx⟩ := blk6 k1
      clear hrow hb L0 B0
      go_wp2
      clear x0 x1 x2 x3 x4 x5 fx
      go_loopw [39] (fun i wr => ∃ (j : Nat) (f : Nat → Nat), j ≤ g.es.length ∧ i = .int .i64 j ∧ Hid (Links k f (rootsOf g.es j)) ∧ Hid (∀ x, x < 64 → f x < 64) ∧ Hid (wr.rowIs w1.heap.size 59 64 (fun v => .int .i64 (f v : Nat))) ∧ Below w1.heap.size w9 wr) (fun i _ => g.es.length - (intOf i).toNat)
      case atStart => exact ⟨0, _, by omega, rfl, HL0, HB0, HR0, hb0.out⟩
      case round =>
        clear HL0 HB0 HR0
        obtain ⟨j, f, hj, rfl, HLK, HBD, HROW, hb⟩ := hrel
        by_cases hlt : j < g.es.length
        · have hlt' : (j : Int) < (g.es.length : Int) := by omega
          have HSU := hid (rootsOf_succ g.es j hlt)
          obtain ⟨hv1, hv2, hv3⟩ := HVARS.out j hlt
          have hEw : RdE wr w1.heap.size E g.es := (hE1.out.below n9).below hb
          obtain ⟨x, hx⟩ : ∃ x, g.es[j] = x := ⟨_, rfl⟩
          obtain ⟨b, off, rfl, hB, p0, p1, p2, p3, p4, p5, p6, p7, p8, p9⟩ := hEw.get hlt hx
          rw [hx] at HSU hv1 hv2 hv3
          rw [HN.out] at hv1 hv2 hv3
          have HV : Hid (∀ m : Nat, m < 3 → gI (trio x) m = -1 ∨ (0 ≤ gI (trio x) m ∧ gI (trio x) m < (k : Int))) := hid (fun m hm => by
            have : m = 0 ∨ m = 1 ∨ m = 2 := by omega
            rcases this with rfl | rfl | rfl
            · exact hv1
            · exact hv2
            · exact hv3)
          have hB' : b < wr.heap.size := by have := HROW.out.lt; omega
          have n8 := new1 wr (.cells (ecs x) 56)
          have HROW8 := hid (HROW.out.alloc (.cells (ecs x) 56))
          have hb8 : Below w1.heap.size w9 (wr.alloc (.cells (ecs x) 56)) := hb.trans (n8.mono (by have := HROW.out.lt; omega))
          clear hEw hx hv1 hv2 hv3 n8 hb
          unfold ecs at *
          go_wp2
          clear p0 p1 p2 p3 p4 p5 p6 p7 p8 p9
          generalize wr.alloc (.cells _ 56) = w5 at *
          go_loopw [10, 52] (fun fi ix wr => ∃ (m : Nat) (f : Nat → Nat), m ≤ 3 ∧ ix = .int .i64 m ∧ fi = .int .i64 (stepsV (rootsOf g.es j) x m).2 ∧ Hid ((stepsV (rootsOf g.es j) x m).2 = -1 ∨ (0 ≤ (stepsV (rootsOf g.es j) x m).2 ∧ (stepsV (rootsOf g.es j) x m).2 < (k : Int))) ∧ Hid (Links k f (stepsV (rootsOf g.es j) x m).1) ∧ Hid (∀ x, x < 64 → f x < 64) ∧ Hid (wr.rowIs w1.heap.size 59 64 (fun v => .int .i64 (f v : Nat))) ∧ Below w1.heap.size w9 wr) (fun _ ix _ => 3 - (intOf ix).toNat)
          case atStart => exact ⟨0, f, by omega, rfl, rfl, hid (.inl rfl), HLK, HBD, HROW8, hb8⟩
          case round =>
            clear HLK HBD HROW HROW8 hb8
            obtain ⟨m, f, hm, rfl, rfl, HFI, HLK, HBD, HROW, hb⟩ := hrel
            by_cases hlt2 : m < 3
            · have hlt3 : (m : Int) < 3 := by omega
              have hix := idx3 hlt2 x.dst x.av x.bv
              have HST := hid (stepsV_succ (rootsOf g.es j) x m hlt2)
              have hvm := HV.out m hlt2
              unfold trio at hvm HST
              generalize gI [x.dst, x.av, x.bv] m = v at *
              generalize stepsV (rootsOf g.es j) x m = S at *
              obtain ⟨R, fi⟩ := S
              dsimp only at HFI HLK ⊢
              by_cases hv0 : v < 0
              · have HS2 : Hid (stepsV (rootsOf g.es j) x (m + 1) = (R, fi)) := hid (by rw [HST.out]; unfold stepV; rw [if_pos hv0])
                clear HST hvm
                go_wp2
                go_roundw
                case rel => exact ⟨m + 1, f, by omega, by go_num, by rw [HS2.out], by rw [HS2.out]; exact HFI, by rw [HS2.out]; exact HLK, HBD, HROW, hb⟩
                case measure => simp [intOf]; omega
              · obtain ⟨q, rfl⟩ : ∃ q : Nat, v = (q : Int) := ⟨v.toNat, by omega⟩
                have hq : q < k := by omega
                clear hvm
                by_cases hf0 : 0 ≤ fi
                · obtain ⟨a, ha⟩ : ∃ a : Nat, fi = (a : Int) := ⟨fi.toNat, by omega⟩
                  have hak : a < k := by have := HFI.out; omega
                  subst ha
                  have HS2 : Hid (stepsV (rootsOf g.es j) x (m + 1) = (joinR R a q, (q : Int))) := hid (by rw [HST.out]; unfold stepV; rw [if_neg hv0]; simp)
                  have HJ := hid (join_any w1.heap.size k f R a q _ HLK.out hak hq hN64 HBD.out HROW.out)
                  clear HST HFI hv0
                  go_wp2_with fail
                  refine HJ.out.mono ?_
                  clear HJ
                  rintro e5 w5 ⟨rfl, hrow5, hb5⟩
                  go_wp2
                  go_roundw
                  case rel =>
                    refine ⟨m + 1, _, by omega, by go_num, by rw [HS2.out], by rw [HS2.out]; exact hid (.inr ⟨by omega, by show (q : Int) < _; omega⟩), by rw [HS2.out]; exact hid (HLK.out.join hak hq), hid ?_, hid hrow5, hb.trans hb5⟩
                    intro y hy
                    show (if y = R a then R q else f y) < 64
                    split
                    · exact Nat.lt_of_lt_of_le (HLK.out.rlt hq) hN64
                    · exact HBD.out y hy
                  case measure => simp [intOf]; omega
                · have HS2 : Hid (stepsV (rootsOf g.es j) x (m + 1) = (R, (q : Int))) := hid (by rw [HST.out]; unfold stepV; rw [if_neg hv0, if_neg hf0])
                  clear HST HFI hv0
                  go_wp2
                  go_roundw
                  case rel => exact ⟨m + 1, f, by omega, by go_num, by rw [HS2.out], by rw [HS2.out]; exact hid (.inr ⟨by omega, by show (q : Int) < _; omega⟩), by rw [HS2.out]; exact HLK, HBD, HROW, hb⟩
                  case measure => simp [intOf]; omega
            · obtain rfl : m = 3 := by omega
              have HS2 : Hid (rootsOf g.es (j + 1) = (stepsV (rootsOf g.es j) x 3).1) := hid (by rw [HSU.out]; rfl)
              clear HFI
              generalize stepsV (rootsOf g.es j) x 3 = S at *
              go_wp2
              go_roundw
              case rel => exact ⟨j + 1, f, by omega, by go_num, by rw [HS2.out]; exact HLK, HBD, HROW, hb⟩
              case measure => simp [intOf]; omega
        · obtain rfl : j = g.es.length := by omega
          have L6 := with_start wr
          have n6 := new1 wr (.cells #[.slice none 0 0, .slice none 0 0, .slice none 0 0, .slice none 0 0, .slice none 0 0, .slice none 0 0, .slice none 0 0, .slice none 0 0, .slice none 0 0, .slice none 0 0, .slice none 0 0, .slice none 0 0, .slice none 0 0, .slice none 0 0, .slice none 0 0, .slice none 0 0, .slice none 0 0, .slice none 0 0, .slice none 0 0, .slice none 0 0, .slice none 0 0, .slice none 0 0, .slice none 0 0, .slice none 0 0, .slice none 0 0, .slice none 0 0, .slice none 0 0, .slice none 0 0, .slice none 0 0, .slice none 0 0, .slice none 0 0, .slice none 0 0, .slice none 0 0, .slice none 0 0, .slice none 0 0, .slice none 0 0, .slice none 0 0, .slice none 0 0, .slice none 0 0, .slice none 0 0, .slice none 0 0, .slice none 0 0, .slice none 0 0, .slice none 0 0, .slice none 0 0, .slice none 0 0, .slice none 0 0, .slice none 0 0, .slice none 0 0, .slice none 0 0, .slice none 0 0, .slice none 0 0, .slice none 0 0, .slice none 0 0, .slice none 0 0, .slice none 0 0, .slice none 0 0, .slice none 0 0, .slice none 0 0, .slice none 0 0, .slice none 0 0, .slice none 0 0, .slice none 0 0, .slice none 0 0] 62)
          have hwl : w1.heap.size < wr.heap.size := HROW.out.lt
          have HROW6 := hid (HROW.out.alloc (.cells #[.slice none 0 0, .slice none 0 0, .slice none 0 0, .slice none 0 0, .slice none 0 0, .slice none 0 0, .slice none 0 0, .slice none 0 0, .slice none 0 0, .slice none 0 0, .slice none 0 0, .slice none 0 0, .slice none 0 0, .slice none 0 0, .slice none 0 0, .slice none 0 0, .slice none 0 0, .slice none 0 0, .slice none 0 0, .slice none 0 0, .slice none 0 0, .slice none 0 0, .slice none 0 0, .slice none 0 0, .slice none 0 0, .slice none 0 0, .slice none 0 0, .slice none 0 0, .slice none 0 0, .slice none 0 0, .slice none 0 0, .slice none 0 0, .slice none 0 0, .slice none 0 0, .slice none 0 0, .slice none 0 0, .slice none 0 0, .slice none 0 0, .slice none 0 0, .slice none 0 0, .slice none 0 0, .slice none 0 0, .slice none 0 0, .slice none 0 0, .slice none 0 0, .slice none 0 0, .slice none 0 0, .slice none 0 0, .slice none 0 0, .slice none 0 0, .slice none 0 0, .slice none 0 0, .slice none 0 0, .slice none 0 0, .slice none 0 0, .slice none 0 0, .slice none 0 0, .slice none 0 0, .slice none 0 0, .slice none 0 0, .slice none 0 0, .slice none 0 0, .slice none 0 0, .slice none 0 0] 62))
          have hb6 : Below w1.heap.size w9 (wr.alloc (.cells #[.slice none 0 0, .slice none 0 0, .slice none 0 0, .slice none 0 0, .slice none 0 0, .slice none 0 0, .slice none 0 0, .slice none 0 0, .slice none 0 0, .slice none 0 0, .slice none 0 0, .slice none 0 0, .slice none 0 0, .slice none 0 0, .slice none 0 0, .slice none 0 0, .slice none 0 0, .slice none 0 0, .slice none 0 0, .slice none 0 0, .slice none 0 0, .slice none 0 0, .slice none 0 0, .slice none 0 0, .slice none 0 0, .slice none 0 0, .slice none 0 0, .slice none 0 0, .slice none 0 0, .slice none 0 0, .slice none 0 0, .slice none 0 0, .slice none 0 0, .slice none 0 0, .slice none 0 0, .slice none 0 0, .slice none 0 0, .slice none 0 0, .slice none 0 0, .slice none 0 0, .slice none 0 0, .slice none 0 0, .slice none 0 0, .slice none 0 0, .slice none 0 0, .slice none 0 0, .slice none 0 0, .slice none 0 0, .slice none 0 0, .slice none 0 0, .slice none 0 0, .slice none 0 0, .slice none 0 0, .slice none 0 0, .slice none 0 0, .slice none 0 0, .slice none 0 0, .slice none 0 0, .slice none 0 0, .slice none 0 0, .slice none 0 0, .slice none 0 0, .slice none 0 0, .slice none 0 0] 62)) := hb.trans (n6.mono (by omega))
          go_wp2
          generalize hR : rootsOf g.es g.es.length = R at *
          generalize hF : wr.heap.size = F at *
          generalize wr.alloc (.cells #[.slice none 0 0, .slice none 0 0, .slice none 0 0, .slice none 0 0, .slice none 0 0, .slice none 0 0, .slice none 0 0, .slice none 0 0, .slice none 0 0, .slice none 0 0, .slice none 0 0, .slice none 0 0, .slice none 0 0, .slice none 0 0, .slice none 0 0, .slice none 0 0, .slice none 0 0, .slice none 0 0, .slice none 0 0, .slice none 0 0, .slice none 0 0, .slice none 0 0, .slice none 0 0, .slice none 0 0, .slice none 0 0, .slice none 0 0, .slice none 0 0, .slice none 0 0, .slice none 0 0, .slice none 0 0, .slice none 0 0, .slice none 0 0, .slice none 0 0, .slice none 0 0, .slice none 0 0, .slice none 0 0, .slice none 0 0, .slice none 0 0, .slice none 0 0, .slice none 0 0, .slice none 0 0, .slice none 0 0, .slice none 0 0, .slice none 0 0, .slice none 0 0, .slice none 0 0, .slice none 0 0, .slice none 0 0, .slice none 0 0, .slice none 0 0, .slice none 0 0, .slice none 0 0, .slice none 0 0, .slice none 0 0, .slice none 0 0, .slice none 0 0, .slice none 0 0, .slice none 0 0, .slice none 0 0, .slice none 0 0, .slice none 0 0, .slice none 0 0, .slice none 0 0, .slice none 0 0] 62) = w6 at *
          go_loopw [66] (fun i wr => ∃ (v : Nat) (ff : Nat → Value), v ≤ k ∧ i = .int .i64 v ∧ LL enc1 wr F F 64 62 3 1 ff (fun p => classL R v p) ∧ Hid (wr.rowIs w1.heap.size 59 64 (fun v => .int .i64 (f v : Nat))) ∧ Below F w6 wr) (fun i _ => k - (intOf i).toNat)
          case atStart => exact ⟨0, _, by omega, rfl, L6.congr (fun p _ => by simp [classL]), HROW6, Below.refl _ _⟩
          case round =>
            have HB6 := hid hb6
            clear L6 HROW6 hb HROW hb6 n6
            obtain ⟨v, ff, hv, rfl, hL, HROW, hb⟩ := hrel
            by_cases hlt : v < k
            · have hlt' : (v : Int) < (k : Int) := by omega
              obtain ⟨kv, hkv⟩ := HLK.out.root v hlt
              have hRv : R v < 64 := Nat.lt_of_lt_of_le (HLK.out.rlt hlt) hN64
              have HLA := hid (last_any w1.heap.size f kv v (R v) wr (by omega) HBD.out HROW.out hkv)
              have HCS := hid (fun p => classL_succ R v p)
              have hcl := classL_len R v (R v)
              clear hkv
              generalize hr : R v = r at *
              have HRV := hid hr
              clear hr
              have hr64 : (r : Int) < 64 := by omega
              have hcell := hL.row.cell hRv
              have hfr0 := hL.row.frozen
              have k9 := Blk.new wr 3 #[.int .i64 (v : Int)]
              have n9 := new1 wr (.cells #[.int .i64 (v : Int)] 3)
              have L9 := hid (hL.below n9)
              have hFw : F ≤ wr.heap.size := by have := hL.row.lt; omega
              clear hfr0
              go_wp2_with (first | (go_at_call 23; refine HLA.out.mono ?_; rintro e5 w5 ⟨rfl, rfl⟩) | (at_builtin; go_loud (refine wpList_append_int1 _ _ rfl rfl F (ff r) _ _ (v : Int) rfl (L9.out.own r hRv) wr.heap.size rfl k9 (by omega) (by simp; omega) ?_); intro g2 cap2 w' ho hg hv2; have hR2 : w'.rowIs F 62 64 ff := L9.out.row.of_block (hg.block _ L9.out.row.lt (fun e => L9.out.ne r hRv e.symm)); have hF2 := hR2.cell hRv; have hFr := hR2.frozen; have L10 := hid (LL.put (y := (v : Int)) L9.out hRv hg ho hv2); have hb10 := hid (LL.put_below (v := .slice (some ⟨g2, 0, none⟩) ((classL R v r).length + 1) cap2) L9.out (Nat.le_refl _) (by simp; omega) hRv hg); clear hR2 ho hg hv2))
              go_roundw
              case rel =>
                refine ⟨v + 1, _, by omega, by go_num, L10.out.congr ?_, hid ?_, (hb.trans (n9.mono hFw)).trans hb10.out⟩
                · intro p hp
                  rw [HCS.out p]
                  by_cases e : p = r
                  · subst e; simp
                  · simp only [if_neg e]; rw [if_neg (fun h => e h.symm)]; simp
                · exact World.rowIs.of_block HROW.out (((n9.mono hFw).trans hb10.out).block _ (by omega))
              case measure => simp [intOf]; omega
            · obtain rfl : v = k := by omega
              have HLL := hid hL
              have HCL := hid (pclone_any F (fun p => slOf (ff p)) 62 wr (World.rowIs.congr hL.row (fun p hp => (hL.sl hp).1)))
              have hFw : F < wr.heap.size := hL.row.lt
              clear hL
              go_wp2_with fail
              refine HCL.out.mono ?_
              clear HCL
              rintro e7 w7 ⟨G, cap, rfl, own7, hb7⟩
              obtain ⟨hH, hcap, hG1, hG2⟩ := holds_clone (f := ff) own7
              have HDL := hid (pdelete_any G cap (slD ff) w7 hH (slD_size ff) hcap)
              clear own7 hH
              generalize hLk : keptS (slD ff).toList = Lk at *
              go_wp2_with fail
              refine HDL.out.mono ?_
              clear HDL
              rintro e8 w8 ⟨rfl, hg8, hs8, hcells, hfr⟩
              have hLs : ∀ p, p < 64 → (slOf (ff p)).l = (classL R v p).length := fun p hp => (HLL.out.sl hp).2.1
              rw [kept_eq hLs] at hLk
              have HLT : ∀ x, x < v → R x < v := fun x hx => HLK.out.rlt hx
              have hPl : (rootsL R v).length ≤ 64 := by unfold rootsL; exact Nat.le_trans (List.length_filter_le _ _) (by simp)
              have hb78 : Below wr.heap.size w7 w8 := below_grown hg8 (fun k hk => by injection hk with hk; omega) hb7.size
              have hb8 := hb7.trans hb78
              have hLlen : Lk.length = (rootsL R v).length := by rw [← hLk]; simp
              have HSF := hid (psort_any (rootsL R v) (fun p => slOf (ff p)) (fun p => gI (classL R v p) 0) w8 G cap
                (fun j h => by
                  rw [hcells j (by omega)]
                  subst hLk
                  simp)
                (fun j h => hfr j (by omega)) (by omega)
                (fun p hp => by
                  unfold rootsL at hp
                  rw [List.mem_filter, List.mem_range, decide_eq_true_eq] at hp
                  obtain ⟨h1, h2, h3, h4⟩ := HLL.out.sl hp.1
                  obtain ⟨b, h5, h6, h7⟩ := h4 hp.2
                  refine ⟨b, h5, by omega, by have := hb8.size; omega, by rw [h2]; exact hp.2, ?_⟩
                  obtain ⟨b', o', e', _, hc⟩ := h3 0 hp.2
                  rw [h5] at e'; injection e' with e'; injection e' with e1 e2; subst e1; subst e2
                  exact (hb8.cell (p := ⟨b, 0, none⟩) h7).trans hc) hPl)
              have HPK := hid (packs_len hN64 HLT)
              clear hcells hfr hLs
              rw [hLlen]
              go_wp2_with fail
              refine HSF.out.mono ?_
              clear HSF
              rintro e9 w10 ⟨rfl, hg9, Q, hperm, hsort, hcell9⟩
              have HQ := hid (sorted_roots hN64 HLT hperm hsort)
              have hQl : Q.length = (rootsL R v).length := hperm.length_eq
              have hb9 : Below wr.heap.size wr w10 := hb8.trans (below_grown hg9 (fun k hk => by injection hk with hk; omega) hb8.size)
              have hGs : G < w10.heap.size := by have := hg9.size; have := hg8.size; omega
              go_wp2
              refine bodyPost_ret (v := .tuple #[.slice (some ⟨G, 0, none⟩) (rootsL R v).length cap, .int .i64 0]) (by simp [results, Try.results7, go_sem]) rfl ?_
              refine ⟨G, cap, by rw [HPK.out], ?_, ?_⟩
              · intro i hi
                rw [HPK.out, ← hQl] at hi
                have hQi : Q[i] ∈ rootsL R v := hperm.mem_iff.1 (List.getElem_mem hi)
                unfold rootsL at hQi
                rw [List.mem_filter, List.mem_range, decide_eq_true_eq] at hQi
                obtain ⟨h1, h2, h3, h4⟩ := HLL.out.sl hQi.1
                have hrow : rowL (packsR R v) i = classL R v Q[i] := by rw [← HQ.out]; unfold rowL; simp [hi]
                refine ⟨G, 0, (slOf (ff Q[i])).a, (slOf (ff Q[i])).c, rfl, hGs, ?_, ?_, ?_⟩
                · rw [Nat.zero_add, hcell9 i hi, hrow]
                  unfold encS
                  rw [h2]
                · rw [hrow]; exact h3.up hb9
                · rw [hrow]; have := classL_len R v Q[i]; omega
              · have h1 := hb.trans (hb9.mono (by omega))
                have h2 := HB6.out.trans (h1.mono (by omega))
                exact n0.trans ((n9.mono (Nat.le_refl _)).trans h2 |>.mono n0.size)
end Go.Proofs.Ytjmmegnonlbdnaa
