/-
  gnomonlaw27.WatchTight answers true, whatever it is handed.
-/
import Derived.Test.YtkncebcekhfnfaaGreatBWT40
import Derived.Test.YtkncebcekhfnfaaGreatBWT45
import Derived.Deep.DeepCutAuto
import Derived.Deep.CutBlock
namespace Go.Proofs.YtkncebcekhfnfaaGreat
open Go.RowKit
attribute [local go_sem ↓] Go.wp_at_zero Go.wp_at_succ

theorem wt_swap {u : World} {b o : Nat} {x : Value} {c d : Obj} (h : (u.alloc c).cell? ⟨b, o, none⟩ = some x) (hb : b < u.heap.size) : (u.alloc d).cell? ⟨b, o, none⟩ = some x := by
  have e : ∀ c : Obj, (u.alloc c).cell? ⟨b, o, none⟩ = u.cell? ⟨b, o, none⟩ := fun c => (new1 u c).cell (p := ⟨b, o, none⟩) hb
  exact (e d).trans ((e c).symm.trans h)
theorem wt_far {W : World} {g b o : Nat} {v0 v1 v2 v3 c : Value} (h : W.cell? ⟨b, o, none⟩ = some c) (hne : g ≠ b) : ((((W.setCell ⟨g, 0, none⟩ v0).setCell ⟨g, 1, none⟩ v1).setCell ⟨g, 2, none⟩ v2).setCell ⟨g, 3, none⟩ v3).cell? ⟨b, o, none⟩ = some c := by
  have e : ∀ (X : World) (k : Nat) (u : Value), (X.setCell ⟨g, k, none⟩ u).cell? ⟨b, o, none⟩ = X.cell? ⟨b, o, none⟩ := fun X k u => World.cell?_setCell_other X _ _ _ (by intro e; injection e with e; exact hne e)
  rw [e, e, e, e]; exact h
set_option maxRecDepth 8000 in
set_option maxHeartbeats 16000000 in
theorem watchTight_walk (g : Gr) (ss : List (List Int)) (k : Int) (zl : List Z) (V D E S AL : Option Addr) (cv cd ce sc cl : Nat) (w : World) (h : GrOk w g D E) (hS : RdRC w w.heap.size S ss) (hlm : ss.length ≤ 17592186044416) (hI : ∀ s ∈ ss, I64s s) (hsl : ∀ s ∈ ss, s.length ≤ 17592186044416) (hz : RowZ w AL zl) (hzl : zl.length ≤ 17592186044416) :
    Calls Tryz.prog 5 #[grV g V D E cv cd ce, .slice S ss.length sc, .int .i64 k, .slice AL zl.length cl] w (SomeT w) := by
  have n0 := new1 w (.cells #[.slice V g.nv cv, .int .i64 g.tm, .slice D g.sz.length cd, .int .i64 g.pts, .int .i64 g.ex, .slice E g.es.length ce] 26)
  have k0 := Blk.new w 26 #[.slice V g.nv cv, .int .i64 g.tm, .slice D g.sz.length cd, .int .i64 g.pts, .int .i64 g.ex, .slice E g.es.length ce]
  have lv := h.lv
  have ls := h.ls
  have le := h.le
  have hei : ∀ e ∈ g.es, I64 e.an ∧ I64 e.bn := fun e he => ⟨(h.ei e he).2.2.2.2.2.2.2.1, (h.ei e he).2.2.2.2.2.2.2.2.2⟩
  have HEI := hid hei
  have HD := hid h.rd
  have HE := hid h.re
  have HS := hid hS
  have HZL := hid hz
  have HII := hid hI
  have HCK := hid (fun W (hb : Below w.heap.size w W) => (show Calls Tryz.prog 7 #[.agg #[.slice V g.nv cv, .int .i64 g.tm, .slice D g.sz.length cd, .int .i64 g.pts, .int .i64 g.ex, .slice E g.es.length ce]] W _ from rgcheck_any g V D E cv cd ce W (HD.out.up hb) (HE.out.up hb) lv ls le))
  have HFW := hid (fun W (hb : Below w.heap.size w W) (hc : chk g = 0) => (show Calls Tryz.prog 8 #[.agg #[.slice V g.nv cv, .int .i64 g.tm, .slice D g.sz.length cd, .int .i64 g.pts, .int .i64 g.ex, .slice E g.es.length ce]] W _ from few27_ok g V D E cv cd ce W hc))
  have HSM := hid (fun (A : Option Addr) (l c : Nat) W => small27_ok A l c k W)
  have HWR := hid (fun W (hb : Below w.heap.size w W) => (show Calls Tryz.prog 15 #[.agg #[.slice V g.nv cv, .int .i64 g.tm, .slice D g.sz.length cd, .int .i64 g.pts, .int .i64 g.ex, .slice E g.es.length ce], .slice S ss.length sc, .int .i64 k] W _ from wlearn_ok g V D E cv cd ce ss S sc k W (HD.out.up hb) (HE.out.up hb) (HS.out.up hb) lv ls le hei hI hlm hsl))
  have HRUN := hid (fun (i : Nat) (hi : i < ss.length) (A' : Option Addr) (c' : Nat) (ys : List Z) (Ak : Option Addr) (ck : Nat) W (hb : Below w.heap.size w W) (hy : RowZ W A' ys) (hyl : ys.length ≤ 17592186044416) (hs : Rd W W.heap.size Ak ss[i]) (hc : ss[i].length ≤ ck) => (show Calls Tryz.prog 11 #[.agg #[.slice V g.nv cv, .int .i64 g.tm, .slice D g.sz.length cd, .int .i64 g.pts, .int .i64 g.ex, .slice E g.es.length ce], .slice A' ys.length c', .slice Ak ss[i].length ck, .int .i64 k] W _ from wrun_ok g V D E cv cd ce A' c' ys ss[i] Ak ck k W (HD.out.up hb) (HE.out.up hb) hy hs hc lv ls le hyl hei (hI _ (List.getElem_mem hi)) (hsl _ (List.getElem_mem hi))))
  have HEND : Hid (∀ W, Below w.heap.size w W → SomeT w (.returned (.bool true)) W) := hid fun W hb => ⟨rfl, hb⟩
  clear h hS hei hI hsl lv ls le hz
  unfold grV
  go_enter Tryz.func5, Tryz.ntmps5
  go_wp2_with fail
  refine (known27_ok _).mono ?_
  generalize w.alloc (.cells #[.slice V g.nv cv, .int .i64 g.tm, .slice D g.sz.length cd, .int .i64 g.pts, .int .i64 g.ex, .slice E g.es.length ce] 26) = w0 at *
  rintro e1 w1 ⟨rfl, hb1⟩
  replace k0 := k0.later hb1
  replace n0 := bup n0 hb1
  clear hb1
  obtain ⟨f0, f1, f2, f3, f4, f5, ff⟩ := blk6 k0
  go_wp2_with fail
  clear f0 f1 f2 f3 f4 f5 ff
  (with_reducible refine (HCK.out w1 n0).mono ?_)
  rintro e2 w2 ⟨rfl, hb2⟩
  replace k0 := k0.later hb2
  replace n0 := bup n0 hb2
  clear hb2
  obtain ⟨ck, HC⟩ : ∃ ck, Hid (chk g = ck) := ⟨_, hid rfl⟩
  rw [HC.out]
  by_cases hck : ck = 0
  case neg =>
    have t1 : (ck != 0) = true := by rw [bne_iff_ne]; exact hck
    clear hck
    go_wp2
    go_ret
    exact HEND.out _ n0
  subst hck
  obtain ⟨f0, f1, f2, f3, f4, f5, ff⟩ := blk6 k0
  go_wp2_with fail
  clear f0 f1 f2 f3 f4 f5 ff
  (with_reducible refine (HFW.out w2 n0 HC.out).mono ?_)
  rintro e3 w3 ⟨b1, rfl, hb3⟩
  replace k0 := k0.later hb3
  replace n0 := bup n0 hb3
  clear hb3
  cases b1
  case false =>
    go_wp2
    go_ret
    exact HEND.out _ n0
  cases t10 : decide ((10 : Int) < (ss.length : Int))
  case true =>
    go_wp2
    go_ret
    exact HEND.out _ n0
  cases t300 : decide ((300 : Int) < k)
  case true =>
    go_wp2
    go_ret
    exact HEND.out _ n0
  by_cases hne : ss = []
  · have tz : ((ss.length : Int) == 0) = true := by rw [hne]; rfl
    have tz2 : (ss.length == 0) = true := by rw [hne]; rfl
    clear hne
    go_wp2
    go_ret
    exact HEND.out _ n0
  have tz : ((ss.length : Int) == 0) = false := by
    rw [beq_eq_false_iff_ne]
    have : 0 < ss.length := List.length_pos_iff.2 hne
    omega
  have tz2 : (ss.length == 0) = false := by
    rw [beq_eq_false_iff_ne]
    have : 0 < ss.length := List.length_pos_iff.2 hne
    omega
  have HNE := hid hne
  clear hne
  obtain ⟨f0, f1, f2, f3, f4, f5, ff⟩ := blk6 k0
  go_wp2_with fail
  clear f0 f1 f2 f3 f4 f5 ff t10 t300 tz tz2
  (with_reducible refine (HWR.out w3 n0).mono ?_)
  rintro e5 w5 ⟨A1, c1, z1, rfl, he1, hr1, hl1, hb5⟩
  replace k0 := k0.later hb5
  replace n0 := bup n0 hb5
  by_cases hle : learnE g ss k = 0
  case neg =>
    have t1 : (learnE g ss k != 0) = true := by rw [bne_iff_ne]; exact hle
    generalize learnE g ss k = er at *
    clear hle he1 hr1
    go_wp2
    go_ret
    exact HEND.out _ n0
  rw [if_pos hle] at he1
  have HLE := hid hle
  have HE1 := hid he1
  have HR1 := hid hr1
  have hz15 : z1.length ≤ 17592186044416 := by omega
  have HL1 := hid hl1
  have HTR := hid (tight_run hle HEI.out HII.out)
  rw [hle]
  clear hle he1 hr1 hb5 hl1
  go_wp2
  go_loopw [11, 12] (fun u t wr => ∃ (i : Nat) (kp : Bool), i ≤ ss.length ∧ u = .bool kp ∧ t = .int .i64 (i : Int) ∧ Hid (kp = true → ∀ j (hj : j < ss.length), j < i → runE g (zl.map (fun (z : Z) => z.1)) ss[j].length k = 0 ∧ (seenW g (zl.map (fun (z : Z) => z.1)) ss[j] k).held = true) ∧ Blk wr w.heap.size 26 #[.slice V g.nv cv, .int .i64 g.tm, .slice D g.sz.length cd, .int .i64 g.pts, .int .i64 g.ex, .slice E g.es.length ce] ∧ Below w5.heap.size w5 wr) (fun _ t _ => ss.length - (Go.RowKit.intOf t).toNat)
  case atStart => exact ⟨0, true, by omega, rfl, rfl, hid (fun _ j _ h => absurd h (by omega)), k0, Below.refl _ _⟩
  case round =>
    clear k0
    obtain ⟨i, kp, hil, rfl, rfl, HKP, k0, hb⟩ := hrel
    by_cases hlt : i < ss.length
    · have hlt' : (i : Int) < (ss.length : Int) := by omega
      have hbw := bup n0 hb
      obtain ⟨b, off, Ak, ck2, rfl, hB, hc, hrd, hcap⟩ := (HS.out.up hbw) i hlt
      have HRI := hid (fun (A' : Option Addr) (c' : Nat) (ys : List Z) W hb hy hyl hs => HRUN.out i hlt A' c' ys Ak ck2 W hb hy hyl hs hcap)
      have HTI := hid (HTR.out _ (List.getElem_mem hlt))
      have HKS : Hid (∀ kp', (kp' = true → kp = true ∧ runE g (zl.map (fun (z : Z) => z.1)) ss[i].length k = 0 ∧ (seenW g (zl.map (fun (z : Z) => z.1)) ss[i] k).held = true) → kp' = true → ∀ j (hj : j < ss.length), j < i + 1 → runE g (zl.map (fun (z : Z) => z.1)) ss[j].length k = 0 ∧ (seenW g (zl.map (fun (z : Z) => z.1)) ss[j] k).held = true) := hid fun kp' h1 h2 j hj hji => by
        by_cases e : j = i
        · subst e; exact (h1 h2).2
        · exact HKP.out (h1 h2).1 j hj (by omega)
      obtain ⟨s, hs⟩ : ∃ s, ss[i] = s := ⟨_, rfl⟩
      rw [hs] at hc hrd HRI HTI HKS
      have HLT := hid hlt
      clear hs hcap hlt
      go_wp2_with fail
      (with_reducible refine (HSM.out Ak s.length ck2 wr).mono ?_)
      rintro e6 w6 ⟨b2, rfl, hb6⟩
      replace k0 := k0.later hb6
      replace hc := (hb6.cell (p := ⟨b, off + i, none⟩) hB).trans hc
      replace hrd := hrd.up hb6
      replace hB := Nat.lt_of_lt_of_le hB hb6.size
      replace hb := bup hb hb6
      replace hbw := bup n0 hb
      clear hb6
      cases b2
      case false =>
        go_wp2
        go_ret
        exact HEND.out _ hbw
      case true =>
        go_upto_region 14 with fail
        have HR14 := hid (fun W (h1 : Below w.heap.size w W) (h2 : RowZ W A1 z1) (h3 : Rd W W.heap.size Ak s) => (HRI.out A1 c1 z1 W h1 h2 hz15 h3).mono (fun e u (h : WRes g (z1.map (fun (z : Z) => z.1)) s k W e u) => (show ∃ G, e = .returned (.tuple #[.agg #[.bool true, .int .i64 (outW g (learnO g k ss) s k).step, .int .i64 (outW g (learnO g k ss) s k).point, .slice G (outW g (learnO g k ss) s k).vis.length (outW g (learnO g k ss) s k).vis.length], .int .i64 0]) ∧ Below W.heap.size W u from by
          rw [HE1.out] at h
          obtain ⟨G, he, -, hb⟩ := wres_out h
          refine ⟨G, ?_, hb⟩
          rw [he, HTI.out.1, show (outW g (learnO g k ss) s k).held = true by unfold outW; rw [if_pos HTI.out.1]; exact HTI.out.2])))
        generalize (outW g (learnO g k ss) s k).step = st1 at *
        generalize (outW g (learnO g k ss) s k).point = pt1 at *
        generalize (outW g (learnO g k ss) s k).vis.length = n1 at *
        have HR15 := hid (fun W (h1 : Below w.heap.size w W) (h2 : RowZ W AL zl) (h3 : Rd W W.heap.size Ak s) => (HRI.out AL cl zl W h1 h2 hzl h3).mono (fun e u (h : WRes g (zl.map (fun (z : Z) => z.1)) s k W e u) => (show ∃ G, e = .returned (.tuple #[.agg #[.bool (outW g (zl.map (fun (z : Z) => z.1)) s k).held, .int .i64 (outW g (zl.map (fun (z : Z) => z.1)) s k).step, .int .i64 (outW g (zl.map (fun (z : Z) => z.1)) s k).point, .slice G (outW g (zl.map (fun (z : Z) => z.1)) s k).vis.length (outW g (zl.map (fun (z : Z) => z.1)) s k).vis.length], .int .i64 (runE g (zl.map (fun (z : Z) => z.1)) s.length k)]) ∧ Below W.heap.size W u from by
          obtain ⟨G, he, -, hb⟩ := wres_out h
          exact ⟨G, he, hb⟩)))
        have HHD : Hid (∀ h2 : runE g (zl.map (fun (z : Z) => z.1)) s.length k = 0, (outW g (zl.map (fun (z : Z) => z.1)) s k).held = true → (seenW g (zl.map (fun (z : Z) => z.1)) s k).held = true) := hid fun h1 h2 => by unfold outW at h2; rw [if_pos h1] at h2; exact h2
        obtain ⟨er2, her2⟩ : ∃ er2, runE g (zl.map (fun (z : Z) => z.1)) s.length k = er2 := ⟨_, rfl⟩
        have HER2 := hid her2
        rw [her2] at HR15
        clear her2
        generalize (outW g (zl.map (fun (z : Z) => z.1)) s k).step = st2 at *
        generalize (outW g (zl.map (fun (z : Z) => z.1)) s k).point = pt2 at *
        generalize (outW g (zl.map (fun (z : Z) => z.1)) s k).vis.length = n2 at *
        obtain ⟨hd2, hhd2⟩ : ∃ hd2, (outW g (zl.map (fun (z : Z) => z.1)) s k).held = hd2 := ⟨_, rfl⟩
        rw [hhd2] at HR15 HHD
        clear hhd2
        have HB := hid hbw
        have HB6 := hid hb
        have HRD := hid hrd
        have HK0 := hid k0
        have HCC := hid hc
        have HBB := hid hB
        clear hb hrd hbw HRI
        go_cut [13, 14] (fun s1 s2 W => ∃ (g13 : Nat) (G : Option Addr), s1 = .pointer (some ⟨g13, 0, none⟩) ∧ s2 = .int .i64 0 ∧ Blk W g13 36 #[.bool true, .int .i64 st1, .int .i64 pt1, .slice G n1 n1] ∧ Below w6.heap.size w6 W)
        case first =>
          have hbd : Below w.heap.size w w6.drew := HB.out.drew
          have hbd2 : ∀ o, Below w.heap.size w (w6.alloc o).drew := fun o => (bup HB.out (new1 w6 o)).drew
          have hzd : RowZ w6.drew A1 z1 := (HR1.out.up HB6.out).up (Below.refl _ _).drew
          have hzd2 : ∀ o, RowZ (w6.alloc o).drew A1 z1 := fun o => ((HR1.out.up HB6.out).up (new1 w6 o)).up (Below.refl _ _).drew
          have hrd1 : Rd w6.drew w6.drew.heap.size Ak s := HRD.out
          have hrd2 : ∀ o, Rd (w6.alloc o).drew (w6.alloc o).drew.heap.size Ak s := fun o => (HRD.out.up (new1 w6 o)).up (Below.refl _ _).drew
          obtain ⟨f0, f1, f2, f3, f4, f5, ff⟩ := blk6 k0
          have HLT2 := hid (show w.heap.size < w6.heap.size ∧ b < w6.heap.size ∧ w6.drew.heap.size = w6.heap.size from ⟨k0.lt, HBB.out, rfl⟩)
          clear k0 HTI HKS HLT HRD HK0 HCC HBB HB HB6 HR15 HHD HER2 HKP HTR HE1 HLE HCK HFW HSM HWR HRUN HEND HNE HD HE HS HZL HII HEI HC HL1 hil n0
          go_region_held3 (fun W => W.cell? ⟨w.heap.size, 0, none⟩ = some (.slice V g.nv cv) ∧ W.cell? ⟨w.heap.size, 1, none⟩ = some (.int .i64 g.tm) ∧ W.cell? ⟨w.heap.size, 2, none⟩ = some (.slice D g.sz.length cd) ∧ W.cell? ⟨w.heap.size, 3, none⟩ = some (.int .i64 g.pts) ∧ W.cell? ⟨w.heap.size, 4, none⟩ = some (.int .i64 g.ex) ∧ W.cell? ⟨w.heap.size, 5, none⟩ = some (.slice E g.es.length ce) ∧ W.cell? ⟨b, off + i, none⟩ = some (.slice Ak s.length ck2)) (first | (have hlt := HLT2.out; go_split_ands; refine ⟨?_, ?_, ?_, ?_, ?_, ?_, ?_⟩ <;> (with_reducible refine wt_far (by assumption) ?_; first | omega | (simp only [World.size_alloc] at *; omega))) | (have hlt := HLT2.out; go_split_ands; refine ⟨?_, ?_, ?_, ?_, ?_, ?_, ?_⟩ <;> (with_reducible refine wt_swap (by assumption) ?_; first | omega | (simp only [World.size_alloc] at *; omega))) | (refine ⟨?_, ?_, ?_, ?_, ?_, ?_, ?_⟩ <;> (with_reducible refine cell_later ‹Below _ _ _› ?_; first | assumption | go_keep)) | go_keep)
            (first | (go_at_call 11; (with_reducible refine (HR14.out _ (by first | exact hbd | exact hbd2 _) (by first | exact hzd | exact hzd2 _) (by first | exact hrd1 | exact hrd2 _)).mono ?_); rintro e9 u1 ⟨G9, rfl, hu1⟩; have hu1s := hu1.size; (try simp only [World.size_alloc] at hu1s); try (have HZ := hid ((show Blk (w6.alloc (Obj.cells #[.bool false, .int .i64 0, .int .i64 0, .slice none 0 0] 36)).drew w6.heap.size 36 #[.bool false, .int .i64 0, .int .i64 0, .slice none 0 0] from Blk.new w6 36 #[.bool false, .int .i64 0, .int .i64 0, .slice none 0 0]).later hu1))) | (obtain ⟨zz0, zz1, zz2, zz3, fz⟩ := blk4 HZ.out; clear HZ; go_simp))
          all_goals (go_wp2_with fail; go_meet)
          · exact ⟨_, G9, rfl, rfl, Blk.new _ _ _, bup (Ext.trans (Below.refl _ _).drew hu1) (new1 _ _)⟩
          · have bz := (show Blk (w6.alloc (Obj.cells #[.bool false, .int .i64 0, .int .i64 0, .slice none 0 0] 36)).drew w6.heap.size 36 #[.bool false, .int .i64 0, .int .i64 0, .slice none 0 0] from Blk.new w6 36 #[.bool false, .int .i64 0, .int .i64 0, .slice none 0 0]).later hu1
            have hA : Below w6.heap.size w6 u1 := bup (new1 w6 _).drew hu1
            have hB9 := below4 (W := u1) (B := w6.heap.size) (g := w6.heap.size) (v0 := .bool true) (v1 := .int .i64 st1) (v2 := .int .i64 pt1) (v3 := .slice G9 n1 n1) (Nat.le_refl _) hA.size
            exact ⟨_, G9, rfl, rfl, set4 (h := bz), hA.trans hB9⟩
        case rest =>
          obtain ⟨g13, G, rfl, rfl, k13, hb13⟩ := hcut
          have kq := HK0.out.later hb13
          have hcq := (hb13.cell (p := ⟨b, off + i, none⟩) HBB.out).trans HCC.out
          have HBq := hid (bup HB.out hb13)
          have HRDq := hid (HRD.out.up hb13)
          have HBBq := hid (Nat.lt_of_lt_of_le HBB.out hb13.size)
          have HKq := hid kq
          have HB13 := hid hb13
          have K13 := hid k13
          generalize wc = wq at *
          clear hc
          go_upto_region 15 with fail
          go_cut [15, 16] (fun s1 s2 W => ∃ (g13 : Nat) (G : Option Addr), s1 = .pointer (some ⟨g13, 0, none⟩) ∧ s2 = .int .i64 er2 ∧ Blk W g13 36 #[.bool hd2, .int .i64 st2, .int .i64 pt2, .slice G n2 n2] ∧ Below wq.heap.size wq W)
          case first =>
            have hbd : Below w.heap.size w wq.drew := HBq.out.drew
            have hbd2 : ∀ o, Below w.heap.size w (wq.alloc o).drew := fun o => (bup HBq.out (new1 wq o)).drew
            have hzd : RowZ wq.drew AL zl := (HZL.out.up HBq.out).up (Below.refl _ _).drew
            have hzd2 : ∀ o, RowZ (wq.alloc o).drew AL zl := fun o => ((HZL.out.up HBq.out).up (new1 wq o)).up (Below.refl _ _).drew
            have hrd1 : Rd wq.drew wq.drew.heap.size Ak s := HRDq.out
            have hrd2 : ∀ o, Rd (wq.alloc o).drew (wq.alloc o).drew.heap.size Ak s := fun o => (HRDq.out.up (new1 wq o)).up (Below.refl _ _).drew
            obtain ⟨f0, f1, f2, f3, f4, f5, ff⟩ := blk6 kq
            have HLT3 := hid (show w.heap.size < wq.heap.size ∧ b < wq.heap.size ∧ wq.drew.heap.size = wq.heap.size from ⟨kq.lt, HBBq.out, rfl⟩)
            clear kq HKS HLT HRD HK0 HCC HBB HB HB6 HHD HER2 HKP HTR HE1 HLE HCK HFW HSM HWR HRUN HEND HNE HD HE HS HZL HII HEI HC HL1 hil n0 HR14 HTI HRDq HBq HBBq HKq hb13 k13
            go_region_held3 (fun W => W.cell? ⟨w.heap.size, 0, none⟩ = some (.slice V g.nv cv) ∧ W.cell? ⟨w.heap.size, 1, none⟩ = some (.int .i64 g.tm) ∧ W.cell? ⟨w.heap.size, 2, none⟩ = some (.slice D g.sz.length cd) ∧ W.cell? ⟨w.heap.size, 3, none⟩ = some (.int .i64 g.pts) ∧ W.cell? ⟨w.heap.size, 4, none⟩ = some (.int .i64 g.ex) ∧ W.cell? ⟨w.heap.size, 5, none⟩ = some (.slice E g.es.length ce) ∧ W.cell? ⟨b, off + i, none⟩ = some (.slice Ak s.length ck2)) (first | (have hlt := HLT3.out; go_split_ands; refine ⟨?_, ?_, ?_, ?_, ?_, ?_, ?_⟩ <;> (with_reducible refine wt_far (by assumption) ?_; first | omega | (simp only [World.size_alloc] at *; omega))) | (have hlt := HLT3.out; go_split_ands; refine ⟨?_, ?_, ?_, ?_, ?_, ?_, ?_⟩ <;> (with_reducible refine wt_swap (by assumption) ?_; first | omega | (simp only [World.size_alloc] at *; omega))) | (refine ⟨?_, ?_, ?_, ?_, ?_, ?_, ?_⟩ <;> (with_reducible refine cell_later ‹Below _ _ _› ?_; first | assumption | go_keep)) | go_keep)
              (first | (go_at_call 11; (with_reducible refine (HR15.out _ (by first | exact hbd | exact hbd2 _) (by first | exact hzd | exact hzd2 _) (by first | exact hrd1 | exact hrd2 _)).mono ?_); rintro e9 u1 ⟨G9, rfl, hu1⟩; have hu1s := hu1.size; (try simp only [World.size_alloc] at hu1s); try (have HZ := hid ((show Blk (wq.alloc (Obj.cells #[.bool false, .int .i64 0, .int .i64 0, .slice none 0 0] 36)).drew wq.heap.size 36 #[.bool false, .int .i64 0, .int .i64 0, .slice none 0 0] from Blk.new wq 36 #[.bool false, .int .i64 0, .int .i64 0, .slice none 0 0]).later hu1))) | (obtain ⟨zz0, zz1, zz2, zz3, fz⟩ := blk4 HZ.out; clear HZ; go_simp))
            all_goals (go_wp2_with fail; go_meet)
            · exact ⟨_, G9, rfl, rfl, Blk.new _ _ _, bup (Ext.trans (Below.refl _ _).drew hu1) (new1 _ _)⟩
            · have bz := (show Blk (wq.alloc (Obj.cells #[.bool false, .int .i64 0, .int .i64 0, .slice none 0 0] 36)).drew wq.heap.size 36 #[.bool false, .int .i64 0, .int .i64 0, .slice none 0 0] from Blk.new wq 36 #[.bool false, .int .i64 0, .int .i64 0, .slice none 0 0]).later hu1
              have hA : Below wq.heap.size wq u1 := bup (new1 wq _).drew hu1
              have hB9 := below4 (W := u1) (B := wq.heap.size) (g := wq.heap.size) (v0 := .bool hd2) (v1 := .int .i64 st2) (v2 := .int .i64 pt2) (v3 := .slice G9 n2 n2) (Nat.le_refl _) hA.size
              exact ⟨_, G9, rfl, rfl, set4 (h := bz), hA.trans hB9⟩
          case rest =>
            obtain ⟨g15, G5, rfl, rfl, k15, hb15⟩ := hcut
            have k13' := K13.out.later hb15
            have kw := HKq.out.later hb15
            have hbz := bup (bup HB6.out HB13.out) hb15
            obtain ⟨x0, x1, x2, x3, -⟩ := blk4 k13'
            obtain ⟨y0, y1, y2, y3, -⟩ := blk4 k15
            clear k13' k15 hcq hb15 hb13
            have HFIN := hid (And.intro kw hbz)
            clear kw hbz
            cases kp
            case false =>
              go_wp2
              go_roundw
              case rel => exact ⟨i + 1, false, by have := HLT.out; omega, rfl, by go_num, hid (HKS.out false (fun h => by cases h)), HFIN.out.1, HFIN.out.2⟩
              case measure => have := HLT.out; simp [Go.RowKit.intOf]; omega
            case true =>
              by_cases he2 : er2 = 0
              · subst he2
                go_wp2
                go_roundw
                case rel => exact ⟨i + 1, hd2, by have := HLT.out; omega, rfl, by go_num, hid (HKS.out hd2 (fun h => ⟨rfl, HER2.out, HHD.out HER2.out h⟩)), HFIN.out.1, HFIN.out.2⟩
                case measure => have := HLT.out; simp [Go.RowKit.intOf]; omega
              · have te : (er2 == 0) = false := by rw [beq_eq_false_iff_ne]; exact he2
                clear he2
                go_wp2
                go_roundw
                case rel => exact ⟨i + 1, false, by have := HLT.out; omega, rfl, by go_num, hid (HKS.out false (fun h => by cases h)), HFIN.out.1, HFIN.out.2⟩
                case measure => have := HLT.out; simp [Go.RowKit.intOf]; omega
    · obtain rfl : i = ss.length := by omega
      have HB := hid hb
      have HK := hid HKP.out
      clear hlt hil hb k0 HKP
      go_wp2
      cases kp
      case false =>
        go_loopw [17] (fun t wq => t = .int .i64 0 ∧ wq = wr) (fun _ _ => 0)
        case atStart => exact ⟨rfl, rfl⟩
        case round =>
          obtain ⟨rfl, rfl⟩ := hrel
          cases tz : decide ((0 : Int) < (z1.length : Int))
          all_goals
            go_wp2
            all_goals
              go_ret
              exact HEND.out _ (bup n0 HB.out)
      case true =>
        have hall : ∀ s ∈ ss, runE g (zl.map (fun (z : Z) => z.1)) s.length k = 0 ∧ (seenW g (zl.map (fun (z : Z) => z.1)) s k).held = true := fun s hs => by
          obtain ⟨j, hj, rfl⟩ := List.getElem_of_mem hs
          exact HK.out rfl j hj hj
        obtain ⟨hln, hent⟩ := tight_ent HLE.out HEI.out HII.out HNE.out hall
        have hlz : zl.length = g.pts.toNat := by rw [← hln, List.length_map]
        have hl1' : z1.length = g.pts.toNat := by
          have h1 := congrArg List.length HE1.out
          rw [List.length_map] at h1
          obtain ⟨d, N, hd, -, hN, -⟩ := all_nat HC.out
          rw [h1, (learn_acc hd k ss).1]
        have HEQ := hid (fun (p : Nat) (h1 : p < z1.length) (h2 : p < zl.length) => (show check z1[p].1 = 0 ∧ entAns z1[p].1 zl[p].1 = (true, 0) from by
          have h3 := hent p (by omega)
          have e1 : octAt (learnO g k ss) p = z1[p].1 := by
            rw [← HE1.out]; unfold octAt
            rw [List.getD_eq_getElem?_getD, List.getElem?_map, List.getElem?_eq_getElem h1]; rfl
          have e2 : octAt (zl.map (fun (z : Z) => z.1)) p = zl[p].1 := by
            unfold octAt
            rw [List.getD_eq_getElem?_getD, List.getElem?_map, List.getElem?_eq_getElem h2]; rfl
          rw [e1, e2] at h3
          exact h3))
        have HLL := hid (show zl.length = z1.length by omega)
        have hl4 : z1.length ≤ 4096 := HL1.out
        clear hall hln hent hlz hl1' HK
        go_loopw [17] (fun t wq => ∃ p : Nat, p ≤ z1.length ∧ t = .int .i64 (p : Int) ∧ Below w5.heap.size w5 wq) (fun t _ => z1.length - (Go.RowKit.intOf t).toNat)
        case atStart => exact ⟨0, by omega, rfl, HB.out⟩
        case round =>
          obtain ⟨p, hp, rfl, hb⟩ := hrel
          by_cases hlt : p < z1.length
          · have hlt' : (p : Int) < (z1.length : Int) := by omega
            have hlt2 : p < zl.length := by have := HLL.out; omega
            have hlt2' : (p : Int) < (zl.length : Int) := by omega
            obtain ⟨hck, hen⟩ := HEQ.out p hlt hlt2
            have r1 := HR1.out.up hb
            have r2 := HZL.out.up (bup n0 hb)
            obtain ⟨ba, oa, rfl, hBa, a0, a1, a2⟩ := r1.at_ p hlt
            obtain ⟨bb, ob, rfl, hBb, b0, b1, b2⟩ := r2.at_ p hlt2
            have hra := r1.rd p hlt
            have hla := r1.le p hlt
            have hrb := r2.rd p hlt2
            have hlb := r2.le p hlt2
            obtain ⟨za, hza⟩ : ∃ z, z1[p] = z := ⟨_, rfl⟩
            obtain ⟨zb, hzb⟩ : ∃ z, zl[p] = z := ⟨_, rfl⟩
            rw [hza] at hck hen a0 a1 a2 hra hla
            rw [hzb] at hen b0 b1 b2 hrb hlb
            have HCM := hid (calm27_any za.1 za.2.1 za.2.2 wr hra hla hck)
            have HEN := hid (fun W (hX : Below wr.heap.size wr W) => (show Calls Tryz.prog 18 #[.agg #[.int .i64 za.1.n, .bool za.1.e, .slice za.2.1 za.1.m.length za.2.2], .agg #[.int .i64 zb.1.n, .bool zb.1.e, .slice zb.2.1 zb.1.m.length zb.2.2]] W fun e w' => e = .returned (.tuple #[.bool true, .int .i64 0]) ∧ Below W.heap.size W w' from by
              have := entails_any za.1 zb.1 za.2.1 zb.2.1 za.2.2 zb.2.2 W (hra.up hX) (hrb.up hX) hla hlb
              rw [hen] at this
              exact this))
            have HJ := hid hlt
            have HBW := hid hb
            clear hck hen r1 r2 hra hla hrb hlb hza hzb hb hlt hp
            go_wp2_with fail
            (with_reducible refine HCM.out.mono ?_)
            rintro e6 w6 ⟨bc, rfl, hb6⟩
            have hb56 := HBW.out.trans (hb6.mono HBW.out.size)
            cases bc
            case false =>
              go_wp2
              go_roundw
              case rel => exact ⟨p + 1, by have := HJ.out; omega, by go_num, hb56⟩
              case measure => have := HJ.out; simp [Go.RowKit.intOf]; omega
            case true =>
              go_upto_region 23 with fail
              have l0 := later ((hb6.cell (p := ⟨ba, _, none⟩) hBa).trans a0)
              have l1 := later ((hb6.cell (p := ⟨ba, _, none⟩) hBa).trans a1)
              have l2 := later ((hb6.cell (p := ⟨ba, _, none⟩) hBa).trans a2)
              have l3 := later ((hb6.cell (p := ⟨bb, _, none⟩) hBb).trans b0)
              have l4 := later ((hb6.cell (p := ⟨bb, _, none⟩) hBb).trans b1)
              have l5 := later ((hb6.cell (p := ⟨bb, _, none⟩) hBb).trans b2)
              have HB6 := hid hb6
              have HB56 := hid hb56
              clear a0 a1 a2 b0 b1 b2 hb6 hb56 HCM
              refine wp_region_flow 13 (fun W => Below w6.heap.size w6 W) (by kernel_rfl) (by kernel_rfl) (Below.refl _ _).drew ?_
              (repeat (first | (refine Flow.skip (by rfl) ?_; simp only [Act.put, List.setIfInBounds_toArray, List.set_cons_zero, List.set_cons_succ]) | (refine' Flow.take _ (by rfl) (fun W hW R hR => ?_) ?_; rotate_left; (go_simp; (try go_bits); with_reducible exact hR); simp only [Act.put, List.setIfInBounds_toArray, List.set_cons_zero, List.set_cons_succ])))
              (refine Flow.call 18 #[.agg #[.int .i64 za.1.n, .bool za.1.e, .slice za.2.1 za.1.m.length za.2.2], .agg #[.int .i64 zb.1.n, .bool zb.1.e, .slice zb.2.1 zb.1.m.length zb.2.2]] (.tuple #[.bool true, .int .i64 0]) (by rfl) (fun X hX => by go_simp) (fun X hX => (HEN.out X (HB6.out.trans (hX.mono HB6.out.size))).mono fun e' w' ⟨he, hb'⟩ => ⟨he, bstep hX hX.size hb'⟩) ?_; simp only [Act.put, List.setIfInBounds_toArray, List.set_cons_zero, List.set_cons_succ])
              (repeat (first | (refine Flow.skip (by rfl) ?_; simp only [Act.put, List.setIfInBounds_toArray, List.set_cons_zero, List.set_cons_succ]) | (refine' Flow.take _ (by rfl) (fun W hW R hR => ?_) ?_; rotate_left; (go_simp; (try go_bits); with_reducible exact hR); simp only [Act.put, List.setIfInBounds_toArray, List.set_cons_zero, List.set_cons_succ])))
              intro w7 hb7
              clear l0 l1 l2 l3 l4 l5
              have hb57 := HB56.out.trans (hb7.mono HB56.out.size)
              go_wp2
              go_roundw
              case rel => exact ⟨p + 1, by have := HJ.out; omega, by go_num, hb57⟩
              case measure => have := HJ.out; simp [Go.RowKit.intOf]; omega
          · obtain rfl : p = z1.length := by omega
            go_wp2
            all_goals
              go_ret
              exact HEND.out _ (bup n0 hb)
end Go.Proofs.YtkncebcekhfnfaaGreat
