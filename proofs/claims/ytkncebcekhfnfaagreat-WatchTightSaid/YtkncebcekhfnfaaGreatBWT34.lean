/-
  watch.visits: a function is asked for each point that a run comes to, and its values then. (Printed by gen_visits.py.)
-/
import Derived.Test.YtkncebcekhfnfaaGreatBWT32
import Derived.Test.YtkncebcekhfnfaaGreatBWT33
namespace Go.Proofs.YtkncebcekhfnfaaGreat
open Go.RowKit
attribute [local go_sem ↓] Go.wp_at_zero Go.wp_at_succ

/-- What a callback leaves as it was: all below c0, and what lies in [b0, b1). -/
structure Win (c0 b0 b1 : Nat) (w w' : World) : Prop where
  low : Below c0 w w'
  mid : ∀ k, b0 ≤ k → k < b1 → w'.heap[k]? = w.heap[k]?
/-- The lists of edges lie below b1. -/
def FLt (b1 F N : Nat) (f : Nat → Value) : Prop := F < b1 ∧ ∀ p, p < N → ∀ g, (f p).ownBlock = some g → g < b1
section
variable {w w' : World} {c0 b0 b1 : Nat}
theorem Win.size (h : Win c0 b0 b1 w w') : w.heap.size ≤ w'.heap.size := h.low.size
theorem Off.win (h : Off c0 b0 w w') (hb : b1 ≤ w.heap.size) : Win c0 b0 b1 w w' := ⟨h.low, fun k h1 h2 => h.high k h1 (Nat.lt_of_lt_of_le h2 hb)⟩
theorem Win.rowO {base : Nat} {e : TypeId} {size n : Nat} {v : Value} {xs : List Value} (h : Win c0 b0 b1 w w') (ho : w.ownsRow base e size v n xs) (hb : b0 ≤ base) (hv : ∀ g, v.ownBlock = some g → g < b1) : w'.ownsRow base e size v n xs := by
  refine ⟨ho.1, ?_⟩
  rcases ho.2 with h1 | ⟨g, cap, cur, h1, h2, h3, h4⟩
  · exact .inl h1
  · exact .inr ⟨g, cap, cur, h1, h2, (h.mid g (Nat.le_trans hb h2) (hv g (by rw [h1]; rfl))).trans h3, h4⟩
theorem Win.run {br gs : Nat} {r : RP} {m : MS} (h : Win c0 b0 b1 w w') (hm : StR w br gs r m) (hb : b0 ≤ br) (hl : StLt b1 gs m) (hf : FLt b1 r.F r.N r.f) (hE : RdE w' br r.En r.g.es) (hS : Rd w' br m.S m.inp) : StR w' br gs r m := by
  have sl : ∀ {A : Option Addr} {n c : Nat}, (∀ g, A = some ⟨g, 0, none⟩ → g < b1) → (A = none ∨ ∃ g, A = some ⟨g, 0, none⟩) → ∀ g, (Value.slice A n c).ownBlock = some g → g < b1 := fun {A n c} h1 h2 g hg => by
    rcases h2 with rfl | ⟨g', rfl⟩
    · simp [Value.ownBlock] at hg
    · simp [Value.ownBlock] at hg; subst hg; exact h1 _ rfl
  have own : ∀ {A : Option Addr} {c : Nat} {xs : List Int}, Own w br A c xs → (∀ g, A = some ⟨g, 0, none⟩ → g < b1) → Own w' br A c xs := fun {A c xs} ho h1 => h.rowO ho hb (sl h1 (by
    rcases ho.form with ⟨e, _⟩ | ⟨g, e, _⟩
    · exact .inl e
    · exact .inr ⟨g, e⟩))
  refine ⟨(h.mid gs (Nat.le_trans hb hm.ge) hl.gs).trans hm.blk, hm.ge, ⟨⟨?_, hm.mem.outs.ge, fun p hp => h.rowO (hm.mem.outs.own p hp) hb (hf.2 p hp), hm.mem.outs.apart, hm.mem.outs.ne⟩, own hm.mem.vars hl.V, ⟨h.rowO hm.mem.rows.row hb (sl hl.RR (by
    rcases hm.mem.rows.form with ⟨e, _⟩ | ⟨g, _, e, _⟩
    · exact .inl e
    · exact .inr ⟨g, e⟩)), fun z hz => own (hm.mem.rows.own z hz) (hl.R z hz)⟩, hm.mem.apart, hm.mem.va⟩, hE, hS, hm.scap⟩
  obtain ⟨c, hc, h2⟩ := hm.mem.outs.row
  exact ⟨c, (h.mid _ (Nat.le_trans hb hm.mem.outs.ge) hf.1).trans hc, h2⟩
end
theorem StR.flt {w : World} {b0 gs : Nat} {r : RP} {m : MS} (h : StR w b0 gs r m) : FLt w.heap.size r.F r.N r.f := ⟨h.mem.outs.row.lt, fun p hp g hg => ((h.mem.outs.own p hp).lt g hg).2⟩
theorem StR.lt {w : World} {b0 gs : Nat} {r : RP} {m : MS} (h : StR w b0 gs r m) : StLt w.heap.size gs m :=
  ⟨h.blk.lt, fun g hg => by
    have hv := h.mem.vars
    rw [hg] at hv
    exact hv.blk.choose_spec.lt, fun z hz g hg => by
    have hv := h.mem.rows.own z hz
    rw [hg] at hv
    exact hv.blk.choose_spec.lt, fun g hg => by
    rcases h.mem.rows.form with ⟨e, _⟩ | ⟨g', _, e, _, h2, _⟩
    · rw [e] at hg; cases hg
    · rw [e] at hg; injection hg with hg; injection hg with hg; omega⟩
theorem own_ge {w : World} {base c k o : Nat} {V : Option Addr} {xs : List Int} (h : Own w base V c xs) (e : V = some ⟨k, o, none⟩) : base ≤ k := by
  rcases h.form with ⟨e', _⟩ | ⟨g, e', hg, _⟩
  · rw [e'] at e; cases e
  · rw [e'] at e; injection e with e; injection e with e; omega
theorem rdoes_at (b0 b1 gs : Nat) (r : RP) (m : MS) (M : Mach) (w : World) (h : StR w b0 gs r m) (hlt : StLt b1 gs m) (hN : r.g.pts = (r.N : Int)) (hc : chk r.g = 0) (hi : ∀ e ∈ r.g.es, I64 e.an ∧ I64 e.bn) (hM : MOk r.g M) (hms : MsIs m M) (hok : okW r.g M = true) :
    Calls Tryz.prog 51 #[.pointer (some ⟨gs, 0, none⟩)] w fun e w' => e = .returned (.tuple #[]) ∧ ∃ m', StR w' b0 gs r m' ∧ StLt b1 gs m' ∧ MsIs m' (stepW r.g M) ∧ Off b0 b1 w w' ∧ ∀ X B, Rd X B m.S m.inp → Rd X B m'.S m'.inp := by
  obtain ⟨ct0, ct1, ca, ces, csz, cz, cr⟩ := chk_parts hc
  obtain ⟨p1, p2, hin, -⟩ := chk_in hc
  obtain ⟨hT, hne, hw⟩ := okW_next hok
  obtain ⟨ie, hie, hil, -, hnx⟩ := next_in hT
  obtain ⟨hp, hxs, hls, hinp⟩ := hms
  have hxl : (m.xs.length : Int) = r.g.all := by rw [hxs]; exact hM.xl
  have hzl : m.zs.length = r.g.sz.length := by
    have : m.ls.length = M.ls.length := by rw [hls]
    unfold MS.ls at this
    rw [List.length_map, hM.ll] at this
    exact this
  have hmem : nextE r.g M ∈ r.g.es := by rw [hnx]; exact eAt_mem hil
  have hrt := cr _ hmem
  have hix := hi _ hmem
  have hte : 0 ≤ (nextE r.g M).te := by
    have h1 := hin _ hmem
    unfold inE at h1
    rw [decide_eq_true_eq] at h1
    omega
  have hdo : doesW m.ls (nextE r.g M) m.xs (m.inp.headD 0) = doesW M.ls (nextE r.g M) M.xs (inW r.g M) := by
    rw [hls, hxs, hinp]
    by_cases k9 : (nextE r.g M).kd = 9
    · unfold inW; rw [if_pos k9]
    · exact doesW_in k9
  have h0 := rdoes_ok b0 b1 gs r m M.p ie (nextE r.g M) w h hlt hp hM.p hN hc (by omega) ces (fun e he => by
      have h1 := cr e he
      rw [← hxl] at h1
      exact ⟨by have := right_a h1; omega, by have := right_b h1; omega⟩) (by rw [hxs]; exact hie) hnx.symm (by rw [hxl, hzl]; exact hrt) (by rw [hxs]; exact hM.xi) hix.1 hix.2 (fun z hz => by
      obtain ⟨a, ha, rfl⟩ := List.getElem_of_mem hz
      have h2 : a < M.ls.length := by rw [← hls]; unfold MS.ls; simpa using ha
      have h3 := hM.lz a h2
      have h4 : M.ls[a]? = m.ls[a]? := by rw [hls]
      rw [List.getElem?_eq_getElem h2] at h4
      unfold MS.ls at h4
      rw [List.getElem?_map, List.getElem?_eq_getElem ha] at h4
      injection h4 with h4
      have h6 : M.ls[a] = m.zs[a].1 := h4
      rw [h6] at h3
      have h5 := cz _ (gI_mem (sz := r.g.sz) (k := a) (by rw [← hM.ll]; exact h2))
      rw [← h3] at h5
      omega) (by rw [hinp]; exact hne) (by rw [hdo]; exact hw)
  refine h0.mono fun e w' hh => ?_
  obtain ⟨rfl, m', hst, hp', hxs', hls', hin', ho, hlt', hrd⟩ := hh
  refine ⟨rfl, m', hst, hlt', ⟨?_, ?_, ?_, ?_⟩, ho, hrd⟩
  · rw [hp']; show _ = ((nextE r.g M).te.toNat : Int); omega
  · rw [hxs', hdo]; rfl
  · rw [hls', hls, hxs]; rfl
  · rw [hin', hinp]; rfl
/-- What the function does that is asked: it leads from I n to I (n + 1). -/
def Asked (g : Gr) (inp : List Int) (kn : Nat) (fid : FuncId) (ga gb c0 b0 : Nat) (I : Nat → Nat → World → Prop) : Prop :=
  ∀ (n : Nat) (A : Option Addr) (c b1 : Nat) (W : World), n ≤ lenW g (mZero g inp) kn → MOk g (mAt g (mZero g inp) n) → b0 ≤ b1 → b1 ≤ W.heap.size → I b1 n W → Rd W W.heap.size A (mAt g (mZero g inp) n).xs → (∀ k o, A = some ⟨k, o, none⟩ → b0 ≤ k) →
    Calls Tryz.prog fid #[.int .i64 (n : Int), .int .i64 ((mAt g (mZero g inp) n).p : Int), .slice A (mAt g (mZero g inp) n).xs.length c, .pointer (some ⟨ga, 0, none⟩), .pointer (some ⟨gb, 0, none⟩)] W fun e w' => e = .returned (.tuple #[]) ∧ I b1 (n + 1) w' ∧ Win c0 b0 b1 W w'
/-- What visits answers. -/
def VisRes (g : Gr) (inp : List Int) (k : Int) (c0 : Nat) (I : Nat → Nat → World → Prop) (w : World) (e : Ending) (w' : World) : Prop :=
  e = .returned (.int .i64 (fuelE inp.length k)) ∧ (fuelE inp.length k = 0 → ∃ b1, I b1 (lenW g (mZero g inp) k.toNat + 1) w') ∧ (fuelE inp.length k ≠ 0 → Below w.heap.size w w') ∧ Below c0 w w'
set_option maxRecDepth 8000 in
set_option maxHeartbeats 16000000 in
theorem visits_ok (g : Gr) (V D E : Option Addr) (cv cd ce : Nat) (inp : List Int) (S : Option Addr) (sc : Nat) (k : Int) (fid : FuncId) (ga gb c0 : Nat) (I : Nat → Nat → World → Prop) (w : World) (hD : RdD w c0 D g.sz) (hE : RdE w c0 E g.es) (hS : Rd w c0 S inp) (hc0 : c0 ≤ w.heap.size) (hcap : inp.length ≤ sc) (hc : chk g = 0)
    (hi : ∀ e ∈ g.es, I64 e.an ∧ I64 e.bn) (hI : I64s inp) (hlm : inp.length ≤ 17592186044416)
    (hcf : ∀ args X, args.size = 5 → (callFunc fid args).run Tryz.prog X = .ok (.enter fid args) X) (hF : ∀ kn : Nat, k = (kn : Int) → fuelE inp.length k = 0 → Asked g inp kn fid ga gb c0 w.heap.size I) (h0 : ∀ b1, w.heap.size ≤ b1 → I b1 0 w) (hup : ∀ b1 n W W', I b1 n W → Off w.heap.size b1 W W' → I b1 n W') :
    Calls Tryz.prog 27 #[grV g V D E cv cd ce, .slice S inp.length sc, .int .i64 k, .func (.func fid) #[] #[.pointer (some ⟨ga, 0, none⟩), .pointer (some ⟨gb, 0, none⟩)]] w (VisRes g inp k c0 I w) := by
  have HRUN := hid (fun W (h1 : RdD W W.heap.size D g.sz) (h2 : RdE W W.heap.size E g.es) (h3 : Rd W W.heap.size S inp) => srun_ok g V D E cv cd ce inp S sc k W h1 h2 h3 hcap hc hi hI hlm)
  have HBEG := hid (fun W (h1 : RdD W W.heap.size D g.sz) (h2 : RdE W W.heap.size E g.es) (h3 : Rd W W.heap.size S inp) => begun_ok g V D E cv cd ce inp S sc W h1 h2 h3 hcap hc)
  have HC := hid hc
  have HI := hid hi
  have HII := hid hI
  have HUP := hid hup
  have HF := hid hF
  have HCF := hid hcf
  have HD0 := hid hD
  have HE0 := hid hE
  have HS0 := hid hS
  have HCAP := hid hcap
  obtain ⟨ct0, ct1, ca, ces, csz, cz, cr⟩ := chk_parts hc
  have HCZ := hid cz
  have HCR := hid cr
  have hb0 := new1 w (.cells #[.slice V g.nv cv, .int .i64 g.tm, .slice D g.sz.length cd, .int .i64 g.pts, .int .i64 g.ex, .slice E g.es.length ce] 26)
  have k0 := Blk.new w 26 #[.slice V g.nv cv, .int .i64 g.tm, .slice D g.sz.length cd, .int .i64 g.pts, .int .i64 g.ex, .slice E g.es.length ce]
  have H0 := hid h0
  have hC0 := hid hc0
  clear hc hi hI hup hF hcf hcap cz cr ca h0 hD hE hS
  unfold grV
  go_enter Tryz.func27, Tryz.ntmps27
  go_upto_region 1 with fail
  generalize w.alloc (.cells #[.slice V g.nv cv, .int .i64 g.tm, .slice D g.sz.length cd, .int .i64 g.pts, .int .i64 g.ex, .slice E g.es.length ce] 26) = w1 at *
  obtain ⟨f0, f1, f2, f3, f4, f5, ff⟩ := blk6 k0
  go_wp2_with fail
  clear f0 f1 f2 f3 f4 f5 ff
  have hl1 : Below c0 w w1 := hb0.mono hc0
  have hR : Calls Tryz.prog 49 #[.agg #[.slice V g.nv cv, .int .i64 g.tm, .slice D g.sz.length cd, .int .i64 g.pts, .int .i64 g.ex, .slice E g.es.length ce], .slice S inp.length sc, .int .i64 k] w1 (RunRes g inp k w1) := HRUN.out w1 ((HD0.out.below hl1).more (Nat.le_trans hc0 hl1.size)) ((HE0.out.below hl1).more (Nat.le_trans hc0 hl1.size)) ((HS0.out.below hl1).more (Nat.le_trans hc0 hl1.size))
  (with_reducible refine hR.mono ?_)
  clear hR
  rintro e2 w2 ⟨st, wr, ns, p0, eA, vA, aA, en, ec, vn, vc, an, ac, rfl, hns, hb2⟩
  have HNS := hid hns
  replace k0 := k0.later hb2
  replace hb0 := bup hb0 hb2
  clear hb2 hns hl1 HRUN
  obtain ⟨er, HER⟩ : ∃ er, Hid (fuelE inp.length k = er) := ⟨_, hid rfl⟩
  rw [HER.out]
  have n3 := new1 w2 (.cells #[.int .i64 st, .int .i64 wr, .int .i64 ns, .slice eA en ec, .slice vA vn vc, .slice aA an ac] 99)
  have kr := Blk.new w2 99 #[.int .i64 st, .int .i64 wr, .int .i64 ns, .slice eA en ec, .slice vA vn vc, .slice aA an ac]
  have hb3 := hid (bup hb0 n3)
  have k03 := hid (k0.later n3)
  have hee : er = 0 ∨ er = 80 := by
    have h1 := HER.out
    unfold fuelE at h1
    split at h1
    · exact .inr h1.symm
    · exact .inl h1.symm
  clear k0 hb0 n3
  rcases hee with rfl | rfl
  case inr =>
    clear kr
    go_upto_region 2 with fail
    generalize w2.alloc (.cells #[.int .i64 st, .int .i64 wr, .int .i64 ns, .slice eA en ec, .slice vA vn vc, .slice aA an ac] 99) = w3 at *
    go_wp2
    go_ret
    exact ⟨ret64 (by rw [HER.out]), fun h => absurd (HER.out.symm.trans h) (by decide), fun _ => hb3.out, hb3.out.mono hC0.out⟩
  obtain ⟨kn, rfl⟩ : ∃ kn : Nat, k = (kn : Int) := by
    have h1 := HER.out
    unfold fuelE at h1
    split at h1
    · cases h1
    · exact ⟨k.toNat, by omega⟩
  have hns := HNS.out HER.out
  rw [Int.toNat_natCast] at *
  obtain ⟨L, HL⟩ : ∃ L, Hid (lenW g (mZero g inp) kn = L) := ⟨_, hid rfl⟩
  have hL : L ≤ 65536 := by
    have h1 := HER.out
    have h2 := lenW_le g (mZero g inp) kn
    rw [HL.out] at h2
    unfold fuelE at h1
    split at h1
    · cases h1
    · omega
  rw [HL.out] at hns
  clear HNS
  go_upto_region 2 with fail
  generalize w2.alloc (.cells #[.int .i64 st, .int .i64 wr, .int .i64 ns, .slice eA en ec, .slice vA vn vc, .slice aA an ac] 99) = w3 at *
  have hcs : (st = 3 ∧ ns = (L : Int) + 1) ∨ ((st == 3) = false ∧ ns = (L : Int)) := by
    rcases hns with h | ⟨h, h2⟩
    · exact .inl h
    · exact .inr ⟨beq_false_of_ne h, h2⟩
  clear hns
  rcases hcs with ⟨rfl, rfl⟩ | ⟨hst, rfl⟩
  all_goals
    obtain ⟨f0, f1, f2, f3, f4, f5, ff⟩ := blk6 kr
    clear kr
    go_upto_region 7 with fail
    clear f0 f1 f2 f3 f4 f5 ff
    obtain ⟨f0, f1, f2, f3, f4, f5, ff⟩ := blk6 k03.out
    go_wp2_with fail
    clear f0 f1 f2 f3 f4 f5 ff
    have hl3 : Below c0 w w3 := hb3.out.mono hC0.out
    have hc3 := Nat.le_trans hC0.out hb3.out.size
    have hR : Calls Tryz.prog 50 #[.agg #[.slice V g.nv cv, .int .i64 g.tm, .slice D g.sz.length cd, .int .i64 g.pts, .int .i64 g.ex, .slice E g.es.length ce], .slice S inp.length sc] w3 (BegunRes g V D E S cv cd ce inp w3) := HBEG.out w3 ((HD0.out.below hl3).more hc3) ((HE0.out.below hl3).more hc3) ((HS0.out.below hl3).more hc3)
    (with_reducible refine hR.mono ?_)
    clear hR HBEG
    rintro e4 w4 ⟨gs, F, N, f, m, rfl, hN, st4, hms, hmS, hb4⟩
    have hb04 := bup hb3.out hb4
    obtain ⟨b1, hb1⟩ : ∃ b1, b1 = w4.heap.size := ⟨_, rfl⟩
    have hle1 : w.heap.size ≤ b1 := by rw [hb1]; exact hb04.size
    have hI0 := hid (HUP.out b1 0 w w4 (H0.out b1 hle1) (Off.of hb04 (Nat.le_refl _)))
    have hlt4 := hid (show StLt b1 gs m by rw [hb1]; exact st4.lt)
    have HFL := hid (show FLt b1 F N f by rw [hb1]; exact st4.flt)
    have hM0 := hid (MOk.zero (g := g) (inp := inp) HC.out HII.out)
    have hA : Calls Tryz.prog fid #[.int .i64 0, .int .i64 0, .slice m.V m.xs.length m.vc, .pointer (some ⟨ga, 0, none⟩), .pointer (some ⟨gb, 0, none⟩)] w4 fun e w' => e = .returned (.tuple #[]) ∧ I b1 1 w' ∧ Win c0 w.heap.size b1 w4 w' := by
      have h9 := HF.out kn rfl HER.out 0 m.V m.vc b1 w4 (Nat.zero_le _) hM0.out hle1 (by omega) hI0.out
      have h8 := hms.2.1
      rw [show mAt g (mZero g inp) 0 = mZero g inp from rfl, ← h8] at h9
      exact h9 (st4.mem.vars.rd.more (by omega)) (fun k o e => Nat.le_trans hb3.out.size (own_ge st4.mem.vars e))
    have HST := hid st4
    have HMS := hid hms
    have HB04 := hid hb04
    have HSZ := hid (show w.heap.size ≤ w3.heap.size from hb3.out.size)
    have HS4 := hid hb4.size
    have hcf := HCF.out #[.int .i64 0, .int .i64 0, .slice m.V m.xs.length m.vc, .pointer (some ⟨ga, 0, none⟩), .pointer (some ⟨gb, 0, none⟩)] w4 (by rfl)
    obtain ⟨s0, s1, s2, s3, s4, s5, s6, s7, s8, s9, s10, fs⟩ := rubox st4.blk
    have HN := hid hN
    have HL1 := hid hle1
    have HMS2 := hid hmS
    have hb1' := hid hb1
    clear hms hb04 st4 hN k03 hb4 hb1 hle1 hl3 hc3 hmS
    go_wp2_with fail
    (with_reducible refine hA.mono ?_)
    clear hA
    rintro e5 w5 ⟨rfl, hI5, ho5⟩
    have hIn5 : m.inp = inp := HMS.out.2.2.2
    have hlo5 : Below c0 w w5 := (HB04.out.mono hC0.out).trans ho5.low
    have hc3 : c0 ≤ w3.heap.size := Nat.le_trans hC0.out HSZ.out
    have st5 : StR w5 w3.heap.size gs ⟨g, V, D, E, cv, cd, ce, F, N, f, []⟩ m := ho5.run HST.out HSZ.out hlt4.out HFL.out ((HE0.out.below hlo5).more hc3) (by rw [HMS2.out, hIn5]; exact (HS0.out.below hlo5).more hc3)
    have hrd5 : ∀ X B, Rd X B S inp → Rd X B m.S m.inp := by rw [HMS2.out, hIn5]; exact fun _ _ h => h
    have hbs5 : b1 ≤ w5.heap.size := by rw [hb1'.out]; exact ho5.size
    clear s0 s1 s2 s3 s4 s5 s6 s7 s8 s9 s10 fs hcf ho5 hIn5 HST
    have hms5 := HMS.out
    have hlt5 := hlt4.out
    clear HMS hlt4
    go_wp2
    go_loopw [43] (fun t wr => ∃ (n : Nat) (m' : MS), n ≤ L ∧ t = .int .i64 n ∧ StR wr w3.heap.size gs ⟨g, V, D, E, cv, cd, ce, F, N, f, []⟩ m' ∧ StLt b1 gs m' ∧ MsIs m' (mAt g (mZero g inp) n) ∧ I b1 (n + 1) wr ∧ Below c0 w wr ∧ (∀ X B, Rd X B S inp → Rd X B m'.S m'.inp) ∧ b1 ≤ wr.heap.size) (fun t _ => L - (Go.RowKit.intOf t).toNat)
    case atStart => exact ⟨0, m, by omega, rfl, st5, hlt5, hms5, hI5, hlo5, hrd5, hbs5⟩
    case round =>
      clear st5 hlt5 hms5 hI5 hlo5 hrd5 hbs5
      obtain ⟨n, m', hn, rfl, st, hlt, hms, hIn, hlow, hrd, hbs⟩ := hrel
      by_cases hnl : n < L
      · have hall : ∀ j, j < n + 1 → okW g (mAt g (mZero g inp) j) = true := fun j hj => lenW_ok g (mZero g inp) kn j (by rw [HL.out]; omega)
        have hM := hM0.out.at HC.out HI.out n (fun j hj => (okW_next (hall j (by omega))).1)
        have hM1 := hid (hM0.out.at HC.out HI.out (n + 1) (fun j hj => (okW_next (hall j hj)).1))
        have hD := rdoes_at w3.heap.size b1 gs ⟨g, V, D, E, cv, cd, ce, F, N, f, []⟩ m' (mAt g (mZero g inp) n) wr st hlt HN.out HC.out HI.out hM hms (hall n (by omega))
        have hnl' : (n : Int) < (L : Int) := by omega
        have HII9 := hid hIn
        have HLW := hid hlow
        have HRD := hid hrd
        have hbs' := hid hbs
        clear hall hM st hlt hms hIn hlow hrd hbs
        go_wp2_with fail
        (with_reducible refine hD.mono ?_)
        clear hD
        rintro e6 w6 ⟨rfl, m6, st6, hlt6, hms6, ho6, hrd6⟩
        have hI6 := HUP.out b1 (n + 1) wr w6 HII9.out ⟨ho6.low.mono HSZ.out, ho6.high⟩
        have hx6 : m6.xs = (mAt g (mZero g inp) (n + 1)).xs := hms6.2.1
        have hp6 : m6.p = ((mAt g (mZero g inp) (n + 1)).p : Int) := hms6.1
        have hs6 : w.heap.size ≤ w6.heap.size := Nat.le_trans HL1.out (Nat.le_trans hbs'.out ho6.size)
        have hb6 : b1 ≤ w6.heap.size := Nat.le_trans hbs'.out ho6.size
        have HA9 := hid (fun W (hW : Below w6.heap.size w6 W) => (show Calls Tryz.prog fid #[.int .i64 ((n : Int) + 1), .int .i64 m6.p, .slice m6.V m6.xs.length m6.vc, .pointer (some ⟨ga, 0, none⟩), .pointer (some ⟨gb, 0, none⟩)] W fun e w' => e = .returned (.tuple #[]) ∧ I b1 (n + 1 + 1) w' ∧ Win c0 w.heap.size b1 W w' by
          have h9 := HF.out kn rfl HER.out (n + 1) m6.V m6.vc b1 W (by rw [HL.out]; omega) hM1.out HL1.out (Nat.le_trans hb6 hW.size) (HUP.out b1 (n + 1) w6 W hI6 (Off.of hW hs6)) (by rw [← hx6]; exact (st6.up hW).mem.vars.rd) (fun k o e => Nat.le_trans HSZ.out (own_ge st6.mem.vars e))
          rw [← hx6, ← hp6] at h9
          exact h9))
        have HST := hid st6
        have HMS := hid hms6
        have HO6 := hid ho6
        have HR6 := hid hrd6
        have HLT6 := hid hlt6
        have HB6 := hid hb6
        clear hI6 hx6 hp6 hs6 hms6 ho6 hrd6 hlt6 hb6
        obtain ⟨s0, s1, s2, s3, s4, s5, s6, s7, s8, s9, s10, fs⟩ := rubox st6.blk
        clear st6
        go_upto_region 13 with fail
        have l7 := later s7
        have l8 := later s8
        clear s0 s1 s2 s3 s4 s5 s6 s7 s8 s9 s10 fs
        refine wp_region_flow 11 (fun W => Below w6.heap.size w6 W) (by kernel_rfl) (by kernel_rfl) (Below.refl _ _).drew ?_
        (repeat (first | (refine Flow.skip (by rfl) ?_; simp only [Act.put, List.setIfInBounds_toArray, List.set_cons_zero, List.set_cons_succ]) | (refine' Flow.take _ (by rfl) (fun W hW R hR => ?_) ?_; rotate_left; (go_simp; (try go_bits); with_reducible exact hR); simp only [Act.put, List.setIfInBounds_toArray, List.set_cons_zero, List.set_cons_succ])))
        intro w9 hb9
        have hcf := HCF.out #[.int .i64 ((n : Int) + 1), .int .i64 m6.p, .slice m6.V m6.xs.length m6.vc, .pointer (some ⟨ga, 0, none⟩), .pointer (some ⟨gb, 0, none⟩)] w9 (by rfl)
        have hA := HA9.out w9 hb9
        have hb9' := hid hb9
        clear hb9
        go_wp2_with fail
        (with_reducible refine hA.mono ?_)
        clear hA l7 l8
        rintro e10 w10 ⟨rfl, hI10, ho10⟩
        have hlo10 : Below c0 w w10 := ((HLW.out.trans (HO6.out.low.mono hc3)).trans (hb9'.out.mono (Nat.le_trans hc3 HST.out.le))).trans ho10.low
        have st10 : StR w10 w3.heap.size gs ⟨g, V, D, E, cv, cd, ce, F, N, f, []⟩ m6 := ho10.run (HST.out.up hb9'.out) HSZ.out HLT6.out HFL.out ((HE0.out.below hlo10).more hc3) (HR6.out _ _ (HRD.out _ _ ((HS0.out.below hlo10).more hc3)))
        have hbs10 : b1 ≤ w10.heap.size := Nat.le_trans HB6.out (Nat.le_trans hb9'.out.size ho10.size)
        have hrd10 := hid (fun X B h => HR6.out X B (HRD.out X B h))
        have HI10 := hid hI10
        have HS10 := hid st10
        have HLO := hid hlo10
        have HBS := hid hbs10
        clear hcf ho10 hlo10 st10 hbs10 hI10
        go_wp2
        go_roundw
        case rel => exact ⟨n + 1, m6, by omega, by go_num, HS10.out, HLT6.out, HMS.out, HI10.out, HLO.out, hrd10.out, HBS.out⟩
        case measure => simp [Go.RowKit.intOf]; omega
      · obtain rfl : n = L := by omega
        have HII9 := hid hIn
        have HLW := hid hlow
        clear st hlt hms hIn hlow hrd hbs hnl
        go_wp2
        go_ret
        exact ⟨ret64 (by rw [HER.out]), fun _ => ⟨b1, by rw [Int.toNat_natCast, HL.out]; exact HII9.out⟩, fun h => absurd HER.out h, HLW.out⟩
end Go.Proofs.YtkncebcekhfnfaaGreat
